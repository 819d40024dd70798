/- Valid of package vote. No condition. Valid of the reference. No condition. Valid of package vote and of the reference, for every vote. No condition. append onto a slice that owns its block, in a region that draws its order. No condition. The hash functions of package hash and of the reference: Sum, Tagged. Conditions: sizes. -/
import Derived.Test.YtbgificdilpdcaaGreatJn2
import Derived.Deep.QuietTactic
import Derived.BigQuiet
import Derived.Test.YtbgificdilpdcaaGreatJn1
import Derived.RegionTactic
import Derived.Deep.RegionHeld3
import Derived.Deep.DrawnRows
import Derived.Deep.RegionLaw
namespace Go.Proofs.YtbgificdilpdcaaGreat
section
open Go.RowKit

set_option maxRecDepth 100000 in
set_option maxHeartbeats 4000000 in
theorem valid_e3n (k s r c g m : Int) (p0 p1 p2 p3 p4 p5 p6 p7 q0 q1 q2 q3 q4 q5 q6 q7 : UInt8) (hm : in64 m) (w : World) (h1 : 1 ≤ k ∧ k ≤ 7) (h2 : 0 ≤ g ∧ g ≤ 9) (h3 : ([q0, q1, q2, q3, q4, q5, q6, q7] == zero8) = !(c == 1)) (h4 : 0 ≤ m ∧ m ≤ 1023) (hk : k = 3) (h6 : ¬ r = 0) :
    Calls Tryz.prog 103 #[voteV ⟨k, s, r, c, g, m, [p0, p1, p2, p3, p4, p5, p6, p7], [q0, q1, q2, q3, q4, q5, q6, q7]⟩] w fun e w' => e = .returned (.bool (validB ⟨k, s, r, c, g, m, [p0, p1, p2, p3, p4, p5, p6, p7], [q0, q1, q2, q3, q4, q5, q6, q7]⟩)) ∧ Upd NoF w w' := by
  subst hk
  have HV := Lib.hid (show validB ⟨3, s, r, c, g, m, [p0, p1, p2, p3, p4, p5, p6, p7], [q0, q1, q2, q3, q4, q5, q6, q7]⟩ = decide (0 ≤ s ∧ s ≤ 9 ∧ 1 ≤ r ∧ r ≤ 12 ∧ 0 ≤ c ∧ c ≤ 1 ∧ (r ≠ 1 ∨ c ≠ 0 ∨ m = 0)) from by
    rw [vb_part (v := ⟨3, s, r, c, g, m, [p0, p1, p2, p3, p4, p5, p6, p7], [q0, q1, q2, q3, q4, q5, q6, q7]⟩) h1 h2 h3 h4, decide_eq_decide]
    unfold slotsOf roundsOk
    simp only
    simp)
  generalize validB ⟨3, s, r, c, g, m, [p0, p1, p2, p3, p4, p5, p6, p7], [q0, q1, q2, q3, q4, q5, q6, q7]⟩ = V at HV ⊢
  have hq : ∀ w, (binOp .eql 53 (.agg #[byteV q0, byteV q1, byteV q2, byteV q3, byteV q4, byteV q5, byteV q6, byteV q7]) (.agg #[.int .u8 0, .int .u8 0, .int .u8 0, .int .u8 0, .int .u8 0, .int .u8 0, .int .u8 0, .int .u8 0])).run Tryz.prog w = .ok (.bool ([q0, q1, q2, q3, q4, q5, q6, q7] == zero8)) w := fun w => name_eql [q0, q1, q2, q3, q4, q5, q6, q7] zero8 rfl rfl w
  have hz : ∀ w, (Instr.build 53 #[]).run Tryz.prog w = .ok (.agg #[.int .u8 0, .int .u8 0, .int .u8 0, .int .u8 0, .int .u8 0, .int .u8 0, .int .u8 0, .int .u8 0]) w := fun w => by kernel_rfl
  rw [h3] at hq
  have h3' : ((c == 1) == !(c == 1)) = false := by cases (c == 1) <;> rfl
  have hn : (bits .andNot .i64 m 1023 == 0) = true := by rw [andNot_mask m hm]; simp [h4]
  have hn' : (bits .andNot .i64 m 1023 != 0) = false := by rw [bne, hn]; rfl
  have t0 : (r == 0) = false := by simpa using h6
  clear h3 
  rw [show voteV ⟨3, s, r, c, g, m, [p0, p1, p2, p3, p4, p5, p6, p7], [q0, q1, q2, q3, q4, q5, q6, q7]⟩ = .agg #[.int .i64 3, .int .i64 s, .int .i64 r, .int .i64 c, .int .i64 g, .int .i64 m, byteV p0, byteV p1, byteV p2, byteV p3, byteV p4, byteV p5, byteV p6, byteV p7, byteV q0, byteV q1, byteV q2, byteV q3, byteV q4, byteV q5, byteV q6, byteV q7] from rfl]
  go_enter Tryz.func103, Tryz.ntmps103
  go_wp2_with (go_at_call 123; refine (between_any _ _ _ _).mono ?_; rintro e w' ⟨rfl, rfl⟩)
  go_quiet (fail)
  go_wp2
  go_quiet (fail)
  go_wp2
  generalize hw2 : World.drewN (World.alloc w _) _ = w2
  have B2 : Blk w2 w.heap.size 55 #[.int .i64 3, .int .i64 s, .int .i64 r, .int .i64 c, .int .i64 g, .int .i64 m, byteV p0, byteV p1, byteV p2, byteV p3, byteV p4, byteV p5, byteV p6, byteV p7, byteV q0, byteV q1, byteV q2, byteV q3, byteV q4, byteV q5, byteV q6, byteV q7] := by rw [← hw2]; exact (Blk.new w _ _).drewN _
  have U2 := Lib.hid (show Upd NoF w w2 from by rw [← hw2]; exact ((Upd.refl NoF w).alloc _).drewN _)
  have c1 : w2.cell? ⟨w.heap.size, 1, none⟩ = some (.int .i64 s) := B2.cell 1
  have c2 : w2.cell? ⟨w.heap.size, 2, none⟩ = some (.int .i64 r) := B2.cell 2
  have c3 : w2.cell? ⟨w.heap.size, 3, none⟩ = some (.int .i64 c) := B2.cell 3
  have c5 : w2.cell? ⟨w.heap.size, 5, none⟩ = some (.int .i64 m) := B2.cell 5
  clear hw2 B2
  go_quiet ((go_at_call 123; exact between_q _ _ _ _ _))
  go_wp2_with (go_at_call 123; refine (between_any _ _ _ _).mono ?_; rintro e w' ⟨rfl, rfl⟩)
  all_goals
    go_ret
    refine ⟨ret_bool ?_, U2.out.drewN _⟩
    rw [HV.out, Bool.eq_iff_iff]
    first | omega | (simp; done) | (simp; omega)

set_option maxRecDepth 100000 in
set_option maxHeartbeats 4000000 in
theorem valid_e3z (k s r c g m : Int) (p0 p1 p2 p3 p4 p5 p6 p7 q0 q1 q2 q3 q4 q5 q6 q7 : UInt8) (hm : in64 m) (w : World) (h1 : 1 ≤ k ∧ k ≤ 7) (h2 : 0 ≤ g ∧ g ≤ 9) (h3 : ([q0, q1, q2, q3, q4, q5, q6, q7] == zero8) = !(c == 1)) (h4 : 0 ≤ m ∧ m ≤ 1023) (hk : k = 3) (h6 : r = 0) :
    Calls Tryz.prog 103 #[voteV ⟨k, s, r, c, g, m, [p0, p1, p2, p3, p4, p5, p6, p7], [q0, q1, q2, q3, q4, q5, q6, q7]⟩] w fun e w' => e = .returned (.bool (validB ⟨k, s, r, c, g, m, [p0, p1, p2, p3, p4, p5, p6, p7], [q0, q1, q2, q3, q4, q5, q6, q7]⟩)) ∧ Upd NoF w w' := by
  subst hk
  subst h6
  have HV := Lib.hid (show validB ⟨3, s, 0, c, g, m, [p0, p1, p2, p3, p4, p5, p6, p7], [q0, q1, q2, q3, q4, q5, q6, q7]⟩ = decide (0 ≤ s ∧ s ≤ 9 ∧ 1 ≤ (0 : Int) ∧ (0 : Int) ≤ 12 ∧ 0 ≤ c ∧ c ≤ 1 ∧ ((0 : Int) ≠ 1 ∨ c ≠ 0 ∨ m = 0)) from by
    rw [vb_part (v := ⟨3, s, 0, c, g, m, [p0, p1, p2, p3, p4, p5, p6, p7], [q0, q1, q2, q3, q4, q5, q6, q7]⟩) h1 h2 h3 h4, decide_eq_decide]
    unfold slotsOf roundsOk
    simp only
    simp)
  generalize validB ⟨3, s, 0, c, g, m, [p0, p1, p2, p3, p4, p5, p6, p7], [q0, q1, q2, q3, q4, q5, q6, q7]⟩ = V at HV ⊢
  have hq : ∀ w, (binOp .eql 53 (.agg #[byteV q0, byteV q1, byteV q2, byteV q3, byteV q4, byteV q5, byteV q6, byteV q7]) (.agg #[.int .u8 0, .int .u8 0, .int .u8 0, .int .u8 0, .int .u8 0, .int .u8 0, .int .u8 0, .int .u8 0])).run Tryz.prog w = .ok (.bool ([q0, q1, q2, q3, q4, q5, q6, q7] == zero8)) w := fun w => name_eql [q0, q1, q2, q3, q4, q5, q6, q7] zero8 rfl rfl w
  have hz : ∀ w, (Instr.build 53 #[]).run Tryz.prog w = .ok (.agg #[.int .u8 0, .int .u8 0, .int .u8 0, .int .u8 0, .int .u8 0, .int .u8 0, .int .u8 0, .int .u8 0]) w := fun w => by kernel_rfl
  rw [h3] at hq
  have h3' : ((c == 1) == !(c == 1)) = false := by cases (c == 1) <;> rfl
  have hn : (bits .andNot .i64 m 1023 == 0) = true := by rw [andNot_mask m hm]; simp [h4]
  have hn' : (bits .andNot .i64 m 1023 != 0) = false := by rw [bne, hn]; rfl
  have t0 : ((0 : Int) == 0) = true := by rfl
  clear h3 
  rw [show voteV ⟨3, s, 0, c, g, m, [p0, p1, p2, p3, p4, p5, p6, p7], [q0, q1, q2, q3, q4, q5, q6, q7]⟩ = .agg #[.int .i64 3, .int .i64 s, .int .i64 0, .int .i64 c, .int .i64 g, .int .i64 m, byteV p0, byteV p1, byteV p2, byteV p3, byteV p4, byteV p5, byteV p6, byteV p7, byteV q0, byteV q1, byteV q2, byteV q3, byteV q4, byteV q5, byteV q6, byteV q7] from rfl]
  go_enter Tryz.func103, Tryz.ntmps103
  go_wp2_with (go_at_call 123; refine (between_any _ _ _ _).mono ?_; rintro e w' ⟨rfl, rfl⟩)
  go_quiet (fail)
  go_wp2
  go_quiet (fail)
  go_wp2
  generalize hw2 : World.drewN (World.alloc w _) _ = w2
  have B2 : Blk w2 w.heap.size 55 #[.int .i64 3, .int .i64 s, .int .i64 0, .int .i64 c, .int .i64 g, .int .i64 m, byteV p0, byteV p1, byteV p2, byteV p3, byteV p4, byteV p5, byteV p6, byteV p7, byteV q0, byteV q1, byteV q2, byteV q3, byteV q4, byteV q5, byteV q6, byteV q7] := by rw [← hw2]; exact (Blk.new w _ _).drewN _
  have U2 := Lib.hid (show Upd NoF w w2 from by rw [← hw2]; exact ((Upd.refl NoF w).alloc _).drewN _)
  have c1 : w2.cell? ⟨w.heap.size, 1, none⟩ = some (.int .i64 s) := B2.cell 1
  have c2 : w2.cell? ⟨w.heap.size, 2, none⟩ = some (.int .i64 0) := B2.cell 2
  have c3 : w2.cell? ⟨w.heap.size, 3, none⟩ = some (.int .i64 c) := B2.cell 3
  have c5 : w2.cell? ⟨w.heap.size, 5, none⟩ = some (.int .i64 m) := B2.cell 5
  clear hw2 B2
  go_quiet ((go_at_call 123; exact between_q _ _ _ _ _))
  go_wp2_with (go_at_call 123; refine (between_any _ _ _ _).mono ?_; rintro e w' ⟨rfl, rfl⟩)
  all_goals
    go_ret
    refine ⟨ret_bool ?_, U2.out.drewN _⟩
    rw [HV.out, Bool.eq_iff_iff]
    first | omega | (simp; done) | (simp; omega)

set_option maxRecDepth 100000 in
set_option maxHeartbeats 4000000 in
theorem valid_e4n (k s r c g m : Int) (p0 p1 p2 p3 p4 p5 p6 p7 q0 q1 q2 q3 q4 q5 q6 q7 : UInt8) (hm : in64 m) (w : World) (h1 : 1 ≤ k ∧ k ≤ 7) (h2 : 0 ≤ g ∧ g ≤ 9) (h3 : ([q0, q1, q2, q3, q4, q5, q6, q7] == zero8) = !(c == 1)) (h4 : 0 ≤ m ∧ m ≤ 1023) (hk : k = 4) (h6 : ¬ r = 0) :
    Calls Tryz.prog 103 #[voteV ⟨k, s, r, c, g, m, [p0, p1, p2, p3, p4, p5, p6, p7], [q0, q1, q2, q3, q4, q5, q6, q7]⟩] w fun e w' => e = .returned (.bool (validB ⟨k, s, r, c, g, m, [p0, p1, p2, p3, p4, p5, p6, p7], [q0, q1, q2, q3, q4, q5, q6, q7]⟩)) ∧ Upd NoF w w' := by
  subst hk
  have HV := Lib.hid (show validB ⟨4, s, r, c, g, m, [p0, p1, p2, p3, p4, p5, p6, p7], [q0, q1, q2, q3, q4, q5, q6, q7]⟩ = decide (0 ≤ s ∧ s ≤ 9 ∧ 1 ≤ r ∧ r ≤ 12 ∧ 0 ≤ c ∧ c ≤ 2) from by
    rw [vb_part (v := ⟨4, s, r, c, g, m, [p0, p1, p2, p3, p4, p5, p6, p7], [q0, q1, q2, q3, q4, q5, q6, q7]⟩) h1 h2 h3 h4, decide_eq_decide]
    unfold slotsOf roundsOk
    simp only
    simp)
  generalize validB ⟨4, s, r, c, g, m, [p0, p1, p2, p3, p4, p5, p6, p7], [q0, q1, q2, q3, q4, q5, q6, q7]⟩ = V at HV ⊢
  have hq : ∀ w, (binOp .eql 53 (.agg #[byteV q0, byteV q1, byteV q2, byteV q3, byteV q4, byteV q5, byteV q6, byteV q7]) (.agg #[.int .u8 0, .int .u8 0, .int .u8 0, .int .u8 0, .int .u8 0, .int .u8 0, .int .u8 0, .int .u8 0])).run Tryz.prog w = .ok (.bool ([q0, q1, q2, q3, q4, q5, q6, q7] == zero8)) w := fun w => name_eql [q0, q1, q2, q3, q4, q5, q6, q7] zero8 rfl rfl w
  have hz : ∀ w, (Instr.build 53 #[]).run Tryz.prog w = .ok (.agg #[.int .u8 0, .int .u8 0, .int .u8 0, .int .u8 0, .int .u8 0, .int .u8 0, .int .u8 0, .int .u8 0]) w := fun w => by kernel_rfl
  rw [h3] at hq
  have h3' : ((c == 1) == !(c == 1)) = false := by cases (c == 1) <;> rfl
  have hn : (bits .andNot .i64 m 1023 == 0) = true := by rw [andNot_mask m hm]; simp [h4]
  have hn' : (bits .andNot .i64 m 1023 != 0) = false := by rw [bne, hn]; rfl
  have t0 : (r == 0) = false := by simpa using h6
  clear h3 
  rw [show voteV ⟨4, s, r, c, g, m, [p0, p1, p2, p3, p4, p5, p6, p7], [q0, q1, q2, q3, q4, q5, q6, q7]⟩ = .agg #[.int .i64 4, .int .i64 s, .int .i64 r, .int .i64 c, .int .i64 g, .int .i64 m, byteV p0, byteV p1, byteV p2, byteV p3, byteV p4, byteV p5, byteV p6, byteV p7, byteV q0, byteV q1, byteV q2, byteV q3, byteV q4, byteV q5, byteV q6, byteV q7] from rfl]
  go_enter Tryz.func103, Tryz.ntmps103
  go_wp2_with (go_at_call 123; refine (between_any _ _ _ _).mono ?_; rintro e w' ⟨rfl, rfl⟩)
  go_quiet (fail)
  go_wp2
  go_quiet (fail)
  go_wp2
  generalize hw2 : World.drewN (World.alloc w _) _ = w2
  have B2 : Blk w2 w.heap.size 55 #[.int .i64 4, .int .i64 s, .int .i64 r, .int .i64 c, .int .i64 g, .int .i64 m, byteV p0, byteV p1, byteV p2, byteV p3, byteV p4, byteV p5, byteV p6, byteV p7, byteV q0, byteV q1, byteV q2, byteV q3, byteV q4, byteV q5, byteV q6, byteV q7] := by rw [← hw2]; exact (Blk.new w _ _).drewN _
  have U2 := Lib.hid (show Upd NoF w w2 from by rw [← hw2]; exact ((Upd.refl NoF w).alloc _).drewN _)
  have c1 : w2.cell? ⟨w.heap.size, 1, none⟩ = some (.int .i64 s) := B2.cell 1
  have c2 : w2.cell? ⟨w.heap.size, 2, none⟩ = some (.int .i64 r) := B2.cell 2
  have c3 : w2.cell? ⟨w.heap.size, 3, none⟩ = some (.int .i64 c) := B2.cell 3
  have c5 : w2.cell? ⟨w.heap.size, 5, none⟩ = some (.int .i64 m) := B2.cell 5
  clear hw2 B2
  go_quiet ((go_at_call 123; exact between_q _ _ _ _ _))
  go_wp2_with (go_at_call 123; refine (between_any _ _ _ _).mono ?_; rintro e w' ⟨rfl, rfl⟩)
  all_goals
    go_ret
    refine ⟨ret_bool ?_, U2.out.drewN _⟩
    rw [HV.out, Bool.eq_iff_iff]
    first | omega | (simp; done) | (simp; omega)

set_option maxRecDepth 100000 in
set_option maxHeartbeats 4000000 in
theorem valid_e4z (k s r c g m : Int) (p0 p1 p2 p3 p4 p5 p6 p7 q0 q1 q2 q3 q4 q5 q6 q7 : UInt8) (hm : in64 m) (w : World) (h1 : 1 ≤ k ∧ k ≤ 7) (h2 : 0 ≤ g ∧ g ≤ 9) (h3 : ([q0, q1, q2, q3, q4, q5, q6, q7] == zero8) = !(c == 1)) (h4 : 0 ≤ m ∧ m ≤ 1023) (hk : k = 4) (h6 : r = 0) :
    Calls Tryz.prog 103 #[voteV ⟨k, s, r, c, g, m, [p0, p1, p2, p3, p4, p5, p6, p7], [q0, q1, q2, q3, q4, q5, q6, q7]⟩] w fun e w' => e = .returned (.bool (validB ⟨k, s, r, c, g, m, [p0, p1, p2, p3, p4, p5, p6, p7], [q0, q1, q2, q3, q4, q5, q6, q7]⟩)) ∧ Upd NoF w w' := by
  subst hk
  subst h6
  have HV := Lib.hid (show validB ⟨4, s, 0, c, g, m, [p0, p1, p2, p3, p4, p5, p6, p7], [q0, q1, q2, q3, q4, q5, q6, q7]⟩ = decide (0 ≤ s ∧ s ≤ 9 ∧ 1 ≤ (0 : Int) ∧ (0 : Int) ≤ 12 ∧ 0 ≤ c ∧ c ≤ 2) from by
    rw [vb_part (v := ⟨4, s, 0, c, g, m, [p0, p1, p2, p3, p4, p5, p6, p7], [q0, q1, q2, q3, q4, q5, q6, q7]⟩) h1 h2 h3 h4, decide_eq_decide]
    unfold slotsOf roundsOk
    simp only
    simp)
  generalize validB ⟨4, s, 0, c, g, m, [p0, p1, p2, p3, p4, p5, p6, p7], [q0, q1, q2, q3, q4, q5, q6, q7]⟩ = V at HV ⊢
  have hq : ∀ w, (binOp .eql 53 (.agg #[byteV q0, byteV q1, byteV q2, byteV q3, byteV q4, byteV q5, byteV q6, byteV q7]) (.agg #[.int .u8 0, .int .u8 0, .int .u8 0, .int .u8 0, .int .u8 0, .int .u8 0, .int .u8 0, .int .u8 0])).run Tryz.prog w = .ok (.bool ([q0, q1, q2, q3, q4, q5, q6, q7] == zero8)) w := fun w => name_eql [q0, q1, q2, q3, q4, q5, q6, q7] zero8 rfl rfl w
  have hz : ∀ w, (Instr.build 53 #[]).run Tryz.prog w = .ok (.agg #[.int .u8 0, .int .u8 0, .int .u8 0, .int .u8 0, .int .u8 0, .int .u8 0, .int .u8 0, .int .u8 0]) w := fun w => by kernel_rfl
  rw [h3] at hq
  have h3' : ((c == 1) == !(c == 1)) = false := by cases (c == 1) <;> rfl
  have hn : (bits .andNot .i64 m 1023 == 0) = true := by rw [andNot_mask m hm]; simp [h4]
  have hn' : (bits .andNot .i64 m 1023 != 0) = false := by rw [bne, hn]; rfl
  have t0 : ((0 : Int) == 0) = true := by rfl
  clear h3 
  rw [show voteV ⟨4, s, 0, c, g, m, [p0, p1, p2, p3, p4, p5, p6, p7], [q0, q1, q2, q3, q4, q5, q6, q7]⟩ = .agg #[.int .i64 4, .int .i64 s, .int .i64 0, .int .i64 c, .int .i64 g, .int .i64 m, byteV p0, byteV p1, byteV p2, byteV p3, byteV p4, byteV p5, byteV p6, byteV p7, byteV q0, byteV q1, byteV q2, byteV q3, byteV q4, byteV q5, byteV q6, byteV q7] from rfl]
  go_enter Tryz.func103, Tryz.ntmps103
  go_wp2_with (go_at_call 123; refine (between_any _ _ _ _).mono ?_; rintro e w' ⟨rfl, rfl⟩)
  go_quiet (fail)
  go_wp2
  go_quiet (fail)
  go_wp2
  generalize hw2 : World.drewN (World.alloc w _) _ = w2
  have B2 : Blk w2 w.heap.size 55 #[.int .i64 4, .int .i64 s, .int .i64 0, .int .i64 c, .int .i64 g, .int .i64 m, byteV p0, byteV p1, byteV p2, byteV p3, byteV p4, byteV p5, byteV p6, byteV p7, byteV q0, byteV q1, byteV q2, byteV q3, byteV q4, byteV q5, byteV q6, byteV q7] := by rw [← hw2]; exact (Blk.new w _ _).drewN _
  have U2 := Lib.hid (show Upd NoF w w2 from by rw [← hw2]; exact ((Upd.refl NoF w).alloc _).drewN _)
  have c1 : w2.cell? ⟨w.heap.size, 1, none⟩ = some (.int .i64 s) := B2.cell 1
  have c2 : w2.cell? ⟨w.heap.size, 2, none⟩ = some (.int .i64 0) := B2.cell 2
  have c3 : w2.cell? ⟨w.heap.size, 3, none⟩ = some (.int .i64 c) := B2.cell 3
  have c5 : w2.cell? ⟨w.heap.size, 5, none⟩ = some (.int .i64 m) := B2.cell 5
  clear hw2 B2
  go_quiet ((go_at_call 123; exact between_q _ _ _ _ _))
  go_wp2_with (go_at_call 123; refine (between_any _ _ _ _).mono ?_; rintro e w' ⟨rfl, rfl⟩)
  all_goals
    go_ret
    refine ⟨ret_bool ?_, U2.out.drewN _⟩
    rw [HV.out, Bool.eq_iff_iff]
    first | omega | (simp; done) | (simp; omega)
end

section
open Go.RowKit
theorem agreement_any (n : Int) (w : World) : Calls Tryz.prog 125 #[.int .i64 n] w fun e w' => e = .returned (.bool (decide (1 ≤ n ∧ n ≤ 4))) ∧ w = w' := by
  have E := Lib.hid (show decide (1 ≤ n ∧ n ≤ 4) = (decide (1 ≤ n) && decide (n ≤ 4)) by simp)
  generalize decide (1 ≤ n ∧ n ≤ 4) = z at E ⊢
  by_cases h1 : 1 ≤ n
  · go_enter Tryz.func125, Tryz.ntmps125
    go_wp2
    all_goals
      go_ret
      exact ⟨ret_bool (by rw [E.out, Bool.eq_iff_iff]; simp <;> omega), rfl⟩
  · go_enter Tryz.func125, Tryz.ntmps125
    go_wp2
    all_goals
      go_ret
      exact ⟨ret_bool (by rw [E.out, Bool.eq_iff_iff]; simp <;> omega), rfl⟩
theorem agreement_t (n : Int) (h : 1 ≤ n ∧ n ≤ 4) (w : World) : Calls Tryz.prog 125 #[.int .i64 n] w fun e w' => e = .returned (.bool true) ∧ w = w' :=
  (agreement_any n w).mono fun _ _ ⟨h1, h2⟩ => ⟨by rw [h1]; simp [h], h2⟩
theorem agreement_f (n : Int) (h : ¬ (1 ≤ n ∧ n ≤ 4)) (w : World) : Calls Tryz.prog 125 #[.int .i64 n] w fun e w' => e = .returned (.bool false) ∧ w = w' :=
  (agreement_any n w).mono fun _ _ ⟨h1, h2⟩ => ⟨by rw [h1]; simp [h], h2⟩

set_option maxRecDepth 100000 in
set_option maxHeartbeats 4000000 in
theorem rvalid_a (k s r c g m : Int) (p0 p1 p2 p3 p4 p5 p6 p7 q0 q1 q2 q3 q4 q5 q6 q7 : UInt8) (_hm : in64 m) (w : World) (h : ¬ (1 ≤ k ∧ k ≤ 7) ∨ (1 ≤ k ∧ k ≤ 7) ∧ ¬ (0 ≤ g ∧ g ≤ 9)) :
    Calls Tryz.prog 105 #[voteV ⟨k, s, r, c, g, m, [p0, p1, p2, p3, p4, p5, p6, p7], [q0, q1, q2, q3, q4, q5, q6, q7]⟩] w fun e w' => e = .returned (.bool (validB ⟨k, s, r, c, g, m, [p0, p1, p2, p3, p4, p5, p6, p7], [q0, q1, q2, q3, q4, q5, q6, q7]⟩)) ∧ Upd NoF w w' := by
  have HV := Lib.hid (vb_no (v := ⟨k, s, r, c, g, m, [p0, p1, p2, p3, p4, p5, p6, p7], [q0, q1, q2, q3, q4, q5, q6, q7]⟩) (by rintro ⟨e1, e2, e3, e4, _⟩; simp only at e1 e2 e3 e4; omega))
  generalize validB ⟨k, s, r, c, g, m, [p0, p1, p2, p3, p4, p5, p6, p7], [q0, q1, q2, q3, q4, q5, q6, q7]⟩ = V at HV ⊢
  rw [show voteV ⟨k, s, r, c, g, m, [p0, p1, p2, p3, p4, p5, p6, p7], [q0, q1, q2, q3, q4, q5, q6, q7]⟩ = .agg #[.int .i64 k, .int .i64 s, .int .i64 r, .int .i64 c, .int .i64 g, .int .i64 m, byteV p0, byteV p1, byteV p2, byteV p3, byteV p4, byteV p5, byteV p6, byteV p7, byteV q0, byteV q1, byteV q2, byteV q3, byteV q4, byteV q5, byteV q6, byteV q7] from rfl]
  have h' : k < 1 ∨ (1 ≤ k ∧ 7 < k) ∨ (1 ≤ k ∧ k ≤ 7 ∧ g < 0) ∨ (1 ≤ k ∧ k ≤ 7 ∧ 0 ≤ g ∧ 10 ≤ g) := by omega
  clear h
  have AG := Lib.hid (agreement_any k)
  rcases h' with h | ⟨h, h'⟩ | ⟨h, h', h''⟩ | ⟨h, h', h'', hd⟩
  · have t1 : decide (k < 1) = true := by simp; omega
    go_enter Tryz.func105, Tryz.ntmps105
    go_wp2_with (go_at_call 125; refine (AG.out _).mono ?_; rintro e w' ⟨rfl, rfl⟩)
    go_ret
    exact ⟨ret_bool HV.out, (Upd.refl NoF w).alloc _⟩
  · have t1 : decide (k < 1) = false := by simp; omega
    have t2 : decide (7 < k) = true := by simp; omega
    go_enter Tryz.func105, Tryz.ntmps105
    go_wp2_with (go_at_call 125; refine (AG.out _).mono ?_; rintro e w' ⟨rfl, rfl⟩)
    go_ret
    exact ⟨ret_bool HV.out, (Upd.refl NoF w).alloc _⟩
  · have t1 : decide (k < 1) = false := by simp; omega
    have t2 : decide (7 < k) = false := by simp; omega
    have t3 : decide (g < 0) = true := by simp; omega
    go_enter Tryz.func105, Tryz.ntmps105
    go_wp2_with (go_at_call 125; refine (AG.out _).mono ?_; rintro e w' ⟨rfl, rfl⟩)
    go_ret
    exact ⟨ret_bool HV.out, (Upd.refl NoF w).alloc _⟩
  · have t1 : decide (k < 1) = false := by simp; omega
    have t2 : decide (7 < k) = false := by simp; omega
    have t3 : decide (g < 0) = false := by simp; omega
    have t4 : decide (10 ≤ g) = true := by simp; omega
    go_enter Tryz.func105, Tryz.ntmps105
    go_wp2_with (go_at_call 125; refine (AG.out _).mono ?_; rintro e w' ⟨rfl, rfl⟩)
    go_ret
    exact ⟨ret_bool HV.out, (Upd.refl NoF w).alloc _⟩

set_option maxRecDepth 100000 in
set_option maxHeartbeats 4000000 in
theorem rvalid_d (k s r c g m : Int) (p0 p1 p2 p3 p4 p5 p6 p7 q0 q1 q2 q3 q4 q5 q6 q7 : UInt8) (hm : in64 m) (w : World) (h1 : 1 ≤ k ∧ k ≤ 7) (h2 : 0 ≤ g ∧ g ≤ 9) (h4 : ¬ (0 ≤ m ∧ m ≤ 1023)) :
    Calls Tryz.prog 105 #[voteV ⟨k, s, r, c, g, m, [p0, p1, p2, p3, p4, p5, p6, p7], [q0, q1, q2, q3, q4, q5, q6, q7]⟩] w fun e w' => e = .returned (.bool (validB ⟨k, s, r, c, g, m, [p0, p1, p2, p3, p4, p5, p6, p7], [q0, q1, q2, q3, q4, q5, q6, q7]⟩)) ∧ Upd NoF w w' := by
  have HV := Lib.hid (vb_no (v := ⟨k, s, r, c, g, m, [p0, p1, p2, p3, p4, p5, p6, p7], [q0, q1, q2, q3, q4, q5, q6, q7]⟩) (by
    rintro ⟨_, _, _, _, e1, e2, _⟩
    exact h4 ⟨e1, e2⟩))
  have t1 : decide (k < 1) = false := by simp; omega
  have t2 : decide (7 < k) = false := by simp; omega
  have t3 : decide (g < 0) = false := by simp; omega
  have t4 : decide (10 ≤ g) = false := by simp; omega
  have hn : (bits .andNot .i64 m 1023 == 0) = false := by rw [andNot_mask m hm]; simp [h4]
  have hn' : (bits .andNot .i64 m 1023 != 0) = true := by rw [bne, hn]; rfl
  clear h4
  have AG := Lib.hid (agreement_any k)
  generalize validB ⟨k, s, r, c, g, m, [p0, p1, p2, p3, p4, p5, p6, p7], [q0, q1, q2, q3, q4, q5, q6, q7]⟩ = V at HV ⊢
  rw [show voteV ⟨k, s, r, c, g, m, [p0, p1, p2, p3, p4, p5, p6, p7], [q0, q1, q2, q3, q4, q5, q6, q7]⟩ = .agg #[.int .i64 k, .int .i64 s, .int .i64 r, .int .i64 c, .int .i64 g, .int .i64 m, byteV p0, byteV p1, byteV p2, byteV p3, byteV p4, byteV p5, byteV p6, byteV p7, byteV q0, byteV q1, byteV q2, byteV q3, byteV q4, byteV q5, byteV q6, byteV q7] from rfl]
  go_enter Tryz.func105, Tryz.ntmps105
  go_wp2_with (go_at_call 125; refine (AG.out _).mono ?_; rintro e w' ⟨rfl, rfl⟩)
  go_ret
  exact ⟨ret_bool HV.out, (Upd.refl NoF w).alloc _⟩

set_option maxRecDepth 100000 in
set_option maxHeartbeats 4000000 in
theorem rvalid_s (k s r c g m : Int) (p0 p1 p2 p3 p4 p5 p6 p7 q0 q1 q2 q3 q4 q5 q6 q7 : UInt8) (hm : in64 m) (w : World) (h1 : 1 ≤ k ∧ k ≤ 7) (h2 : 0 ≤ g ∧ g ≤ 9) (h4 : 0 ≤ m ∧ m ≤ 1023) (h5 : ¬ (0 ≤ s ∧ s ≤ slotsOf k)) :
    Calls Tryz.prog 105 #[voteV ⟨k, s, r, c, g, m, [p0, p1, p2, p3, p4, p5, p6, p7], [q0, q1, q2, q3, q4, q5, q6, q7]⟩] w fun e w' => e = .returned (.bool (validB ⟨k, s, r, c, g, m, [p0, p1, p2, p3, p4, p5, p6, p7], [q0, q1, q2, q3, q4, q5, q6, q7]⟩)) ∧ Upd NoF w w' := by
  have HV := Lib.hid (vb_no (v := ⟨k, s, r, c, g, m, [p0, p1, p2, p3, p4, p5, p6, p7], [q0, q1, q2, q3, q4, q5, q6, q7]⟩) (by
    rintro ⟨_, _, _, _, _, _, _, e1, e2, _⟩
    exact h5 ⟨e1, e2⟩))
  have hn : (bits .andNot .i64 m 1023 == 0) = true := by rw [andNot_mask m hm]; simp [h4]
  have hn' : (bits .andNot .i64 m 1023 != 0) = false := by rw [bne, hn]; rfl
  generalize validB ⟨k, s, r, c, g, m, [p0, p1, p2, p3, p4, p5, p6, p7], [q0, q1, q2, q3, q4, q5, q6, q7]⟩ = V at HV ⊢
  rw [show voteV ⟨k, s, r, c, g, m, [p0, p1, p2, p3, p4, p5, p6, p7], [q0, q1, q2, q3, q4, q5, q6, q7]⟩ = .agg #[.int .i64 k, .int .i64 s, .int .i64 r, .int .i64 c, .int .i64 g, .int .i64 m, byteV p0, byteV p1, byteV p2, byteV p3, byteV p4, byteV p5, byteV p6, byteV p7, byteV q0, byteV q1, byteV q2, byteV q3, byteV q4, byteV q5, byteV q6, byteV q7] from rfl]
  have t1 : decide (k < 1) = false := by simp; omega
  have t2 : decide (7 < k) = false := by simp; omega
  have t3 : decide (g < 0) = false := by simp; omega
  have t4 : decide (10 ≤ g) = false := by simp; omega
  unfold slotsOf at h5
  have h' : (k ≤ 4 ∧ s < 0) ∨ (k ≤ 4 ∧ 0 ≤ s ∧ 10 ≤ s) ∨ (5 ≤ k ∧ ¬ s = 0) := by split at h5 <;> omega
  clear h5
  rcases h' with ⟨h, h'⟩ | ⟨h, h', h''⟩ | ⟨h, h'⟩
  · have AG := Lib.hid (agreement_t k (by omega))
    have s1 : decide (s < 0) = true := by simp; omega
    go_enter Tryz.func105, Tryz.ntmps105
    go_wp2_with (go_at_call 125; refine (AG.out _).mono ?_; rintro e w' ⟨rfl, rfl⟩)
    go_ret
    exact ⟨ret_bool HV.out, (Upd.refl NoF w).alloc _⟩
  · have AG := Lib.hid (agreement_t k (by omega))
    have s1 : decide (s < 0) = false := by simp; omega
    have s2 : decide (10 ≤ s) = true := by simp; omega
    go_enter Tryz.func105, Tryz.ntmps105
    go_wp2_with (go_at_call 125; refine (AG.out _).mono ?_; rintro e w' ⟨rfl, rfl⟩)
    go_ret
    exact ⟨ret_bool HV.out, (Upd.refl NoF w).alloc _⟩
  · have AG := Lib.hid (agreement_f k (by omega))
    have s1 : (s != 0) = true := by simpa using h'
    go_enter Tryz.func105, Tryz.ntmps105
    go_wp2_with (go_at_call 125; refine (AG.out _).mono ?_; rintro e w' ⟨rfl, rfl⟩)
    go_ret
    exact ⟨ret_bool HV.out, (Upd.refl NoF w).alloc _⟩

set_option maxRecDepth 100000 in
set_option maxHeartbeats 4000000 in
theorem rvalid_c (k s r c g m : Int) (p0 p1 p2 p3 p4 p5 p6 p7 q0 q1 q2 q3 q4 q5 q6 q7 : UInt8) (hm : in64 m) (w : World) (h1 : 1 ≤ k ∧ k ≤ 7) (h2 : 0 ≤ g ∧ g ≤ 9) (h4 : 0 ≤ m ∧ m ≤ 1023) (h5 : (k ≤ 4 ∧ 0 ≤ s ∧ s ≤ 9) ∨ (5 ≤ k ∧ s = 0)) (h3 : ([q0, q1, q2, q3, q4, q5, q6, q7] == zero8) = (c == 1)) :
    Calls Tryz.prog 105 #[voteV ⟨k, s, r, c, g, m, [p0, p1, p2, p3, p4, p5, p6, p7], [q0, q1, q2, q3, q4, q5, q6, q7]⟩] w fun e w' => e = .returned (.bool (validB ⟨k, s, r, c, g, m, [p0, p1, p2, p3, p4, p5, p6, p7], [q0, q1, q2, q3, q4, q5, q6, q7]⟩)) ∧ Upd NoF w w' := by
  have HV := Lib.hid (vb_no (v := ⟨k, s, r, c, g, m, [p0, p1, p2, p3, p4, p5, p6, p7], [q0, q1, q2, q3, q4, q5, q6, q7]⟩) (by
    rintro ⟨_, _, _, _, _, _, e, _⟩
    exact cq_no h3 e))
  have hq : ∀ w, (binOp .eql 53 (.agg #[byteV q0, byteV q1, byteV q2, byteV q3, byteV q4, byteV q5, byteV q6, byteV q7]) (.agg #[.int .u8 0, .int .u8 0, .int .u8 0, .int .u8 0, .int .u8 0, .int .u8 0, .int .u8 0, .int .u8 0])).run Tryz.prog w = .ok (.bool ([q0, q1, q2, q3, q4, q5, q6, q7] == zero8)) w := fun w => name_eql [q0, q1, q2, q3, q4, q5, q6, q7] zero8 rfl rfl w
  have hz : ∀ w, (Instr.build 53 #[]).run Tryz.prog w = .ok (.agg #[.int .u8 0, .int .u8 0, .int .u8 0, .int .u8 0, .int .u8 0, .int .u8 0, .int .u8 0, .int .u8 0]) w := fun w => by kernel_rfl
  rw [h3] at hq
  have h3' : ((c == 1) == (c == 1)) = true := by simp
  clear h3
  have hn : (bits .andNot .i64 m 1023 == 0) = true := by rw [andNot_mask m hm]; simp [h4]
  have hn' : (bits .andNot .i64 m 1023 != 0) = false := by rw [bne, hn]; rfl
  generalize validB ⟨k, s, r, c, g, m, [p0, p1, p2, p3, p4, p5, p6, p7], [q0, q1, q2, q3, q4, q5, q6, q7]⟩ = V at HV ⊢
  rw [show voteV ⟨k, s, r, c, g, m, [p0, p1, p2, p3, p4, p5, p6, p7], [q0, q1, q2, q3, q4, q5, q6, q7]⟩ = .agg #[.int .i64 k, .int .i64 s, .int .i64 r, .int .i64 c, .int .i64 g, .int .i64 m, byteV p0, byteV p1, byteV p2, byteV p3, byteV p4, byteV p5, byteV p6, byteV p7, byteV q0, byteV q1, byteV q2, byteV q3, byteV q4, byteV q5, byteV q6, byteV q7] from rfl]
  have t1 : decide (k < 1) = false := by simp; omega
  have t2 : decide (7 < k) = false := by simp; omega
  have t3 : decide (g < 0) = false := by simp; omega
  have t4 : decide (10 ≤ g) = false := by simp; omega
  rcases h5 with ⟨h, h', h''⟩ | ⟨h, h'⟩
  · have AG := Lib.hid (agreement_t k (by omega))
    have s1 : decide (s < 0) = false := by simp; omega
    have s2 : decide (10 ≤ s) = false := by simp; omega
    go_enter Tryz.func105, Tryz.ntmps105
    go_wp2_with (go_at_call 125; refine (AG.out _).mono ?_; rintro e w' ⟨rfl, rfl⟩)
    go_quiet (fail)
    go_wp2
    go_ret
    exact ⟨ret_bool HV.out, ((Upd.refl NoF w).alloc _).drewN _⟩
  · subst h'
    have AG := Lib.hid (agreement_f k (by omega))
    have s1 : ((0 : Int) != 0) = false := by decide
    go_enter Tryz.func105, Tryz.ntmps105
    go_wp2_with (go_at_call 125; refine (AG.out _).mono ?_; rintro e w' ⟨rfl, rfl⟩)
    go_quiet (fail)
    go_wp2
    go_ret
    exact ⟨ret_bool HV.out, ((Upd.refl NoF w).alloc _).drewN _⟩

set_option maxRecDepth 100000 in
set_option maxHeartbeats 4000000 in
theorem rvalid_e1 (k s r c g m : Int) (p0 p1 p2 p3 p4 p5 p6 p7 q0 q1 q2 q3 q4 q5 q6 q7 : UInt8) (hm : in64 m) (w : World) (h1 : 1 ≤ k ∧ k ≤ 7) (h2 : 0 ≤ g ∧ g ≤ 9) (h4 : 0 ≤ m ∧ m ≤ 1023) (h3 : ([q0, q1, q2, q3, q4, q5, q6, q7] == zero8) = !(c == 1)) (hk : k ≤ 2) (h5 : 0 ≤ s ∧ s ≤ 9) :
    Calls Tryz.prog 105 #[voteV ⟨k, s, r, c, g, m, [p0, p1, p2, p3, p4, p5, p6, p7], [q0, q1, q2, q3, q4, q5, q6, q7]⟩] w fun e w' => e = .returned (.bool (validB ⟨k, s, r, c, g, m, [p0, p1, p2, p3, p4, p5, p6, p7], [q0, q1, q2, q3, q4, q5, q6, q7]⟩)) ∧ Upd NoF w w' := by
  have HV := Lib.hid (show validB ⟨k, s, r, c, g, m, [p0, p1, p2, p3, p4, p5, p6, p7], [q0, q1, q2, q3, q4, q5, q6, q7]⟩ = decide (r = 0 ∧ m = 0 ∧ c = 1) from by
    rw [vb_part (v := ⟨k, s, r, c, g, m, [p0, p1, p2, p3, p4, p5, p6, p7], [q0, q1, q2, q3, q4, q5, q6, q7]⟩) h1 h2 h3 h4, decide_eq_decide]
    unfold slotsOf roundsOk
    simp only
    rw [if_pos (by omega), if_neg (by omega), if_neg (by omega)]; omega)
  generalize validB ⟨k, s, r, c, g, m, [p0, p1, p2, p3, p4, p5, p6, p7], [q0, q1, q2, q3, q4, q5, q6, q7]⟩ = V at HV ⊢
  have hq : ∀ w, (binOp .eql 53 (.agg #[byteV q0, byteV q1, byteV q2, byteV q3, byteV q4, byteV q5, byteV q6, byteV q7]) (.agg #[.int .u8 0, .int .u8 0, .int .u8 0, .int .u8 0, .int .u8 0, .int .u8 0, .int .u8 0, .int .u8 0])).run Tryz.prog w = .ok (.bool ([q0, q1, q2, q3, q4, q5, q6, q7] == zero8)) w := fun w => name_eql [q0, q1, q2, q3, q4, q5, q6, q7] zero8 rfl rfl w
  have hz : ∀ w, (Instr.build 53 #[]).run Tryz.prog w = .ok (.agg #[.int .u8 0, .int .u8 0, .int .u8 0, .int .u8 0, .int .u8 0, .int .u8 0, .int .u8 0, .int .u8 0]) w := fun w => by kernel_rfl
  rw [h3] at hq
  have h3' : ((!(c == 1)) == (c == 1)) = false := by cases (c == 1) <;> rfl
  have hn : (bits .andNot .i64 m 1023 == 0) = true := by rw [andNot_mask m hm]; simp [h4]
  have hn' : (bits .andNot .i64 m 1023 != 0) = false := by rw [bne, hn]; rfl
  have t1 : decide (k < 1) = false := by simp; omega
  have t2 : decide (7 < k) = false := by simp; omega
  have t3 : decide (g < 0) = false := by simp; omega
  have t4 : decide (10 ≤ g) = false := by simp; omega
  have AG := Lib.hid (agreement_t k (by omega))
  have s1 : decide (s < 0) = false := by simp; omega
  have s2 : decide (10 ≤ s) = false := by simp; omega
  have k3 : (k == 3) = false := by simp; omega
  have k4 : (k == 4) = false := by simp; omega
  clear h3
  rw [show voteV ⟨k, s, r, c, g, m, [p0, p1, p2, p3, p4, p5, p6, p7], [q0, q1, q2, q3, q4, q5, q6, q7]⟩ = .agg #[.int .i64 k, .int .i64 s, .int .i64 r, .int .i64 c, .int .i64 g, .int .i64 m, byteV p0, byteV p1, byteV p2, byteV p3, byteV p4, byteV p5, byteV p6, byteV p7, byteV q0, byteV q1, byteV q2, byteV q3, byteV q4, byteV q5, byteV q6, byteV q7] from rfl]
  go_enter Tryz.func105, Tryz.ntmps105
  go_wp2_with (go_at_call 125; refine (AG.out _).mono ?_; rintro e w' ⟨rfl, rfl⟩)
  go_quiet (fail)
  go_wp2
  all_goals
    go_ret
    refine ⟨ret_bool ?_, ((Upd.refl NoF w).alloc _).drewN _⟩
    rw [HV.out, Bool.eq_iff_iff]
    first | omega | (simp; done) | (simp; omega)

set_option maxRecDepth 100000 in
set_option maxHeartbeats 4000000 in
theorem rvalid_e3 (k s r c g m : Int) (p0 p1 p2 p3 p4 p5 p6 p7 q0 q1 q2 q3 q4 q5 q6 q7 : UInt8) (hm : in64 m) (w : World) (h1 : 1 ≤ k ∧ k ≤ 7) (h2 : 0 ≤ g ∧ g ≤ 9) (h4 : 0 ≤ m ∧ m ≤ 1023) (h3 : ([q0, q1, q2, q3, q4, q5, q6, q7] == zero8) = !(c == 1)) (hk : k = 3) (h5 : 0 ≤ s ∧ s ≤ 9) :
    Calls Tryz.prog 105 #[voteV ⟨k, s, r, c, g, m, [p0, p1, p2, p3, p4, p5, p6, p7], [q0, q1, q2, q3, q4, q5, q6, q7]⟩] w fun e w' => e = .returned (.bool (validB ⟨k, s, r, c, g, m, [p0, p1, p2, p3, p4, p5, p6, p7], [q0, q1, q2, q3, q4, q5, q6, q7]⟩)) ∧ Upd NoF w w' := by
  subst hk
  have HV := Lib.hid (show validB ⟨3, s, r, c, g, m, [p0, p1, p2, p3, p4, p5, p6, p7], [q0, q1, q2, q3, q4, q5, q6, q7]⟩ = decide (1 ≤ r ∧ r ≤ 12 ∧ 0 ≤ c ∧ c ≤ 1 ∧ (r ≠ 1 ∨ c ≠ 0 ∨ m = 0)) from by
    rw [vb_part (v := ⟨3, s, r, c, g, m, [p0, p1, p2, p3, p4, p5, p6, p7], [q0, q1, q2, q3, q4, q5, q6, q7]⟩) h1 h2 h3 h4, decide_eq_decide]
    unfold slotsOf roundsOk
    simp only
    simp; omega)
  generalize validB ⟨3, s, r, c, g, m, [p0, p1, p2, p3, p4, p5, p6, p7], [q0, q1, q2, q3, q4, q5, q6, q7]⟩ = V at HV ⊢
  have hq : ∀ w, (binOp .eql 53 (.agg #[byteV q0, byteV q1, byteV q2, byteV q3, byteV q4, byteV q5, byteV q6, byteV q7]) (.agg #[.int .u8 0, .int .u8 0, .int .u8 0, .int .u8 0, .int .u8 0, .int .u8 0, .int .u8 0, .int .u8 0])).run Tryz.prog w = .ok (.bool ([q0, q1, q2, q3, q4, q5, q6, q7] == zero8)) w := fun w => name_eql [q0, q1, q2, q3, q4, q5, q6, q7] zero8 rfl rfl w
  have hz : ∀ w, (Instr.build 53 #[]).run Tryz.prog w = .ok (.agg #[.int .u8 0, .int .u8 0, .int .u8 0, .int .u8 0, .int .u8 0, .int .u8 0, .int .u8 0, .int .u8 0]) w := fun w => by kernel_rfl
  rw [h3] at hq
  have h3' : ((!(c == 1)) == (c == 1)) = false := by cases (c == 1) <;> rfl
  have hn : (bits .andNot .i64 m 1023 == 0) = true := by rw [andNot_mask m hm]; simp [h4]
  have hn' : (bits .andNot .i64 m 1023 != 0) = false := by rw [bne, hn]; rfl
  have t1 : decide ((3 : Int) < 1) = false := by decide
  have t2 : decide ((7 : Int) < 3) = false := by decide
  have t3 : decide (g < 0) = false := by simp; omega
  have t4 : decide (10 ≤ g) = false := by simp; omega
  have AG := Lib.hid (agreement_t 3 (by omega))
  have s1 : decide (s < 0) = false := by simp; omega
  have s2 : decide (10 ≤ s) = false := by simp; omega
  clear h3
  rw [show voteV ⟨3, s, r, c, g, m, [p0, p1, p2, p3, p4, p5, p6, p7], [q0, q1, q2, q3, q4, q5, q6, q7]⟩ = .agg #[.int .i64 3, .int .i64 s, .int .i64 r, .int .i64 c, .int .i64 g, .int .i64 m, byteV p0, byteV p1, byteV p2, byteV p3, byteV p4, byteV p5, byteV p6, byteV p7, byteV q0, byteV q1, byteV q2, byteV q3, byteV q4, byteV q5, byteV q6, byteV q7] from rfl]
  go_enter Tryz.func105, Tryz.ntmps105
  go_wp2_with (go_at_call 125; refine (AG.out _).mono ?_; rintro e w' ⟨rfl, rfl⟩)
  go_quiet (fail)
  go_wp2
  all_goals
    go_ret
    refine ⟨ret_bool ?_, ((Upd.refl NoF w).alloc _).drewN _⟩
    rw [HV.out, Bool.eq_iff_iff]
    first | omega | (simp; done) | (simp; omega)

set_option maxRecDepth 100000 in
set_option maxHeartbeats 4000000 in
theorem rvalid_e4 (k s r c g m : Int) (p0 p1 p2 p3 p4 p5 p6 p7 q0 q1 q2 q3 q4 q5 q6 q7 : UInt8) (hm : in64 m) (w : World) (h1 : 1 ≤ k ∧ k ≤ 7) (h2 : 0 ≤ g ∧ g ≤ 9) (h4 : 0 ≤ m ∧ m ≤ 1023) (h3 : ([q0, q1, q2, q3, q4, q5, q6, q7] == zero8) = !(c == 1)) (hk : k = 4) (h5 : 0 ≤ s ∧ s ≤ 9) :
    Calls Tryz.prog 105 #[voteV ⟨k, s, r, c, g, m, [p0, p1, p2, p3, p4, p5, p6, p7], [q0, q1, q2, q3, q4, q5, q6, q7]⟩] w fun e w' => e = .returned (.bool (validB ⟨k, s, r, c, g, m, [p0, p1, p2, p3, p4, p5, p6, p7], [q0, q1, q2, q3, q4, q5, q6, q7]⟩)) ∧ Upd NoF w w' := by
  subst hk
  have HV := Lib.hid (show validB ⟨4, s, r, c, g, m, [p0, p1, p2, p3, p4, p5, p6, p7], [q0, q1, q2, q3, q4, q5, q6, q7]⟩ = decide (1 ≤ r ∧ r ≤ 12 ∧ 0 ≤ c ∧ c ≤ 2) from by
    rw [vb_part (v := ⟨4, s, r, c, g, m, [p0, p1, p2, p3, p4, p5, p6, p7], [q0, q1, q2, q3, q4, q5, q6, q7]⟩) h1 h2 h3 h4, decide_eq_decide]
    unfold slotsOf roundsOk
    simp only
    simp; omega)
  generalize validB ⟨4, s, r, c, g, m, [p0, p1, p2, p3, p4, p5, p6, p7], [q0, q1, q2, q3, q4, q5, q6, q7]⟩ = V at HV ⊢
  have hq : ∀ w, (binOp .eql 53 (.agg #[byteV q0, byteV q1, byteV q2, byteV q3, byteV q4, byteV q5, byteV q6, byteV q7]) (.agg #[.int .u8 0, .int .u8 0, .int .u8 0, .int .u8 0, .int .u8 0, .int .u8 0, .int .u8 0, .int .u8 0])).run Tryz.prog w = .ok (.bool ([q0, q1, q2, q3, q4, q5, q6, q7] == zero8)) w := fun w => name_eql [q0, q1, q2, q3, q4, q5, q6, q7] zero8 rfl rfl w
  have hz : ∀ w, (Instr.build 53 #[]).run Tryz.prog w = .ok (.agg #[.int .u8 0, .int .u8 0, .int .u8 0, .int .u8 0, .int .u8 0, .int .u8 0, .int .u8 0, .int .u8 0]) w := fun w => by kernel_rfl
  rw [h3] at hq
  have h3' : ((!(c == 1)) == (c == 1)) = false := by cases (c == 1) <;> rfl
  have hn : (bits .andNot .i64 m 1023 == 0) = true := by rw [andNot_mask m hm]; simp [h4]
  have hn' : (bits .andNot .i64 m 1023 != 0) = false := by rw [bne, hn]; rfl
  have t1 : decide ((4 : Int) < 1) = false := by decide
  have t2 : decide ((7 : Int) < 4) = false := by decide
  have t3 : decide (g < 0) = false := by simp; omega
  have t4 : decide (10 ≤ g) = false := by simp; omega
  have AG := Lib.hid (agreement_t 4 (by omega))
  have s1 : decide (s < 0) = false := by simp; omega
  have s2 : decide (10 ≤ s) = false := by simp; omega
  clear h3
  rw [show voteV ⟨4, s, r, c, g, m, [p0, p1, p2, p3, p4, p5, p6, p7], [q0, q1, q2, q3, q4, q5, q6, q7]⟩ = .agg #[.int .i64 4, .int .i64 s, .int .i64 r, .int .i64 c, .int .i64 g, .int .i64 m, byteV p0, byteV p1, byteV p2, byteV p3, byteV p4, byteV p5, byteV p6, byteV p7, byteV q0, byteV q1, byteV q2, byteV q3, byteV q4, byteV q5, byteV q6, byteV q7] from rfl]
  go_enter Tryz.func105, Tryz.ntmps105
  go_wp2_with (go_at_call 125; refine (AG.out _).mono ?_; rintro e w' ⟨rfl, rfl⟩)
  go_quiet (fail)
  go_wp2
  all_goals
    go_ret
    refine ⟨ret_bool ?_, ((Upd.refl NoF w).alloc _).drewN _⟩
    rw [HV.out, Bool.eq_iff_iff]
    first | omega | (simp; done) | (simp; omega)

set_option maxRecDepth 100000 in
set_option maxHeartbeats 4000000 in
theorem rvalid_e5 (k s r c g m : Int) (p0 p1 p2 p3 p4 p5 p6 p7 q0 q1 q2 q3 q4 q5 q6 q7 : UInt8) (hm : in64 m) (w : World) (h1 : 1 ≤ k ∧ k ≤ 7) (h2 : 0 ≤ g ∧ g ≤ 9) (h4 : 0 ≤ m ∧ m ≤ 1023) (h3 : ([q0, q1, q2, q3, q4, q5, q6, q7] == zero8) = !(c == 1)) (hk : 5 ≤ k) (h5 : s = 0) :
    Calls Tryz.prog 105 #[voteV ⟨k, s, r, c, g, m, [p0, p1, p2, p3, p4, p5, p6, p7], [q0, q1, q2, q3, q4, q5, q6, q7]⟩] w fun e w' => e = .returned (.bool (validB ⟨k, s, r, c, g, m, [p0, p1, p2, p3, p4, p5, p6, p7], [q0, q1, q2, q3, q4, q5, q6, q7]⟩)) ∧ Upd NoF w w' := by
  subst h5
  have HV := Lib.hid (show validB ⟨k, 0, r, c, g, m, [p0, p1, p2, p3, p4, p5, p6, p7], [q0, q1, q2, q3, q4, q5, q6, q7]⟩ = decide (r = 0 ∧ m = 0 ∧ c = 1) from by
    rw [vb_part (v := ⟨k, 0, r, c, g, m, [p0, p1, p2, p3, p4, p5, p6, p7], [q0, q1, q2, q3, q4, q5, q6, q7]⟩) h1 h2 h3 h4, decide_eq_decide]
    unfold slotsOf roundsOk
    simp only
    rw [if_neg (by omega), if_neg (by omega), if_neg (by omega)]; omega)
  generalize validB ⟨k, 0, r, c, g, m, [p0, p1, p2, p3, p4, p5, p6, p7], [q0, q1, q2, q3, q4, q5, q6, q7]⟩ = V at HV ⊢
  have hq : ∀ w, (binOp .eql 53 (.agg #[byteV q0, byteV q1, byteV q2, byteV q3, byteV q4, byteV q5, byteV q6, byteV q7]) (.agg #[.int .u8 0, .int .u8 0, .int .u8 0, .int .u8 0, .int .u8 0, .int .u8 0, .int .u8 0, .int .u8 0])).run Tryz.prog w = .ok (.bool ([q0, q1, q2, q3, q4, q5, q6, q7] == zero8)) w := fun w => name_eql [q0, q1, q2, q3, q4, q5, q6, q7] zero8 rfl rfl w
  have hz : ∀ w, (Instr.build 53 #[]).run Tryz.prog w = .ok (.agg #[.int .u8 0, .int .u8 0, .int .u8 0, .int .u8 0, .int .u8 0, .int .u8 0, .int .u8 0, .int .u8 0]) w := fun w => by kernel_rfl
  rw [h3] at hq
  have h3' : ((!(c == 1)) == (c == 1)) = false := by cases (c == 1) <;> rfl
  have hn : (bits .andNot .i64 m 1023 == 0) = true := by rw [andNot_mask m hm]; simp [h4]
  have hn' : (bits .andNot .i64 m 1023 != 0) = false := by rw [bne, hn]; rfl
  have t1 : decide (k < 1) = false := by simp; omega
  have t2 : decide (7 < k) = false := by simp; omega
  have t3 : decide (g < 0) = false := by simp; omega
  have t4 : decide (10 ≤ g) = false := by simp; omega
  have AG := Lib.hid (agreement_f k (by omega))
  have s1 : ((0 : Int) != 0) = false := by decide
  have k3 : (k == 3) = false := by simp; omega
  have k4 : (k == 4) = false := by simp; omega
  clear h3
  rw [show voteV ⟨k, 0, r, c, g, m, [p0, p1, p2, p3, p4, p5, p6, p7], [q0, q1, q2, q3, q4, q5, q6, q7]⟩ = .agg #[.int .i64 k, .int .i64 0, .int .i64 r, .int .i64 c, .int .i64 g, .int .i64 m, byteV p0, byteV p1, byteV p2, byteV p3, byteV p4, byteV p5, byteV p6, byteV p7, byteV q0, byteV q1, byteV q2, byteV q3, byteV q4, byteV q5, byteV q6, byteV q7] from rfl]
  go_enter Tryz.func105, Tryz.ntmps105
  go_wp2_with (go_at_call 125; refine (AG.out _).mono ?_; rintro e w' ⟨rfl, rfl⟩)
  go_quiet (fail)
  go_wp2
  all_goals
    go_ret
    refine ⟨ret_bool ?_, ((Upd.refl NoF w).alloc _).drewN _⟩
    rw [HV.out, Bool.eq_iff_iff]
    first | omega | (simp; done) | (simp; omega)
end

section
open Go.RowKit
theorem bool_cases (a b : Bool) : a = b ∨ a = !b := by cases a <;> cases b <;> simp

theorem valid_any {v : VoteS} (hf : v.Fit) (w : World) : Calls Tryz.prog 103 #[voteV v] w fun e w' => e = .returned (.bool (validB v)) ∧ Upd NoF w w' := by
  obtain ⟨p0, p1, p2, p3, p4, p5, p6, p7, q0, q1, q2, q3, q4, q5, q6, q7, e1, e2⟩ := fit_spell hf
  have hm := hf.support
  obtain ⟨k, s, r, c, g, m, p, q⟩ := v
  simp only at e1 e2 hm
  subst e1 e2
  clear hf
  by_cases h1 : 1 ≤ k ∧ k ≤ 7
  · by_cases h2 : 0 ≤ g ∧ g ≤ 9
    · rcases bool_cases ([q0, q1, q2, q3, q4, q5, q6, q7] == zero8) (c == 1) with h3 | h3
      · exact valid_c k s r c g m p0 p1 p2 p3 p4 p5 p6 p7 q0 q1 q2 q3 q4 q5 q6 q7 hm w h1 h2 h3
      · by_cases h4 : 0 ≤ m ∧ m ≤ 1023
        · have hk : k = 1 ∨ k = 2 ∨ k = 3 ∨ k = 4 ∨ 5 ≤ k := by omega
          by_cases h6 : r = 0
          · rcases hk with hk | hk | hk | hk | hk
            · exact valid_e1z k s r c g m p0 p1 p2 p3 p4 p5 p6 p7 q0 q1 q2 q3 q4 q5 q6 q7 hm w h1 h2 h3 h4 hk h6
            · exact valid_e2z k s r c g m p0 p1 p2 p3 p4 p5 p6 p7 q0 q1 q2 q3 q4 q5 q6 q7 hm w h1 h2 h3 h4 hk h6
            · exact valid_e3z k s r c g m p0 p1 p2 p3 p4 p5 p6 p7 q0 q1 q2 q3 q4 q5 q6 q7 hm w h1 h2 h3 h4 hk h6
            · exact valid_e4z k s r c g m p0 p1 p2 p3 p4 p5 p6 p7 q0 q1 q2 q3 q4 q5 q6 q7 hm w h1 h2 h3 h4 hk h6
            · exact valid_e5z k s r c g m p0 p1 p2 p3 p4 p5 p6 p7 q0 q1 q2 q3 q4 q5 q6 q7 hm w h1 h2 h3 h4 hk h6
          · rcases hk with hk | hk | hk | hk | hk
            · exact valid_e1n k s r c g m p0 p1 p2 p3 p4 p5 p6 p7 q0 q1 q2 q3 q4 q5 q6 q7 hm w h1 h2 h3 h4 hk h6
            · exact valid_e2n k s r c g m p0 p1 p2 p3 p4 p5 p6 p7 q0 q1 q2 q3 q4 q5 q6 q7 hm w h1 h2 h3 h4 hk h6
            · exact valid_e3n k s r c g m p0 p1 p2 p3 p4 p5 p6 p7 q0 q1 q2 q3 q4 q5 q6 q7 hm w h1 h2 h3 h4 hk h6
            · exact valid_e4n k s r c g m p0 p1 p2 p3 p4 p5 p6 p7 q0 q1 q2 q3 q4 q5 q6 q7 hm w h1 h2 h3 h4 hk h6
            · exact valid_e5n k s r c g m p0 p1 p2 p3 p4 p5 p6 p7 q0 q1 q2 q3 q4 q5 q6 q7 hm w h1 h2 h3 h4 hk h6
        · exact valid_d k s r c g m p0 p1 p2 p3 p4 p5 p6 p7 q0 q1 q2 q3 q4 q5 q6 q7 hm w h1 h2 h3 h4
    · exact valid_a k s r c g m p0 p1 p2 p3 p4 p5 p6 p7 q0 q1 q2 q3 q4 q5 q6 q7 hm w (.inr ⟨h1, h2⟩)
  · exact valid_a k s r c g m p0 p1 p2 p3 p4 p5 p6 p7 q0 q1 q2 q3 q4 q5 q6 q7 hm w (.inl h1)

theorem rvalid_any {v : VoteS} (hf : v.Fit) (w : World) : Calls Tryz.prog 105 #[voteV v] w fun e w' => e = .returned (.bool (validB v)) ∧ Upd NoF w w' := by
  obtain ⟨p0, p1, p2, p3, p4, p5, p6, p7, q0, q1, q2, q3, q4, q5, q6, q7, e1, e2⟩ := fit_spell hf
  have hm := hf.support
  obtain ⟨k, s, r, c, g, m, p, q⟩ := v
  simp only at e1 e2 hm
  subst e1 e2
  clear hf
  by_cases h1 : 1 ≤ k ∧ k ≤ 7
  · by_cases h2 : 0 ≤ g ∧ g ≤ 9
    · by_cases h4 : 0 ≤ m ∧ m ≤ 1023
      · by_cases h5 : 0 ≤ s ∧ s ≤ slotsOf k
        · have h5' : (k ≤ 4 ∧ 0 ≤ s ∧ s ≤ 9) ∨ (5 ≤ k ∧ s = 0) := by unfold slotsOf at h5; split at h5 <;> omega
          rcases bool_cases ([q0, q1, q2, q3, q4, q5, q6, q7] == zero8) (c == 1) with h3 | h3
          · exact rvalid_c k s r c g m p0 p1 p2 p3 p4 p5 p6 p7 q0 q1 q2 q3 q4 q5 q6 q7 hm w h1 h2 h4 h5' h3
          · rcases h5' with ⟨h6, h7⟩ | ⟨h6, h7⟩
            · have hk : k ≤ 2 ∨ k = 3 ∨ k = 4 := by omega
              rcases hk with hk | hk | hk
              · exact rvalid_e1 k s r c g m p0 p1 p2 p3 p4 p5 p6 p7 q0 q1 q2 q3 q4 q5 q6 q7 hm w h1 h2 h4 h3 hk h7
              · exact rvalid_e3 k s r c g m p0 p1 p2 p3 p4 p5 p6 p7 q0 q1 q2 q3 q4 q5 q6 q7 hm w h1 h2 h4 h3 hk h7
              · exact rvalid_e4 k s r c g m p0 p1 p2 p3 p4 p5 p6 p7 q0 q1 q2 q3 q4 q5 q6 q7 hm w h1 h2 h4 h3 hk h7
            · exact rvalid_e5 k s r c g m p0 p1 p2 p3 p4 p5 p6 p7 q0 q1 q2 q3 q4 q5 q6 q7 hm w h1 h2 h4 h3 h6 h7
        · exact rvalid_s k s r c g m p0 p1 p2 p3 p4 p5 p6 p7 q0 q1 q2 q3 q4 q5 q6 q7 hm w h1 h2 h4 h5
      · exact rvalid_d k s r c g m p0 p1 p2 p3 p4 p5 p6 p7 q0 q1 q2 q3 q4 q5 q6 q7 hm w h1 h2 h4
    · exact rvalid_a k s r c g m p0 p1 p2 p3 p4 p5 p6 p7 q0 q1 q2 q3 q4 q5 q6 q7 hm w (.inr ⟨h1, h2⟩)
  · exact rvalid_a k s r c g m p0 p1 p2 p3 p4 p5 p6 p7 q0 q1 q2 q3 q4 q5 q6 q7 hm w (.inl h1)
end

section
open Go.RowKit

theorem wp_append_to {P : Program} (w : World) {o : Oper} {a : Act} {K : Act → World → Prop} {Q : Exit → Act → World → Prop} (s x : Operand) (t : TypeId)
    (ho : o.op = .call { callee := .builtin .append, args := #[s, x], argTypes := #[t, t] })
    (e : TypeId) (i : TypeInfo) (z : Value) (size bytes : Nat) (ht : P.underlying t = some (.slice e)) (hi : P.info? e = some i) (hz : i.zero = some z)
    (hsize : i.size = size) (hby : i.bytes = bytes) (hzs : z.cells.size = size)
    (v : Value) (n : Nat) (xs : List Value) (hs : a.eval s = v) (hown : Own w e size v n xs)
    (u : Value) (m : Nat) (ys : List Value) (hx : a.eval x = u) (hr : Rd w size u m ys) (h1 : ∀ u ∈ ys, u.oneCell' = true)
    (h63 : n + m ≤ maxLen) (hbytes : (n + m) * bytes ≤ 140737488355328)
    (h : ∀ A c w', Own w' e size (.slice A (n + m) c) (n + m) (xs ++ ys) → Upd (OwnB v) w w' → (∀ k, OwnB (.slice A (n + m) c) k → OwnB v k ∨ w.heap.size ≤ k) → K (a.put o.dst (.slice A (n + m) c)) w') : o.wp P a w K Q := by
  obtain ⟨v', w', hrun, h2, h3, h4⟩ := run_append (P := P) w t o.type e i z size bytes ht hi hz hsize hby hzs v n xs hown u m ys hr h1 h63 hbytes
  unfold Oper.wp execOp
  simp only [ho, resolve, invoke, builtin, Sem.run_bind, Sem.run_pure, Result.andThen_ok, List.map_toArray, List.map_cons, List.map_nil, hs, hx, hrun]
  obtain ⟨A, c, rfl⟩ := h2.form
  exact h A c w' h2 h3 h4

theorem step_append_to {P : Program} (w : World) {ops : Array Oper} {o : Oper} {a : Act} {K : Act → World → Prop} {Q : Exit → Act → World → Prop} {E : Prop} (hgd : o.guard = none) (s x : Operand) (t : TypeId)
    (ho : o.op = .call { callee := .builtin .append, args := #[s, x], argTypes := #[t, t] })
    (e : TypeId) (i : TypeInfo) (z : Value) (size bytes : Nat) (ht : P.underlying t = some (.slice e)) (hi : P.info? e = some i) (hz : i.zero = some z)
    (hsize : i.size = size) (hby : i.bytes = bytes) (hzs : z.cells.size = size)
    (v : Value) (n : Nat) (xs : List Value) (hs : a.eval s = v) (hown : Own w e size v n xs)
    (u : Value) (m : Nat) (ys : List Value) (hx : a.eval x = u) (hr : Rd w size u m ys) (h1 : ∀ u ∈ ys, u.oneCell' = true)
    (h63 : n + m ≤ maxLen) (hbytes : (n + m) * bytes ≤ 140737488355328)
    (h : ∀ A c w', Own w' e size (.slice A (n + m) c) (n + m) (xs ++ ys) → Upd (OwnB v) w w' → (∀ k, OwnB (.slice A (n + m) c) k → OwnB v k ∨ w.heap.size ≤ k) → K (a.put o.dst (.slice A (n + m) c)) w') :
    if Region.wanted o (yielded ops a.tmps) = true then Oper.wp P o a w K Q else E := by
  have hw : Region.wanted o (yielded ops a.tmps) = true := by simp [Region.wanted, hgd]
  rw [if_pos hw]
  exact wp_append_to w s x t ho e i z size bytes ht hi hz hsize hby hzs v n xs hs hown u m ys hx hr h1 h63 hbytes h

/-- .. onto a slice without elements. -/
theorem step_append_new {P : Program} (w : World) {ops : Array Oper} {o : Oper} {a : Act} {K : Act → World → Prop} {Q : Exit → Act → World → Prop} {E : Prop} (hgd : o.guard = none) (s x : Operand) (t : TypeId)
    (ho : o.op = .call { callee := .builtin .append, args := #[s, x], argTypes := #[t, t] })
    (e : TypeId) (i : TypeInfo) (z : Value) (size bytes : Nat) (ht : P.underlying t = some (.slice e)) (hi : P.info? e = some i) (hz : i.zero = some z)
    (hsize : i.size = size) (hby : i.bytes = bytes) (hzs : z.cells.size = size)
    (v : Value) (hs : a.eval s = v) (hown : Own w e size v 0 [])
    (u : Value) (m : Nat) (ys : List Value) (hx : a.eval x = u) (hr : Rd w size u m ys) (h1 : ∀ u ∈ ys, u.oneCell' = true)
    (h63 : m ≤ maxLen) (hbytes : m * bytes ≤ 140737488355328)
    (h : ∀ A c w', Own w' e size (.slice A m c) m ys → Upd (OwnB v) w w' → (∀ k, OwnB (.slice A m c) k → OwnB v k ∨ w.heap.size ≤ k) → K (a.put o.dst (.slice A m c)) w') :
    if Region.wanted o (yielded ops a.tmps) = true then Oper.wp P o a w K Q else E := by
  refine step_append_to w hgd s x t ho e i z size bytes ht hi hz hsize hby hzs v 0 [] hs hown u m ys hx hr h1 (by omega) (by simpa using hbytes) ?_
  intro A c w' a1 a2 a3
  simp only [Nat.zero_add, List.nil_append] at a1 a3 ⊢
  exact h A c w' a1 a2 a3

theorem wpList_append_new {P : Program} (w : World) {ops : Array Oper} {rest : List Oper} {o : Oper} {a : Act} {Q : Exit → Act → World → Prop} (hgd : o.guard = none) (s x : Operand) (t : TypeId)
    (ho : o.op = .call { callee := .builtin .append, args := #[s, x], argTypes := #[t, t] })
    (e : TypeId) (i : TypeInfo) (z : Value) (size bytes : Nat) (ht : P.underlying t = some (.slice e)) (hi : P.info? e = some i) (hz : i.zero = some z)
    (hsize : i.size = size) (hby : i.bytes = bytes) (hzs : z.cells.size = size)
    (v : Value) (hs : a.eval s = v) (hown : Own w e size v 0 [])
    (u : Value) (m : Nat) (ys : List Value) (hx : a.eval x = u) (hr : Rd w size u m ys) (h1 : ∀ u ∈ ys, u.oneCell' = true)
    (h63 : m ≤ maxLen) (hbytes : m * bytes ≤ 140737488355328)
    (h : ∀ A c w', Own w' e size (.slice A m c) m ys → Upd (OwnB v) w w' → (∀ k, OwnB (.slice A m c) k → OwnB v k ∨ w.heap.size ≤ k) → wpList P ops Q rest (a.put o.dst (.slice A m c)) w') : wpList P ops Q (o :: rest) a w := by
  refine wpList_append_to w hgd s x t ho e i z size bytes ht hi hz hsize hby hzs v 0 [] hs hown u m ys hx hr h1 (by omega) (by simpa using hbytes) ?_
  intro A c w' a1 a2 a3
  simp only [Nat.zero_add, List.nil_append] at a1 a3 ⊢
  exact h A c w' a1 a2 a3

/-- A slice literal without elements, just made. -/
theorem Own.fresh (w : World) (e : TypeId) (size : Nat) : Own (w.alloc (.cells #[] e)) e size (.slice (some ⟨w.heap.size, 0, none⟩) 0 0) 0 [] :=
  ⟨by simp, .inr ⟨w.heap.size, 0, #[], rfl, Blk.new w _ _, Nat.le_refl _, Nat.zero_le _, by simp, by simp⟩⟩

/-- Nothing is appended. -/
theorem step_append_none {P : Program} (w : World) {ops : Array Oper} {o : Oper} {a : Act} {K : Act → World → Prop} {Q : Exit → Act → World → Prop} {E : Prop} (hgd : o.guard = none) (s x : Operand) (t : TypeId)
    (ho : o.op = .call { callee := .builtin .append, args := #[s, x], argTypes := #[t, t] })
    (e : TypeId) (i : TypeInfo) (size : Nat) (ht : P.underlying t = some (.slice e)) (hi : P.info? e = some i)
    (v : Value) (n : Nat) (xs : List Value) (hs : a.eval s = v) (hown : Own w e size v n xs) (A : Option Addr) (c : Nat) (hx : a.eval x = .slice A 0 c) (h : K (a.put o.dst v) w) :
    if Region.wanted o (yielded ops a.tmps) = true then Oper.wp P o a w K Q else E := by
  have hw : Region.wanted o (yielded ops a.tmps) = true := by simp [Region.wanted, hgd]
  rw [if_pos hw]
  have hrun : (Builtin.append_ #[t, t] o.type #[v, .slice A 0 c]).run P w = .ok v w := by
    rcases hown.2 with ⟨rfl, rfl⟩ | ⟨g, cap, cur, rfl, hb, hnc, _⟩
    · cases A <;> simp [Builtin.append_, run_underlying ht, sizeOf, typeInfo, hi, Builtin.lenOf, Builtin.firstCells, loadCells, loadCellsFrom]
    · cases A <;> simp [Builtin.append_, run_underlying ht, sizeOf, typeInfo, hi, Builtin.lenOf, Builtin.firstCells, hnc, storeCells, loadCells, loadCellsFrom]
  unfold Oper.wp execOp
  simp only [ho, resolve, invoke, builtin, Sem.run_bind, Sem.run_pure, Result.andThen_ok, List.map_toArray, List.map_cons, List.map_nil, hs, hx, hrun]
  exact h

theorem wpList_append_none {P : Program} (w : World) {ops : Array Oper} {rest : List Oper} {o : Oper} {a : Act} {Q : Exit → Act → World → Prop} (hgd : o.guard = none) (s x : Operand) (t : TypeId)
    (ho : o.op = .call { callee := .builtin .append, args := #[s, x], argTypes := #[t, t] })
    (e : TypeId) (i : TypeInfo) (size : Nat) (ht : P.underlying t = some (.slice e)) (hi : P.info? e = some i)
    (v : Value) (n : Nat) (xs : List Value) (hs : a.eval s = v) (hown : Own w e size v n xs) (A : Option Addr) (c : Nat) (hx : a.eval x = .slice A 0 c) (h : wpList P ops Q rest (a.put o.dst v) w) : wpList P ops Q (o :: rest) a w := by
  refine wpList_plain hgd fun _ hK => ?_
  have := step_append_none (ops := ops) (Q := Q) (E := True) w hgd s x t ho e i size ht hi v n xs hs hown A c hx (hK _ _ h)
  have hw : Region.wanted o (yielded ops a.tmps) = true := by simp [Region.wanted, hgd]
  rwa [if_pos hw] at this
end

section
open Go.RowKit

def RsRel (w : World) (bs : List UInt8) (x y i : Value) (wr : World) : Prop :=
  ∃ k : Nat, 8 * k ≤ bs.length + 7 ∧ i = .int .i64 (8 * (k : Int)) ∧ x = u64V (hk bs k).1 ∧ y = u64V (hk bs k).2 ∧ Upd NoF w wr ∧ Blk wr w.heap.size 53 #[.int .u8 0, .int .u8 0, .int .u8 0, .int .u8 0, .int .u8 0, .int .u8 0, .int .u8 0, .int .u8 0]
def R4Rel (p : Int × Int) (x y i : Value) : Prop := ∃ k : Nat, k ≤ 4 ∧ i = .int .i64 k ∧ x = u64V (mixN k p).1 ∧ y = u64V (mixN k p).2
end
end Go.Proofs.YtbgificdilpdcaaGreat
