/- Valid of package vote. No condition. Valid of the reference. No condition. Valid of package vote and of the reference, for every vote. No condition. append onto a slice that owns its block, in a region that draws its order. No condition. The hash functions of package hash and of the reference: Sum, Tagged. Conditions: sizes. The small functions of package disk: write, open, existing. No condition. What the functions of package disk compute, on plain data. No condition. A disk of which one file is turned, made or removed. No condition. New, Off, Arm, Read, Append of package disk; bytes.Clone. No condition. Append of package disk. Condition: no file grows beyond 2^40 bytes. -/
import Derived.Test.YtbgificdilpdcaaJn2
import Derived.Deep.QuietTactic
import Derived.BigQuiet
import Derived.Test.YtbgificdilpdcaaJn1
import Derived.RegionTactic
import Derived.Deep.RegionHeld3
import Derived.Deep.DrawnRows
import Derived.Deep.RegionLaw
import Derived.Outline
import GoSem.ClaimWide
namespace Go.Proofs.Ytbgificdilpdcaa
section
open Go.RowKit

set_option maxRecDepth 100000 in
set_option maxHeartbeats 4000000 in
theorem valid_e3n (k s r c g m : Int) (p0 p1 p2 p3 p4 p5 p6 p7 q0 q1 q2 q3 q4 q5 q6 q7 : UInt8) (hm : in64 m) (w : World) (h1 : 1 ≤ k ∧ k ≤ 7) (h2 : 0 ≤ g ∧ g ≤ 9) (h3 : ([q0, q1, q2, q3, q4, q5, q6, q7] == zero8) = !(c == 1)) (h4 : 0 ≤ m ∧ m ≤ 1023) (hk : k = 3) (h6 : ¬ r = 0) :
    Calls Try.prog 85 #[voteV ⟨k, s, r, c, g, m, [p0, p1, p2, p3, p4, p5, p6, p7], [q0, q1, q2, q3, q4, q5, q6, q7]⟩] w fun e w' => e = .returned (.bool (validB ⟨k, s, r, c, g, m, [p0, p1, p2, p3, p4, p5, p6, p7], [q0, q1, q2, q3, q4, q5, q6, q7]⟩)) ∧ Upd NoF w w' := by
  subst hk
  have HV := Lib.hid (show validB ⟨3, s, r, c, g, m, [p0, p1, p2, p3, p4, p5, p6, p7], [q0, q1, q2, q3, q4, q5, q6, q7]⟩ = decide (0 ≤ s ∧ s ≤ 9 ∧ 1 ≤ r ∧ r ≤ 12 ∧ 0 ≤ c ∧ c ≤ 1 ∧ (r ≠ 1 ∨ c ≠ 0 ∨ m = 0)) from by
    rw [vb_part (v := ⟨3, s, r, c, g, m, [p0, p1, p2, p3, p4, p5, p6, p7], [q0, q1, q2, q3, q4, q5, q6, q7]⟩) h1 h2 h3 h4, decide_eq_decide]
    unfold slotsOf roundsOk
    simp only
    simp)
  generalize validB ⟨3, s, r, c, g, m, [p0, p1, p2, p3, p4, p5, p6, p7], [q0, q1, q2, q3, q4, q5, q6, q7]⟩ = V at HV ⊢
  have hq : ∀ w, (binOp .eql 33 (.agg #[byteV q0, byteV q1, byteV q2, byteV q3, byteV q4, byteV q5, byteV q6, byteV q7]) (.agg #[.int .u8 0, .int .u8 0, .int .u8 0, .int .u8 0, .int .u8 0, .int .u8 0, .int .u8 0, .int .u8 0])).run Try.prog w = .ok (.bool ([q0, q1, q2, q3, q4, q5, q6, q7] == zero8)) w := fun w => name_eql [q0, q1, q2, q3, q4, q5, q6, q7] zero8 rfl rfl w
  have hz : ∀ w, (Instr.build 33 #[]).run Try.prog w = .ok (.agg #[.int .u8 0, .int .u8 0, .int .u8 0, .int .u8 0, .int .u8 0, .int .u8 0, .int .u8 0, .int .u8 0]) w := fun w => by kernel_rfl
  rw [h3] at hq
  have h3' : ((c == 1) == !(c == 1)) = false := by cases (c == 1) <;> rfl
  have hn : (bits .andNot .i64 m 1023 == 0) = true := by rw [andNot_mask m hm]; simp [h4]
  have hn' : (bits .andNot .i64 m 1023 != 0) = false := by rw [bne, hn]; rfl
  have t0 : (r == 0) = false := by simpa using h6
  clear h3 
  rw [show voteV ⟨3, s, r, c, g, m, [p0, p1, p2, p3, p4, p5, p6, p7], [q0, q1, q2, q3, q4, q5, q6, q7]⟩ = .agg #[.int .i64 3, .int .i64 s, .int .i64 r, .int .i64 c, .int .i64 g, .int .i64 m, byteV p0, byteV p1, byteV p2, byteV p3, byteV p4, byteV p5, byteV p6, byteV p7, byteV q0, byteV q1, byteV q2, byteV q3, byteV q4, byteV q5, byteV q6, byteV q7] from rfl]
  go_enter Try.func85, Try.ntmps85
  go_wp2_with (go_at_call 95; refine (between_any _ _ _ _).mono ?_; rintro e w' ⟨rfl, rfl⟩)
  go_quiet (fail)
  go_wp2
  go_quiet (fail)
  go_wp2
  generalize hw2 : World.drewN (World.alloc w _) _ = w2
  have B2 : Blk w2 w.heap.size 35 #[.int .i64 3, .int .i64 s, .int .i64 r, .int .i64 c, .int .i64 g, .int .i64 m, byteV p0, byteV p1, byteV p2, byteV p3, byteV p4, byteV p5, byteV p6, byteV p7, byteV q0, byteV q1, byteV q2, byteV q3, byteV q4, byteV q5, byteV q6, byteV q7] := by rw [← hw2]; exact (Blk.new w _ _).drewN _
  have U2 := Lib.hid (show Upd NoF w w2 from by rw [← hw2]; exact ((Upd.refl NoF w).alloc _).drewN _)
  have c1 : w2.cell? ⟨w.heap.size, 1, none⟩ = some (.int .i64 s) := B2.cell 1
  have c2 : w2.cell? ⟨w.heap.size, 2, none⟩ = some (.int .i64 r) := B2.cell 2
  have c3 : w2.cell? ⟨w.heap.size, 3, none⟩ = some (.int .i64 c) := B2.cell 3
  have c5 : w2.cell? ⟨w.heap.size, 5, none⟩ = some (.int .i64 m) := B2.cell 5
  clear hw2 B2
  go_quiet ((go_at_call 95; exact between_q _ _ _ _ _))
  go_wp2_with (go_at_call 95; refine (between_any _ _ _ _).mono ?_; rintro e w' ⟨rfl, rfl⟩)
  all_goals
    go_ret
    refine ⟨ret_bool ?_, U2.out.drewN _⟩
    rw [HV.out, Bool.eq_iff_iff]
    first | omega | (simp; done) | (simp; omega)

set_option maxRecDepth 100000 in
set_option maxHeartbeats 4000000 in
theorem valid_e3z (k s r c g m : Int) (p0 p1 p2 p3 p4 p5 p6 p7 q0 q1 q2 q3 q4 q5 q6 q7 : UInt8) (hm : in64 m) (w : World) (h1 : 1 ≤ k ∧ k ≤ 7) (h2 : 0 ≤ g ∧ g ≤ 9) (h3 : ([q0, q1, q2, q3, q4, q5, q6, q7] == zero8) = !(c == 1)) (h4 : 0 ≤ m ∧ m ≤ 1023) (hk : k = 3) (h6 : r = 0) :
    Calls Try.prog 85 #[voteV ⟨k, s, r, c, g, m, [p0, p1, p2, p3, p4, p5, p6, p7], [q0, q1, q2, q3, q4, q5, q6, q7]⟩] w fun e w' => e = .returned (.bool (validB ⟨k, s, r, c, g, m, [p0, p1, p2, p3, p4, p5, p6, p7], [q0, q1, q2, q3, q4, q5, q6, q7]⟩)) ∧ Upd NoF w w' := by
  subst hk
  subst h6
  have HV := Lib.hid (show validB ⟨3, s, 0, c, g, m, [p0, p1, p2, p3, p4, p5, p6, p7], [q0, q1, q2, q3, q4, q5, q6, q7]⟩ = decide (0 ≤ s ∧ s ≤ 9 ∧ 1 ≤ (0 : Int) ∧ (0 : Int) ≤ 12 ∧ 0 ≤ c ∧ c ≤ 1 ∧ ((0 : Int) ≠ 1 ∨ c ≠ 0 ∨ m = 0)) from by
    rw [vb_part (v := ⟨3, s, 0, c, g, m, [p0, p1, p2, p3, p4, p5, p6, p7], [q0, q1, q2, q3, q4, q5, q6, q7]⟩) h1 h2 h3 h4, decide_eq_decide]
    unfold slotsOf roundsOk
    simp only
    simp)
  generalize validB ⟨3, s, 0, c, g, m, [p0, p1, p2, p3, p4, p5, p6, p7], [q0, q1, q2, q3, q4, q5, q6, q7]⟩ = V at HV ⊢
  have hq : ∀ w, (binOp .eql 33 (.agg #[byteV q0, byteV q1, byteV q2, byteV q3, byteV q4, byteV q5, byteV q6, byteV q7]) (.agg #[.int .u8 0, .int .u8 0, .int .u8 0, .int .u8 0, .int .u8 0, .int .u8 0, .int .u8 0, .int .u8 0])).run Try.prog w = .ok (.bool ([q0, q1, q2, q3, q4, q5, q6, q7] == zero8)) w := fun w => name_eql [q0, q1, q2, q3, q4, q5, q6, q7] zero8 rfl rfl w
  have hz : ∀ w, (Instr.build 33 #[]).run Try.prog w = .ok (.agg #[.int .u8 0, .int .u8 0, .int .u8 0, .int .u8 0, .int .u8 0, .int .u8 0, .int .u8 0, .int .u8 0]) w := fun w => by kernel_rfl
  rw [h3] at hq
  have h3' : ((c == 1) == !(c == 1)) = false := by cases (c == 1) <;> rfl
  have hn : (bits .andNot .i64 m 1023 == 0) = true := by rw [andNot_mask m hm]; simp [h4]
  have hn' : (bits .andNot .i64 m 1023 != 0) = false := by rw [bne, hn]; rfl
  have t0 : ((0 : Int) == 0) = true := by rfl
  clear h3 
  rw [show voteV ⟨3, s, 0, c, g, m, [p0, p1, p2, p3, p4, p5, p6, p7], [q0, q1, q2, q3, q4, q5, q6, q7]⟩ = .agg #[.int .i64 3, .int .i64 s, .int .i64 0, .int .i64 c, .int .i64 g, .int .i64 m, byteV p0, byteV p1, byteV p2, byteV p3, byteV p4, byteV p5, byteV p6, byteV p7, byteV q0, byteV q1, byteV q2, byteV q3, byteV q4, byteV q5, byteV q6, byteV q7] from rfl]
  go_enter Try.func85, Try.ntmps85
  go_wp2_with (go_at_call 95; refine (between_any _ _ _ _).mono ?_; rintro e w' ⟨rfl, rfl⟩)
  go_quiet (fail)
  go_wp2
  go_quiet (fail)
  go_wp2
  generalize hw2 : World.drewN (World.alloc w _) _ = w2
  have B2 : Blk w2 w.heap.size 35 #[.int .i64 3, .int .i64 s, .int .i64 0, .int .i64 c, .int .i64 g, .int .i64 m, byteV p0, byteV p1, byteV p2, byteV p3, byteV p4, byteV p5, byteV p6, byteV p7, byteV q0, byteV q1, byteV q2, byteV q3, byteV q4, byteV q5, byteV q6, byteV q7] := by rw [← hw2]; exact (Blk.new w _ _).drewN _
  have U2 := Lib.hid (show Upd NoF w w2 from by rw [← hw2]; exact ((Upd.refl NoF w).alloc _).drewN _)
  have c1 : w2.cell? ⟨w.heap.size, 1, none⟩ = some (.int .i64 s) := B2.cell 1
  have c2 : w2.cell? ⟨w.heap.size, 2, none⟩ = some (.int .i64 0) := B2.cell 2
  have c3 : w2.cell? ⟨w.heap.size, 3, none⟩ = some (.int .i64 c) := B2.cell 3
  have c5 : w2.cell? ⟨w.heap.size, 5, none⟩ = some (.int .i64 m) := B2.cell 5
  clear hw2 B2
  go_quiet ((go_at_call 95; exact between_q _ _ _ _ _))
  go_wp2_with (go_at_call 95; refine (between_any _ _ _ _).mono ?_; rintro e w' ⟨rfl, rfl⟩)
  all_goals
    go_ret
    refine ⟨ret_bool ?_, U2.out.drewN _⟩
    rw [HV.out, Bool.eq_iff_iff]
    first | omega | (simp; done) | (simp; omega)

set_option maxRecDepth 100000 in
set_option maxHeartbeats 4000000 in
theorem valid_e4n (k s r c g m : Int) (p0 p1 p2 p3 p4 p5 p6 p7 q0 q1 q2 q3 q4 q5 q6 q7 : UInt8) (hm : in64 m) (w : World) (h1 : 1 ≤ k ∧ k ≤ 7) (h2 : 0 ≤ g ∧ g ≤ 9) (h3 : ([q0, q1, q2, q3, q4, q5, q6, q7] == zero8) = !(c == 1)) (h4 : 0 ≤ m ∧ m ≤ 1023) (hk : k = 4) (h6 : ¬ r = 0) :
    Calls Try.prog 85 #[voteV ⟨k, s, r, c, g, m, [p0, p1, p2, p3, p4, p5, p6, p7], [q0, q1, q2, q3, q4, q5, q6, q7]⟩] w fun e w' => e = .returned (.bool (validB ⟨k, s, r, c, g, m, [p0, p1, p2, p3, p4, p5, p6, p7], [q0, q1, q2, q3, q4, q5, q6, q7]⟩)) ∧ Upd NoF w w' := by
  subst hk
  have HV := Lib.hid (show validB ⟨4, s, r, c, g, m, [p0, p1, p2, p3, p4, p5, p6, p7], [q0, q1, q2, q3, q4, q5, q6, q7]⟩ = decide (0 ≤ s ∧ s ≤ 9 ∧ 1 ≤ r ∧ r ≤ 12 ∧ 0 ≤ c ∧ c ≤ 2) from by
    rw [vb_part (v := ⟨4, s, r, c, g, m, [p0, p1, p2, p3, p4, p5, p6, p7], [q0, q1, q2, q3, q4, q5, q6, q7]⟩) h1 h2 h3 h4, decide_eq_decide]
    unfold slotsOf roundsOk
    simp only
    simp)
  generalize validB ⟨4, s, r, c, g, m, [p0, p1, p2, p3, p4, p5, p6, p7], [q0, q1, q2, q3, q4, q5, q6, q7]⟩ = V at HV ⊢
  have hq : ∀ w, (binOp .eql 33 (.agg #[byteV q0, byteV q1, byteV q2, byteV q3, byteV q4, byteV q5, byteV q6, byteV q7]) (.agg #[.int .u8 0, .int .u8 0, .int .u8 0, .int .u8 0, .int .u8 0, .int .u8 0, .int .u8 0, .int .u8 0])).run Try.prog w = .ok (.bool ([q0, q1, q2, q3, q4, q5, q6, q7] == zero8)) w := fun w => name_eql [q0, q1, q2, q3, q4, q5, q6, q7] zero8 rfl rfl w
  have hz : ∀ w, (Instr.build 33 #[]).run Try.prog w = .ok (.agg #[.int .u8 0, .int .u8 0, .int .u8 0, .int .u8 0, .int .u8 0, .int .u8 0, .int .u8 0, .int .u8 0]) w := fun w => by kernel_rfl
  rw [h3] at hq
  have h3' : ((c == 1) == !(c == 1)) = false := by cases (c == 1) <;> rfl
  have hn : (bits .andNot .i64 m 1023 == 0) = true := by rw [andNot_mask m hm]; simp [h4]
  have hn' : (bits .andNot .i64 m 1023 != 0) = false := by rw [bne, hn]; rfl
  have t0 : (r == 0) = false := by simpa using h6
  clear h3 
  rw [show voteV ⟨4, s, r, c, g, m, [p0, p1, p2, p3, p4, p5, p6, p7], [q0, q1, q2, q3, q4, q5, q6, q7]⟩ = .agg #[.int .i64 4, .int .i64 s, .int .i64 r, .int .i64 c, .int .i64 g, .int .i64 m, byteV p0, byteV p1, byteV p2, byteV p3, byteV p4, byteV p5, byteV p6, byteV p7, byteV q0, byteV q1, byteV q2, byteV q3, byteV q4, byteV q5, byteV q6, byteV q7] from rfl]
  go_enter Try.func85, Try.ntmps85
  go_wp2_with (go_at_call 95; refine (between_any _ _ _ _).mono ?_; rintro e w' ⟨rfl, rfl⟩)
  go_quiet (fail)
  go_wp2
  go_quiet (fail)
  go_wp2
  generalize hw2 : World.drewN (World.alloc w _) _ = w2
  have B2 : Blk w2 w.heap.size 35 #[.int .i64 4, .int .i64 s, .int .i64 r, .int .i64 c, .int .i64 g, .int .i64 m, byteV p0, byteV p1, byteV p2, byteV p3, byteV p4, byteV p5, byteV p6, byteV p7, byteV q0, byteV q1, byteV q2, byteV q3, byteV q4, byteV q5, byteV q6, byteV q7] := by rw [← hw2]; exact (Blk.new w _ _).drewN _
  have U2 := Lib.hid (show Upd NoF w w2 from by rw [← hw2]; exact ((Upd.refl NoF w).alloc _).drewN _)
  have c1 : w2.cell? ⟨w.heap.size, 1, none⟩ = some (.int .i64 s) := B2.cell 1
  have c2 : w2.cell? ⟨w.heap.size, 2, none⟩ = some (.int .i64 r) := B2.cell 2
  have c3 : w2.cell? ⟨w.heap.size, 3, none⟩ = some (.int .i64 c) := B2.cell 3
  have c5 : w2.cell? ⟨w.heap.size, 5, none⟩ = some (.int .i64 m) := B2.cell 5
  clear hw2 B2
  go_quiet ((go_at_call 95; exact between_q _ _ _ _ _))
  go_wp2_with (go_at_call 95; refine (between_any _ _ _ _).mono ?_; rintro e w' ⟨rfl, rfl⟩)
  all_goals
    go_ret
    refine ⟨ret_bool ?_, U2.out.drewN _⟩
    rw [HV.out, Bool.eq_iff_iff]
    first | omega | (simp; done) | (simp; omega)

set_option maxRecDepth 100000 in
set_option maxHeartbeats 4000000 in
theorem valid_e4z (k s r c g m : Int) (p0 p1 p2 p3 p4 p5 p6 p7 q0 q1 q2 q3 q4 q5 q6 q7 : UInt8) (hm : in64 m) (w : World) (h1 : 1 ≤ k ∧ k ≤ 7) (h2 : 0 ≤ g ∧ g ≤ 9) (h3 : ([q0, q1, q2, q3, q4, q5, q6, q7] == zero8) = !(c == 1)) (h4 : 0 ≤ m ∧ m ≤ 1023) (hk : k = 4) (h6 : r = 0) :
    Calls Try.prog 85 #[voteV ⟨k, s, r, c, g, m, [p0, p1, p2, p3, p4, p5, p6, p7], [q0, q1, q2, q3, q4, q5, q6, q7]⟩] w fun e w' => e = .returned (.bool (validB ⟨k, s, r, c, g, m, [p0, p1, p2, p3, p4, p5, p6, p7], [q0, q1, q2, q3, q4, q5, q6, q7]⟩)) ∧ Upd NoF w w' := by
  subst hk
  subst h6
  have HV := Lib.hid (show validB ⟨4, s, 0, c, g, m, [p0, p1, p2, p3, p4, p5, p6, p7], [q0, q1, q2, q3, q4, q5, q6, q7]⟩ = decide (0 ≤ s ∧ s ≤ 9 ∧ 1 ≤ (0 : Int) ∧ (0 : Int) ≤ 12 ∧ 0 ≤ c ∧ c ≤ 2) from by
    rw [vb_part (v := ⟨4, s, 0, c, g, m, [p0, p1, p2, p3, p4, p5, p6, p7], [q0, q1, q2, q3, q4, q5, q6, q7]⟩) h1 h2 h3 h4, decide_eq_decide]
    unfold slotsOf roundsOk
    simp only
    simp)
  generalize validB ⟨4, s, 0, c, g, m, [p0, p1, p2, p3, p4, p5, p6, p7], [q0, q1, q2, q3, q4, q5, q6, q7]⟩ = V at HV ⊢
  have hq : ∀ w, (binOp .eql 33 (.agg #[byteV q0, byteV q1, byteV q2, byteV q3, byteV q4, byteV q5, byteV q6, byteV q7]) (.agg #[.int .u8 0, .int .u8 0, .int .u8 0, .int .u8 0, .int .u8 0, .int .u8 0, .int .u8 0, .int .u8 0])).run Try.prog w = .ok (.bool ([q0, q1, q2, q3, q4, q5, q6, q7] == zero8)) w := fun w => name_eql [q0, q1, q2, q3, q4, q5, q6, q7] zero8 rfl rfl w
  have hz : ∀ w, (Instr.build 33 #[]).run Try.prog w = .ok (.agg #[.int .u8 0, .int .u8 0, .int .u8 0, .int .u8 0, .int .u8 0, .int .u8 0, .int .u8 0, .int .u8 0]) w := fun w => by kernel_rfl
  rw [h3] at hq
  have h3' : ((c == 1) == !(c == 1)) = false := by cases (c == 1) <;> rfl
  have hn : (bits .andNot .i64 m 1023 == 0) = true := by rw [andNot_mask m hm]; simp [h4]
  have hn' : (bits .andNot .i64 m 1023 != 0) = false := by rw [bne, hn]; rfl
  have t0 : ((0 : Int) == 0) = true := by rfl
  clear h3 
  rw [show voteV ⟨4, s, 0, c, g, m, [p0, p1, p2, p3, p4, p5, p6, p7], [q0, q1, q2, q3, q4, q5, q6, q7]⟩ = .agg #[.int .i64 4, .int .i64 s, .int .i64 0, .int .i64 c, .int .i64 g, .int .i64 m, byteV p0, byteV p1, byteV p2, byteV p3, byteV p4, byteV p5, byteV p6, byteV p7, byteV q0, byteV q1, byteV q2, byteV q3, byteV q4, byteV q5, byteV q6, byteV q7] from rfl]
  go_enter Try.func85, Try.ntmps85
  go_wp2_with (go_at_call 95; refine (between_any _ _ _ _).mono ?_; rintro e w' ⟨rfl, rfl⟩)
  go_quiet (fail)
  go_wp2
  go_quiet (fail)
  go_wp2
  generalize hw2 : World.drewN (World.alloc w _) _ = w2
  have B2 : Blk w2 w.heap.size 35 #[.int .i64 4, .int .i64 s, .int .i64 0, .int .i64 c, .int .i64 g, .int .i64 m, byteV p0, byteV p1, byteV p2, byteV p3, byteV p4, byteV p5, byteV p6, byteV p7, byteV q0, byteV q1, byteV q2, byteV q3, byteV q4, byteV q5, byteV q6, byteV q7] := by rw [← hw2]; exact (Blk.new w _ _).drewN _
  have U2 := Lib.hid (show Upd NoF w w2 from by rw [← hw2]; exact ((Upd.refl NoF w).alloc _).drewN _)
  have c1 : w2.cell? ⟨w.heap.size, 1, none⟩ = some (.int .i64 s) := B2.cell 1
  have c2 : w2.cell? ⟨w.heap.size, 2, none⟩ = some (.int .i64 0) := B2.cell 2
  have c3 : w2.cell? ⟨w.heap.size, 3, none⟩ = some (.int .i64 c) := B2.cell 3
  have c5 : w2.cell? ⟨w.heap.size, 5, none⟩ = some (.int .i64 m) := B2.cell 5
  clear hw2 B2
  go_quiet ((go_at_call 95; exact between_q _ _ _ _ _))
  go_wp2_with (go_at_call 95; refine (between_any _ _ _ _).mono ?_; rintro e w' ⟨rfl, rfl⟩)
  all_goals
    go_ret
    refine ⟨ret_bool ?_, U2.out.drewN _⟩
    rw [HV.out, Bool.eq_iff_iff]
    first | omega | (simp; done) | (simp; omega)
end

section
open Go.RowKit
end

section
open Go.RowKit
theorem bool_cases (a b : Bool) : a = b ∨ a = !b := by cases a <;> cases b <;> simp

theorem valid_any {v : VoteS} (hf : v.Fit) (w : World) : Calls Try.prog 85 #[voteV v] w fun e w' => e = .returned (.bool (validB v)) ∧ Upd NoF w w' := by
  obtain ⟨p0, p1, p2, p3, p4, p5, p6, p7, q0, q1, q2, q3, q4, q5, q6, q7, e1, e2⟩ := fit_spell hf
  have hm := hf.support
  obtain ⟨k, s, r, c, g, m, p, q⟩ := v
  simp only at e1 e2 hm
  subst e1 e2
  clear hf
  by_cases h1 : 1 ≤ k ∧ k ≤ 7
  · by_cases h2 : 0 ≤ g ∧ g ≤ 9
    · rcases bool_cases ([q0, q1, q2, q3, q4, q5, q6, q7] == zero8) (c == 1) with h3 | h3
      · exact valid_c k s r c g m p0 p1 p2 p3 p4 p5 p6 p7 q0 q1 q2 q3 q4 q5 q6 q7 hm w h1 h2 h3
      · by_cases h4 : 0 ≤ m ∧ m ≤ 1023
        · have hk : k = 1 ∨ k = 2 ∨ k = 3 ∨ k = 4 ∨ 5 ≤ k := by omega
          by_cases h6 : r = 0
          · rcases hk with hk | hk | hk | hk | hk
            · exact valid_e1z k s r c g m p0 p1 p2 p3 p4 p5 p6 p7 q0 q1 q2 q3 q4 q5 q6 q7 hm w h1 h2 h3 h4 hk h6
            · exact valid_e2z k s r c g m p0 p1 p2 p3 p4 p5 p6 p7 q0 q1 q2 q3 q4 q5 q6 q7 hm w h1 h2 h3 h4 hk h6
            · exact valid_e3z k s r c g m p0 p1 p2 p3 p4 p5 p6 p7 q0 q1 q2 q3 q4 q5 q6 q7 hm w h1 h2 h3 h4 hk h6
            · exact valid_e4z k s r c g m p0 p1 p2 p3 p4 p5 p6 p7 q0 q1 q2 q3 q4 q5 q6 q7 hm w h1 h2 h3 h4 hk h6
            · exact valid_e5z k s r c g m p0 p1 p2 p3 p4 p5 p6 p7 q0 q1 q2 q3 q4 q5 q6 q7 hm w h1 h2 h3 h4 hk h6
          · rcases hk with hk | hk | hk | hk | hk
            · exact valid_e1n k s r c g m p0 p1 p2 p3 p4 p5 p6 p7 q0 q1 q2 q3 q4 q5 q6 q7 hm w h1 h2 h3 h4 hk h6
            · exact valid_e2n k s r c g m p0 p1 p2 p3 p4 p5 p6 p7 q0 q1 q2 q3 q4 q5 q6 q7 hm w h1 h2 h3 h4 hk h6
            · exact valid_e3n k s r c g m p0 p1 p2 p3 p4 p5 p6 p7 q0 q1 q2 q3 q4 q5 q6 q7 hm w h1 h2 h3 h4 hk h6
            · exact valid_e4n k s r c g m p0 p1 p2 p3 p4 p5 p6 p7 q0 q1 q2 q3 q4 q5 q6 q7 hm w h1 h2 h3 h4 hk h6
            · exact valid_e5n k s r c g m p0 p1 p2 p3 p4 p5 p6 p7 q0 q1 q2 q3 q4 q5 q6 q7 hm w h1 h2 h3 h4 hk h6
        · exact valid_d k s r c g m p0 p1 p2 p3 p4 p5 p6 p7 q0 q1 q2 q3 q4 q5 q6 q7 hm w h1 h2 h3 h4
    · exact valid_a k s r c g m p0 p1 p2 p3 p4 p5 p6 p7 q0 q1 q2 q3 q4 q5 q6 q7 hm w (.inr ⟨h1, h2⟩)
  · exact valid_a k s r c g m p0 p1 p2 p3 p4 p5 p6 p7 q0 q1 q2 q3 q4 q5 q6 q7 hm w (.inl h1)
end

section
open Go.RowKit

theorem wp_append_to {P : Program} (w : World) {o : Oper} {a : Act} {K : Act → World → Prop} {Q : Exit → Act → World → Prop} (s x : Operand) (t : TypeId)
    (ho : o.op = .call { callee := .builtin .append, args := #[s, x], argTypes := #[t, t] })
    (e : TypeId) (i : TypeInfo) (z : Value) (size bytes : Nat) (ht : P.underlying t = some (.slice e)) (hi : P.info? e = some i) (hz : i.zero = some z)
    (hsize : i.size = size) (hby : i.bytes = bytes) (hzs : z.cells.size = size)
    (v : Value) (n : Nat) (xs : List Value) (hs : a.eval s = v) (hown : Own w e size v n xs)
    (u : Value) (m : Nat) (ys : List Value) (hx : a.eval x = u) (hr : Rd w size u m ys) (h1 : ∀ u ∈ ys, u.oneCell' = true)
    (h63 : n + m ≤ maxLen) (hbytes : (n + m) * bytes ≤ 140737488355328)
    (h : ∀ A c w', Own w' e size (.slice A (n + m) c) (n + m) (xs ++ ys) → Upd (OwnB v) w w' → (∀ k, OwnB (.slice A (n + m) c) k → OwnB v k ∨ w.heap.size ≤ k) → K (a.put o.dst (.slice A (n + m) c)) w') : o.wp P a w K Q := by
  obtain ⟨v', w', hrun, h2, h3, h4⟩ := run_append (P := P) w t o.type e i z size bytes ht hi hz hsize hby hzs v n xs hown u m ys hr h1 h63 hbytes
  unfold Oper.wp execOp
  simp only [ho, resolve, invoke, builtin, Sem.run_bind, Sem.run_pure, Result.andThen_ok, List.map_toArray, List.map_cons, List.map_nil, hs, hx, hrun]
  obtain ⟨A, c, rfl⟩ := h2.form
  exact h A c w' h2 h3 h4

theorem step_append_to {P : Program} (w : World) {ops : Array Oper} {o : Oper} {a : Act} {K : Act → World → Prop} {Q : Exit → Act → World → Prop} {E : Prop} (hgd : o.guard = none) (s x : Operand) (t : TypeId)
    (ho : o.op = .call { callee := .builtin .append, args := #[s, x], argTypes := #[t, t] })
    (e : TypeId) (i : TypeInfo) (z : Value) (size bytes : Nat) (ht : P.underlying t = some (.slice e)) (hi : P.info? e = some i) (hz : i.zero = some z)
    (hsize : i.size = size) (hby : i.bytes = bytes) (hzs : z.cells.size = size)
    (v : Value) (n : Nat) (xs : List Value) (hs : a.eval s = v) (hown : Own w e size v n xs)
    (u : Value) (m : Nat) (ys : List Value) (hx : a.eval x = u) (hr : Rd w size u m ys) (h1 : ∀ u ∈ ys, u.oneCell' = true)
    (h63 : n + m ≤ maxLen) (hbytes : (n + m) * bytes ≤ 140737488355328)
    (h : ∀ A c w', Own w' e size (.slice A (n + m) c) (n + m) (xs ++ ys) → Upd (OwnB v) w w' → (∀ k, OwnB (.slice A (n + m) c) k → OwnB v k ∨ w.heap.size ≤ k) → K (a.put o.dst (.slice A (n + m) c)) w') :
    if Region.wanted o (yielded ops a.tmps) = true then Oper.wp P o a w K Q else E := by
  have hw : Region.wanted o (yielded ops a.tmps) = true := by simp [Region.wanted, hgd]
  rw [if_pos hw]
  exact wp_append_to w s x t ho e i z size bytes ht hi hz hsize hby hzs v n xs hs hown u m ys hx hr h1 h63 hbytes h

/-- .. onto a slice without elements. -/
theorem step_append_new {P : Program} (w : World) {ops : Array Oper} {o : Oper} {a : Act} {K : Act → World → Prop} {Q : Exit → Act → World → Prop} {E : Prop} (hgd : o.guard = none) (s x : Operand) (t : TypeId)
    (ho : o.op = .call { callee := .builtin .append, args := #[s, x], argTypes := #[t, t] })
    (e : TypeId) (i : TypeInfo) (z : Value) (size bytes : Nat) (ht : P.underlying t = some (.slice e)) (hi : P.info? e = some i) (hz : i.zero = some z)
    (hsize : i.size = size) (hby : i.bytes = bytes) (hzs : z.cells.size = size)
    (v : Value) (hs : a.eval s = v) (hown : Own w e size v 0 [])
    (u : Value) (m : Nat) (ys : List Value) (hx : a.eval x = u) (hr : Rd w size u m ys) (h1 : ∀ u ∈ ys, u.oneCell' = true)
    (h63 : m ≤ maxLen) (hbytes : m * bytes ≤ 140737488355328)
    (h : ∀ A c w', Own w' e size (.slice A m c) m ys → Upd (OwnB v) w w' → (∀ k, OwnB (.slice A m c) k → OwnB v k ∨ w.heap.size ≤ k) → K (a.put o.dst (.slice A m c)) w') :
    if Region.wanted o (yielded ops a.tmps) = true then Oper.wp P o a w K Q else E := by
  refine step_append_to w hgd s x t ho e i z size bytes ht hi hz hsize hby hzs v 0 [] hs hown u m ys hx hr h1 (by omega) (by simpa using hbytes) ?_
  intro A c w' a1 a2 a3
  simp only [Nat.zero_add, List.nil_append] at a1 a3 ⊢
  exact h A c w' a1 a2 a3

theorem wpList_append_new {P : Program} (w : World) {ops : Array Oper} {rest : List Oper} {o : Oper} {a : Act} {Q : Exit → Act → World → Prop} (hgd : o.guard = none) (s x : Operand) (t : TypeId)
    (ho : o.op = .call { callee := .builtin .append, args := #[s, x], argTypes := #[t, t] })
    (e : TypeId) (i : TypeInfo) (z : Value) (size bytes : Nat) (ht : P.underlying t = some (.slice e)) (hi : P.info? e = some i) (hz : i.zero = some z)
    (hsize : i.size = size) (hby : i.bytes = bytes) (hzs : z.cells.size = size)
    (v : Value) (hs : a.eval s = v) (hown : Own w e size v 0 [])
    (u : Value) (m : Nat) (ys : List Value) (hx : a.eval x = u) (hr : Rd w size u m ys) (h1 : ∀ u ∈ ys, u.oneCell' = true)
    (h63 : m ≤ maxLen) (hbytes : m * bytes ≤ 140737488355328)
    (h : ∀ A c w', Own w' e size (.slice A m c) m ys → Upd (OwnB v) w w' → (∀ k, OwnB (.slice A m c) k → OwnB v k ∨ w.heap.size ≤ k) → wpList P ops Q rest (a.put o.dst (.slice A m c)) w') : wpList P ops Q (o :: rest) a w := by
  refine wpList_append_to w hgd s x t ho e i z size bytes ht hi hz hsize hby hzs v 0 [] hs hown u m ys hx hr h1 (by omega) (by simpa using hbytes) ?_
  intro A c w' a1 a2 a3
  simp only [Nat.zero_add, List.nil_append] at a1 a3 ⊢
  exact h A c w' a1 a2 a3

/-- A slice literal without elements, just made. -/
theorem Own.fresh (w : World) (e : TypeId) (size : Nat) : Own (w.alloc (.cells #[] e)) e size (.slice (some ⟨w.heap.size, 0, none⟩) 0 0) 0 [] :=
  ⟨by simp, .inr ⟨w.heap.size, 0, #[], rfl, Blk.new w _ _, Nat.le_refl _, Nat.zero_le _, by simp, by simp⟩⟩
end

section
open Go.RowKit

def RsRel (w : World) (bs : List UInt8) (x y i : Value) (wr : World) : Prop :=
  ∃ k : Nat, 8 * k ≤ bs.length + 7 ∧ i = .int .i64 (8 * (k : Int)) ∧ x = u64V (hk bs k).1 ∧ y = u64V (hk bs k).2 ∧ Upd NoF w wr ∧ Blk wr w.heap.size 33 #[.int .u8 0, .int .u8 0, .int .u8 0, .int .u8 0, .int .u8 0, .int .u8 0, .int .u8 0, .int .u8 0]
def R4Rel (p : Int × Int) (x y i : Value) : Prop := ∃ k : Nat, k ≤ 4 ∧ i = .int .i64 k ∧ x = u64V (mixN k p).1 ∧ y = u64V (mixN k p).2
end

section
open Go.RowKit Go.Maps

abbrev retPE (v : Value) (e : Int) : Ending := .returned (.tuple #[v, .int .i64 e])

theorem strV_empty : strV [] = .string ⟨#[]⟩ := rfl

theorem write_on (d : Nat) (m : Value) (o : Bool) (l : Int) (w : World) (h : Blk w d 77 #[m, .bool o, .bool false, .int .i64 l]) :
    Calls Try.prog 67 #[ptrV d] w fun e w' => e = .returned (.bool true) ∧ w = w' := by
  have h2 : w.cell? ⟨d, 2, none⟩ = some (.bool false) := h.cell 2
  clear h
  unfold ptrV
  go_enter Try.func67, Try.ntmps67
  go_wp2
  go_ret
  exact ⟨rfl, rfl⟩

theorem write_out (d : Nat) (m : Value) (o : Bool) (w : World) (h : Blk w d 77 #[m, .bool o, .bool true, .int .i64 0]) :
    Calls Try.prog 67 #[ptrV d] w fun e w' => e = .returned (.bool false) ∧ w.setCell ⟨d, 1, none⟩ (.bool true) = w' := by
  have h1 : w.cell? ⟨d, 1, none⟩ = some (.bool o) := h.cell 1
  have h2 : w.cell? ⟨d, 2, none⟩ = some (.bool true) := h.cell 2
  have h3 : w.cell? ⟨d, 3, none⟩ = some (.int .i64 0) := h.cell 3
  have f1 : w.frozen? ⟨d, 1, none⟩ = false := h.frozen 1
  clear h
  unfold ptrV
  go_enter Try.func67, Try.ntmps67
  go_wp2
  go_ret
  exact ⟨rfl, rfl⟩

theorem write_down (d : Nat) (m : Value) (o : Bool) (l : Nat) (w : World) (h : Blk w d 77 #[m, .bool o, .bool true, .int .i64 l]) (hl : 0 < l) (hm : l ≤ 9223372036854775807) :
    Calls Try.prog 67 #[ptrV d] w fun e w' => e = .returned (.bool true) ∧ w.setCell ⟨d, 3, none⟩ (.int .i64 ((l - 1 : Nat) : Int)) = w' := by
  obtain ⟨k, rfl⟩ : ∃ k, l = k + 1 := ⟨l - 1, by omega⟩
  have h2 : w.cell? ⟨d, 2, none⟩ = some (.bool true) := h.cell 2
  have h3 : w.cell? ⟨d, 3, none⟩ = some (.int .i64 ((k : Int) + 1)) := by simpa using h.cell 3
  have f3 : w.frozen? ⟨d, 3, none⟩ = false := h.frozen 3
  have hne : (((k : Int) + 1) == 0) = false := by simp; omega
  clear h
  unfold ptrV
  go_enter Try.func67, Try.ntmps67
  go_wp2
  go_ret
  refine ⟨rfl, ?_⟩
  simp

section
variable {w : World} {d mb : Nat} {off armed : Bool} {left : Nat} {L : List FRec}

theorem open_arg (v : Value) (w : World) (hv : v = .pointer none ∨ ∃ d, v = ptrV d) : Calls Try.prog 66 #[v, strV []] w fun e w' => e = retPE (.pointer none) 1 ∧ w = w' := by
  rw [strV_empty]
  rcases hv with rfl | ⟨d, rfl⟩
  · go_enter Try.func66, Try.ntmps66
    go_wp2
    go_ret2
    exact ⟨rfl, rfl⟩
  · unfold ptrV
    go_enter Try.func66, Try.ntmps66
    go_wp2
    go_ret2
    exact ⟨rfl, rfl⟩

theorem open_off (h : DiskL w d mb true armed left L) (nm : List UInt8) (hn : nm.isEmpty = false) : Calls Try.prog 66 #[ptrV d, strV nm] w fun e w' => e = retPE (.pointer none) 103 ∧ w = w' := by
  have h1 : w.cell? ⟨d, 1, none⟩ = some (.bool true) := h.head.cell 1
  clear h
  go_enter Try.func66, Try.ntmps66
  go_wp2
  go_ret2
  exact ⟨rfl, rfl⟩

/-- What the map holds under a name. -/
def atV (L : List FRec) (nm : List UInt8) : Value := match L.find? (fun r => r.nm == nm) with | some r => ptrV r.fb | none => .pointer none

theorem open_on (h : DiskL w d mb false armed left L) (nm : List UInt8) (hn : nm.isEmpty = false) (hm : nm.length ≤ maxLen) : Calls Try.prog 66 #[ptrV d, strV nm] w fun e w' => e = retPE (atV L nm) 0 ∧ w = w' := by
  have h0 : w.cell? ⟨d, 0, none⟩ = some (.map (some mb)) := h.head.cell 0
  have h1 : w.cell? ⟨d, 1, none⟩ = some (.bool false) := h.head.cell 1
  have hl : (Instr.lookup 75 (.map (some mb)) (strV nm) false).run Try.prog w = .ok (atV L nm) w := h.look hm
  clear h
  go_enter Try.func66, Try.ntmps66
  go_wp2
  go_ret2
  exact ⟨rfl, rfl⟩

theorem existing_arg (d : Nat) (w : World) : Calls Try.prog 70 #[ptrV d, strV []] w fun e w' => e = retPE (.pointer none) 1 ∧ w = w' := by
  go_enter Try.func70, Try.ntmps70
  go_wp2_with (go_at_call 66; refine (open_arg _ _ (.inr ⟨d, rfl⟩)).mono ?_; rintro e w' ⟨rfl, rfl⟩)
  go_ret2
  exact ⟨rfl, rfl⟩

theorem existing_off (h : DiskL w d mb true armed left L) (nm : List UInt8) (hn : nm.isEmpty = false) : Calls Try.prog 70 #[ptrV d, strV nm] w fun e w' => e = retPE (.pointer none) 103 ∧ w = w' := by
  have H := Lib.hid h
  clear h
  go_enter Try.func70, Try.ntmps70
  go_wp2_with (go_at_call 66; refine (open_off H.out _ hn).mono ?_; rintro e w' ⟨rfl, rfl⟩)
  go_ret2
  exact ⟨rfl, rfl⟩

theorem existing_no (h : DiskL w d mb false armed left L) (nm : List UInt8) (hn : nm.isEmpty = false) (hm : nm.length ≤ maxLen) (hf : L.find? (fun r => r.nm == nm) = none) :
    Calls Try.prog 70 #[ptrV d, strV nm] w fun e w' => e = retPE (.pointer none) 6 ∧ w = w' := by
  have ho : Calls Try.prog 66 #[ptrV d, strV nm] w fun e w' => e = retPE (.pointer none) 0 ∧ w = w' := by
    have := open_on h nm hn hm
    unfold atV at this
    rwa [hf] at this
  have H := Lib.hid ho
  clear h ho hf
  go_enter Try.func70, Try.ntmps70
  go_wp2_with (go_at_call 66; refine H.out.mono ?_; rintro e w' ⟨rfl, rfl⟩)
  go_ret2
  exact ⟨rfl, rfl⟩

theorem existing_yes (h : DiskL w d mb false armed left L) (nm : List UInt8) (hn : nm.isEmpty = false) (hm : nm.length ≤ maxLen) (r : FRec) (hf : L.find? (fun r => r.nm == nm) = some r) :
    Calls Try.prog 70 #[ptrV d, strV nm] w fun e w' => e = retPE (ptrV r.fb) 0 ∧ w = w' := by
  have ho : Calls Try.prog 66 #[ptrV d, strV nm] w fun e w' => e = retPE (ptrV r.fb) 0 ∧ w = w' := by
    have := open_on h nm hn hm
    unfold atV at this
    rwa [hf] at this
  have H := Lib.hid ho
  clear h ho hf
  go_enter Try.func70, Try.ntmps70
  go_wp2_with (go_at_call 66; refine H.out.mono ?_; rintro e w' ⟨rfl, rfl⟩)
  go_ret2
  exact ⟨rfl, rfl⟩
end
end

section
open Go

structure FSt where
  c : List UInt8
  dur : Nat
abbrev FS := List (List UInt8 × FSt)
structure DSt where
  fs : FS
  off : Bool
  armed : Bool
  left : Nat

def getF (fs : FS) (nm : List UInt8) : Option FSt := (fs.find? (fun p => p.1 == nm)).map (·.2)
def setF (nm : List UInt8) (f : FSt) (fs : FS) : FS := fs.map (fun p => if p.1 == nm then (p.1, f) else p)
def insF (p : List UInt8 × FSt) : FS → FS
  | [] => [p]
  | y :: l => if bytesBefore p.1 y.1 then p :: y :: l else y :: insF p l
def delF (nm : List UInt8) (fs : FS) : FS := fs.filter (fun p => !(p.1 == nm))

/-- Whether one more write goes through. -/
def wrB (armed : Bool) (left : Nat) : Bool := !(armed && left == 0)
def wrL (armed : Bool) (left : Nat) : Nat := if armed then left - 1 else left
def wrS (s : DSt) : DSt := { s with off := s.off || !wrB s.armed s.left, left := wrL s.armed s.left }

def sRead (s : DSt) (nm : List UInt8) : List UInt8 × Int :=
  if nm = [] then ([], 1) else if s.off then ([], 103) else
  match getF s.fs nm with
  | none => ([], 6)
  | some f => (f.c, 0)

def withFile (nm : List UInt8) (fs : FS) : FS := match getF fs nm with | none => insF (nm, ⟨[], 0⟩) fs | some _ => fs
def sAppend (s : DSt) (nm b : List UInt8) : Int × DSt :=
  if nm = [] then (1, s) else if s.off then (103, s) else
  let f := (getF s.fs nm).getD ⟨[], 0⟩
  let s1 := { s with fs := setF nm ⟨f.c ++ b, f.dur⟩ (withFile nm s.fs) }
  (if wrB s.armed s.left then 0 else 103, wrS s1)

def sChange (s : DSt) (nm : List UInt8) (g : FS → FSt → FS) : Int × DSt :=
  if nm = [] then (1, s) else if s.off then (103, s) else
  match getF s.fs nm with
  | none => (6, s)
  | some f => if wrB s.armed s.left then (0, { wrS s with fs := g s.fs f }) else (103, wrS s)

def sSync (s : DSt) (nm : List UInt8) : Int × DSt := sChange s nm fun fs f => setF nm ⟨f.c, f.c.length⟩ fs
def cutAt (size : Int) (n : Nat) : Nat := min size.toNat n
def sTruncate (s : DSt) (nm : List UInt8) (size : Int) : Int × DSt := sChange s nm fun fs f => setF nm ⟨f.c.take (cutAt size f.c.length), min f.dur (cutAt size f.c.length)⟩ fs
def sRename (s : DSt) (nm to : List UInt8) : Int × DSt := if to = [] then (1, s) else sChange s nm fun fs f => insF (to, f) (delF to (delF nm fs))
def sRemove (s : DSt) (nm : List UInt8) : Int × DSt := sChange s nm fun fs _ => delF nm fs
def sArm (s : DSt) (n : Int) : DSt := { s with armed := true, left := n.toNat }

/-- The next pick modulo n. -/
def below (picks : List Int) (n : Nat) : Nat × List Int := match picks with | [] => (0, []) | p :: ps => ((p % (n : Int)).toNat, ps)
def flipLast (c : List UInt8) : List UInt8 := c.modify (c.length - 1) (fun b => b ^^^ 255)
def zeroLast (k : Nat) (c : List UInt8) : List UInt8 := c.take (c.length - k) ++ List.replicate k 0
def damaged (dm kept : Nat) (c : List UInt8) : List UInt8 := if dm = 1 ∧ 0 < kept then flipLast c else if dm = 2 then zeroLast (min kept 8) c else c
def crashF (picks : List Int) (f : FSt) : FSt × List Int :=
  if f.c.length - f.dur = 0 then (f, picks) else
  let k := below picks (f.c.length - f.dur + 1)
  let m := below k.2 3
  (⟨damaged m.1 k.1 (f.c.take (f.dur + k.1)), f.dur + k.1⟩, m.2)
def crashL : List Int → FS → FS
  | _, [] => []
  | ps, (nm, f) :: l => (nm, (crashF ps f).1) :: crashL (crashF ps f).2 l
def sCrash (s : DSt) (picks : List Int) : DSt := { fs := crashL picks s.fs, off := false, armed := false, left := 0 }
def sNew : DSt := ⟨[], false, false, 0⟩
end

section
open Go.RowKit Go.Maps

def setR (r' : FRec) (L : List FRec) : List FRec := L.map (fun x => if x.fb = r'.fb then r' else x)

theorem pw_ne {α : Type} {R : α → α → Prop} {L : List α} (h : L.Pairwise R) (hs : ∀ a b, R a b → R b a) {x y : α} (hx : x ∈ L) (hy : y ∈ L) (hne : x ≠ y) : R x y := by
  induction L with
  | nil => cases hx
  | cons a l ih =>
    rw [List.pairwise_cons] at h
    rcases List.mem_cons.1 hx with rfl | hx'
    · rcases List.mem_cons.1 hy with rfl | hy'
      · exact absurd rfl hne
      · exact h.1 y hy'
    · rcases List.mem_cons.1 hy with rfl | hy'
      · exact hs _ _ (h.1 x hx')
      · exact ih h.2 hx' hy'

section
variable {w w' : World} {d mb : Nat} {off armed : Bool} {left : Nat} {L : List FRec}

theorem DiskL.same_of_fb (h : DiskL w d mb off armed left L) {x y : FRec} (hx : x ∈ L) (hy : y ∈ L) (he : x.fb = y.fb) : x = y :=
  Classical.byContradiction fun hne => pw_ne h.fbs (fun _ _ h e => h e.symm) hx hy hne he
theorem DiskL.same_of_nm (h : DiskL w d mb off armed left L) {x y : FRec} (hx : x ∈ L) (hy : y ∈ L) (he : x.nm = y.nm) : x = y := by
  refine Classical.byContradiction fun hne => ?_
  have := pw_ne (R := fun a b : FRec => a.nm ≠ b.nm) (h.sorted.imp (fun {a b} hb e => by rw [e, Go.WideAt.bytes_irrefl] at hb; cases hb)) (fun _ _ h e => h e.symm) hx hy hne
  exact this he

theorem mem_setR {r' x : FRec} (h : x ∈ setR r' L) : x = r' ∨ (x ∈ L ∧ x.fb ≠ r'.fb) := by
  obtain ⟨y, hy, rfl⟩ := List.mem_map.1 h
  by_cases he : y.fb = r'.fb
  · simp [he]
  · right
    simp only [if_neg he]
    exact ⟨hy, he⟩

/-- One file has turned. -/
theorem DiskL.turn (h : DiskL w d mb off armed left L) {r r' : FRec} (hr : r ∈ L) (hnm : r'.nm = r.nm) (hfb : r'.fb = r.fb) (hdur : r'.dur ≤ r'.c.length) (hlen : r'.c.length ≤ 1099511627776)
    (hu : Upd (fun k => k = r.fb ∨ OwnB r.cv k) w w') (hb : Blk w' r.fb 109 #[r'.cv, .int .i64 r'.dur]) (ho : Own w' 5 1 r'.cv r'.c.length (r'.c.map byteV))
    (hn : ∀ k, OwnB r'.cv k → OwnB r.cv k ∨ w.heap.size ≤ k) : DiskL w' d mb off armed left (setR r' L) := by
  have hf := h.file r hr
  have hw := h.own r hr
  have hd : d ≠ r.fb := h.head.unlike hf (by decide)
  have hapart : ∀ x ∈ L, x.fb ≠ r.fb → ∀ k, OwnB x.cv k → ¬ OwnB r.cv k := fun x hx hne k hk hk' => pw_ne (R := fun a b : FRec => ∀ k, OwnB a.cv k → ¬ OwnB b.cv k) h.gs (fun _ _ h k a b => h k b a) hx hr (fun e => hne (by rw [e])) k hk hk'
  refine { head := hu.blk h.head ?_, files := ?_, file := ?_, own := ?_, dur := ?_, nm := ?_, fbs := ?_, gs := ?_, lft := h.lft, len := ?_ }
  · rintro (e | e)
    · exact hd e
    · exact hw.blk_ne h.head (by decide) e
  · have e : mapD (setR r' L) = mapD L := by
      simp only [mapD, setR, List.map_map]
      congr 1
      refine List.map_congr_left (fun x hx => ?_)
      simp only [Function.comp]
      split
      · rename_i he
        have := h.same_of_fb hx hr (he.trans hfb)
        subst this
        simp [entD, hnm, hfb]
      · rfl
    rw [e, show (setR r' L).length = L.length by simp [setR]]
    refine ownsMap_upd h.files hu ?_
    rintro (e | e)
    · exact ownsMap_ne_blk h.files hf e
    · exact ownsMap_ne_own h.files hw e rfl
  · intro x hx
    rcases mem_setR hx with rfl | ⟨hx, hne⟩
    · rw [hfb]; exact hb
    · refine hu.blk (h.file x hx) ?_
      rintro (e | e)
      · exact hne (e.trans hfb.symm)
      · exact hw.blk_ne (h.file x hx) (by decide) e
  · intro x hx
    rcases mem_setR hx with rfl | ⟨hx, hne⟩
    · exact ho
    · refine (h.own x hx).upd hu (fun k hk => ?_)
      rintro (e | e)
      · exact (h.own x hx).ne_of hf (by decide) hk e
      · exact hapart x hx (fun e => hne (e.trans hfb.symm)) k hk e
  · intro x hx
    rcases mem_setR hx with rfl | ⟨hx, _⟩
    · exact hdur
    · exact h.dur x hx
  · intro x hx
    rcases mem_setR hx with rfl | ⟨hx, _⟩
    · rw [hnm]; exact h.nm r hr
    · exact h.nm x hx
  · simp only [setR]
    rw [List.pairwise_map]
    refine h.fbs.imp (fun {a b} hab => ?_)
    split <;> split
    · rename_i h1 h2; exact absurd (h1.trans h2.symm) hab
    · rename_i h1 h2; exact fun e => h2 e.symm
    · rename_i h1 h2; exact h1
    · exact hab
  · simp only [setR]
    rw [List.pairwise_map]
    refine List.Pairwise.imp_of_mem ?_ (h.fbs.and h.gs)
    rintro a b ha hb ⟨hab, hg⟩
    split <;> split
    · rename_i h1 h2; exact absurd (h1.trans h2.symm) hab
    · rename_i h1 h2
      intro k hk hk'
      rcases hn k hk with e | e
      · exact hapart b hb (fun e => h2 (e.trans hfb.symm)) k hk' e
      · have := (h.own b hb).lt hk'; omega
    · rename_i h1 h2
      intro k hk hk'
      rcases hn k hk' with e | e
      · exact hapart a ha (fun e => h1 (e.trans hfb.symm)) k hk e
      · have := (h.own a ha).lt hk; omega
    · exact hg
  · intro x hx
    rcases mem_setR hx with rfl | ⟨hx, _⟩
    · exact hlen
    · exact h.len x hx

theorem foot_setR {r r' : FRec} (hr : r ∈ L) (hfb : r'.fb = r.fb) (hn : ∀ k, OwnB r'.cv k → OwnB r.cv k ∨ w.heap.size ≤ k) {k : Nat} (hk : foot d mb (setR r' L) k) : foot d mb L k ∨ w.heap.size ≤ k := by
  rcases hk with rfl | rfl | ⟨x, hx, hk⟩
  · exact .inl (.inl rfl)
  · exact .inl (.inr (.inl rfl))
  · rcases mem_setR hx with rfl | ⟨hx, _⟩
    · rcases hk with rfl | hk
      · exact .inl (.inr (.inr ⟨r, hr, .inl hfb⟩))
      · rcases hn k hk with e | e
        · exact .inl (.inr (.inr ⟨r, hr, .inr e⟩))
        · exact .inr e
    · exact .inl (.inr (.inr ⟨x, hx, hk⟩))

/-- Only the disk's own block has turned. -/
theorem DiskL.top (h : DiskL w d mb off armed left L) {off' armed' : Bool} {left' : Nat} (hu : Upd (fun k => k = d) w w') (hb : Blk w' d 77 #[.map (some mb), .bool off', .bool armed', .int .i64 left']) (hl : left' ≤ 9223372036854775807) :
    DiskL w' d mb off' armed' left' L :=
  { head := hb, files := ownsMap_upd h.files hu (ownsMap_ne_blk h.files h.head), file := fun r hr => hu.blk (h.file r hr) ((h.file r hr).unlike h.head (by decide)),
    own := fun r hr => (h.own r hr).upd hu (fun _ hk => (h.own r hr).ne_of h.head (by decide) hk), dur := h.dur, nm := h.nm, fbs := h.fbs, gs := h.gs, lft := hl, len := h.len }

/-- write: what it says and what becomes of the disk. -/
theorem write_any (h : DiskL w d mb off armed left L) : Calls Try.prog 67 #[ptrV d] w fun e w' => e = .returned (.bool (wrB armed left)) ∧ DiskL w' d mb (off || !wrB armed left) armed (wrL armed left) L ∧ Upd (fun k => k = d) w w' := by
  cases armed with
  | false =>
    refine (write_on d _ off _ w h.head).mono ?_
    rintro e w' ⟨rfl, rfl⟩
    exact ⟨rfl, by simpa [wrB, wrL] using h, Upd.refl _ _⟩
  | true =>
    rcases Nat.eq_zero_or_pos left with rfl | hl
    · refine (write_out d _ off w h.head).mono ?_
      rintro e w' ⟨rfl, rfl⟩
      have hu : Upd (fun k => k = d) w (w.setCell ⟨d, 1, none⟩ (.bool true)) := (Upd.refl (fun k => k = d) w).setCell (p := ⟨d, 1, none⟩) (.inl rfl) _
      refine ⟨rfl, ?_, hu⟩
      have := h.top hu (off' := true) (armed' := true) (left' := 0) (h.head.put 1 (.bool true)) (Nat.zero_le _)
      simpa [wrB, wrL] using this
    · refine (write_down d _ off left w h.head hl h.lft).mono ?_
      rintro e w' ⟨rfl, rfl⟩
      have hu : Upd (fun k => k = d) w (w.setCell ⟨d, 3, none⟩ (.int .i64 ((left - 1 : Nat) : Int))) := (Upd.refl (fun k => k = d) w).setCell (p := ⟨d, 3, none⟩) (.inl rfl) _
      have hb : wrB true left = true := by simp [wrB]; omega
      refine ⟨by rw [hb], ?_, hu⟩
      have := h.top hu (off' := off) (armed' := true) (left' := left - 1) (h.head.put 3 _) (by have := h.lft; omega)
      simpa [hb, wrL] using this

/-- A file without bytes has come. -/
theorem DiskL.make (h : DiskL w d mb off armed left L) {r : FRec} (hm : r.nm.length ≤ maxLen) (hf : L.find? (fun x => x.nm == r.nm) = none) (hc : r.c = []) (hv : r.cv = .slice none 0 0) (hd : r.dur = 0)
    (hfb : w.heap.size ≤ r.fb) (hu : Upd (fun k => k = mb) w w') (hb : Blk w' r.fb 109 #[r.cv, .int .i64 r.dur]) (hmap : w'.ownsMap Try.prog 9 fileR mb (L.length + 1) (mapD (insR r L))) :
    DiskL w' d mb off armed left (insR r L) := by
  have hne : ∀ {x}, x ∈ L → x.fb ≠ mb := fun {x} hx e => ownsMap_ne_blk h.files (h.file x hx) e.symm
  have hown : Own w' 5 1 r.cv r.c.length (r.c.map byteV) := by rw [hv, hc]; exact Own.nil _ _ _
  have hno : ∀ k, ¬ OwnB r.cv k := by rw [hv]; intro k; simp [OwnB, Value.ownBlock]
  refine { head := hu.blk h.head (fun e => ownsMap_ne_blk h.files h.head e.symm), files := by rw [length_insR]; exact hmap, file := ?_, own := ?_, dur := ?_, nm := ?_, fbs := ?_, gs := ?_, lft := h.lft, len := ?_ }
  · intro x hx
    rcases mem_insR.1 hx with rfl | hx
    · exact hb
    · exact hu.blk (h.file x hx) (hne hx)
  · intro x hx
    rcases mem_insR.1 hx with rfl | hx
    · exact hown
    · exact (h.own x hx).upd hu (fun k hk e => ownsMap_ne_own h.files (h.own x hx) hk e.symm)
  · intro x hx
    rcases mem_insR.1 hx with rfl | hx
    · rw [hd]; exact Nat.zero_le _
    · exact h.dur x hx
  · intro x hx
    rcases mem_insR.1 hx with rfl | hx
    · exact hm
    · exact h.nm x hx
  · exact pairwise_insR (fun _ _ h e => h e.symm) h.fbs (fun x hx e => by have := (h.file x hx).lt; omega)
  · exact pairwise_insR (fun _ _ h k a b => h k b a) h.gs (fun x hx k hk => absurd hk (hno k))
  · intro x hx
    rcases mem_insR.1 hx with rfl | hx
    · rw [hc]; simp
    · exact h.len x hx
end
end

section
open Go.RowKit Go.Maps

theorem byte_info : (Try.prog.info? 5).map (fun i => (i.zero, i.size, i.bytes)) = some (some (.int .u8 0), 1, 1) := by kernel_rfl

/-- A new slice of bytes. -/
def NewB (w : World) (bs : List UInt8) (v : Value) (w' : World) : Prop :=
  Own w' 5 1 v bs.length (bs.map byteV) ∧ (∀ k, OwnB v k → w.heap.size ≤ k) ∧ Upd NoF w w'

theorem own_of_ownsRow {w : World} {base : Nat} {e : TypeId} {size n : Nat} {v : Value} {xs : List Value} (h : w.ownsRow base e size v n xs) : Own w e size v n xs ∧ ∀ k, OwnB v k → base ≤ k := by
  refine ⟨⟨h.1, ?_⟩, fun k hk => ?_⟩
  · rcases h.2 with h | ⟨g, cap, cur, rfl, _, hg, h1, h2, h3, h4⟩
    · exact .inl h
    · exact .inr ⟨g, cap, cur, rfl, hg, h1, h2, Nat.le_of_eq h3.symm, h4⟩
  · exact (h.lt k hk).1

def ClonePost (w : World) (bs : List UInt8) (e : Ending) (w' : World) : Prop := ∃ A c, e = .returned (.slice A bs.length c) ∧ NewB w bs (.slice A bs.length c) w'

theorem clone_any (v : Value) (bs : List UInt8) (w : World) (h : Rd w 1 v bs.length (bs.map byteV)) (hl : bs.length ≤ 140737488355328) : Calls Try.prog 49 #[v] w (ClonePost w bs) := by
  obtain ⟨A, c, rfl, hn, hc, hlen, hA⟩ := h
  cases A with
  | none =>
    have h0 : bs = [] := by
      cases bs with
      | nil => rfl
      | cons b l =>
        obtain ⟨g, o, h, _⟩ := hA (by simp)
        cases h
    subst h0
    refine (Try.bytes_Clone_nil 0 c w).mono ?_
    rintro e w' ⟨rfl, rfl⟩
    exact ⟨none, 0, rfl, Own.nil _ _ _, fun k hk => by simp [OwnB, Value.ownBlock] at hk, Upd.refl _ _⟩
  | some a =>
    refine (Try.bytes_Clone_at a bs.length c (bs.map fun b => (b.toNat : Int)) w (by simp) hl ?_).mono ?_
    · intro i hi
      obtain ⟨g, o, ha, hcell⟩ := hA (by omega)
      injection ha with ha
      subst ha
      have hadd : (⟨g, o, none⟩ : Addr).add i = ⟨g, o + i, none⟩ := by unfold Addr.add; split <;> simp_all
      rw [hadd, hcell i (byteV bs[i]) (by simp [hi])]
      simp [hi]
    · rintro e w' ⟨v', rfl, hrow, _, hb⟩
      obtain ⟨h1, h2⟩ := own_of_ownsRow hrow
      obtain ⟨A', c', rfl⟩ := h1.form
      refine ⟨A', c', rfl, ?_, h2, Upd.of_below hb (fun i hi h => by omega)⟩
      have : (bs.map fun b => (b.toNat : Int)).map (Value.int .u8) = bs.map byteV := by simp [byteV]
      rw [← this]
      exact h1

theorem new_any (w : World) : Calls Try.prog 12 #[] w fun e w' => e = .returned (ptrV (w.heap.size + 1)) ∧ DiskL w' (w.heap.size + 1) w.heap.size false false 0 [] ∧ Upd NoF w w' := by
  have hmm := @run_makeMap Try.prog
  go_enter Try.func12, Try.ntmps12
  go_wp2
  go_ret
  refine ⟨by simp, ?_, ((Upd.refl _ _).alloc _).alloc _⟩
  refine { head := by simpa using Blk.new (w.alloc (.map #[] 0)) 77 _, files := ?_, file := by simp, own := by simp, dur := by simp, nm := by simp, fbs := .nil, gs := .nil, lft := by simp, len := by simp }
  exact (World.ownsMap_made w Try.prog 9 fileR).alloc _

section
variable {w : World} {d mb : Nat} {off armed : Bool} {left : Nat} {L : List FRec}

theorem read_arg (d : Nat) (w : World) : Calls Try.prog 47 #[ptrV d, strV []] w fun e w' => e = retPE (.slice none 0 0) 1 ∧ w = w' := by
  go_enter Try.func47, Try.ntmps47
  go_wp2_with (go_at_call 70; refine (existing_arg _ _).mono ?_; rintro e w' ⟨rfl, rfl⟩)
  go_ret2
  exact ⟨rfl, rfl⟩
theorem read_off (h : DiskL w d mb true armed left L) (nm : List UInt8) (hn : nm.isEmpty = false) : Calls Try.prog 47 #[ptrV d, strV nm] w fun e w' => e = retPE (.slice none 0 0) 103 ∧ w = w' := by
  have H := Lib.hid h
  clear h
  go_enter Try.func47, Try.ntmps47
  go_wp2_with (go_at_call 70; refine (existing_off H.out _ hn).mono ?_; rintro e w' ⟨rfl, rfl⟩)
  go_ret2
  exact ⟨rfl, rfl⟩
theorem read_no (h : DiskL w d mb false armed left L) (nm : List UInt8) (hn : nm.isEmpty = false) (hm : nm.length ≤ maxLen) (hf : L.find? (fun r => r.nm == nm) = none) :
    Calls Try.prog 47 #[ptrV d, strV nm] w fun e w' => e = retPE (.slice none 0 0) 6 ∧ w = w' := by
  have H := Lib.hid (existing_no h nm hn hm hf)
  clear h hf
  go_enter Try.func47, Try.ntmps47
  go_wp2_with (go_at_call 70; refine H.out.mono ?_; rintro e w' ⟨rfl, rfl⟩)
  go_ret2
  exact ⟨rfl, rfl⟩
/-- A file's content as it is read: new memory. -/
def ReadPost (w : World) (bs : List UInt8) (e : Ending) (w' : World) : Prop := ∃ A c, e = retPE (.slice A bs.length c) 0 ∧ NewB w bs (.slice A bs.length c) w'
theorem read_yes (h : DiskL w d mb false armed left L) (nm : List UInt8) (hn : nm.isEmpty = false) (hm : nm.length ≤ maxLen) (r : FRec) (hf : L.find? (fun r => r.nm == nm) = some r) :
    Calls Try.prog 47 #[ptrV d, strV nm] w (ReadPost w r.c) := by
  have hr : r ∈ L := List.mem_of_find?_eq_some hf
  have H := Lib.hid (existing_yes h nm hn hm r hf)
  have c0 : w.cell? ⟨r.fb, 0, none⟩ = some r.cv := (h.file r hr).cell 0
  have C := Lib.hid (clone_any r.cv r.c w (h.own r hr).rd (by have := h.len r hr; omega))
  clear h hf hr
  go_enter Try.func47, Try.ntmps47
  go_wp2_with (first | (go_at_call 70; refine H.out.mono ?_; rintro e w' ⟨rfl, rfl⟩) | (go_at_call 49; refine C.out.mono ?_; rintro e w' ⟨A, c, rfl, hnew⟩))
  go_ret2
  exact ⟨A, c, rfl, hnew⟩
end
end

section
open Go.RowKit Go.Maps

abbrev retE (e : Int) : Ending := .returned (.int .i64 e)
def codeW (armed : Bool) (left : Nat) : Int := if wrB armed left then 0 else 103

section
variable {w : World} {d mb : Nat} {off armed : Bool} {left : Nat} {L : List FRec}

theorem append_arg (d : Nat) (v : Value) (w : World) : Calls Try.prog 44 #[ptrV d, strV [], v] w fun e w' => e = retE 1 ∧ w = w' := by
  go_enter Try.func44, Try.ntmps44
  go_wp2_with (go_at_call 66; refine (open_arg _ _ (.inr ⟨d, rfl⟩)).mono ?_; rintro e w' ⟨rfl, rfl⟩)
  go_ret
  exact ⟨rfl, rfl⟩
theorem append_off (h : DiskL w d mb true armed left L) (nm : List UInt8) (hn : nm.isEmpty = false) (v : Value) : Calls Try.prog 44 #[ptrV d, strV nm, v] w fun e w' => e = retE 103 ∧ w = w' := by
  have H := Lib.hid h
  clear h
  go_enter Try.func44, Try.ntmps44
  go_wp2_with (go_at_call 66; refine (open_off H.out _ hn).mono ?_; rintro e w' ⟨rfl, rfl⟩)
  go_ret
  exact ⟨rfl, rfl⟩

/-- The file r has got new content. -/
def AppPost (w : World) (d mb : Nat) (armed : Bool) (left : Nat) (L : List FRec) (r : FRec) (c' : List UInt8) (e : Ending) (w' : World) : Prop :=
  e = retE (codeW armed left) ∧ ∃ r' : FRec, r'.nm = r.nm ∧ r'.fb = r.fb ∧ r'.c = c' ∧ r'.dur = r.dur ∧ DiskL w' d mb (!wrB armed left) armed (wrL armed left) (setR r' L) ∧ Upd (foot d mb L) w w' ∧
    ∀ k, foot d mb (setR r' L) k → foot d mb L k ∨ w.heap.size ≤ k

theorem app_turn (h : DiskL w d mb off armed left L) {r : FRec} (hr : r ∈ L) {b : List UInt8} (hl : r.c.length + b.length ≤ 1099511627776) {w1 : World} {A : Option Addr} {c : Nat}
    (ho : Own w1 5 1 (.slice A (r.c.length + b.length) c) (r.c.length + b.length) (r.c.map byteV ++ b.map byteV)) (hu : Upd (OwnB r.cv) w w1)
    (hn : ∀ k, OwnB (.slice A (r.c.length + b.length) c) k → OwnB r.cv k ∨ w.heap.size ≤ k) :
    DiskL (w1.setCell ⟨r.fb, 0, none⟩ (.slice A (r.c.length + b.length) c)) d mb off armed left (setR { r with cv := .slice A (r.c.length + b.length) c, c := r.c ++ b } L) ∧
    Upd (fun k => k = r.fb ∨ OwnB r.cv k) w (w1.setCell ⟨r.fb, 0, none⟩ (.slice A (r.c.length + b.length) c)) := by
  have hf := h.file r hr
  have hw := h.own r hr
  have hf1 : Blk w1 r.fb 109 #[r.cv, .int .i64 r.dur] := hu.blk hf (hw.blk_ne hf (by decide))
  have hu1 : Upd (fun k => k = r.fb ∨ OwnB r.cv k) w (w1.setCell ⟨r.fb, 0, none⟩ (.slice A (r.c.length + b.length) c)) := (hu.mono (fun _ _ h => .inr h)).setCell (p := ⟨r.fb, 0, none⟩) (.inl (.inl rfl)) _
  refine ⟨h.turn hr rfl rfl (by have := h.dur r hr; simp; omega) (by simpa using hl) hu1 (hf1.put 0 _) ?_ hn, hu1⟩
  have ho' : Own w1 5 1 (.slice A (r.c.length + b.length) c) (r.c ++ b).length ((r.c ++ b).map byteV) := by simpa using ho
  exact ho'.upd ((Upd.refl (fun k => k = r.fb) w1).setCell (p := ⟨r.fb, 0, none⟩) (.inl rfl) _) (fun k hk => ho'.ne_of hf1 (by decide) hk)

set_option maxRecDepth 100000 in
set_option maxHeartbeats 400000 in
theorem append_yes (h : DiskL w d mb false armed left L) (nm : List UInt8) (hn : nm.isEmpty = false) (hm : nm.length ≤ maxLen) (r : FRec) (hf : L.find? (fun r => r.nm == nm) = some r)
    (v : Value) (b : List UInt8) (hb : Rd w 1 v b.length (b.map byteV)) (hl : r.c.length + b.length ≤ 1099511627776) :
    Calls Try.prog 44 #[ptrV d, strV nm, v] w (AppPost w d mb armed left L r (r.c ++ b)) := by
  have hr : r ∈ L := List.mem_of_find?_eq_some hf
  have ho : Calls Try.prog 66 #[ptrV d, strV nm] w fun e w' => e = retPE (ptrV r.fb) 0 ∧ w = w' := by
    have := open_on h nm hn hm
    unfold atV at this
    rwa [hf] at this
  have O := Lib.hid ho
  have H := Lib.hid h
  have c0 : w.cell? ⟨r.fb, 0, none⟩ = some r.cv := (h.file r hr).cell 0
  have hfile := Lib.hid (h.file r hr)
  obtain ⟨i0, hi, hz0, hz1, hz2⟩ := info_parts byte_info
  have hown := Lib.hid (h.own r hr)
  have hrd := Lib.hid hb
  have hlen := Lib.hid hl
  have hmax := Lib.hid (show r.c.length + b.length ≤ maxLen by unfold maxLen; omega)
  have hmul := Lib.hid (show (r.c.length + b.length) * 1 ≤ 140737488355328 by omega)
  have fin : ∀ (e : Ending) (w' : World) (r' : FRec) (w2 : World), r'.nm = r.nm → r'.fb = r.fb → r'.c = r.c ++ b → r'.dur = r.dur → e = retE (codeW armed left) → Upd (fun k => k = r.fb ∨ OwnB r.cv k) w w2 → (∀ k, OwnB r'.cv k → OwnB r.cv k ∨ w.heap.size ≤ k) →
      DiskL w' d mb (false || !wrB armed left) armed (wrL armed left) (setR r' L) → Upd (fun k => k = d) w2 w' → AppPost w d mb armed left L r (r.c ++ b) e w' := by
    intro e w' r' w2 h1 h2 h3 h4 he hu2 hn2 hd2 hu3
    refine ⟨he, r', h1, h2, h3, h4, by simpa using hd2, ?_, fun k hk => foot_setR hr h2 hn2 hk⟩
    refine (hu2.mono ?_).trans hu3 ?_
    · rintro k _ (rfl | hk)
      · exact .inr (.inr ⟨r, hr, .inl rfl⟩)
      · exact .inr (.inr ⟨r, hr, .inr hk⟩)
    · rintro k _ rfl
      exact .inl rfl
  have FIN := Lib.hid fin
  clear h ho hf hb hm hl fin
  cases hwb : wrB armed left
  all_goals
    go_enter Try.func44, Try.ntmps44
    go_wp2_with (first
      | (go_at_call 66; refine O.out.mono ?_; rintro e w' ⟨rfl, rfl⟩)
      | (at_builtin; refine wpList_append_to _ rfl _ _ 36 rfl 5 i0 (.int .u8 0) 1 1 Try.underlying36 hi hz0 hz1 hz2 rfl r.cv r.c.length _ rfl hown.out v b.length (b.map byteV) rfl hrd.out (bytes_oneCell b) hmax.out hmul.out ?_; intro A c w1 hown1 hupd hnew; have hD := Lib.hid (app_turn H.out hr hlen.out hown1 hupd hnew); have hf1 := hupd.blk hfile.out (hown.out.blk_ne hfile.out (by decide)); have hc1 := hf1.cell 0; have hz1 := hf1.frozen 0; have hN := Lib.hid hnew; clear hf1 hown1 hupd hnew)
      | (go_at_call 67; refine (write_any hD.out.1).mono ?_; rintro e w' ⟨rfl, hd2, hu2⟩; have hD2 := Lib.hid hd2; have hU2 := Lib.hid hu2; clear hd2 hu2))
    go_ret
    exact FIN.out _ _ { r with cv := .slice A (r.c.length + b.length) c, c := r.c ++ b } _ rfl rfl rfl rfl (by simp [codeW, hwb]) hD.out.2 hN.out hD2.out hU2.out
end
end
end Go.Proofs.Ytbgificdilpdcaa
