/- The order of votes: Less of package vote and of the reference. No condition. From a contract 'it returns true and turns nothing that was there' to the row of a statement. No condition. Arguments of the statements, opened: slices of bytes and of integers, strings, slices of slices of bytes. No condition. Arguments of the statements, opened: a slice of structs whose fields take one cell each; the acts of DiskActs. No condition. -/
import Derived.Test.YtbgificdilpdcaaGreatJn10
import Derived.Outline
import Derived.Test.YtbgificdilpdcaaGreatRows
import Derived.Test.YtbgificdilpdcaaGreatJn1
import Derived.ProofKit
import Derived.OpenShut
import Derived.Carry
import Derived.Test.YtbgificdilpdcaaGreatJn7
import Derived.Deep.Slices
import Derived.Deep.Fields
namespace Go.Proofs.YtbgificdilpdcaaGreat
section
open Go.RowKit

/-- A name read out of a variable. -/
theorem wpList_load_name {ops : Array Oper} {rest : List Oper} {op : Oper} {a : Act} {w : World} {Q : Exit → Act → World → Prop} (hgd : op.guard = none) (x : Operand) (ho : op.op = .load 53 x)
    (b o : Nat) (hx : a.eval x = .pointer (some ⟨b, o, none⟩)) (l : List UInt8) (hl : l.length = 8) (hc : w.rangeAt b o (l.map byteV)) (v : Value) (hv : nameV l = v)
    (h : wpList Tryz.prog ops Q rest (a.put op.dst v) w) : wpList Tryz.prog ops Q (op :: rest) a w := by
  subst hv
  exact wpList_load_mid hgd 53 x ho b o hx (l.map byteV) _ hc Tryz.underlying53 rfl (by rw [show (Tryz.prog.info? 53).map (·.size) = some 8 by kernel_rfl]; simp [hl]) h

theorem range_part {w : World} {g : Nat} {t : TypeId} {cs : Array Value} (h : Blk w g t cs) {o : Nat} {xs : List Value} (hx : ∀ (j : Nat) u, xs[j]? = some u → cs[o + j]? = some u) : w.rangeAt g o xs := fun j v hv => by
  rw [h.cell]
  exact hx j v hv

def five (v : VoteS) : List Int := [v.slot, v.round, v.kind, v.signer, v.choice]
theorem lessV_at {a b : VoteS} (hp : a.parent = b.parent) {k : Nat} {x y : Int} (h : ∀ j, j < k → (five a)[j]? = (five b)[j]?) (hx : (five a)[k]? = some x) (hy : (five b)[k]? = some y) (hne : x ≠ y) : lessV a b = decide (x < y) := by
  have hk : k < 5 := (List.getElem?_eq_some_iff.1 hx).1
  have e : k = 0 ∨ k = 1 ∨ k = 2 ∨ k = 3 ∨ k = 4 := by omega
  unfold lessV
  rw [if_pos hp]
  rcases e with rfl | rfl | rfl | rfl | rfl
  · simp [five] at hx hy; subst hx hy; rw [if_neg hne]
  · have h0 := h 0 (by omega)
    simp [five] at hx hy h0; subst hx hy; rw [if_pos h0, if_neg hne]
  · have h0 := h 0 (by omega)
    have h1 := h 1 (by omega)
    simp [five] at hx hy h0 h1; subst hx hy; rw [if_pos h0, if_pos h1, if_neg hne]
  · have h0 := h 0 (by omega)
    have h1 := h 1 (by omega)
    have h2 := h 2 (by omega)
    simp [five] at hx hy h0 h1 h2; subst hx hy; rw [if_pos h0, if_pos h1, if_pos h2, if_neg hne]
  · have h0 := h 0 (by omega)
    have h1 := h 1 (by omega)
    have h2 := h 2 (by omega)
    have h3 := h 3 (by omega)
    simp [five] at hx hy h0 h1 h2 h3; subst hx hy; rw [if_pos h0, if_pos h1, if_pos h2, if_pos h3, if_neg hne]
theorem lessV_val {a b : VoteS} (hp : a.parent = b.parent) (h : ∀ j, j < 5 → (five a)[j]? = (five b)[j]?) : lessV a b = if a.value = b.value then decide (a.support < b.support) else lessN a.value b.value := by
  have h0 := h 0 (by omega)
  have h1 := h 1 (by omega)
  have h2 := h 2 (by omega)
  have h3 := h 3 (by omega)
  have h4 := h 4 (by omega)
  simp [five] at h0 h1 h2 h3 h4
  unfold lessV
  rw [if_pos hp, if_pos h0, if_pos h1, if_pos h2, if_pos h3, if_pos h4]
def LsRel (a b : VoteS) (W : World) (i : Value) (wr : World) : Prop := ∃ k q : Nat, k ≤ 5 ∧ i = .int .i64 k ∧ (∀ j, j < k → (five a)[j]? = (five b)[j]?) ∧ wr = W.drewN q
theorem five_cell (v : VoteS) {k : Nat} {x : Int} (h : (five v)[k]? = some x) : (#[.int .i64 v.slot, .int .i64 v.round, .int .i64 v.kind, .int .i64 v.signer, .int .i64 v.choice] : Array Value)[k]? = some (.int .i64 x) := by
  have : ((five v).map (Value.int .i64))[k]? = some (.int .i64 x) := by rw [List.getElem?_map, h]; rfl
  simpa [five] using this


set_option maxRecDepth 100000 in
set_option maxHeartbeats 4000000 in
theorem vLess_p {a b : VoteS} (ha : a.Fit) (hb : b.Fit) (w : World) (hp : ¬ a.parent = b.parent) : Calls Tryz.prog 104 #[voteV a, voteV b] w fun e w' => e = .returned (.bool (lessV a b)) ∧ Upd NoF w w' := by
  have HZ := Lib.hid (show lessV a b = lessN a.parent b.parent from by unfold lessV; rw [if_neg hp])
  have hne : ∀ w, (binOp .neq 53 (nameV a.parent) (nameV b.parent)).run Tryz.prog w = .ok (.bool true) w := fun w => by rw [name_neq _ _ ha.parent hb.parent, beq_eq_false_iff_ne.2 hp]; rfl
  have CL := hLess_any a.parent b.parent ha.parent hb.parent
  obtain ⟨pa, hpa⟩ : ∃ pa, nameV a.parent = .agg pa := ⟨_, rfl⟩
  obtain ⟨pb, hpb⟩ : ∃ pb, nameV b.parent = .agg pb := ⟨_, rfl⟩
  rw [hpa, hpb] at hne CL
  have HCL := Lib.hid CL
  have HPA := Lib.hid hpa
  have HPB := Lib.hid hpb
  have HA := Lib.hid ha
  have HB := Lib.hid hb
  have B1 := Lib.hid ((Blk.new w 55 (voteCells a).toArray).alloc (.cells (voteCells b).toArray 55))
  have B2 := Lib.hid (show Blk ((w.alloc (.cells (voteCells a).toArray 55)).alloc (.cells (voteCells b).toArray 55)) (w.heap.size + 1) 55 (voteCells b).toArray from by have := Blk.new (w.alloc (.cells (voteCells a).toArray 55)) 55 (voteCells b).toArray; simpa using this)
  clear hpa hpb ha hb hp CL
  generalize lessV a b = Z at HZ ⊢
  go_enter Tryz.func104, Tryz.ntmps104
  go_wp2_with (first
    | (refine wpList_load_name rfl (.tmp 8) rfl (w.heap.size) 6 rfl a.parent HA.out.parent (range_part B1.out (fun j u hu => by have := vc_parent HA.out j u hu; simpa using this)) (.agg pa) HPA.out ?_)
    | (refine wpList_load_name rfl (.tmp 10) rfl (w.heap.size + 1) 6 rfl b.parent HB.out.parent (range_part B2.out (fun j u hu => by have := vc_parent HB.out j u hu; simpa using this)) (.agg pb) HPB.out ?_)
    | (refine wpList_load_name rfl (.tmp 13) rfl (w.heap.size) 6 rfl a.parent HA.out.parent (range_part B1.out (fun j u hu => by have := vc_parent HA.out j u hu; simpa using this)) (.agg pa) HPA.out ?_)
    | (refine wpList_load_name rfl (.tmp 15) rfl (w.heap.size + 1) 6 rfl b.parent HB.out.parent (range_part B2.out (fun j u hu => by have := vc_parent HB.out j u hu; simpa using this)) (.agg pb) HPB.out ?_))
  refine (HCL.out _).mono ?_
  rintro e w1 ⟨rfl, hu1⟩
  have U1 := Lib.hid hu1
  clear hu1
  go_wp2
  go_ret
  exact ⟨retb HZ.out.symm, (((Upd.refl NoF w).alloc _).alloc _).trans U1.out (fun _ _ h => h)⟩

set_option maxRecDepth 100000 in
set_option maxHeartbeats 4000000 in
theorem vLess_q {a b : VoteS} (ha : a.Fit) (hb : b.Fit) (w : World) (hp : a.parent = b.parent) : Calls Tryz.prog 104 #[voteV a, voteV b] w fun e w' => e = .returned (.bool (lessV a b)) ∧ Upd NoF w w' := by
  have hne : ∀ w, (binOp .neq 53 (nameV a.parent) (nameV b.parent)).run Tryz.prog w = .ok (.bool false) w := fun w => by rw [name_neq _ _ ha.parent hb.parent, hp]; simp
  have hnv : ∀ w, (binOp .neq 53 (nameV a.value) (nameV b.value)).run Tryz.prog w = .ok (.bool (!(a.value == b.value))) w := fun w => name_neq _ _ ha.value hb.value w
  have CL := hLess_any a.value b.value ha.value hb.value
  obtain ⟨pa, hpa⟩ : ∃ pa, nameV a.parent = .agg pa := ⟨_, rfl⟩
  obtain ⟨pb, hpb⟩ : ∃ pb, nameV b.parent = .agg pb := ⟨_, rfl⟩
  obtain ⟨va, hva⟩ : ∃ pa, nameV a.value = .agg pa := ⟨_, rfl⟩
  obtain ⟨vb, hvb⟩ : ∃ pb, nameV b.value = .agg pb := ⟨_, rfl⟩
  rw [hpa, hpb] at hne
  rw [hva, hvb] at hnv CL
  have HCL := Lib.hid CL
  have HNV := Lib.hid hnv
  have HPA := Lib.hid hpa
  have HPB := Lib.hid hpb
  have HVA := Lib.hid hva
  have HVB := Lib.hid hvb
  have HA := Lib.hid ha
  have HB := Lib.hid hb
  have HP := Lib.hid hp
  have B1 := Lib.hid ((Blk.new w 55 (voteCells a).toArray).alloc (.cells (voteCells b).toArray 55))
  have B2 := Lib.hid (show Blk ((w.alloc (.cells (voteCells a).toArray 55)).alloc (.cells (voteCells b).toArray 55)) (w.heap.size + 1) 55 (voteCells b).toArray from by have := Blk.new (w.alloc (.cells (voteCells a).toArray 55)) 55 (voteCells b).toArray; simpa using this)
  have x0 : (voteCells a)[0]? = some (.int .i64 a.kind) := vc0 a
  have y0 : (voteCells b)[0]? = some (.int .i64 b.kind) := vc0 b
  have x1 : (voteCells a)[1]? = some (.int .i64 a.slot) := vc1 a
  have y1 : (voteCells b)[1]? = some (.int .i64 b.slot) := vc1 b
  have x2 : (voteCells a)[2]? = some (.int .i64 a.round) := vc2 a
  have y2 : (voteCells b)[2]? = some (.int .i64 b.round) := vc2 b
  have x3 : (voteCells a)[3]? = some (.int .i64 a.choice) := vc3 a
  have y3 : (voteCells b)[3]? = some (.int .i64 b.choice) := vc3 b
  have x4 : (voteCells a)[4]? = some (.int .i64 a.signer) := vc4 a
  have y4 : (voteCells b)[4]? = some (.int .i64 b.signer) := vc4 b
  have x5 : (voteCells a)[5]? = some (.int .i64 a.support) := vc5 a
  have y5 : (voteCells b)[5]? = some (.int .i64 b.support) := vc5 b
  clear hpa hpb ha hb hp hva hvb hnv CL
  go_enter Tryz.func104, Tryz.ntmps104
  go_wp2_with (first
    | (refine wpList_load_name rfl (.tmp 8) rfl (w.heap.size) 6 rfl a.parent HA.out.parent (range_part B1.out (fun j u hu => by have := vc_parent HA.out j u hu; simpa using this)) (.agg pa) HPA.out ?_)
    | (refine wpList_load_name rfl (.tmp 10) rfl (w.heap.size + 1) 6 rfl b.parent HB.out.parent (range_part B2.out (fun j u hu => by have := vc_parent HB.out j u hu; simpa using this)) (.agg pb) HPB.out ?_))
  obtain ⟨W, hW⟩ : ∃ W, W = ((((w.alloc (.cells (voteCells a).toArray 55)).alloc (.cells (voteCells b).toArray 55)).alloc (.cells #[.int .i64 a.slot, .int .i64 a.round, .int .i64 a.kind, .int .i64 a.signer, .int .i64 a.choice] 136)).alloc (.cells #[.int .i64 b.slot, .int .i64 b.round, .int .i64 b.kind, .int .i64 b.signer, .int .i64 b.choice] 136)) := ⟨_, rfl⟩
  rw [← hW]
  have hb1 : Blk W w.heap.size 55 (voteCells a).toArray := by rw [hW]; exact (B1.out.alloc _).alloc _
  have hb2 : Blk W (w.heap.size + 1) 55 (voteCells b).toArray := by rw [hW]; exact (B2.out.alloc _).alloc _
  have hb3 : Blk W (w.heap.size + 1 + 1) 136 #[.int .i64 a.slot, .int .i64 a.round, .int .i64 a.kind, .int .i64 a.signer, .int .i64 a.choice] := by
    rw [hW]
    have := (Blk.new ((w.alloc (.cells (voteCells a).toArray 55)).alloc (.cells (voteCells b).toArray 55)) 136 #[.int .i64 a.slot, .int .i64 a.round, .int .i64 a.kind, .int .i64 a.signer, .int .i64 a.choice]).alloc (.cells #[.int .i64 b.slot, .int .i64 b.round, .int .i64 b.kind, .int .i64 b.signer, .int .i64 b.choice] 136)
    simpa using this
  have hb4 : Blk W (w.heap.size + 1 + 1 + 1) 136 #[.int .i64 b.slot, .int .i64 b.round, .int .i64 b.kind, .int .i64 b.signer, .int .i64 b.choice] := by
    rw [hW]
    have := Blk.new (((w.alloc (.cells (voteCells a).toArray 55)).alloc (.cells (voteCells b).toArray 55)).alloc (.cells #[.int .i64 a.slot, .int .i64 a.round, .int .i64 a.kind, .int .i64 a.signer, .int .i64 a.choice] 136)) 136 #[.int .i64 b.slot, .int .i64 b.round, .int .i64 b.kind, .int .i64 b.signer, .int .i64 b.choice]
    simpa using this
  have UW := Lib.hid (show Upd NoF w W from by rw [hW]; exact ((((Upd.refl NoF w).alloc _).alloc _).alloc _).alloc _)
  have BW1 := Lib.hid hb1
  have BW2 := Lib.hid hb2
  have BW3 := Lib.hid hb3
  have BW4 := Lib.hid hb4
  have s1 : W.cell? ⟨w.heap.size, 5, none⟩ = some (.int .i64 a.support) := (hb1.cell 5).trans (by simpa using vc5 a)
  have s2 : W.cell? ⟨w.heap.size + 1, 5, none⟩ = some (.int .i64 b.support) := (hb2.cell 5).trans (by simpa using vc5 b)
  clear hW hb1 hb2 hb3 hb4 x0 y0 x1 y1 x2 y2 x3 y3 x4 y4 x5 y5 B1 B2 hne
  go_loopw [7, 40] (fun _ i wr => LsRel a b W i wr) (fun _ i _ => 5 - (intOf i).toNat)
  case atStart => exact ⟨0, 0, by omega, rfl, fun j h => absurd h (by omega), rfl⟩
  case round =>
    obtain ⟨k, q, hk, rfl, heq, rfl⟩ := hrel
    by_cases hlt : k < 5
    · obtain ⟨x, hx⟩ : ∃ x, (five a)[k]? = some x := ⟨_, List.getElem?_eq_getElem hlt⟩
      obtain ⟨y, hy⟩ : ∃ y, (five b)[k]? = some y := ⟨_, List.getElem?_eq_getElem hlt⟩
      have cx : W.cell? ⟨w.heap.size + 1 + 1, k, none⟩ = some (.int .i64 x) := (BW3.out.cell k).trans (five_cell a hx)
      have cy : W.cell? ⟨w.heap.size + 1 + 1 + 1, k, none⟩ = some (.int .i64 y) := (BW4.out.cell k).trans (five_cell b hy)
      have t1 : decide ((k : Int) < 5) = true := by simp; omega
      have t1' : decide (k < 5) = true := by simp; omega
      have q0 : (0 : Int) ≤ (k : Int) := by omega
      have q1 : (k : Int) < 5 := by omega
      by_cases hxy : x = y
      · subst hxy
        have HR := Lib.hid (show ∀ j, j < k + 1 → (five a)[j]? = (five b)[j]? from fun j hj => by
          rcases Nat.lt_or_ge j k with h | h
          · exact heq j h
          · obtain rfl : j = k := by omega
            rw [hx, hy])
        clear hx hy heq
        go_wp2
        go_quiet (fail)
        go_wp2
        go_roundw
        case rel => exact ⟨k + 1, _, by omega, by go_num, HR.out, rfl⟩
        case measure => simp [intOf]; omega
      · have HZ := Lib.hid (lessV_at HP.out heq hx hy hxy)
        have t2 : (x == y) = false := by simpa using hxy
        have t2' : (x != y) = true := by simpa using hxy
        clear hx hy heq hxy
        go_wp2
        go_quiet (fail)
        go_wp2
        go_quiet (fail)
        go_wp2
        go_ret
        exact ⟨retb HZ.out.symm, ((UW.out.drewN _).drewN _).drewN _⟩
    · obtain rfl : k = 5 := by omega
      have HZ := Lib.hid (lessV_val HP.out heq)
      clear heq hk hlt
      by_cases hv : a.value = b.value
      · have hnv : ∀ w, (binOp .neq 53 (.agg va) (.agg vb)).run Tryz.prog w = .ok (.bool false) w := fun w => by rw [HNV.out w, hv]; simp
        have HV := Lib.hid hv
        clear hv
        go_wp2_with (first
          | (refine wpList_load_name rfl (.tmp 58) rfl (w.heap.size) 14 rfl a.value HA.out.value (range_part (BW1.out.drewN q) (fun j u hu => by have := vc_value HA.out j u hu; simpa using this)) (.agg va) HVA.out ?_)
          | (refine wpList_load_name rfl (.tmp 60) rfl (w.heap.size + 1) 14 rfl b.value HB.out.value (range_part (BW2.out.drewN q) (fun j u hu => by have := vc_value HB.out j u hu; simpa using this)) (.agg vb) HVB.out ?_))
        go_ret
        exact ⟨retb (by rw [HZ.out, if_pos HV.out]), UW.out.drewN _⟩
      · have hnv : ∀ w, (binOp .neq 53 (.agg va) (.agg vb)).run Tryz.prog w = .ok (.bool true) w := fun w => by rw [HNV.out w, beq_eq_false_iff_ne.2 hv]; rfl
        have HV := Lib.hid hv
        clear hv
        go_wp2_with (first
          | (refine wpList_load_name rfl (.tmp 58) rfl (w.heap.size) 14 rfl a.value HA.out.value (range_part (BW1.out.drewN q) (fun j u hu => by have := vc_value HA.out j u hu; simpa using this)) (.agg va) HVA.out ?_)
          | (refine wpList_load_name rfl (.tmp 60) rfl (w.heap.size + 1) 14 rfl b.value HB.out.value (range_part (BW2.out.drewN q) (fun j u hu => by have := vc_value HB.out j u hu; simpa using this)) (.agg vb) HVB.out ?_)
          | (refine wpList_load_name rfl (.tmp 63) rfl (w.heap.size) 14 rfl a.value HA.out.value (range_part (BW1.out.drewN q) (fun j u hu => by have := vc_value HA.out j u hu; simpa using this)) (.agg va) HVA.out ?_)
          | (refine wpList_load_name rfl (.tmp 65) rfl (w.heap.size + 1) 14 rfl b.value HB.out.value (range_part (BW2.out.drewN q) (fun j u hu => by have := vc_value HB.out j u hu; simpa using this)) (.agg vb) HVB.out ?_))
        refine (HCL.out _).mono ?_
        rintro e w1 ⟨rfl, hu1⟩
        have U1 := Lib.hid hu1
        clear hu1
        go_wp2
        go_ret
        exact ⟨retb (by rw [HZ.out, if_neg HV.out]), (UW.out.drewN _).trans U1.out (fun _ _ h => h)⟩

theorem vLess_any {a b : VoteS} (ha : a.Fit) (hb : b.Fit) (w : World) : Calls Tryz.prog 104 #[voteV a, voteV b] w fun e w' => e = .returned (.bool (lessV a b)) ∧ Upd NoF w w' := by
  by_cases hp : a.parent = b.parent
  · exact vLess_q ha hb w hp
  · exact vLess_p ha hb w hp


set_option maxRecDepth 100000 in
set_option maxHeartbeats 4000000 in
theorem rLess_p {a b : VoteS} (ha : a.Fit) (hb : b.Fit) (w : World) (hp : ¬ a.parent = b.parent) : Calls Tryz.prog 80 #[voteV a, voteV b] w fun e w' => e = .returned (.bool (lessV a b)) ∧ Upd NoF w w' := by
  have HZ := Lib.hid (show lessV a b = lessN a.parent b.parent from by unfold lessV; rw [if_neg hp])
  have hne : ∀ w, (binOp .neq 53 (nameV a.parent) (nameV b.parent)).run Tryz.prog w = .ok (.bool true) w := fun w => by rw [name_neq _ _ ha.parent hb.parent, beq_eq_false_iff_ne.2 hp]; rfl
  have CL := r1Less_any a.parent b.parent ha.parent hb.parent
  obtain ⟨pa, hpa⟩ : ∃ pa, nameV a.parent = .agg pa := ⟨_, rfl⟩
  obtain ⟨pb, hpb⟩ : ∃ pb, nameV b.parent = .agg pb := ⟨_, rfl⟩
  rw [hpa, hpb] at hne CL
  have HCL := Lib.hid CL
  have HPA := Lib.hid hpa
  have HPB := Lib.hid hpb
  have HA := Lib.hid ha
  have HB := Lib.hid hb
  have B1 := Lib.hid ((Blk.new w 55 (voteCells a).toArray).alloc (.cells (voteCells b).toArray 55))
  have B2 := Lib.hid (show Blk ((w.alloc (.cells (voteCells a).toArray 55)).alloc (.cells (voteCells b).toArray 55)) (w.heap.size + 1) 55 (voteCells b).toArray from by have := Blk.new (w.alloc (.cells (voteCells a).toArray 55)) 55 (voteCells b).toArray; simpa using this)
  clear hpa hpb ha hb hp CL
  generalize lessV a b = Z at HZ ⊢
  go_enter Tryz.func80, Tryz.ntmps80
  go_wp2_with (first
    | (refine wpList_load_name rfl (.tmp 8) rfl (w.heap.size) 6 rfl a.parent HA.out.parent (range_part B1.out (fun j u hu => by have := vc_parent HA.out j u hu; simpa using this)) (.agg pa) HPA.out ?_)
    | (refine wpList_load_name rfl (.tmp 10) rfl (w.heap.size + 1) 6 rfl b.parent HB.out.parent (range_part B2.out (fun j u hu => by have := vc_parent HB.out j u hu; simpa using this)) (.agg pb) HPB.out ?_)
    | (refine wpList_load_name rfl (.tmp 13) rfl (w.heap.size) 6 rfl a.parent HA.out.parent (range_part B1.out (fun j u hu => by have := vc_parent HA.out j u hu; simpa using this)) (.agg pa) HPA.out ?_)
    | (refine wpList_load_name rfl (.tmp 15) rfl (w.heap.size + 1) 6 rfl b.parent HB.out.parent (range_part B2.out (fun j u hu => by have := vc_parent HB.out j u hu; simpa using this)) (.agg pb) HPB.out ?_))
  refine (HCL.out _).mono ?_
  rintro e w1 ⟨rfl, hu1⟩
  have U1 := Lib.hid hu1
  clear hu1
  go_wp2
  go_ret
  exact ⟨retb HZ.out.symm, (((Upd.refl NoF w).alloc _).alloc _).trans U1.out (fun _ _ h => h)⟩

set_option maxRecDepth 100000 in
set_option maxHeartbeats 4000000 in
theorem rLess_q {a b : VoteS} (ha : a.Fit) (hb : b.Fit) (w : World) (hp : a.parent = b.parent) : Calls Tryz.prog 80 #[voteV a, voteV b] w fun e w' => e = .returned (.bool (lessV a b)) ∧ Upd NoF w w' := by
  have hne : ∀ w, (binOp .neq 53 (nameV a.parent) (nameV b.parent)).run Tryz.prog w = .ok (.bool false) w := fun w => by rw [name_neq _ _ ha.parent hb.parent, hp]; simp
  have hnv : ∀ w, (binOp .neq 53 (nameV a.value) (nameV b.value)).run Tryz.prog w = .ok (.bool (!(a.value == b.value))) w := fun w => name_neq _ _ ha.value hb.value w
  have CL := r1Less_any a.value b.value ha.value hb.value
  obtain ⟨pa, hpa⟩ : ∃ pa, nameV a.parent = .agg pa := ⟨_, rfl⟩
  obtain ⟨pb, hpb⟩ : ∃ pb, nameV b.parent = .agg pb := ⟨_, rfl⟩
  obtain ⟨va, hva⟩ : ∃ pa, nameV a.value = .agg pa := ⟨_, rfl⟩
  obtain ⟨vb, hvb⟩ : ∃ pb, nameV b.value = .agg pb := ⟨_, rfl⟩
  rw [hpa, hpb] at hne
  rw [hva, hvb] at hnv CL
  have HCL := Lib.hid CL
  have HNV := Lib.hid hnv
  have HPA := Lib.hid hpa
  have HPB := Lib.hid hpb
  have HVA := Lib.hid hva
  have HVB := Lib.hid hvb
  have HA := Lib.hid ha
  have HB := Lib.hid hb
  have HP := Lib.hid hp
  have B1 := Lib.hid ((Blk.new w 55 (voteCells a).toArray).alloc (.cells (voteCells b).toArray 55))
  have B2 := Lib.hid (show Blk ((w.alloc (.cells (voteCells a).toArray 55)).alloc (.cells (voteCells b).toArray 55)) (w.heap.size + 1) 55 (voteCells b).toArray from by have := Blk.new (w.alloc (.cells (voteCells a).toArray 55)) 55 (voteCells b).toArray; simpa using this)
  have x0 : (voteCells a)[0]? = some (.int .i64 a.kind) := vc0 a
  have y0 : (voteCells b)[0]? = some (.int .i64 b.kind) := vc0 b
  have x1 : (voteCells a)[1]? = some (.int .i64 a.slot) := vc1 a
  have y1 : (voteCells b)[1]? = some (.int .i64 b.slot) := vc1 b
  have x2 : (voteCells a)[2]? = some (.int .i64 a.round) := vc2 a
  have y2 : (voteCells b)[2]? = some (.int .i64 b.round) := vc2 b
  have x3 : (voteCells a)[3]? = some (.int .i64 a.choice) := vc3 a
  have y3 : (voteCells b)[3]? = some (.int .i64 b.choice) := vc3 b
  have x4 : (voteCells a)[4]? = some (.int .i64 a.signer) := vc4 a
  have y4 : (voteCells b)[4]? = some (.int .i64 b.signer) := vc4 b
  have x5 : (voteCells a)[5]? = some (.int .i64 a.support) := vc5 a
  have y5 : (voteCells b)[5]? = some (.int .i64 b.support) := vc5 b
  clear hpa hpb ha hb hp hva hvb hnv CL
  go_enter Tryz.func80, Tryz.ntmps80
  go_wp2_with (first
    | (refine wpList_load_name rfl (.tmp 8) rfl (w.heap.size) 6 rfl a.parent HA.out.parent (range_part B1.out (fun j u hu => by have := vc_parent HA.out j u hu; simpa using this)) (.agg pa) HPA.out ?_)
    | (refine wpList_load_name rfl (.tmp 10) rfl (w.heap.size + 1) 6 rfl b.parent HB.out.parent (range_part B2.out (fun j u hu => by have := vc_parent HB.out j u hu; simpa using this)) (.agg pb) HPB.out ?_))
  obtain ⟨W, hW⟩ : ∃ W, W = ((((w.alloc (.cells (voteCells a).toArray 55)).alloc (.cells (voteCells b).toArray 55)).alloc (.cells #[.int .i64 a.slot, .int .i64 a.round, .int .i64 a.kind, .int .i64 a.signer, .int .i64 a.choice] 136)).alloc (.cells #[.int .i64 b.slot, .int .i64 b.round, .int .i64 b.kind, .int .i64 b.signer, .int .i64 b.choice] 136)) := ⟨_, rfl⟩
  rw [← hW]
  have hb1 : Blk W w.heap.size 55 (voteCells a).toArray := by rw [hW]; exact (B1.out.alloc _).alloc _
  have hb2 : Blk W (w.heap.size + 1) 55 (voteCells b).toArray := by rw [hW]; exact (B2.out.alloc _).alloc _
  have hb3 : Blk W (w.heap.size + 1 + 1) 136 #[.int .i64 a.slot, .int .i64 a.round, .int .i64 a.kind, .int .i64 a.signer, .int .i64 a.choice] := by
    rw [hW]
    have := (Blk.new ((w.alloc (.cells (voteCells a).toArray 55)).alloc (.cells (voteCells b).toArray 55)) 136 #[.int .i64 a.slot, .int .i64 a.round, .int .i64 a.kind, .int .i64 a.signer, .int .i64 a.choice]).alloc (.cells #[.int .i64 b.slot, .int .i64 b.round, .int .i64 b.kind, .int .i64 b.signer, .int .i64 b.choice] 136)
    simpa using this
  have hb4 : Blk W (w.heap.size + 1 + 1 + 1) 136 #[.int .i64 b.slot, .int .i64 b.round, .int .i64 b.kind, .int .i64 b.signer, .int .i64 b.choice] := by
    rw [hW]
    have := Blk.new (((w.alloc (.cells (voteCells a).toArray 55)).alloc (.cells (voteCells b).toArray 55)).alloc (.cells #[.int .i64 a.slot, .int .i64 a.round, .int .i64 a.kind, .int .i64 a.signer, .int .i64 a.choice] 136)) 136 #[.int .i64 b.slot, .int .i64 b.round, .int .i64 b.kind, .int .i64 b.signer, .int .i64 b.choice]
    simpa using this
  have UW := Lib.hid (show Upd NoF w W from by rw [hW]; exact ((((Upd.refl NoF w).alloc _).alloc _).alloc _).alloc _)
  have BW1 := Lib.hid hb1
  have BW2 := Lib.hid hb2
  have BW3 := Lib.hid hb3
  have BW4 := Lib.hid hb4
  have s1 : W.cell? ⟨w.heap.size, 5, none⟩ = some (.int .i64 a.support) := (hb1.cell 5).trans (by simpa using vc5 a)
  have s2 : W.cell? ⟨w.heap.size + 1, 5, none⟩ = some (.int .i64 b.support) := (hb2.cell 5).trans (by simpa using vc5 b)
  clear hW hb1 hb2 hb3 hb4 x0 y0 x1 y1 x2 y2 x3 y3 x4 y4 x5 y5 B1 B2 hne
  go_loopw [7] (fun i wr => LsRel a b W i wr) (fun i _ => 5 - (intOf i).toNat)
  case atStart => exact ⟨0, 0, by omega, rfl, fun j h => absurd h (by omega), rfl⟩
  case round =>
    obtain ⟨k, q, hk, rfl, heq, rfl⟩ := hrel
    by_cases hlt : k < 5
    · obtain ⟨x, hx⟩ : ∃ x, (five a)[k]? = some x := ⟨_, List.getElem?_eq_getElem hlt⟩
      obtain ⟨y, hy⟩ : ∃ y, (five b)[k]? = some y := ⟨_, List.getElem?_eq_getElem hlt⟩
      have cx : W.cell? ⟨w.heap.size + 1 + 1, k, none⟩ = some (.int .i64 x) := (BW3.out.cell k).trans (five_cell a hx)
      have cy : W.cell? ⟨w.heap.size + 1 + 1 + 1, k, none⟩ = some (.int .i64 y) := (BW4.out.cell k).trans (five_cell b hy)
      have t1 : decide ((k : Int) < 5) = true := by simp; omega
      have t1' : decide (k < 5) = true := by simp; omega
      have q0 : (0 : Int) ≤ (k : Int) := by omega
      have q1 : (k : Int) < 5 := by omega
      by_cases hxy : x = y
      · subst hxy
        have HR := Lib.hid (show ∀ j, j < k + 1 → (five a)[j]? = (five b)[j]? from fun j hj => by
          rcases Nat.lt_or_ge j k with h | h
          · exact heq j h
          · obtain rfl : j = k := by omega
            rw [hx, hy])
        clear hx hy heq
        go_wp2
        go_quiet (fail)
        go_wp2
        go_roundw
        case rel => exact ⟨k + 1, _, by omega, by go_num, HR.out, rfl⟩
        case measure => simp [intOf]; omega
      · have HZ := Lib.hid (lessV_at HP.out heq hx hy hxy)
        have t2 : (x == y) = false := by simpa using hxy
        have t2' : (x != y) = true := by simpa using hxy
        clear hx hy heq hxy
        go_wp2
        go_quiet (fail)
        go_wp2
        go_quiet (fail)
        go_wp2
        go_ret
        exact ⟨retb HZ.out.symm, ((UW.out.drewN _).drewN _).drewN _⟩
    · obtain rfl : k = 5 := by omega
      have HZ := Lib.hid (lessV_val HP.out heq)
      clear heq hk hlt
      by_cases hv : a.value = b.value
      · have hnv : ∀ w, (binOp .neq 53 (.agg va) (.agg vb)).run Tryz.prog w = .ok (.bool false) w := fun w => by rw [HNV.out w, hv]; simp
        have HV := Lib.hid hv
        clear hv
        go_wp2_with (first
          | (refine wpList_load_name rfl (.tmp 58) rfl (w.heap.size) 14 rfl a.value HA.out.value (range_part (BW1.out.drewN q) (fun j u hu => by have := vc_value HA.out j u hu; simpa using this)) (.agg va) HVA.out ?_)
          | (refine wpList_load_name rfl (.tmp 60) rfl (w.heap.size + 1) 14 rfl b.value HB.out.value (range_part (BW2.out.drewN q) (fun j u hu => by have := vc_value HB.out j u hu; simpa using this)) (.agg vb) HVB.out ?_))
        go_ret
        exact ⟨retb (by rw [HZ.out, if_pos HV.out]), UW.out.drewN _⟩
      · have hnv : ∀ w, (binOp .neq 53 (.agg va) (.agg vb)).run Tryz.prog w = .ok (.bool true) w := fun w => by rw [HNV.out w, beq_eq_false_iff_ne.2 hv]; rfl
        have HV := Lib.hid hv
        clear hv
        go_wp2_with (first
          | (refine wpList_load_name rfl (.tmp 58) rfl (w.heap.size) 14 rfl a.value HA.out.value (range_part (BW1.out.drewN q) (fun j u hu => by have := vc_value HA.out j u hu; simpa using this)) (.agg va) HVA.out ?_)
          | (refine wpList_load_name rfl (.tmp 60) rfl (w.heap.size + 1) 14 rfl b.value HB.out.value (range_part (BW2.out.drewN q) (fun j u hu => by have := vc_value HB.out j u hu; simpa using this)) (.agg vb) HVB.out ?_)
          | (refine wpList_load_name rfl (.tmp 63) rfl (w.heap.size) 14 rfl a.value HA.out.value (range_part (BW1.out.drewN q) (fun j u hu => by have := vc_value HA.out j u hu; simpa using this)) (.agg va) HVA.out ?_)
          | (refine wpList_load_name rfl (.tmp 65) rfl (w.heap.size + 1) 14 rfl b.value HB.out.value (range_part (BW2.out.drewN q) (fun j u hu => by have := vc_value HB.out j u hu; simpa using this)) (.agg vb) HVB.out ?_))
        refine (HCL.out _).mono ?_
        rintro e w1 ⟨rfl, hu1⟩
        have U1 := Lib.hid hu1
        clear hu1
        go_wp2
        go_ret
        exact ⟨retb (by rw [HZ.out, if_neg HV.out]), (UW.out.drewN _).trans U1.out (fun _ _ h => h)⟩

theorem rLess_any {a b : VoteS} (ha : a.Fit) (hb : b.Fit) (w : World) : Calls Tryz.prog 80 #[voteV a, voteV b] w fun e w' => e = .returned (.bool (lessV a b)) ∧ Upd NoF w w' := by
  by_cases hp : a.parent = b.parent
  · exact rLess_q ha hb w hp
  · exact rLess_p ha hb w hp
end

section
open Go.ChangeShapes Go.WideShapes Go.ChangeAt Go.RowKit

theorem own : ownKnob Tryz.prog.godebug = none := by kernel_rfl
theorem laid : laidOutB Tryz.prog = true := by kernel_rfl

theorem trodAll_below {H : Type} {enc : TypeId × Value → H} {W W' : World} (hb : Below W.heap.size W W') : ∀ {ts : List TypeId} {vs : List Value} {ds : List (DataW H)} {ps : List MemPlace},
    DataW.TrodAll enc Tryz.prog W 0 (fun _ => true) true ts vs ds ps → (∀ x ∈ ps, x.block < W.heap.size) → (∀ t ∈ ts, Tryz.prog.readableRec t = true ∧ t < Tryz.prog.types.size) →
    DataW.TrodAll enc Tryz.prog W' 0 (fun b => decide (b < W.heap.size)) true ts vs ds ps
  | [], vs, ds, ps, h, _, _ => by
    obtain ⟨rfl, rfl, rfl⟩ := trodAll_nil h
    exact trodAll_mk0
  | t :: ts, vs, ds, ps, h, hlt, hr => by
    obtain ⟨v, vs0, d, ds0, p, ps0, rfl, rfl, rfl, h0, r0⟩ := trodAll_cons h
    obtain ⟨hr1, hr2⟩ := hr t (by simp)
    exact trodAll_cons_mk (Below.trod laid hr1 hr2 h0 hb (fun x hx => hlt x (by simp [hx]))) (trodAll_below hb r0 (fun x hx => hlt x (by simp [hx])) (fun t ht => hr t (by simp [ht])))

/-- The row's post of a statement that returned true and turned nothing that was there. -/
theorem law_post {H : Type} {enc : TypeId × Value → H} {f : Func} {s : ChangeSpec} {W W' : World} {args : Array Value} {ds gs : List (DataW H)} {before : List MemPlace} (hv : s.vars = []) (hres : f.resultTypes = #[4])
    (hr : ∀ t ∈ f.params.toList, Tryz.prog.readableRec t = true ∧ t < Tryz.prog.types.size) (hfn : (s.fn H (ds ++ gs)).results = [.lit (.bool true)] ∧ (s.fn H (ds ++ gs)).args = ds ∧ (s.fn H (ds ++ gs)).vars = [])
    (hW : DataW.Whole enc Tryz.prog f.params.toList s.vars false W args.toList ds gs before) (hb : Below W.heap.size W W') : s.post enc Tryz.prog f false true false false W args (.bool true) W' := by
  have hW0 := hW
  have hlt : ∀ p ∈ before, p.block < W.heap.size := fun p hp => hW.lt p hp
  obtain ⟨p, q, hA, hV, rfl, _, _⟩ := hW
  rw [hv] at hV
  obtain ⟨rfl, rfl⟩ := trodVars_none hV
  refine ⟨ds, [], p ++ [], [], p, [], hW0, ?_, ?_, ?_, World.keptBut_mono (fun x hx => ⟨hx, .inr (.inl (by simpa using hx))⟩) (hb.frame (· ∈ p ++ [])), fun h => by cases h⟩
  · rw [hfn.1, hres]
    exact trodAll_cons_mk (shut_bool Tryz.underlying4 true) trodAll_mk0
  · rw [hfn.2.1]
    exact trodAll_below hb hA (fun x hx => hlt x (by simp [hx])) hr
  · rw [hv, hfn.2.2]
    exact rfl
end

section
open Go.ChangeShapes Go.WideShapes Go.ChangeAt Go.RowKit

/-- The blocks that were made since w. -/
def Ab (w : World) : Nat → Prop := fun k => w.heap.size ≤ k
theorem Upd.ab {w wi wj : World} {F : Nat → Prop} (h : Upd (Ab w) w wi) (h2 : Upd F wi wj) (hF : ∀ k, F k → w.heap.size ≤ k) : Upd (Ab w) w wj := h.trans h2 (fun k _ f => hF k f)

theorem spot_of_cell {w : World} {a : Addr} {v : Value} (h : w.cell? a = some v) : a.spot = none := by
  unfold World.cell? at h
  split at h
  · split at h
    · cases h
    · rename_i hs; simpa using hs
  · cases h
theorem add_form {a : Addr} (hs : a.spot = none) (i : Nat) : a.add i = ⟨a.block, a.off + i, none⟩ := by
  obtain ⟨b, o, s⟩ := a
  simp only at hs
  subst hs
  unfold Addr.add
  split <;> simp_all

/-- Cells that were there stay, while only new blocks are written. -/
theorem Rd.ab {w : World} {size : Nat} {v : Value} {n : Nat} {xs : List Value} (h : Rd w size v n xs) : RdF (Ab w) w size v n xs := by
  intro w' hu
  obtain ⟨A, c, rfl, hn, hc, hl, hA⟩ := h
  refine ⟨A, c, rfl, hn, hc, hl, fun h0 => ?_⟩
  obtain ⟨g, o, rfl, hx⟩ := hA h0
  refine ⟨g, o, rfl, fun j u hj => hu.cell (hx j u hj) ?_⟩
  have := block_lt_of_cell (hx j u hj)
  simp only [Ab]
  simp only at this
  omega

section
variable {H : Type} {enc : TypeId × Value → H} {W : World} {v : Value} {d : DataW H} {p : List MemPlace}

theorem cells_u8 : Tryz.prog.cellsOf 5 = 1 := by kernel_rfl
theorem cells_int : Tryz.prog.cellsOf 3 = 1 := by kernel_rfl
theorem cells_bytes : Tryz.prog.cellsOf 28 = 1 := by kernel_rfl

theorem open_nums {t e : TypeId} {k : IntKind} (ht : Tryz.prog.underlying t = some (.slice e)) (he : Tryz.prog.underlying e = some (.int k)) (hc : Tryz.prog.cellsOf e = 1) {fuel : Nat} {base : Nat} {spare : Nat → Bool} {held : Bool} {x : DataW H × List MemPlace}
    (h : DataW.trod enc Tryz.prog W base spare held fuel t [v] = some x) : ∃ zs : List Int, Rd W 1 v zs.length (zs.map (Value.int k)) ∧ ∀ z ∈ zs, (Lit.int k z).wf = true := by
  rcases open_ints ht he hc h with ⟨hcs, hx⟩ | ⟨a, len, cap, zs, hcs, _, hl, hm, hz, hx, hcell, hwz⟩
  · injection hcs with hcs
    subst hcs
    exact ⟨[], Rd.nil W 1, by simp⟩
  · injection hcs with hcs
    subst hcs
    have hlen : (zs.take len).length = len := by
      rw [List.length_take]
      split at hz <;> omega
    refine ⟨zs.take len, ⟨some a, cap, by rw [hlen], by omega, hm, by simp, fun h0 => ?_⟩, fun z hz' => hwz z (List.mem_of_mem_take hz')⟩
    have hlz : len ≤ zs.length := by split at hz <;> omega
    have h00 : W.cell? (a.add 0) = some (.int k (zs.getD 0 0)) := hcell 0 (by omega)
    have hs : a.spot = none := by
      have := spot_of_cell h00
      revert this
      unfold Addr.add
      simp
    refine ⟨a.block, a.off, by cases a; simp_all, fun j u hj => ?_⟩
    rw [List.getElem?_map] at hj
    have hjl : j < len := by
      rcases Nat.lt_or_ge j len with h | h
      · exact h
      · rw [List.getElem?_eq_none (by omega)] at hj; cases hj
    have := hcell j (by omega)
    rw [add_form hs] at this
    rw [this]
    rw [List.getElem?_take, if_pos hjl, List.getElem?_eq_getElem (by omega)] at hj
    simp only [Option.map_some, Option.some.injEq] at hj
    rw [← hj]
    simp [List.getElem?_eq_getElem (show j < zs.length by omega)]

set_option maxRecDepth 100000 in
theorem wf_u8 {z : Int} (h : (Lit.int .u8 z).wf = true) : 0 ≤ z ∧ z < 256 := by
  have := bounds_u8 h
  omega
theorem bytes_of_u8 {zs : List Int} (h : ∀ z ∈ zs, (Lit.int .u8 z).wf = true) : zs.map (Value.int .u8) = (zs.map (fun z => UInt8.ofNat z.toNat)).map byteV := by
  rw [List.map_map]
  refine List.map_congr_left (fun z hz => ?_)
  obtain ⟨h1, h2⟩ := wf_u8 (h z hz)
  have : (UInt8.ofNat z.toNat).toNat = z.toNat := by simp; omega
  simp only [Function.comp, byteV, this]
  rw [Int.toNat_of_nonneg h1]

theorem open_bytes_of {fuel base : Nat} {spare : Nat → Bool} {held : Bool} {x : DataW H × List MemPlace} (h : DataW.trod enc Tryz.prog W base spare held fuel 28 [v] = some x) : ∃ bs : List UInt8, Rd W 1 v bs.length (bs.map byteV) := by
  obtain ⟨zs, h1, h2⟩ := open_nums (v := v) Tryz.underlying28 Tryz.underlying5 cells_u8 h
  refine ⟨zs.map (fun z => UInt8.ofNat z.toNat), ?_⟩
  rw [← bytes_of_u8 h2, List.length_map]
  exact h1

set_option maxRecDepth 100000 in
theorem slice_cells {t e : TypeId} (ht : Tryz.prog.underlying t = some (.slice e)) {base0 base : Nat} {r : Reach} {spare : Nat → Bool} {held : Bool} (hok : Value.okWide Tryz.prog W r base0 t v) (h : DataW.Trod enc Tryz.prog W base spare held t v d p) :
    ∃ fuel, DataW.trod enc Tryz.prog W base spare held fuel t [v] = some (d, p) := by
  obtain ⟨a, len, cap, rfl⟩ := okWide_slice ht hok
  exact h

set_option maxRecDepth 100000 in
theorem open_bytes {base0 : Nat} (hok : Value.okWide Tryz.prog W .any base0 28 v) (h : DataW.Trod enc Tryz.prog W 0 (fun _ => true) true 28 v d p) : ∃ bs : List UInt8, RdB (Ab W) W v bs := by
  obtain ⟨fuel, hf⟩ := slice_cells (t := 28) (e := 5) Tryz.underlying28 hok h
  obtain ⟨bs, hb⟩ := open_bytes_of hf
  exact ⟨bs, hb.ab⟩

set_option maxRecDepth 100000 in
theorem wf_i64 {z : Int} (h : (Lit.int .i64 z).wf = true) : -9223372036854775808 ≤ z ∧ z ≤ 9223372036854775807 := by
  have := bounds_i64 h
  omega

set_option maxRecDepth 100000 in
theorem open_picks {base0 : Nat} (hok : Value.okWide Tryz.prog W .any base0 40 v) (h : DataW.Trod enc Tryz.prog W 0 (fun _ => true) true 40 v d p) : ∃ zs : List Int, RdI (Ab W) W v zs ∧ ∀ z ∈ zs, -9223372036854775808 ≤ z ∧ z ≤ 9223372036854775807 := by
  obtain ⟨fuel, hf⟩ := slice_cells (t := 40) (e := 3) Tryz.underlying40 hok h
  obtain ⟨zs, h1, h2⟩ := open_nums (v := v) Tryz.underlying40 Tryz.underlying3 cells_int hf
  exact ⟨zs, h1.ab, fun z hz => wf_i64 (h2 z hz)⟩

/-- The cells of a slice of whatever element type of one cell. -/
theorem open_cells {t e : TypeId} (ht : Tryz.prog.underlying t = some (.slice e)) (hc : Tryz.prog.cellsOf e = 1) {fuel base : Nat} {spare : Nat → Bool} {held : Bool} {x : DataW H × List MemPlace} (h : DataW.trod enc Tryz.prog W base spare held fuel t [v] = some x) :
    ∃ vs : List Value, Rd W 1 v vs.length vs ∧ ∀ u ∈ vs, ∃ n y, DataW.trod enc Tryz.prog W base spare held n e [u] = some y := by
  rcases Go.Deep.open_slice ht h with ⟨hcs, hx⟩ | ⟨a, len, cap, m, n, D, Pl, hcs, _, hl, hm, hz, hx, hi⟩
  · injection hcs with hcs
    subst hcs
    exact ⟨[], Rd.nil W 1, by simp⟩
  · injection hcs with hcs
    subst hcs
    have hlm : len ≤ m := by split at hz <;> omega
    have hex : ∀ i, i < len → ∃ u, W.cell? (a.add i) = some u ∧ DataW.trod enc Tryz.prog W base spare held n e [u] = some (D i, Pl i) := by
      intro i hilt
      obtain ⟨cs', h1, h2⟩ := hi i (by omega)
      rw [hc] at h1
      obtain ⟨_, hcl, hat⟩ := World.cells?_some h1
      have h00 := hat 0 (by omega)
      obtain ⟨u, rfl⟩ : ∃ u, cs' = [u] := by
        match cs', hcl with
        | [u], _ => exact ⟨u, rfl⟩
      rw [Go.Deep.add_add] at h00
      exact ⟨u, by simpa using h00, h2⟩
    have hspot : 0 < len → a.spot = none := by
      intro h0
      obtain ⟨u, h1, _⟩ := hex 0 h0
      have := spot_of_cell h1
      revert this
      unfold Addr.add
      simp
    refine ⟨(List.range len).map (fun i => (W.cell? (a.add i)).getD undef), ⟨some a, cap, by simp, by simpa using hl, hm, by simp, fun h0 => ?_⟩, ?_⟩
    · have hs := hspot (by simpa using h0)
      refine ⟨a.block, a.off, by cases a; simp_all, fun j u hj => ?_⟩
      rw [List.getElem?_map] at hj
      have hjl : j < len := by
        rcases Nat.lt_or_ge j len with h | h
        · exact h
        · rw [List.getElem?_eq_none (by simpa using h)] at hj; cases hj
      obtain ⟨u', h1, _⟩ := hex j hjl
      rw [List.getElem?_range hjl] at hj
      simp only [Option.map_some, Option.some.injEq, h1, Option.getD_some] at hj
      subst hj
      rw [add_form hs] at h1
      exact h1
    · intro u hu
      obtain ⟨i, hi', rfl⟩ := List.mem_map.1 hu
      obtain ⟨u', h1, h2⟩ := hex i (by simpa using hi')
      rw [h1]
      exact ⟨n, _, h2⟩

/-- A slice of slices of bytes. -/
def RdBB (F : Nat → Prop) (w : World) (v : Value) (l : List (List UInt8)) : Prop :=
  ∃ vs : List Value, vs.length = l.length ∧ RdF F w 1 v l.length vs ∧ ∀ (i : Nat) b, l[i]? = some b → ∃ u, vs[i]? = some u ∧ RdB F w u b

set_option maxRecDepth 100000 in
theorem open_bytess {base0 : Nat} (hok : Value.okWide Tryz.prog W .any base0 23 v) (h : DataW.Trod enc Tryz.prog W 0 (fun _ => true) true 23 v d p) : ∃ l : List (List UInt8), RdBB (Ab W) W v l := by
  obtain ⟨fuel, hf⟩ := slice_cells (t := 23) (e := 28) Tryz.underlying23 hok h
  obtain ⟨vs, h1, h2⟩ := open_cells Tryz.underlying23 cells_bytes hf
  have h3 : ∀ u ∈ vs, ∃ bs : List UInt8, RdB (Ab W) W u bs := by
    intro u hu
    obtain ⟨n, y, hy⟩ := h2 u hu
    obtain ⟨bs, hb⟩ := open_bytes_of hy
    exact ⟨bs, hb.ab⟩
  have h4 : ∃ l : List (List UInt8), vs.length = l.length ∧ ∀ (i : Nat) b, l[i]? = some b → ∃ u, vs[i]? = some u ∧ RdB (Ab W) W u b := by
    clear h1 h2
    induction vs with
    | nil => exact ⟨[], rfl, by simp⟩
    | cons u vs ih =>
      obtain ⟨l, hl, hi⟩ := ih (fun x hx => h3 x (by simp [hx]))
      obtain ⟨bs, hb⟩ := h3 u (by simp)
      refine ⟨bs :: l, by simp [hl], fun i b hib => ?_⟩
      cases i with
      | zero => simp at hib; subst hib; exact ⟨u, rfl, hb⟩
      | succ i => simpa using hi i b (by simpa using hib)
  obtain ⟨l, hl, hi⟩ := h4
  exact ⟨l, vs, hl, by rw [← hl]; exact h1.ab, hi⟩
end
end

section
open Go.ChangeShapes Go.WideShapes Go.ChangeAt Go.RowKit

section
variable {H : Type} {enc : TypeId × Value → H} {W : World} {v : Value} {d : DataW H} {p : List MemPlace}

theorem flatten_at {rows : List (List Value)} {k : Nat} (hk : ∀ r ∈ rows, r.length = k) {i j : Nat} {r : List Value} (hr : rows[i]? = some r) (hj : j < k) : rows.flatten[i * k + j]? = r[j]? := by
  induction rows generalizing i with
  | nil => cases hr
  | cons y l ih =>
    have hy := hk y (by simp)
    rw [List.flatten_cons]
    cases i with
    | zero =>
      simp at hr
      subst hr
      rw [List.getElem?_append_left (by omega)]
      simp
    | succ i =>
      rw [List.getElem?_append_right (by rw [hy, Nat.succ_mul]; omega), hy, show (i + 1) * k + j - k = i * k + j by rw [Nat.succ_mul]; omega]
      exact ih (fun r hr => hk r (by simp [hr])) (by simpa using hr)
theorem flatten_len {rows : List (List Value)} {k : Nat} (hk : ∀ r ∈ rows, r.length = k) : rows.flatten.length = rows.length * k := by
  induction rows with
  | nil => simp
  | cons y l ih =>
    rw [List.flatten_cons, List.length_append, ih (fun r hr => hk r (by simp [hr])), hk y (by simp), List.length_cons, Nat.succ_mul]
    omega

/-- A slice of structs of one-cell fields: its rows, and each field read. -/
theorem open_rows {t e : TypeId} {fs : Array Field} (ht : Tryz.prog.underlying t = some (.slice e)) (he : Tryz.prog.underlying e = some (.struct fs)) (hone : Go.Deep.oneCellFields Tryz.prog fs = true) (hC : Tryz.prog.cellsOf e = fs.size) (hpos : 0 < fs.size)
    {fuel base : Nat} {spare : Nat → Bool} {held : Bool} {x : DataW H × List MemPlace} (h : DataW.trod enc Tryz.prog W base spare held fuel t [v] = some x) :
    ∃ rows : List (List Value), Rd W fs.size v rows.length rows.flatten ∧ ∀ row ∈ rows, row.length = fs.size ∧ ∀ (j : Nat) (f : Field), fs[j]? = some f → ∃ u n y, row[j]? = some u ∧ DataW.trod enc Tryz.prog W base spare held n f.type [u] = some y := by
  rcases Go.Deep.open_slice ht h with ⟨hcs, hx⟩ | ⟨a, len, cap, m, n, D, Pl, hcs, _, hl, hm, hz, hx, hi⟩
  · injection hcs with hcs
    subst hcs
    exact ⟨[], Rd.nil W _, by simp⟩
  · injection hcs with hcs
    subst hcs
    have hlm : len ≤ m := by split at hz <;> omega
    have hex : ∀ i, i < len → ∃ cs' : List Value, cs'.length = fs.size ∧ (∀ j, j < fs.size → W.cell? (a.add (i * fs.size + j)) = cs'[j]?) ∧ ∀ (j : Nat) (f : Field), fs[j]? = some f → ∃ u n y, cs'[j]? = some u ∧ DataW.trod enc Tryz.prog W base spare held n f.type [u] = some y := by
      intro i hilt
      obtain ⟨cs', h1, h2⟩ := hi i (by omega)
      rw [hC] at h1
      obtain ⟨_, hcl, hat⟩ := World.cells?_some h1
      obtain ⟨ys, n', _, _, _, hyl, hf⟩ := DataW.trod_struct he h2
      refine ⟨cs', hcl, fun j hj => ?_, fun j f hj => ?_⟩
      · rw [← Go.Deep.add_add]
        exact hat j hj
      · obtain ⟨ho, hk⟩ := Go.Deep.hone_of hone j f hj
        have hjl : j < fs.size := (Array.getElem?_eq_some_iff.1 hj).1
        have h1 := hf j f hj
        rw [ho, hk, List.drop_eq_getElem_cons (by omega), show ∀ (q : Value) (l : List Value), (q :: l).take 1 = [q] from fun _ _ => rfl, List.getElem?_eq_getElem (by omega)] at h1
        exact ⟨_, n', _, List.getElem?_eq_getElem (by omega), h1⟩
    have hrows : ∃ rows : List (List Value), rows.length = len ∧ ∀ i, i < len → ∃ cs', rows[i]? = some cs' ∧ cs'.length = fs.size ∧ (∀ j, j < fs.size → W.cell? (a.add (i * fs.size + j)) = cs'[j]?) ∧ ∀ (j : Nat) (f : Field), fs[j]? = some f → ∃ u n y, cs'[j]? = some u ∧ DataW.trod enc Tryz.prog W base spare held n f.type [u] = some y := by
      clear hl hz hx hi hlm hm h
      have : ∀ k, k ≤ len → ∃ rows : List (List Value), rows.length = k ∧ ∀ i, i < k → ∃ cs', rows[i]? = some cs' ∧ cs'.length = fs.size ∧ (∀ j, j < fs.size → W.cell? (a.add (i * fs.size + j)) = cs'[j]?) ∧ ∀ (j : Nat) (f : Field), fs[j]? = some f → ∃ u n y, cs'[j]? = some u ∧ DataW.trod enc Tryz.prog W base spare held n f.type [u] = some y := by
        intro k
        induction k with
        | zero => exact fun _ => ⟨[], rfl, fun i hi => by omega⟩
        | succ k ih =>
          intro hk
          obtain ⟨rows, hrl, hr⟩ := ih (by omega)
          obtain ⟨cs', c1⟩ := hex k (by omega)
          refine ⟨rows ++ [cs'], by simp [hrl], fun i hi => ?_⟩
          rcases Nat.lt_or_ge i k with h | h
          · obtain ⟨c2, e1, e2⟩ := hr i h
            exact ⟨c2, by rw [List.getElem?_append_left (by omega)]; exact e1, e2⟩
          · obtain rfl : i = k := by omega
            exact ⟨cs', by rw [List.getElem?_append_right (by omega)]; simp [hrl], c1⟩
      exact this len (Nat.le_refl _)
    obtain ⟨rows, hrl, hr⟩ := hrows
    have hall : ∀ row ∈ rows, ∃ i, i < len ∧ rows[i]? = some row := by
      intro row hrow
      obtain ⟨i, hi', rfl⟩ := List.mem_iff_getElem.1 hrow
      exact ⟨i, by omega, List.getElem?_eq_getElem hi'⟩
    have hlen : ∀ row ∈ rows, row.length = fs.size := by
      intro row hrow
      obtain ⟨i, h1, h2⟩ := hall row hrow
      obtain ⟨c2, e1, e2, _⟩ := hr i h1
      rw [h2] at e1
      have e1 := Option.some.inj e1
      rw [e1]; exact e2
    refine ⟨rows, ⟨some a, cap, by rw [hrl], by omega, hm, flatten_len hlen, fun h0 => ?_⟩, fun row hrow => ⟨hlen row hrow, ?_⟩⟩
    · have hs0 := hpos
      have hs : a.spot = none := by
        obtain ⟨c2, e1, e2, e3, _⟩ := hr 0 (by omega)
        have := e3 0 hs0
        rw [List.getElem?_eq_getElem (by omega)] at this
        have := spot_of_cell this
        revert this
        unfold Addr.add
        simp
      refine ⟨a.block, a.off, by cases a; simp_all, fun j u hj => ?_⟩
      have hjl : j < len * fs.size := by
        have := (List.getElem?_eq_some_iff.1 hj).1
        rw [flatten_len hlen, hrl] at this
        exact this
      have hdm : j / fs.size < len := by rw [Nat.div_lt_iff_lt_mul hs0]; exact hjl
      have hmod := Nat.mod_lt j hs0
      obtain ⟨c2, e1, e2, e3, _⟩ := hr (j / fs.size) hdm
      have e4 := flatten_at hlen e1 hmod
      have e5 : j / fs.size * fs.size + j % fs.size = j := Nat.div_add_mod' j fs.size
      rw [e5, hj] at e4
      have := e3 (j % fs.size) hmod
      rw [e5, ← e4, add_form hs] at this
      exact this
    · obtain ⟨i, h1, h2⟩ := hall row hrow
      obtain ⟨c2, e1, _, _, e4⟩ := hr i h1
      rw [h2] at e1
      have e1 := Option.some.inj e1
      rw [e1]; exact e4
end
end
end Go.Proofs.YtbgificdilpdcaaGreat
