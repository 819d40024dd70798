/- Valid of package vote and of the reference, for every vote. No condition. append onto a slice that owns its block, in a region that draws its order. No condition. The hash functions of package hash and of the reference: Sum, Tagged. Conditions: sizes. The small functions of package disk: write, open, existing. No condition. What the functions of package disk compute, on plain data. No condition. A disk of which one file is turned, made or removed. No condition. -/
import Derived.Test.YtbgificdilpdcaaGreatJn3
import Derived.Test.YtbgificdilpdcaaGreatJn1
import Derived.RegionTactic
import Derived.Deep.RegionHeld3
import Derived.Deep.DrawnRows
import Derived.Deep.RegionLaw
import Derived.Test.YtbgificdilpdcaaGreatJn2
import Derived.Outline
import GoSem.ClaimWide
namespace Go.Proofs.YtbgificdilpdcaaGreat
section
open Go.RowKit
theorem bool_cases (a b : Bool) : a = b ∨ a = !b := by cases a <;> cases b <;> simp

theorem valid_any {v : VoteS} (hf : v.Fit) (w : World) : Calls Tryz.prog 103 #[voteV v] w fun e w' => e = .returned (.bool (validB v)) ∧ Upd NoF w w' := by
  obtain ⟨p0, p1, p2, p3, p4, p5, p6, p7, q0, q1, q2, q3, q4, q5, q6, q7, e1, e2⟩ := fit_spell hf
  have hm := hf.support
  obtain ⟨k, s, r, c, g, m, p, q⟩ := v
  simp only at e1 e2 hm
  subst e1 e2
  clear hf
  by_cases h1 : 1 ≤ k ∧ k ≤ 7
  · by_cases h2 : 0 ≤ g ∧ g ≤ 9
    · rcases bool_cases ([q0, q1, q2, q3, q4, q5, q6, q7] == zero8) (c == 1) with h3 | h3
      · exact valid_c k s r c g m p0 p1 p2 p3 p4 p5 p6 p7 q0 q1 q2 q3 q4 q5 q6 q7 hm w h1 h2 h3
      · by_cases h4 : 0 ≤ m ∧ m ≤ 1023
        · have hk : k = 1 ∨ k = 2 ∨ k = 3 ∨ k = 4 ∨ 5 ≤ k := by omega
          by_cases h6 : r = 0
          · rcases hk with hk | hk | hk | hk | hk
            · exact valid_e1z k s r c g m p0 p1 p2 p3 p4 p5 p6 p7 q0 q1 q2 q3 q4 q5 q6 q7 hm w h1 h2 h3 h4 hk h6
            · exact valid_e2z k s r c g m p0 p1 p2 p3 p4 p5 p6 p7 q0 q1 q2 q3 q4 q5 q6 q7 hm w h1 h2 h3 h4 hk h6
            · exact valid_e3z k s r c g m p0 p1 p2 p3 p4 p5 p6 p7 q0 q1 q2 q3 q4 q5 q6 q7 hm w h1 h2 h3 h4 hk h6
            · exact valid_e4z k s r c g m p0 p1 p2 p3 p4 p5 p6 p7 q0 q1 q2 q3 q4 q5 q6 q7 hm w h1 h2 h3 h4 hk h6
            · exact valid_e5z k s r c g m p0 p1 p2 p3 p4 p5 p6 p7 q0 q1 q2 q3 q4 q5 q6 q7 hm w h1 h2 h3 h4 hk h6
          · rcases hk with hk | hk | hk | hk | hk
            · exact valid_e1n k s r c g m p0 p1 p2 p3 p4 p5 p6 p7 q0 q1 q2 q3 q4 q5 q6 q7 hm w h1 h2 h3 h4 hk h6
            · exact valid_e2n k s r c g m p0 p1 p2 p3 p4 p5 p6 p7 q0 q1 q2 q3 q4 q5 q6 q7 hm w h1 h2 h3 h4 hk h6
            · exact valid_e3n k s r c g m p0 p1 p2 p3 p4 p5 p6 p7 q0 q1 q2 q3 q4 q5 q6 q7 hm w h1 h2 h3 h4 hk h6
            · exact valid_e4n k s r c g m p0 p1 p2 p3 p4 p5 p6 p7 q0 q1 q2 q3 q4 q5 q6 q7 hm w h1 h2 h3 h4 hk h6
            · exact valid_e5n k s r c g m p0 p1 p2 p3 p4 p5 p6 p7 q0 q1 q2 q3 q4 q5 q6 q7 hm w h1 h2 h3 h4 hk h6
        · exact valid_d k s r c g m p0 p1 p2 p3 p4 p5 p6 p7 q0 q1 q2 q3 q4 q5 q6 q7 hm w h1 h2 h3 h4
    · exact valid_a k s r c g m p0 p1 p2 p3 p4 p5 p6 p7 q0 q1 q2 q3 q4 q5 q6 q7 hm w (.inr ⟨h1, h2⟩)
  · exact valid_a k s r c g m p0 p1 p2 p3 p4 p5 p6 p7 q0 q1 q2 q3 q4 q5 q6 q7 hm w (.inl h1)

theorem rvalid_any {v : VoteS} (hf : v.Fit) (w : World) : Calls Tryz.prog 105 #[voteV v] w fun e w' => e = .returned (.bool (validB v)) ∧ Upd NoF w w' := by
  obtain ⟨p0, p1, p2, p3, p4, p5, p6, p7, q0, q1, q2, q3, q4, q5, q6, q7, e1, e2⟩ := fit_spell hf
  have hm := hf.support
  obtain ⟨k, s, r, c, g, m, p, q⟩ := v
  simp only at e1 e2 hm
  subst e1 e2
  clear hf
  by_cases h1 : 1 ≤ k ∧ k ≤ 7
  · by_cases h2 : 0 ≤ g ∧ g ≤ 9
    · by_cases h4 : 0 ≤ m ∧ m ≤ 1023
      · by_cases h5 : 0 ≤ s ∧ s ≤ slotsOf k
        · have h5' : (k ≤ 4 ∧ 0 ≤ s ∧ s ≤ 9) ∨ (5 ≤ k ∧ s = 0) := by unfold slotsOf at h5; split at h5 <;> omega
          rcases bool_cases ([q0, q1, q2, q3, q4, q5, q6, q7] == zero8) (c == 1) with h3 | h3
          · exact rvalid_c k s r c g m p0 p1 p2 p3 p4 p5 p6 p7 q0 q1 q2 q3 q4 q5 q6 q7 hm w h1 h2 h4 h5' h3
          · rcases h5' with ⟨h6, h7⟩ | ⟨h6, h7⟩
            · have hk : k ≤ 2 ∨ k = 3 ∨ k = 4 := by omega
              rcases hk with hk | hk | hk
              · exact rvalid_e1 k s r c g m p0 p1 p2 p3 p4 p5 p6 p7 q0 q1 q2 q3 q4 q5 q6 q7 hm w h1 h2 h4 h3 hk h7
              · exact rvalid_e3 k s r c g m p0 p1 p2 p3 p4 p5 p6 p7 q0 q1 q2 q3 q4 q5 q6 q7 hm w h1 h2 h4 h3 hk h7
              · exact rvalid_e4 k s r c g m p0 p1 p2 p3 p4 p5 p6 p7 q0 q1 q2 q3 q4 q5 q6 q7 hm w h1 h2 h4 h3 hk h7
            · exact rvalid_e5 k s r c g m p0 p1 p2 p3 p4 p5 p6 p7 q0 q1 q2 q3 q4 q5 q6 q7 hm w h1 h2 h4 h3 h6 h7
        · exact rvalid_s k s r c g m p0 p1 p2 p3 p4 p5 p6 p7 q0 q1 q2 q3 q4 q5 q6 q7 hm w h1 h2 h4 h5
      · exact rvalid_d k s r c g m p0 p1 p2 p3 p4 p5 p6 p7 q0 q1 q2 q3 q4 q5 q6 q7 hm w h1 h2 h4
    · exact rvalid_a k s r c g m p0 p1 p2 p3 p4 p5 p6 p7 q0 q1 q2 q3 q4 q5 q6 q7 hm w (.inr ⟨h1, h2⟩)
  · exact rvalid_a k s r c g m p0 p1 p2 p3 p4 p5 p6 p7 q0 q1 q2 q3 q4 q5 q6 q7 hm w (.inl h1)
end

section
open Go.RowKit

theorem wp_append_to {P : Program} (w : World) {o : Oper} {a : Act} {K : Act → World → Prop} {Q : Exit → Act → World → Prop} (s x : Operand) (t : TypeId)
    (ho : o.op = .call { callee := .builtin .append, args := #[s, x], argTypes := #[t, t] })
    (e : TypeId) (i : TypeInfo) (z : Value) (size bytes : Nat) (ht : P.underlying t = some (.slice e)) (hi : P.info? e = some i) (hz : i.zero = some z)
    (hsize : i.size = size) (hby : i.bytes = bytes) (hzs : z.cells.size = size)
    (v : Value) (n : Nat) (xs : List Value) (hs : a.eval s = v) (hown : Own w e size v n xs)
    (u : Value) (m : Nat) (ys : List Value) (hx : a.eval x = u) (hr : Rd w size u m ys) (h1 : ∀ u ∈ ys, u.oneCell' = true)
    (h63 : n + m ≤ maxLen) (hbytes : (n + m) * bytes ≤ 140737488355328)
    (h : ∀ A c w', Own w' e size (.slice A (n + m) c) (n + m) (xs ++ ys) → Upd (OwnB v) w w' → (∀ k, OwnB (.slice A (n + m) c) k → OwnB v k ∨ w.heap.size ≤ k) → K (a.put o.dst (.slice A (n + m) c)) w') : o.wp P a w K Q := by
  obtain ⟨v', w', hrun, h2, h3, h4⟩ := run_append (P := P) w t o.type e i z size bytes ht hi hz hsize hby hzs v n xs hown u m ys hr h1 h63 hbytes
  unfold Oper.wp execOp
  simp only [ho, resolve, invoke, builtin, Sem.run_bind, Sem.run_pure, Result.andThen_ok, List.map_toArray, List.map_cons, List.map_nil, hs, hx, hrun]
  obtain ⟨A, c, rfl⟩ := h2.form
  exact h A c w' h2 h3 h4

theorem step_append_to {P : Program} (w : World) {ops : Array Oper} {o : Oper} {a : Act} {K : Act → World → Prop} {Q : Exit → Act → World → Prop} {E : Prop} (hgd : o.guard = none) (s x : Operand) (t : TypeId)
    (ho : o.op = .call { callee := .builtin .append, args := #[s, x], argTypes := #[t, t] })
    (e : TypeId) (i : TypeInfo) (z : Value) (size bytes : Nat) (ht : P.underlying t = some (.slice e)) (hi : P.info? e = some i) (hz : i.zero = some z)
    (hsize : i.size = size) (hby : i.bytes = bytes) (hzs : z.cells.size = size)
    (v : Value) (n : Nat) (xs : List Value) (hs : a.eval s = v) (hown : Own w e size v n xs)
    (u : Value) (m : Nat) (ys : List Value) (hx : a.eval x = u) (hr : Rd w size u m ys) (h1 : ∀ u ∈ ys, u.oneCell' = true)
    (h63 : n + m ≤ maxLen) (hbytes : (n + m) * bytes ≤ 140737488355328)
    (h : ∀ A c w', Own w' e size (.slice A (n + m) c) (n + m) (xs ++ ys) → Upd (OwnB v) w w' → (∀ k, OwnB (.slice A (n + m) c) k → OwnB v k ∨ w.heap.size ≤ k) → K (a.put o.dst (.slice A (n + m) c)) w') :
    if Region.wanted o (yielded ops a.tmps) = true then Oper.wp P o a w K Q else E := by
  have hw : Region.wanted o (yielded ops a.tmps) = true := by simp [Region.wanted, hgd]
  rw [if_pos hw]
  exact wp_append_to w s x t ho e i z size bytes ht hi hz hsize hby hzs v n xs hs hown u m ys hx hr h1 h63 hbytes h

/-- .. onto a slice without elements. -/
theorem step_append_new {P : Program} (w : World) {ops : Array Oper} {o : Oper} {a : Act} {K : Act → World → Prop} {Q : Exit → Act → World → Prop} {E : Prop} (hgd : o.guard = none) (s x : Operand) (t : TypeId)
    (ho : o.op = .call { callee := .builtin .append, args := #[s, x], argTypes := #[t, t] })
    (e : TypeId) (i : TypeInfo) (z : Value) (size bytes : Nat) (ht : P.underlying t = some (.slice e)) (hi : P.info? e = some i) (hz : i.zero = some z)
    (hsize : i.size = size) (hby : i.bytes = bytes) (hzs : z.cells.size = size)
    (v : Value) (hs : a.eval s = v) (hown : Own w e size v 0 [])
    (u : Value) (m : Nat) (ys : List Value) (hx : a.eval x = u) (hr : Rd w size u m ys) (h1 : ∀ u ∈ ys, u.oneCell' = true)
    (h63 : m ≤ maxLen) (hbytes : m * bytes ≤ 140737488355328)
    (h : ∀ A c w', Own w' e size (.slice A m c) m ys → Upd (OwnB v) w w' → (∀ k, OwnB (.slice A m c) k → OwnB v k ∨ w.heap.size ≤ k) → K (a.put o.dst (.slice A m c)) w') :
    if Region.wanted o (yielded ops a.tmps) = true then Oper.wp P o a w K Q else E := by
  refine step_append_to w hgd s x t ho e i z size bytes ht hi hz hsize hby hzs v 0 [] hs hown u m ys hx hr h1 (by omega) (by simpa using hbytes) ?_
  intro A c w' a1 a2 a3
  simp only [Nat.zero_add, List.nil_append] at a1 a3 ⊢
  exact h A c w' a1 a2 a3

theorem wpList_append_new {P : Program} (w : World) {ops : Array Oper} {rest : List Oper} {o : Oper} {a : Act} {Q : Exit → Act → World → Prop} (hgd : o.guard = none) (s x : Operand) (t : TypeId)
    (ho : o.op = .call { callee := .builtin .append, args := #[s, x], argTypes := #[t, t] })
    (e : TypeId) (i : TypeInfo) (z : Value) (size bytes : Nat) (ht : P.underlying t = some (.slice e)) (hi : P.info? e = some i) (hz : i.zero = some z)
    (hsize : i.size = size) (hby : i.bytes = bytes) (hzs : z.cells.size = size)
    (v : Value) (hs : a.eval s = v) (hown : Own w e size v 0 [])
    (u : Value) (m : Nat) (ys : List Value) (hx : a.eval x = u) (hr : Rd w size u m ys) (h1 : ∀ u ∈ ys, u.oneCell' = true)
    (h63 : m ≤ maxLen) (hbytes : m * bytes ≤ 140737488355328)
    (h : ∀ A c w', Own w' e size (.slice A m c) m ys → Upd (OwnB v) w w' → (∀ k, OwnB (.slice A m c) k → OwnB v k ∨ w.heap.size ≤ k) → wpList P ops Q rest (a.put o.dst (.slice A m c)) w') : wpList P ops Q (o :: rest) a w := by
  refine wpList_append_to w hgd s x t ho e i z size bytes ht hi hz hsize hby hzs v 0 [] hs hown u m ys hx hr h1 (by omega) (by simpa using hbytes) ?_
  intro A c w' a1 a2 a3
  simp only [Nat.zero_add, List.nil_append] at a1 a3 ⊢
  exact h A c w' a1 a2 a3

/-- A slice literal without elements, just made. -/
theorem Own.fresh (w : World) (e : TypeId) (size : Nat) : Own (w.alloc (.cells #[] e)) e size (.slice (some ⟨w.heap.size, 0, none⟩) 0 0) 0 [] :=
  ⟨by simp, .inr ⟨w.heap.size, 0, #[], rfl, Blk.new w _ _, Nat.le_refl _, Nat.zero_le _, by simp, by simp⟩⟩

/-- Nothing is appended. -/
theorem step_append_none {P : Program} (w : World) {ops : Array Oper} {o : Oper} {a : Act} {K : Act → World → Prop} {Q : Exit → Act → World → Prop} {E : Prop} (hgd : o.guard = none) (s x : Operand) (t : TypeId)
    (ho : o.op = .call { callee := .builtin .append, args := #[s, x], argTypes := #[t, t] })
    (e : TypeId) (i : TypeInfo) (size : Nat) (ht : P.underlying t = some (.slice e)) (hi : P.info? e = some i)
    (v : Value) (n : Nat) (xs : List Value) (hs : a.eval s = v) (hown : Own w e size v n xs) (A : Option Addr) (c : Nat) (hx : a.eval x = .slice A 0 c) (h : K (a.put o.dst v) w) :
    if Region.wanted o (yielded ops a.tmps) = true then Oper.wp P o a w K Q else E := by
  have hw : Region.wanted o (yielded ops a.tmps) = true := by simp [Region.wanted, hgd]
  rw [if_pos hw]
  have hrun : (Builtin.append_ #[t, t] o.type #[v, .slice A 0 c]).run P w = .ok v w := by
    rcases hown.2 with ⟨rfl, rfl⟩ | ⟨g, cap, cur, rfl, hb, hnc, _⟩
    · cases A <;> simp [Builtin.append_, run_underlying ht, sizeOf, typeInfo, hi, Builtin.lenOf, Builtin.firstCells, loadCells, loadCellsFrom]
    · cases A <;> simp [Builtin.append_, run_underlying ht, sizeOf, typeInfo, hi, Builtin.lenOf, Builtin.firstCells, hnc, storeCells, loadCells, loadCellsFrom]
  unfold Oper.wp execOp
  simp only [ho, resolve, invoke, builtin, Sem.run_bind, Sem.run_pure, Result.andThen_ok, List.map_toArray, List.map_cons, List.map_nil, hs, hx, hrun]
  exact h

theorem wpList_append_none {P : Program} (w : World) {ops : Array Oper} {rest : List Oper} {o : Oper} {a : Act} {Q : Exit → Act → World → Prop} (hgd : o.guard = none) (s x : Operand) (t : TypeId)
    (ho : o.op = .call { callee := .builtin .append, args := #[s, x], argTypes := #[t, t] })
    (e : TypeId) (i : TypeInfo) (size : Nat) (ht : P.underlying t = some (.slice e)) (hi : P.info? e = some i)
    (v : Value) (n : Nat) (xs : List Value) (hs : a.eval s = v) (hown : Own w e size v n xs) (A : Option Addr) (c : Nat) (hx : a.eval x = .slice A 0 c) (h : wpList P ops Q rest (a.put o.dst v) w) : wpList P ops Q (o :: rest) a w := by
  refine wpList_plain hgd fun _ hK => ?_
  have := step_append_none (ops := ops) (Q := Q) (E := True) w hgd s x t ho e i size ht hi v n xs hs hown A c hx (hK _ _ h)
  have hw : Region.wanted o (yielded ops a.tmps) = true := by simp [Region.wanted, hgd]
  rwa [if_pos hw] at this
end

section
open Go.RowKit

/-- The rest of a slice of bytes. -/
theorem rd_from {w : World} {g o n c k : Nat} {bs : List UInt8} (h : Rd w 1 (.slice (some ⟨g, o, none⟩) n c) n (bs.map byteV)) (hl : bs.length = n) (hk : k < n) : Rd w 1 (.slice (some ⟨g, o + k, none⟩) (n - k) (c - k)) (bs.drop k).length ((bs.drop k).map byteV) := by
  obtain ⟨A, c', e, h1, h2, h3, hx⟩ := h
  injection e with e1 _ e3
  subst e1 e3
  obtain ⟨g', o', e', hc⟩ := hx (by omega)
  injection e' with e'
  injection e' with e1 e2
  subst e1 e2
  refine ⟨_, c - k, by rw [List.length_drop, hl], by simp; omega, by omega, by simp, fun _ => ⟨g, o + k, rfl, fun j u hu => ?_⟩⟩
  rw [Nat.add_assoc]
  refine hc (k + j) u ?_
  rw [List.getElem?_map, List.getElem?_drop] at hu
  rw [List.getElem?_map]
  exact hu

/-- A name stored into its block. -/
theorem name_put {W : World} {g : Nat} {z0 z1 z2 z3 z4 z5 z6 z7 : Value} (hb : Blk W g 53 #[z0, z1, z2, z3, z4, z5, z6, z7]) (b0 b1 b2 b3 b4 b5 b6 b7 : UInt8) : Blk ((((((((W.setCell ⟨g, 0, none⟩ (.int .u8 (b0.toNat : Int))).setCell ⟨g, 1, none⟩ (.int .u8 (b1.toNat : Int))).setCell ⟨g, 2, none⟩ (.int .u8 (b2.toNat : Int))).setCell ⟨g, 3, none⟩ (.int .u8 (b3.toNat : Int))).setCell ⟨g, 4, none⟩ (.int .u8 (b4.toNat : Int))).setCell ⟨g, 5, none⟩ (.int .u8 (b5.toNat : Int))).setCell ⟨g, 6, none⟩ (.int .u8 (b6.toNat : Int))).setCell ⟨g, 7, none⟩ (.int .u8 (b7.toNat : Int))) g 53 #[byteV b0, byteV b1, byteV b2, byteV b3, byteV b4, byteV b5, byteV b6, byteV b7] := by
  have h0 : Blk (W.setCell ⟨g, 0, none⟩ (.int .u8 (b0.toNat : Int))) g 53 #[byteV b0, z1, z2, z3, z4, z5, z6, z7] := hb.put 0 (byteV b0)
  have h1 : Blk ((W.setCell ⟨g, 0, none⟩ (.int .u8 (b0.toNat : Int))).setCell ⟨g, 1, none⟩ (.int .u8 (b1.toNat : Int))) g 53 #[byteV b0, byteV b1, z2, z3, z4, z5, z6, z7] := h0.put 1 (byteV b1)
  have h2 : Blk (((W.setCell ⟨g, 0, none⟩ (.int .u8 (b0.toNat : Int))).setCell ⟨g, 1, none⟩ (.int .u8 (b1.toNat : Int))).setCell ⟨g, 2, none⟩ (.int .u8 (b2.toNat : Int))) g 53 #[byteV b0, byteV b1, byteV b2, z3, z4, z5, z6, z7] := h1.put 2 (byteV b2)
  have h3 : Blk ((((W.setCell ⟨g, 0, none⟩ (.int .u8 (b0.toNat : Int))).setCell ⟨g, 1, none⟩ (.int .u8 (b1.toNat : Int))).setCell ⟨g, 2, none⟩ (.int .u8 (b2.toNat : Int))).setCell ⟨g, 3, none⟩ (.int .u8 (b3.toNat : Int))) g 53 #[byteV b0, byteV b1, byteV b2, byteV b3, z4, z5, z6, z7] := h2.put 3 (byteV b3)
  have h4 : Blk (((((W.setCell ⟨g, 0, none⟩ (.int .u8 (b0.toNat : Int))).setCell ⟨g, 1, none⟩ (.int .u8 (b1.toNat : Int))).setCell ⟨g, 2, none⟩ (.int .u8 (b2.toNat : Int))).setCell ⟨g, 3, none⟩ (.int .u8 (b3.toNat : Int))).setCell ⟨g, 4, none⟩ (.int .u8 (b4.toNat : Int))) g 53 #[byteV b0, byteV b1, byteV b2, byteV b3, byteV b4, z5, z6, z7] := h3.put 4 (byteV b4)
  have h5 : Blk ((((((W.setCell ⟨g, 0, none⟩ (.int .u8 (b0.toNat : Int))).setCell ⟨g, 1, none⟩ (.int .u8 (b1.toNat : Int))).setCell ⟨g, 2, none⟩ (.int .u8 (b2.toNat : Int))).setCell ⟨g, 3, none⟩ (.int .u8 (b3.toNat : Int))).setCell ⟨g, 4, none⟩ (.int .u8 (b4.toNat : Int))).setCell ⟨g, 5, none⟩ (.int .u8 (b5.toNat : Int))) g 53 #[byteV b0, byteV b1, byteV b2, byteV b3, byteV b4, byteV b5, z6, z7] := h4.put 5 (byteV b5)
  have h6 : Blk (((((((W.setCell ⟨g, 0, none⟩ (.int .u8 (b0.toNat : Int))).setCell ⟨g, 1, none⟩ (.int .u8 (b1.toNat : Int))).setCell ⟨g, 2, none⟩ (.int .u8 (b2.toNat : Int))).setCell ⟨g, 3, none⟩ (.int .u8 (b3.toNat : Int))).setCell ⟨g, 4, none⟩ (.int .u8 (b4.toNat : Int))).setCell ⟨g, 5, none⟩ (.int .u8 (b5.toNat : Int))).setCell ⟨g, 6, none⟩ (.int .u8 (b6.toNat : Int))) g 53 #[byteV b0, byteV b1, byteV b2, byteV b3, byteV b4, byteV b5, byteV b6, z7] := h5.put 6 (byteV b6)
  have h7 : Blk ((((((((W.setCell ⟨g, 0, none⟩ (.int .u8 (b0.toNat : Int))).setCell ⟨g, 1, none⟩ (.int .u8 (b1.toNat : Int))).setCell ⟨g, 2, none⟩ (.int .u8 (b2.toNat : Int))).setCell ⟨g, 3, none⟩ (.int .u8 (b3.toNat : Int))).setCell ⟨g, 4, none⟩ (.int .u8 (b4.toNat : Int))).setCell ⟨g, 5, none⟩ (.int .u8 (b5.toNat : Int))).setCell ⟨g, 6, none⟩ (.int .u8 (b6.toNat : Int))).setCell ⟨g, 7, none⟩ (.int .u8 (b7.toNat : Int))) g 53 #[byteV b0, byteV b1, byteV b2, byteV b3, byteV b4, byteV b5, byteV b6, byteV b7] := h6.put 7 (byteV b7)
  exact h7
theorem name_upd {F : Nat → Prop} {w0 W : World} {g : Nat} (h : Upd F w0 W) (hg : F g ∨ w0.heap.size ≤ g) (b0 b1 b2 b3 b4 b5 b6 b7 : UInt8) : Upd F w0 ((((((((W.setCell ⟨g, 0, none⟩ (.int .u8 (b0.toNat : Int))).setCell ⟨g, 1, none⟩ (.int .u8 (b1.toNat : Int))).setCell ⟨g, 2, none⟩ (.int .u8 (b2.toNat : Int))).setCell ⟨g, 3, none⟩ (.int .u8 (b3.toNat : Int))).setCell ⟨g, 4, none⟩ (.int .u8 (b4.toNat : Int))).setCell ⟨g, 5, none⟩ (.int .u8 (b5.toNat : Int))).setCell ⟨g, 6, none⟩ (.int .u8 (b6.toNat : Int))).setCell ⟨g, 7, none⟩ (.int .u8 (b7.toNat : Int))) :=
  (((((((h.setCell (p := ⟨g, 0, none⟩) hg _).setCell (p := ⟨g, 1, none⟩) hg _).setCell (p := ⟨g, 2, none⟩) hg _).setCell (p := ⟨g, 3, none⟩) hg _).setCell (p := ⟨g, 4, none⟩) hg _).setCell (p := ⟨g, 5, none⟩) hg _).setCell (p := ⟨g, 6, none⟩) hg _).setCell (p := ⟨g, 7, none⟩) hg _

theorem hk_end (bs : List UInt8) (k : Nat) (h1 : 8 * k ≤ bs.length + 7) (h2 : bs.length ≤ 8 * k) : k = (bs.length + 7) / 8 := by omega

def RsRel (w : World) (bs : List UInt8) (x y i : Value) (wr : World) : Prop :=
  ∃ k : Nat, 8 * k ≤ bs.length + 7 ∧ i = .int .i64 (8 * (k : Int)) ∧ x = u64V (hk bs k).1 ∧ y = u64V (hk bs k).2 ∧ Upd NoF w wr ∧ Blk wr w.heap.size 53 #[.int .u8 0, .int .u8 0, .int .u8 0, .int .u8 0, .int .u8 0, .int .u8 0, .int .u8 0, .int .u8 0]
def R4Rel (p : Int × Int) (x y i : Value) : Prop := ∃ k : Nat, k ≤ 4 ∧ i = .int .i64 k ∧ x = u64V (mixN k p).1 ∧ y = u64V (mixN k p).2

end

section
open Go.RowKit Go.Maps

abbrev retPE (v : Value) (e : Int) : Ending := .returned (.tuple #[v, .int .i64 e])

theorem strV_empty : strV [] = .string ⟨#[]⟩ := rfl

theorem write_on (d : Nat) (m : Value) (o : Bool) (l : Int) (w : World) (h : Blk w d 79 #[m, .bool o, .bool false, .int .i64 l]) :
    Calls Tryz.prog 48 #[ptrV d] w fun e w' => e = .returned (.bool true) ∧ w = w' := by
  have h2 : w.cell? ⟨d, 2, none⟩ = some (.bool false) := h.cell 2
  clear h
  unfold ptrV
  go_enter Tryz.func48, Tryz.ntmps48
  go_wp2
  go_ret
  exact ⟨rfl, rfl⟩

theorem write_out (d : Nat) (m : Value) (o : Bool) (w : World) (h : Blk w d 79 #[m, .bool o, .bool true, .int .i64 0]) :
    Calls Tryz.prog 48 #[ptrV d] w fun e w' => e = .returned (.bool false) ∧ w.setCell ⟨d, 1, none⟩ (.bool true) = w' := by
  have h1 : w.cell? ⟨d, 1, none⟩ = some (.bool o) := h.cell 1
  have h2 : w.cell? ⟨d, 2, none⟩ = some (.bool true) := h.cell 2
  have h3 : w.cell? ⟨d, 3, none⟩ = some (.int .i64 0) := h.cell 3
  have f1 : w.frozen? ⟨d, 1, none⟩ = false := h.frozen 1
  clear h
  unfold ptrV
  go_enter Tryz.func48, Tryz.ntmps48
  go_wp2
  go_ret
  exact ⟨rfl, rfl⟩

theorem write_down (d : Nat) (m : Value) (o : Bool) (l : Nat) (w : World) (h : Blk w d 79 #[m, .bool o, .bool true, .int .i64 l]) (hl : 0 < l) (hm : l ≤ 9223372036854775807) :
    Calls Tryz.prog 48 #[ptrV d] w fun e w' => e = .returned (.bool true) ∧ w.setCell ⟨d, 3, none⟩ (.int .i64 ((l - 1 : Nat) : Int)) = w' := by
  obtain ⟨k, rfl⟩ : ∃ k, l = k + 1 := ⟨l - 1, by omega⟩
  have h2 : w.cell? ⟨d, 2, none⟩ = some (.bool true) := h.cell 2
  have h3 : w.cell? ⟨d, 3, none⟩ = some (.int .i64 ((k : Int) + 1)) := by simpa using h.cell 3
  have f3 : w.frozen? ⟨d, 3, none⟩ = false := h.frozen 3
  have hne : (((k : Int) + 1) == 0) = false := by simp; omega
  clear h
  unfold ptrV
  go_enter Tryz.func48, Tryz.ntmps48
  go_wp2
  go_ret
  refine ⟨rfl, ?_⟩
  simp

section
variable {w : World} {d mb : Nat} {off armed : Bool} {left : Nat} {L : List FRec}

theorem open_arg (v : Value) (w : World) (hv : v = .pointer none ∨ ∃ d, v = ptrV d) : Calls Tryz.prog 47 #[v, strV []] w fun e w' => e = retPE (.pointer none) 1 ∧ w = w' := by
  rw [strV_empty]
  rcases hv with rfl | ⟨d, rfl⟩
  · go_enter Tryz.func47, Tryz.ntmps47
    go_wp2
    go_ret2
    exact ⟨rfl, rfl⟩
  · unfold ptrV
    go_enter Tryz.func47, Tryz.ntmps47
    go_wp2
    go_ret2
    exact ⟨rfl, rfl⟩

theorem open_nil (s : ByteArray) (w : World) : Calls Tryz.prog 47 #[.pointer none, .string s] w fun e w' => e = retPE (.pointer none) 1 ∧ w = w' := by
  go_enter Tryz.func47, Tryz.ntmps47
  go_wp2
  go_ret2
  exact ⟨rfl, rfl⟩

theorem open_off (h : DiskL w d mb true armed left L) (nm : List UInt8) (hn : nm.isEmpty = false) : Calls Tryz.prog 47 #[ptrV d, strV nm] w fun e w' => e = retPE (.pointer none) 103 ∧ w = w' := by
  have h1 : w.cell? ⟨d, 1, none⟩ = some (.bool true) := h.head.cell 1
  clear h
  go_enter Tryz.func47, Tryz.ntmps47
  go_wp2
  go_ret2
  exact ⟨rfl, rfl⟩

/-- What the map holds under a name. -/
def atV (L : List FRec) (nm : List UInt8) : Value := match L.find? (fun r => r.nm == nm) with | some r => ptrV r.fb | none => .pointer none

theorem open_on (h : DiskL w d mb false armed left L) (nm : List UInt8) (hn : nm.isEmpty = false) (hm : nm.length ≤ maxLen) : Calls Tryz.prog 47 #[ptrV d, strV nm] w fun e w' => e = retPE (atV L nm) 0 ∧ w = w' := by
  have h0 : w.cell? ⟨d, 0, none⟩ = some (.map (some mb)) := h.head.cell 0
  have h1 : w.cell? ⟨d, 1, none⟩ = some (.bool false) := h.head.cell 1
  have hl : (Instr.lookup 77 (.map (some mb)) (strV nm) false).run Tryz.prog w = .ok (atV L nm) w := h.look hm
  clear h
  go_enter Tryz.func47, Tryz.ntmps47
  go_wp2
  go_ret2
  exact ⟨rfl, rfl⟩

theorem existing_nil (s : ByteArray) (w : World) : Calls Tryz.prog 85 #[.pointer none, .string s] w fun e w' => e = retPE (.pointer none) 1 ∧ w = w' := by
  go_enter Tryz.func85, Tryz.ntmps85
  go_wp2_with (go_at_call 47; refine (open_nil _ _).mono ?_; rintro e w' ⟨rfl, rfl⟩)
  go_ret2
  exact ⟨rfl, rfl⟩

theorem existing_arg (d : Nat) (w : World) : Calls Tryz.prog 85 #[ptrV d, strV []] w fun e w' => e = retPE (.pointer none) 1 ∧ w = w' := by
  go_enter Tryz.func85, Tryz.ntmps85
  go_wp2_with (go_at_call 47; refine (open_arg _ _ (.inr ⟨d, rfl⟩)).mono ?_; rintro e w' ⟨rfl, rfl⟩)
  go_ret2
  exact ⟨rfl, rfl⟩

theorem existing_off (h : DiskL w d mb true armed left L) (nm : List UInt8) (hn : nm.isEmpty = false) : Calls Tryz.prog 85 #[ptrV d, strV nm] w fun e w' => e = retPE (.pointer none) 103 ∧ w = w' := by
  have H := Lib.hid h
  clear h
  go_enter Tryz.func85, Tryz.ntmps85
  go_wp2_with (go_at_call 47; refine (open_off H.out _ hn).mono ?_; rintro e w' ⟨rfl, rfl⟩)
  go_ret2
  exact ⟨rfl, rfl⟩

theorem existing_no (h : DiskL w d mb false armed left L) (nm : List UInt8) (hn : nm.isEmpty = false) (hm : nm.length ≤ maxLen) (hf : L.find? (fun r => r.nm == nm) = none) :
    Calls Tryz.prog 85 #[ptrV d, strV nm] w fun e w' => e = retPE (.pointer none) 6 ∧ w = w' := by
  have ho : Calls Tryz.prog 47 #[ptrV d, strV nm] w fun e w' => e = retPE (.pointer none) 0 ∧ w = w' := by
    have := open_on h nm hn hm
    unfold atV at this
    rwa [hf] at this
  have H := Lib.hid ho
  clear h ho hf
  go_enter Tryz.func85, Tryz.ntmps85
  go_wp2_with (go_at_call 47; refine H.out.mono ?_; rintro e w' ⟨rfl, rfl⟩)
  go_ret2
  exact ⟨rfl, rfl⟩

theorem existing_yes (h : DiskL w d mb false armed left L) (nm : List UInt8) (hn : nm.isEmpty = false) (hm : nm.length ≤ maxLen) (r : FRec) (hf : L.find? (fun r => r.nm == nm) = some r) :
    Calls Tryz.prog 85 #[ptrV d, strV nm] w fun e w' => e = retPE (ptrV r.fb) 0 ∧ w = w' := by
  have ho : Calls Tryz.prog 47 #[ptrV d, strV nm] w fun e w' => e = retPE (ptrV r.fb) 0 ∧ w = w' := by
    have := open_on h nm hn hm
    unfold atV at this
    rwa [hf] at this
  have H := Lib.hid ho
  clear h ho hf
  go_enter Tryz.func85, Tryz.ntmps85
  go_wp2_with (go_at_call 47; refine H.out.mono ?_; rintro e w' ⟨rfl, rfl⟩)
  go_ret2
  exact ⟨rfl, rfl⟩
end
end

section
open Go

structure FSt where
  c : List UInt8
  dur : Nat
abbrev FS := List (List UInt8 × FSt)
structure DSt where
  fs : FS
  off : Bool
  armed : Bool
  left : Nat

def getF (fs : FS) (nm : List UInt8) : Option FSt := (fs.find? (fun p => p.1 == nm)).map (·.2)
def setF (nm : List UInt8) (f : FSt) (fs : FS) : FS := fs.map (fun p => if p.1 == nm then (p.1, f) else p)
def insF (p : List UInt8 × FSt) : FS → FS
  | [] => [p]
  | y :: l => if bytesBefore p.1 y.1 then p :: y :: l else y :: insF p l
def delF (nm : List UInt8) (fs : FS) : FS := fs.filter (fun p => !(p.1 == nm))

/-- Whether one more write goes through. -/
def wrB (armed : Bool) (left : Nat) : Bool := !(armed && left == 0)
def wrL (armed : Bool) (left : Nat) : Nat := if armed then left - 1 else left
def wrS (s : DSt) : DSt := { s with off := s.off || !wrB s.armed s.left, left := wrL s.armed s.left }

def sRead (s : DSt) (nm : List UInt8) : List UInt8 × Int :=
  if nm = [] then ([], 1) else if s.off then ([], 103) else
  match getF s.fs nm with
  | none => ([], 6)
  | some f => (f.c, 0)

def withFile (nm : List UInt8) (fs : FS) : FS := match getF fs nm with | none => insF (nm, ⟨[], 0⟩) fs | some _ => fs
def sAppend (s : DSt) (nm b : List UInt8) : Int × DSt :=
  if nm = [] then (1, s) else if s.off then (103, s) else
  let f := (getF s.fs nm).getD ⟨[], 0⟩
  let s1 := { s with fs := setF nm ⟨f.c ++ b, f.dur⟩ (withFile nm s.fs) }
  (if wrB s.armed s.left then 0 else 103, wrS s1)

def sChange (s : DSt) (nm : List UInt8) (g : FS → FSt → FS) : Int × DSt :=
  if nm = [] then (1, s) else if s.off then (103, s) else
  match getF s.fs nm with
  | none => (6, s)
  | some f => if wrB s.armed s.left then (0, { wrS s with fs := g s.fs f }) else (103, wrS s)

def sSync (s : DSt) (nm : List UInt8) : Int × DSt := sChange s nm fun fs f => setF nm ⟨f.c, f.c.length⟩ fs
def cutAt (size : Int) (n : Nat) : Nat := min size.toNat n
def sTruncate (s : DSt) (nm : List UInt8) (size : Int) : Int × DSt := sChange s nm fun fs f => setF nm ⟨f.c.take (cutAt size f.c.length), min f.dur (cutAt size f.c.length)⟩ fs
def sRename (s : DSt) (nm to : List UInt8) : Int × DSt := if to = [] then (1, s) else sChange s nm fun fs f => insF (to, f) (delF to (delF nm fs))
def sRemove (s : DSt) (nm : List UInt8) : Int × DSt := sChange s nm fun fs _ => delF nm fs
def sArm (s : DSt) (n : Int) : DSt := { s with armed := true, left := n.toNat }

/-- The next pick modulo n. -/
def below (picks : List Int) (n : Nat) : Nat × List Int := match picks with | [] => (0, []) | p :: ps => ((p % (n : Int)).toNat, ps)
def flipLast (c : List UInt8) : List UInt8 := c.modify (c.length - 1) (fun b => b ^^^ 255)
def zeroLast (k : Nat) (c : List UInt8) : List UInt8 := c.take (c.length - k) ++ List.replicate k 0
def damaged (dm kept : Nat) (c : List UInt8) : List UInt8 := if dm = 1 ∧ 0 < kept then flipLast c else if dm = 2 then zeroLast (min kept 8) c else c
def crashF (picks : List Int) (f : FSt) : FSt × List Int :=
  if f.c.length - f.dur = 0 then (f, picks) else
  let k := below picks (f.c.length - f.dur + 1)
  let m := below k.2 3
  (⟨damaged m.1 k.1 (f.c.take (f.dur + k.1)), f.dur + k.1⟩, m.2)
def crashL : List Int → FS → FS
  | _, [] => []
  | ps, (nm, f) :: l => (nm, (crashF ps f).1) :: crashL (crashF ps f).2 l
def sCrash (s : DSt) (picks : List Int) : DSt := { fs := crashL picks s.fs, off := false, armed := false, left := 0 }
def sNew : DSt := ⟨[], false, false, 0⟩
end

section
open Go.RowKit Go.Maps

def setR (r' : FRec) (L : List FRec) : List FRec := L.map (fun x => if x.fb = r'.fb then r' else x)

theorem pw_ne {α : Type} {R : α → α → Prop} {L : List α} (h : L.Pairwise R) (hs : ∀ a b, R a b → R b a) {x y : α} (hx : x ∈ L) (hy : y ∈ L) (hne : x ≠ y) : R x y := by
  induction L with
  | nil => cases hx
  | cons a l ih =>
    rw [List.pairwise_cons] at h
    rcases List.mem_cons.1 hx with rfl | hx'
    · rcases List.mem_cons.1 hy with rfl | hy'
      · exact absurd rfl hne
      · exact h.1 y hy'
    · rcases List.mem_cons.1 hy with rfl | hy'
      · exact hs _ _ (h.1 x hx')
      · exact ih h.2 hx' hy'

section
variable {w w' : World} {d mb : Nat} {off armed : Bool} {left : Nat} {L : List FRec}

theorem DiskL.same_of_fb (h : DiskL w d mb off armed left L) {x y : FRec} (hx : x ∈ L) (hy : y ∈ L) (he : x.fb = y.fb) : x = y :=
  Classical.byContradiction fun hne => pw_ne h.fbs (fun _ _ h e => h e.symm) hx hy hne he
theorem DiskL.same_of_nm (h : DiskL w d mb off armed left L) {x y : FRec} (hx : x ∈ L) (hy : y ∈ L) (he : x.nm = y.nm) : x = y := by
  refine Classical.byContradiction fun hne => ?_
  have := pw_ne (R := fun a b : FRec => a.nm ≠ b.nm) (h.sorted.imp (fun {a b} hb e => by rw [e, Go.WideAt.bytes_irrefl] at hb; cases hb)) (fun _ _ h e => h e.symm) hx hy hne
  exact this he

theorem mem_setR {r' x : FRec} (h : x ∈ setR r' L) : x = r' ∨ (x ∈ L ∧ x.fb ≠ r'.fb) := by
  obtain ⟨y, hy, rfl⟩ := List.mem_map.1 h
  by_cases he : y.fb = r'.fb
  · simp [he]
  · right
    simp only [if_neg he]
    exact ⟨hy, he⟩

/-- One file has turned. -/
theorem DiskL.turn (h : DiskL w d mb off armed left L) {r r' : FRec} (hr : r ∈ L) (hnm : r'.nm = r.nm) (hfb : r'.fb = r.fb) (hdur : r'.dur ≤ r'.c.length) (hlen : r'.c.length ≤ 1099511627776)
    (hu : Upd (fun k => k = r.fb ∨ OwnB r.cv k) w w') (hb : Blk w' r.fb 85 #[r'.cv, .int .i64 r'.dur]) (ho : Own w' 5 1 r'.cv r'.c.length (r'.c.map byteV))
    (hn : ∀ k, OwnB r'.cv k → OwnB r.cv k ∨ w.heap.size ≤ k) : DiskL w' d mb off armed left (setR r' L) := by
  have hf := h.file r hr
  have hw := h.own r hr
  have hd : d ≠ r.fb := h.head.unlike hf (by decide)
  have hapart : ∀ x ∈ L, x.fb ≠ r.fb → ∀ k, OwnB x.cv k → ¬ OwnB r.cv k := fun x hx hne k hk hk' => pw_ne (R := fun a b : FRec => ∀ k, OwnB a.cv k → ¬ OwnB b.cv k) h.gs (fun _ _ h k a b => h k b a) hx hr (fun e => hne (by rw [e])) k hk hk'
  refine { head := hu.blk h.head ?_, files := ?_, file := ?_, own := ?_, dur := ?_, nm := ?_, fbs := ?_, gs := ?_, lft := h.lft, len := ?_ }
  · rintro (e | e)
    · exact hd e
    · exact hw.blk_ne h.head (by decide) e
  · have e : mapD (setR r' L) = mapD L := by
      simp only [mapD, setR, List.map_map]
      congr 1
      refine List.map_congr_left (fun x hx => ?_)
      simp only [Function.comp]
      split
      · rename_i he
        have := h.same_of_fb hx hr (he.trans hfb)
        subst this
        simp [entD, hnm, hfb]
      · rfl
    rw [e, show (setR r' L).length = L.length by simp [setR]]
    refine ownsMap_upd h.files hu ?_
    rintro (e | e)
    · exact ownsMap_ne_blk h.files hf e
    · exact ownsMap_ne_own h.files hw e rfl
  · intro x hx
    rcases mem_setR hx with rfl | ⟨hx, hne⟩
    · rw [hfb]; exact hb
    · refine hu.blk (h.file x hx) ?_
      rintro (e | e)
      · exact hne (e.trans hfb.symm)
      · exact hw.blk_ne (h.file x hx) (by decide) e
  · intro x hx
    rcases mem_setR hx with rfl | ⟨hx, hne⟩
    · exact ho
    · refine (h.own x hx).upd hu (fun k hk => ?_)
      rintro (e | e)
      · exact (h.own x hx).ne_of hf (by decide) hk e
      · exact hapart x hx (fun e => hne (e.trans hfb.symm)) k hk e
  · intro x hx
    rcases mem_setR hx with rfl | ⟨hx, _⟩
    · exact hdur
    · exact h.dur x hx
  · intro x hx
    rcases mem_setR hx with rfl | ⟨hx, _⟩
    · rw [hnm]; exact h.nm r hr
    · exact h.nm x hx
  · simp only [setR]
    rw [List.pairwise_map]
    refine h.fbs.imp (fun {a b} hab => ?_)
    split <;> split
    · rename_i h1 h2; exact absurd (h1.trans h2.symm) hab
    · rename_i h1 h2; exact fun e => h2 e.symm
    · rename_i h1 h2; exact h1
    · exact hab
  · simp only [setR]
    rw [List.pairwise_map]
    refine List.Pairwise.imp_of_mem ?_ (h.fbs.and h.gs)
    rintro a b ha hb ⟨hab, hg⟩
    split <;> split
    · rename_i h1 h2; exact absurd (h1.trans h2.symm) hab
    · rename_i h1 h2
      intro k hk hk'
      rcases hn k hk with e | e
      · exact hapart b hb (fun e => h2 (e.trans hfb.symm)) k hk' e
      · have := (h.own b hb).lt hk'; omega
    · rename_i h1 h2
      intro k hk hk'
      rcases hn k hk' with e | e
      · exact hapart a ha (fun e => h1 (e.trans hfb.symm)) k hk e
      · have := (h.own a ha).lt hk; omega
    · exact hg
  · intro x hx
    rcases mem_setR hx with rfl | ⟨hx, _⟩
    · exact hlen
    · exact h.len x hx

theorem foot_setR {r r' : FRec} (hr : r ∈ L) (hfb : r'.fb = r.fb) (hn : ∀ k, OwnB r'.cv k → OwnB r.cv k ∨ w.heap.size ≤ k) {k : Nat} (hk : foot d mb (setR r' L) k) : foot d mb L k ∨ w.heap.size ≤ k := by
  rcases hk with rfl | rfl | ⟨x, hx, hk⟩
  · exact .inl (.inl rfl)
  · exact .inl (.inr (.inl rfl))
  · rcases mem_setR hx with rfl | ⟨hx, _⟩
    · rcases hk with rfl | hk
      · exact .inl (.inr (.inr ⟨r, hr, .inl hfb⟩))
      · rcases hn k hk with e | e
        · exact .inl (.inr (.inr ⟨r, hr, .inr e⟩))
        · exact .inr e
    · exact .inl (.inr (.inr ⟨x, hx, hk⟩))

/-- Only the disk's own block has turned. -/
theorem DiskL.top (h : DiskL w d mb off armed left L) {off' armed' : Bool} {left' : Nat} (hu : Upd (fun k => k = d) w w') (hb : Blk w' d 79 #[.map (some mb), .bool off', .bool armed', .int .i64 left']) (hl : left' ≤ 9223372036854775807) :
    DiskL w' d mb off' armed' left' L :=
  { head := hb, files := ownsMap_upd h.files hu (ownsMap_ne_blk h.files h.head), file := fun r hr => hu.blk (h.file r hr) ((h.file r hr).unlike h.head (by decide)),
    own := fun r hr => (h.own r hr).upd hu (fun _ hk => (h.own r hr).ne_of h.head (by decide) hk), dur := h.dur, nm := h.nm, fbs := h.fbs, gs := h.gs, lft := hl, len := h.len }

/-- write: what it says and what becomes of the disk. -/
theorem write_any (h : DiskL w d mb off armed left L) : Calls Tryz.prog 48 #[ptrV d] w fun e w' => e = .returned (.bool (wrB armed left)) ∧ DiskL w' d mb (off || !wrB armed left) armed (wrL armed left) L ∧ Upd (fun k => k = d) w w' := by
  cases armed with
  | false =>
    refine (write_on d _ off _ w h.head).mono ?_
    rintro e w' ⟨rfl, rfl⟩
    exact ⟨rfl, by simpa [wrB, wrL] using h, Upd.refl _ _⟩
  | true =>
    rcases Nat.eq_zero_or_pos left with rfl | hl
    · refine (write_out d _ off w h.head).mono ?_
      rintro e w' ⟨rfl, rfl⟩
      have hu : Upd (fun k => k = d) w (w.setCell ⟨d, 1, none⟩ (.bool true)) := (Upd.refl (fun k => k = d) w).setCell (p := ⟨d, 1, none⟩) (.inl rfl) _
      refine ⟨rfl, ?_, hu⟩
      have := h.top hu (off' := true) (armed' := true) (left' := 0) (h.head.put 1 (.bool true)) (Nat.zero_le _)
      simpa [wrB, wrL] using this
    · refine (write_down d _ off left w h.head hl h.lft).mono ?_
      rintro e w' ⟨rfl, rfl⟩
      have hu : Upd (fun k => k = d) w (w.setCell ⟨d, 3, none⟩ (.int .i64 ((left - 1 : Nat) : Int))) := (Upd.refl (fun k => k = d) w).setCell (p := ⟨d, 3, none⟩) (.inl rfl) _
      have hb : wrB true left = true := by simp [wrB]; omega
      refine ⟨by rw [hb], ?_, hu⟩
      have := h.top hu (off' := off) (armed' := true) (left' := left - 1) (h.head.put 3 _) (by have := h.lft; omega)
      simpa [hb, wrL] using this

/-- A file without bytes has come. -/
theorem DiskL.make (h : DiskL w d mb off armed left L) {r : FRec} (hm : r.nm.length ≤ maxLen) (hf : L.find? (fun x => x.nm == r.nm) = none) (hc : r.c = []) (hv : r.cv = .slice none 0 0) (hd : r.dur = 0)
    (hfb : w.heap.size ≤ r.fb) (hu : Upd (fun k => k = mb) w w') (hb : Blk w' r.fb 85 #[r.cv, .int .i64 r.dur]) (hmap : w'.ownsMap Tryz.prog 9 fileR mb (L.length + 1) (mapD (insR r L))) :
    DiskL w' d mb off armed left (insR r L) := by
  have hne : ∀ {x}, x ∈ L → x.fb ≠ mb := fun {x} hx e => ownsMap_ne_blk h.files (h.file x hx) e.symm
  have hown : Own w' 5 1 r.cv r.c.length (r.c.map byteV) := by rw [hv, hc]; exact Own.nil _ _ _
  have hno : ∀ k, ¬ OwnB r.cv k := by rw [hv]; intro k; simp [OwnB, Value.ownBlock]
  refine { head := hu.blk h.head (fun e => ownsMap_ne_blk h.files h.head e.symm), files := by rw [length_insR]; exact hmap, file := ?_, own := ?_, dur := ?_, nm := ?_, fbs := ?_, gs := ?_, lft := h.lft, len := ?_ }
  · intro x hx
    rcases mem_insR.1 hx with rfl | hx
    · exact hb
    · exact hu.blk (h.file x hx) (hne hx)
  · intro x hx
    rcases mem_insR.1 hx with rfl | hx
    · exact hown
    · exact (h.own x hx).upd hu (fun k hk e => ownsMap_ne_own h.files (h.own x hx) hk e.symm)
  · intro x hx
    rcases mem_insR.1 hx with rfl | hx
    · rw [hd]; exact Nat.zero_le _
    · exact h.dur x hx
  · intro x hx
    rcases mem_insR.1 hx with rfl | hx
    · exact hm
    · exact h.nm x hx
  · exact pairwise_insR (fun _ _ h e => h e.symm) h.fbs (fun x hx e => by have := (h.file x hx).lt; omega)
  · exact pairwise_insR (fun _ _ h k a b => h k b a) h.gs (fun x hx k hk => absurd hk (hno k))
  · intro x hx
    rcases mem_insR.1 hx with rfl | hx
    · rw [hc]; simp
    · exact h.len x hx
end
end
end Go.Proofs.YtbgificdilpdcaaGreat
