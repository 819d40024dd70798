/- block.DecodeBlock of an encoded block. Conditions: sizes. -/
import Derived.Test.YtengcmfdfmnacaaGreatJn8
import Derived.Test.YtengcmfdfmnacaaGreatJn5
import Derived.Shelf.SlicesQ.Load
namespace Go.Proofs.YtengcmfdfmnacaaGreat
open Go.RowKit

theorem od_buildSlice_row9 {P : Program} {o : Oper} {w : World} {ρ : Operand → Value} {post : Value → World → Prop} (ty e : TypeId) (x : Operand) (ho : o.op = .buildSlice ty 1 #[(0, x)]) (v : Value) (hx : ρ x = v) (cells : Array Value) (hr : (Instr.buildSlice ty 1 #[(0, v)]).run P w = .ok (.slice (some ⟨w.heap.size, 0, none⟩) 1 1) (w.alloc (.cells cells e)))
    (hp : post (.slice (some ⟨w.heap.size, 0, none⟩) 1 1) (w.alloc (.cells cells e))) : OpDone P o ρ w post := by
  unfold OpDone execOp
  simp only [ho, hx, List.map_toArray, List.map_cons, List.map_nil, Sem.run_bind, Sem.run_pure, hr, Result.andThen_ok]
  exact hp
theorem choice_info : (Tryz.prog.info? 64).map (fun i => (i.zero, i.size, i.bytes)) = some (some (.agg (choiceC (0, List.replicate 8 0)).toArray), 9, 16) := by kernel_rfl
theorem build_choice' (z : Int) (q0 q1 q2 q3 q4 q5 q6 q7 : UInt8) (w : World) : (Instr.build 64 #[(0, .int .i64 z), (1, .agg #[byteV q0, byteV q1, byteV q2, byteV q3, byteV q4, byteV q5, byteV q6, byteV q7])]).run Tryz.prog w = .ok (.agg #[.int .i64 z, byteV q0, byteV q1, byteV q2, byteV q3, byteV q4, byteV q5, byteV q6, byteV q7]) w := by kernel_rfl
theorem bs_choice' (z : Int) (q0 q1 q2 q3 q4 q5 q6 q7 : UInt8) (w : World) : (Instr.buildSlice 65 1 #[(0, .agg #[.int .i64 z, byteV q0, byteV q1, byteV q2, byteV q3, byteV q4, byteV q5, byteV q6, byteV q7])]).run Tryz.prog w = .ok (.slice (some ⟨w.heap.size, 0, none⟩) 1 1) (w.alloc (.cells #[.int .i64 z, byteV q0, byteV q1, byteV q2, byteV q3, byteV q4, byteV q5, byteV q6, byteV q7] 64)) := by kernel_rfl
theorem build_choice (z : Int) {n : List UInt8} (hn : n.length = 8) (w : World) : (Instr.build 64 #[(0, .int .i64 z), (1, nameV n)]).run Tryz.prog w = .ok (.agg (choiceC (z, n)).toArray) w := by
  obtain ⟨q0, q1, q2, q3, q4, q5, q6, q7, rfl⟩ := name_spell hn
  exact build_choice' z q0 q1 q2 q3 q4 q5 q6 q7 w
theorem bs_choice (z : Int) {n : List UInt8} (hn : n.length = 8) (w : World) : (Instr.buildSlice 65 1 #[(0, .agg (choiceC (z, n)).toArray)]).run Tryz.prog w = .ok (.slice (some ⟨w.heap.size, 0, none⟩) 1 1) (w.alloc (.cells (choiceC (z, n)).toArray 64)) := by
  obtain ⟨q0, q1, q2, q3, q4, q5, q6, q7, rfl⟩ := name_spell hn
  exact bs_choice' z q0 q1 q2 q3 q4 q5 q6 q7 w
theorem choice_one (z : Int) (n : List UInt8) : ∀ u ∈ choiceC (z, n), u.oneCell' = true := fun u hu => by
  rcases List.mem_cons.1 hu with rfl | hu
  · rfl
  · obtain ⟨x, _, rfl⟩ := List.mem_map.1 hu
    rfl
def BkR7 (S0 : Nat) (row : List Value) (v : Value) (w : World) : Prop := ∃ g, v = .slice (some ⟨g, 0, none⟩) 1 1 ∧ Blk w g 64 row.toArray ∧ S0 ≤ g
def BkR8 (S0 : Nat) (As : Option Addr) (k cs : Nat) (rows row : List Value) (v : Value) (w : World) : Prop := ∃ A' c', v = .slice A' (k + 1) c' ∧ Own w 64 9 (.slice A' (k + 1) c') (k + 1) (rows ++ row) ∧ ∀ j, OwnB (.slice A' (k + 1) c') j → OwnB (.slice As k cs) j ∨ S0 ≤ j
abbrev BkSt (S0 g X : Nat) (As : Option Addr) (k cs : Nat) (L : Nat → Bool) (w w' : World) : Prop := Upd (fun j => j < S0 ∧ (j = g ∨ j = X ∨ OwnB (.slice As k cs) j)) w w' ∧ (L 8 = true → UpdT [67] w w') ∧ (L 10 = true → Upd NoF w w')
/-- Where the region stands that reads a slot. -/
structure BkPh (w0 : World) (X g : Nat) (v : Value) (a : Nat) (p : List UInt8) (As : Option Addr) (k cs : Nat) (R8 : Value → World → Prop) (L : Nat → Bool) (w : World) : Prop where
  u0 : L 8 = false → L 10 = false → Upd (fun j => j = g) w0 w
  u2 : Upd (fun j => j = g ∨ j = X ∨ OwnB (.slice As k cs) j) w0 w
  c0 : L 3 = false → CurB w g v a false
  c1 : L 3 = true → L 5 = false → CurB w g v (a + 1) false
  c2 : L 5 = true → CurB w g v (a + 9) false
  x0 : L 10 = false → Blk w X 67 (blkC p (.slice As k cs)).toArray
  x1 : L 10 = true → ∃ x, Blk w X 67 (blkC p x).toArray ∧ R8 x w
section
variable {w0 w w' : World} {S0 X g a k cs : Nat} {v : Value} {p : List UInt8} {As : Option Addr} {rows row : List Value} {L : Nat → Bool} {R8 : Value → World → Prop}
theorem BkSt.none (h : Upd NoF w w') : BkSt S0 g X As k cs L w w' := ⟨h.mono (fun _ _ f => f.elim), fun _ => UpdT.none h, fun _ => h⟩
theorem BkSt.cur (h8 : L 8 = false) (h10 : L 10 = false) (hu : Upd (fun j => j = g) w w') (hg : g < S0) : BkSt S0 g X As k cs L w w' := ⟨hu.mono (fun j _ e => ⟨by omega, .inl e⟩), (fun e => by rw [h8] at e; cases e), (fun e => by rw [h10] at e; cases e)⟩
theorem BkSt.put (h10 : L 10 = false) (hX : X < S0) {b : Array Value} (hb : Blk w X 67 b) (hu : Upd (fun j => j = X) w w') : BkSt S0 g X As k cs L w w' := ⟨hu.mono (fun j _ e => ⟨by omega, .inr (.inl e)⟩), fun _ => UpdT.of hu (fun j e => by rw [e]; exact hb.tyf (by simp)), (fun e => by rw [h10] at e; cases e)⟩
theorem stbL_b7 {i : Nat} : StbL (BkSt S0 g X As k cs) i (BkR7 S0 row) := fun _ _ _ _ _ ⟨g7, e, h1, h2⟩ hs => ⟨g7, e, hs.1.blk h1 (fun f => by have := f.1; omega), h2⟩
theorem stbL_b8 : StbL (BkSt S0 g X As k cs) 8 (BkR8 S0 As k cs rows row) := fun _ _ _ _ hl ⟨A', c', e, h1, h2⟩ hs => ⟨A', c', e, h1.updT (hs.2.1 hl) (by decide), h2⟩
theorem BkPh.start (h1 : Blk w0 X 67 (blkC p (.slice As k cs)).toArray) (h2 : CurB w0 g v a false) : BkPh w0 X g v a p As k cs R8 (fun _ => false) w0 :=
  ⟨fun _ _ => Upd.refl _ _, Upd.refl _ _, fun _ => h2, (fun e => by cases e), (fun e => by cases e), fun _ => h1, (fun e => by cases e)⟩
theorem BkPh.same (h : BkPh w0 X g v a p As k cs R8 L w) {i : Nat} (h3 : (3 == i) = false) (h5 : (5 == i) = false) (h8 : (8 == i) = false) (h10 : (10 == i) = false) : BkPh w0 X g v a p As k cs R8 (fun j => j == i || L j) w :=
  ⟨fun e f => h.u0 (by simpa [h8] using e) (by simpa [h10] using f), h.u2, fun e => h.c0 (by simpa [h3] using e), fun e f => h.c1 (by simpa [h3] using e) (by simpa [h5] using f), fun e => h.c2 (by simpa [h5] using e), fun e => h.x0 (by simpa [h10] using e), fun e => h.x1 (by simpa [h10] using e)⟩
theorem BkPh.built (h : BkPh w0 X g v a p As k cs R8 L w) {i : Nat} (h3 : (3 == i) = false) (h5 : (5 == i) = false) (h8 : (8 == i) = false) (h10 : (10 == i) = false) (l10 : L 10 = false) (hu : Upd NoF w w') : BkPh w0 X g v a p As k cs R8 (fun j => j == i || L j) w' :=
  ⟨fun e f => (h.u0 (by simpa [h8] using e) (by simpa [h10] using f)).trans hu (fun _ _ f => f.elim), h.u2.trans hu (fun _ _ f => f.elim), fun e => hu.blk (h.c0 (by simpa [h3] using e)) (fun f => f), fun e f => hu.blk (h.c1 (by simpa [h3] using e) (by simpa [h5] using f)) (fun f => f), fun e => hu.blk (h.c2 (by simpa [h5] using e)) (fun f => f), fun e => hu.blk (h.x0 (by simpa [h10] using e)) (fun f => f), fun e => by simp [h10, l10] at e⟩
theorem BkPh.uint (h : BkPh w0 X g v a p As k cs R8 L w) (_l3 : L 3 = false) (l5 : L 5 = false) (l10 : L 10 = false) (hc : CurB w' g v (a + 1) false) (hu : Upd (fun j => j = g) w w') (hgx : g ≠ X) : BkPh w0 X g v a p As k cs R8 (fun j => j == 3 || L j) w' :=
  ⟨fun e f => (h.u0 (by simpa using e) (by simpa using f)).trans hu (fun _ _ f => f), h.u2.trans hu (fun _ _ f => .inl f), fun e => by simp at e, fun _ _ => hc, fun e => by simp [l5] at e, fun _ => hu.blk (h.x0 l10) (fun f => hgx f.symm), fun e => by simp [l10] at e⟩
theorem BkPh.name (h : BkPh w0 X g v a p As k cs R8 L w) (l3 : L 3 = true) (_l5 : L 5 = false) (l10 : L 10 = false) (hc : CurB w' g v (a + 1 + 8) false) (hu : Upd (fun j => j = g) w w') (hgx : g ≠ X) : BkPh w0 X g v a p As k cs R8 (fun j => j == 5 || L j) w' :=
  ⟨fun e f => (h.u0 (by simpa using e) (by simpa using f)).trans hu (fun _ _ f => f), h.u2.trans hu (fun _ _ f => .inl f), fun e => by simp [l3] at e, fun _ e => by simp at e, fun _ => hc, fun _ => hu.blk (h.x0 l10) (fun f => hgx f.symm), fun e => by simp [l10] at e⟩
theorem BkPh.app (h : BkPh w0 X g v a p As k cs R8 L w) (l10 : L 10 = false) (hu : Upd (OwnB (.slice As k cs)) w w') (hX : ¬ OwnB (.slice As k cs) X) (hg : ¬ OwnB (.slice As k cs) g) : BkPh w0 X g v a p As k cs R8 (fun j => j == 8 || L j) w' :=
  ⟨fun e _ => by simp at e, h.u2.trans hu (fun _ _ f => .inr (.inr f)), fun e => hu.blk (h.c0 (by simpa using e)) hg, fun e f => hu.blk (h.c1 (by simpa using e) (by simpa using f)) hg, fun e => hu.blk (h.c2 (by simpa using e)) hg, fun _ => hu.blk (h.x0 l10) hX, fun e => by simp [l10] at e⟩
theorem blkC_put {p : List UInt8} (hp : p.length = 8) (x y : Value) : (blkC p x).toArray.setIfInBounds 8 y = (blkC p y).toArray := by
  obtain ⟨b0, b1, b2, b3, b4, b5, b6, b7, rfl⟩ := name_spell hp
  rfl
theorem BkPh.put (h : BkPh w0 X g v a p As k cs R8 L w) (l10 : L 10 = false) (l8 : L 8 = true) (hp : p.length = 8) {x : Value} (hx : R8 x w) (hgx : g ≠ X) (hR : ∀ x w w', R8 x w → UpdT [67] w w' → R8 x w') : BkPh w0 X g v a p As k cs R8 (fun j => j == 10 || L j) (w.setCell ⟨X, 8, none⟩ x) := by
  have hu : Upd (fun j => j = X) w (w.setCell ⟨X, 8, none⟩ x) := (Upd.refl (fun j => j = X) w).setCell (p := ⟨X, 8, none⟩) (.inl rfl) _
  refine ⟨fun e _ => by simp [l8] at e, h.u2.trans hu (fun _ _ f => .inr (.inl f)), fun e => hu.blk (h.c0 (by simpa using e)) (fun f => hgx f), fun e f => hu.blk (h.c1 (by simpa using e) (by simpa using f)) (fun f => hgx f), fun e => hu.blk (h.c2 (by simpa using e)) (fun f => hgx f), fun e => by simp at e, fun _ => ⟨x, ?_, hR x w _ hx (UpdT.of hu (fun j e => by rw [e]; exact (h.x0 l10).tyf (by simp)))⟩⟩
  have := (h.x0 l10).put 8 x
  rw [blkC_put hp] at this
  exact this
end
theorem bkR8_keep {S0 k cs : Nat} {As : Option Addr} {rows row : List Value} : ∀ x w w', BkR8 S0 As k cs rows row x w → UpdT [67] w w' → BkR8 S0 As k cs rows row x w' := fun _ _ _ ⟨A', c', e, h1, h2⟩ hu => ⟨A', c', e, h1.updT hu (by decide), h2⟩
/-! ### plain -/
def encCh (s : Int × List UInt8) : List UInt8 := byteAt s.1 0 :: s.2
/-- The text of a block behind its kind. -/
def blkT (p : List UInt8) (l : List (Int × List UInt8)) : List UInt8 := p ++ [UInt8.ofNat l.length] ++ (l.map encCh).flatten
theorem flat_dropK {α : Type} (K : Nat) : ∀ (L : List (List α)) (k : Nat), (∀ r ∈ L, r.length = K) → L.flatten.drop (K * k) = (L.drop k).flatten
  | [], k, _ => by simp
  | r :: L, 0, _ => by simp
  | r :: L, k + 1, h => by
    have hr := h r (by simp)
    rw [List.flatten_cons, List.drop_succ_cons, ← flat_dropK K L k (fun x hx => h x (by simp [hx])), List.drop_append, List.drop_eq_nil_of_le (by rw [hr, Nat.mul_succ]; omega), hr, show K * (k + 1) - K = K * k by rw [Nat.mul_succ]; omega, List.nil_append]
theorem flat_lenK {α : Type} (K : Nat) : ∀ (L : List (List α)), (∀ r ∈ L, r.length = K) → L.flatten.length = K * L.length
  | [], _ => by simp
  | r :: L, h => by
    rw [List.flatten_cons, List.length_append, flat_lenK K L (fun x hx => h x (by simp [hx])), h r (by simp), List.length_cons, Nat.mul_succ]
    omega
theorem byte_be {z : Int} (h0 : 0 ≤ z) (h1 : z < 256) : (be [byteAt z 0] : Int) = z := by
  obtain ⟨n, rfl⟩ := Int.eq_ofNat_of_zero_le h0
  have hn : n < 256 := by omega
  have e : byteAt (n : Int) 0 = UInt8.ofNat n := by
    unfold byteAt
    congr 1
    simp
    omega
  rw [e]
  simp [be, Nat.mod_eq_of_lt hn]
section
variable {p : List UInt8} {l : List (Int × List UInt8)} (hp : p.length = 8) (hl : ∀ s ∈ l, s.2.length = 8 ∧ 0 ≤ s.1 ∧ s.1 < 256)
include hp hl
theorem blkT_len : (blkT p l).length = 9 + 9 * l.length := by
  have : ((l.map encCh).flatten).length = 9 * l.length := by
    rw [flat_lenK 9 _ (fun r hr => by obtain ⟨s, hs, rfl⟩ := List.mem_map.1 hr; simp [encCh, (hl s hs).1]), List.length_map]
  simp only [blkT, List.length_append, this, hp, List.length_cons, List.length_nil]
set_option linter.unusedSectionVars false in
theorem blkT_name : (blkT p l).take 8 = p := by
  unfold blkT
  rw [List.append_assoc, List.take_append_of_le_length (by omega), List.take_of_length_le (by omega)]
set_option linter.unusedSectionVars false in
theorem blkT_n (hn : l.length < 256) : be (((blkT p l).drop 8).take 1) = l.length := by
  unfold blkT
  rw [List.append_assoc, List.drop_append, List.drop_eq_nil_of_le (by omega), hp]
  simp [be, Nat.mod_eq_of_lt hn]
theorem blkT_drop (k : Nat) : (blkT p l).drop (9 + 9 * k) = ((l.drop k).map encCh).flatten := by
  unfold blkT
  rw [List.drop_append, List.drop_eq_nil_of_le (by simp [hp]), List.nil_append, show 9 + 9 * k - (p ++ [UInt8.ofNat l.length]).length = 9 * k by simp [hp], flat_dropK 9 _ k (fun r hr => by obtain ⟨s, hs, rfl⟩ := List.mem_map.1 hr; simp [encCh, (hl s hs).1]), List.map_drop]
theorem blkT_slot {k : Nat} {s : Int × List UInt8} (hs : l[k]? = some s) : (be (((blkT p l).drop (9 + 9 * k)).take 1) : Int) = s.1 ∧ ((blkT p l).drop (9 + 9 * k + 1)).take 8 = s.2 := by
  obtain ⟨hk, rfl⟩ := List.getElem?_eq_some_iff.1 hs
  obtain ⟨h1, h2, h3⟩ := hl l[k] (List.getElem_mem _)
  have e : (blkT p l).drop (9 + 9 * k) = byteAt l[k].1 0 :: (l[k].2 ++ ((l.drop (k + 1)).map encCh).flatten) := by
    rw [blkT_drop hp hl k, List.drop_eq_getElem_cons hk, List.map_cons, List.flatten_cons]
    rfl
  refine ⟨?_, ?_⟩
  · rw [e]
    exact byte_be h2 h3
  · rw [← List.drop_drop, e, List.drop_succ_cons, List.drop_zero, List.take_append_of_le_length (by omega), List.take_of_length_le (by omega)]
end

/-! ### the walk -/
structure BkD (w : World) (R g X : Nat) (v : Value) (p : List UInt8) (l : List (Int × List UInt8)) (k : Nat) (As : Option Addr) (cs : Nat) (wr : World) : Prop where
  up : Upd NoF w wr
  cur : CurB wr g v (9 + 9 * k) false
  res : ∃ b, Blk wr R 67 b ∧ b.size = 9
  xb : Blk wr X 67 (blkC p (.slice As k cs)).toArray
  own : Own wr 64 9 (.slice As k cs) k ((l.take k).map choiceC).flatten
  new : ∀ j, OwnB (.slice As k cs) j → w.heap.size ≤ j
theorem ld_blk {w : World} {g k : Nat} {t : TypeId} {cs : Array Value} (hb : Blk w g t cs) (hk : cs.size = k) : Sem.run Tryz.prog (loadCellsFrom ⟨g, 0, none⟩ 0 k #[]) w = .ok cs w := by
  have := run_loadCellsFrom_list Tryz.prog w ⟨g, 0, none⟩ cs.toList k (by simpa using hk) (fun j v hj => by
    have hadd : (⟨g, 0, none⟩ : Addr).add j = ⟨g, j, none⟩ := by unfold Addr.add; split <;> simp_all
    rw [hadd, hb.cell j]
    simpa using hj)
  simpa using this
def DecOk (w : World) (p : List UInt8) (l : List (Int × List UInt8)) (e : Ending) (w' : World) : Prop := ∃ A c, e = .returned (.tuple #[.agg (blkC p (.slice A l.length c)).toArray, .int .i64 0]) ∧ ChR w' (.slice A l.length c) l ∧ Upd NoF w w'
theorem take_map_snoc {α β : Type} (f : α → List β) {l : List α} {k : Nat} {s : α} (hs : l[k]? = some s) : ((l.take (k + 1)).map f).flatten = ((l.take k).map f).flatten ++ f s := by
  obtain ⟨hk, rfl⟩ := List.getElem?_eq_some_iff.1 hs
  rw [List.take_succ_eq_append_getElem hk, List.map_append, List.flatten_append]
  simp only [List.map_cons, List.map_nil, List.flatten_cons, List.flatten_nil, List.append_nil]
theorem alloc_block (w : World) : (Instr.alloc 67 true (.tuple #[])).run Tryz.prog w = .ok (.pointer (some ⟨w.heap.size, 0, none⟩)) (w.alloc (.cells (blkC (List.replicate 8 0) (.slice none 0 0)).toArray 67)) := by kernel_rfl
theorem build_block' (q0 q1 q2 q3 q4 q5 q6 q7 : UInt8) (w : World) : (Instr.build 67 #[(0, .agg #[byteV q0, byteV q1, byteV q2, byteV q3, byteV q4, byteV q5, byteV q6, byteV q7])]).run Tryz.prog w = .ok (.agg #[byteV q0, byteV q1, byteV q2, byteV q3, byteV q4, byteV q5, byteV q6, byteV q7, .slice none 0 0]) w := by kernel_rfl
theorem build_block {n : List UInt8} (hn : n.length = 8) (w : World) : (Instr.build 67 #[(0, nameV n)]).run Tryz.prog w = .ok (.agg (blkC n (.slice none 0 0)).toArray) w := by
  obtain ⟨q0, q1, q2, q3, q4, q5, q6, q7, rfl⟩ := name_spell hn
  exact build_block' q0 q1 q2 q3 q4 q5 q6 q7 w
theorem blk_size {p : List UInt8} (hp : p.length = 8) (v : Value) : (blkC p v).toArray.size = 9 := by simp [blkC, hp]
theorem block_size : (Tryz.prog.info? 67).map (·.size) = some 9 := by kernel_rfl
theorem blk_one (p : List UInt8) (A : Option Addr) (n c : Nat) : (blkC p (.slice A n c)).toArray.all (·.oneCell') = true := by
  rw [List.all_toArray, List.all_eq_true]
  intro u hu
  unfold blkC at hu
  rcases List.mem_append.1 hu with hu | hu
  · exact bytes_oneCell p u hu
  · simp at hu
    subst hu
    rfl
theorem wpList_build_block {ops : Array Oper} {rest : List Oper} {o : Oper} {a : Act} {w : World} {Q : Exit → Act → World → Prop} (hgd : o.guard = none) (x : Operand) (ho : o.op = .build 67 #[(0, x)]) {n : List UInt8} (hn : n.length = 8) (nb : Array Value) (hnb : (n.map byteV).toArray = nb) (hx : a.eval x = .agg nb) (z : Array Value) (hz : (blkC n (.slice none 0 0)).toArray = z)
    (hk : wpList Tryz.prog ops Q rest (a.put o.dst (.agg z)) w) : wpList Tryz.prog ops Q (o :: rest) a w := by
  subst hnb hz
  exact wpList_od (post := fun v w' => wpList Tryz.prog ops Q rest (a.put o.dst v) w') hgd (od_build 67 _ ho #[(0, nameV n)] (by simp [hx]) (build_block hn w) hk) (fun _ _ h => h)
set_option maxRecDepth 100000 in
set_option maxHeartbeats 16000000 in
theorem DecodeBlock_ok {w : World} {v : Value} {p : List UInt8} {l : List (Int × List UInt8)} (h : Rd w 1 v (3 :: blkT p l).length ((3 :: blkT p l).map byteV)) (hp : p.length = 8) (hl : ∀ s ∈ l, s.2.length = 8 ∧ 0 ≤ s.1 ∧ s.1 < 256) (hg : GoodCh l) :
    Calls Tryz.prog 87 #[v] w (DecOk w p l) := by
  obtain ⟨A, c, rfl, hlc, hcm⟩ := h.slice
  have hTL := blkT_len hp hl
  obtain ⟨i0, hi0, hz0, hz1, hz2⟩ := info_parts choice_info
  have HTL := Lib.hid hTL
  have HP8 := Lib.hid hp
  have HL := Lib.hid hl
  have HG := Lib.hid hg
  have HTN := Lib.hid (blkT_name hp hl)
  have HTC := Lib.hid (blkT_n hp hl (by have := hg.2.1; omega))
  have HTS := Lib.hid (fun (k : Nat) (s : Int × List UInt8) (hs : l[k]? = some s) => blkT_slot hp hl hs)
  obtain ⟨T, hT⟩ : ∃ T, T = blkT p l := ⟨_, rfl⟩
  rw [← hT] at h hlc HTL HTN HTC HTS ⊢
  obtain ⟨NL, hNL⟩ : ∃ n, l.length = n := ⟨_, rfl⟩
  have HNL := Lib.hid hNL
  have hn7 : NL ≤ 7 := by rw [← hNL]; exact hg.2.1
  rw [hNL] at HTL HTC
  have H := Lib.hid h
  obtain ⟨pb, hpb⟩ : ∃ x, (p.map byteV).toArray = x := ⟨_, rfl⟩
  have HPB := Lib.hid hpb
  obtain ⟨zb, hzb⟩ : ∃ x, (blkC p (.slice none 0 0)).toArray = x := ⟨_, rfl⟩
  have HZB := Lib.hid hzb
  clear h hp hl hg hTL hT hNL hcm hpb hzb
  go_enter Tryz.func87, Tryz.ntmps87
  go_wp2_with (first
    | (refine wpList_alloc_row rfl 67 rfl (blkC (List.replicate 8 0) (.slice none 0 0)).toArray alloc_block ?_; intro w1 hb1 hu1 hs1; have B1 := Lib.hid hb1; have V1 := Lib.hid hu1; have S1 := Lib.hid hs1; clear hb1 hu1 hs1))
  refine (open_ok (H.out.keep V1.out) 3 rfl (by omega)).mono ?_
  rintro e w2 ⟨g, Ag, cg, rfl, hc2, hr2, hg2, hu2⟩
  have V2 := Lib.hid (V1.out.trans hu2 (fun _ _ f => f))
  have B2 := Lib.hid (hu2.blk B1.out (fun f => f))
  have C2 := Lib.hid hc2
  have R2 := Lib.hid hr2
  have R2' := Lib.hid (hr2 w2 hu2)
  have HGR := Lib.hid (show w.heap.size < g from by have := S1.out; omega)
  have HM := Lib.hid (show T.length ≤ 1099511627776 from by rw [HTL.out]; omega)
  have cn := curName_ok hc2 R2'.out HM.out (by rw [HTL.out]; omega)
  unfold NameOk at cn
  rw [List.drop_zero, HTN.out, show nameV p = .agg pb from by rw [← HPB.out]] at cn
  have CN := Lib.hid cn
  clear cn
  have HU2 := Lib.hid hu2
  clear hc2 hr2 hg2 hu2
  go_wp2_with fail
  refine CN.out.mono ?_
  rintro e w3 ⟨rfl, hc3, hu3⟩
  have V3 := Lib.hid (V2.out.trans hu3 (fun k hk e => by have := HGR.out; have e : k = g := e; omega))
  have B3 := Lib.hid (hu3.blk B2.out (fun e => by have := HGR.out; have e : w.heap.size = g := e; omega))
  have C3 := Lib.hid hc3
  clear hc3 CN
  have HU3 := Lib.hid hu3
  clear hu3
  go_wp2_with (first
    | (refine wpList_build_block rfl (.tmp 9) rfl HP8.out pb HPB.out rfl zb HZB.out ?_)
    | (refine wpList_alloc_row rfl 67 rfl (blkC (List.replicate 8 0) (.slice none 0 0)).toArray alloc_block ?_; intro w4 hb4 hu4 hs4; have B4 := Lib.hid hb4; have V4 := Lib.hid hu4; have S4 := Lib.hid hs4; clear hb4 hu4 hs4)
    | (refine wpList_store_row rfl 67 (.tmp 5) (.tmp 10) rfl w3.heap.size rfl zb rfl 67 _ B4.out (by rw [← HZB.out, blk_size HP8.out]; exact blk_size (by simp) _) (by rw [← HZB.out, blk_size HP8.out, block_size]) (by rw [← HZB.out]; exact blk_one p none 0 0) ?_; intro w5 hb5 hu5 hs5; have B5 := Lib.hid hb5; have V5 := Lib.hid hu5; have S5 := Lib.hid hs5; clear hb5 hu5 hs5))
  obtain ⟨X, hX⟩ : ∃ x, w3.heap.size = x := ⟨_, rfl⟩
  rw [hX] at B4 V5 B5 ⊢
  have HX := Lib.hid hX
  clear hX
  have HRX := Lib.hid (show w.heap.size < X ∧ g < X from ⟨by have := B3.out.lt; have := HX.out; omega, by have := C3.out.lt; have := HX.out; omega⟩)
  have W5 := Lib.hid (show Upd NoF w w5 from (V3.out.trans V4.out (fun _ _ f => f)).trans V5.out (fun k hk e => by have := HRX.out.1; have e : k = X := e; omega))
  have UW15 := Lib.hid (show Upd NoF w1 w5 from ((HU2.out.trans HU3.out (fun k hk e => by have := HGR.out; have := S1.out; have e : k = g := e; omega)).trans V4.out (fun _ _ f => f)).trans V5.out (fun k hk e => by have := HX.out; have := HU2.out.size; have := HU3.out.size; have e : k = X := e; omega))
  have R5 := Lib.hid (show ∀ W, Upd (fun j => w.heap.size < j) w5 W → Rd W 1 (.slice Ag T.length cg) T.length (T.map byteV) from fun W hu => R2.out W (UW15.out.trans hu (fun k hk e => by have := S1.out; omega)))
  have C5 := Lib.hid (show CurB w5 g (.slice Ag T.length cg) (0 + 8) false from V5.out.blk (V4.out.blk C3.out (fun f => f)) (fun e => by have := HRX.out.2; have e : g = X := e; omega))
  have Z5 := Lib.hid (V5.out.blk (V4.out.blk B3.out (fun f => f)) (fun e => by have := HRX.out.1; have e : w.heap.size = X := e; omega))
  have cu := curUintK_ok (k := 1) (by omega) (by omega) C5.out (R5.out w5 (Upd.refl _ _)) HM.out (by rw [HTL.out]; omega)
  unfold UintOkK at cu
  rw [Nat.zero_add, HTC.out] at cu
  have CU := Lib.hid cu
  clear cu
  go_wp2_with fail
  refine CU.out.mono ?_
  rintro e w6 ⟨rfl, hc6, hu6⟩
  have D6 := Lib.hid (show BkD w w.heap.size g X (.slice Ag T.length cg) p l 0 none 0 w6 from
    ⟨W5.out.trans hu6 (fun k hk e => by have := HGR.out; have e : k = g := e; omega), hc6, ⟨_, hu6.blk Z5.out (fun e => by have := HGR.out; have e : w.heap.size = g := e; omega), blk_size (by simp) _⟩, by rw [HZB.out]; exact hu6.blk B5.out (fun e => by have := HRX.out.2; have e : X = g := e; omega), by simpa using Own.nil w6 64 9, fun j hj => by simp [OwnB, Value.ownBlock] at hj⟩)
  have R6 := Lib.hid (show ∀ W, Upd (fun j => w.heap.size < j) w6 W → Rd W 1 (.slice Ag T.length cg) T.length (T.map byteV) from fun W hu => R5.out W ((hu6.mono (G := fun j => w.heap.size < j) (fun k _ e => by have := HGR.out; have e : k = g := e; omega)).trans hu (fun _ _ f => f)))
  clear hc6 hu6 CU C5 Z5 R5 W5 B5 V5 S5 B4 V4 S4 HX B3 V3 C3 HU3 B2 V2 C2 R2 B1 V1 S1 H
  go_wp2
  go_loopg [13] NL (fun kx s13 wr => ∃ (k : Nat) (As : Option Addr) (cs : Nat), s13 = .int .i64 (k : Int) ∧ k ≤ NL ∧ NL - k ≤ kx ∧ Hid (BkD w w.heap.size g X (.slice Ag T.length cg) p l k As cs wr) ∧ Hid (∀ W, Upd (fun j => w.heap.size < j) wr W → Rd W 1 (.slice Ag T.length cg) T.length (T.map byteV)))
  case atStart => exact ⟨0, none, 0, rfl, by omega, by omega, D6, R6⟩
  case round =>
    obtain ⟨k, As, cs, rfl, hkn, hkx, D, RT⟩ := hrel
    clear D6 R6
    by_cases hlt : k < NL
    · have hltz : (k : Int) < (NL : Int) := by omega
      obtain ⟨s, hs⟩ : ∃ s, l[k]? = some s := ⟨_, List.getElem?_eq_getElem (by have := HNL.out; omega)⟩
      obtain ⟨hz1', hn1'⟩ := HTS.out k s hs
      obtain ⟨a, ha⟩ : ∃ a, a = 9 + 9 * k := ⟨_, rfl⟩
      have HAK := Lib.hid ha
      rw [← ha] at hz1' hn1'
      obtain ⟨z, hz⟩ : ∃ z, be ((T.drop a).take 1) = z := ⟨_, rfl⟩
      rw [hz] at hz1'
      obtain ⟨nmk, hnm⟩ : ∃ x, (T.drop (a + 1)).take 8 = x := ⟨_, rfl⟩
      rw [hnm] at hn1'
      have HZ := Lib.hid hz
      have HNM := Lib.hid hnm
      have HSS := Lib.hid (show choiceC ((z : Int), nmk) = choiceC s from by rw [hz1', hn1'])
      have HN8 := Lib.hid (show nmk.length = 8 from by rw [hn1']; exact (HL.out s (List.mem_of_getElem? hs)).1)
      have HSK := Lib.hid hs
      have HBX := Lib.hid D.out.xb
      have HCU := Lib.hid (show CurB wr g (.slice Ag T.length cg) a false from by rw [HAK.out]; exact D.out.cur)
      have HA1 := Lib.hid (show a + 9 ≤ T.length from by rw [HAK.out, HTL.out]; omega)
      have HGS := Lib.hid (show g < wr.heap.size from HCU.out.lt)
      have HXS := Lib.hid (show X < wr.heap.size from HBX.out.lt)
      have HGX := Lib.hid (show g ≠ X from by have := HRX.out.2; omega)
      obtain ⟨rows, hrows⟩ : ∃ r, ((l.take k).map choiceC).flatten = r := ⟨_, rfl⟩
      have HRO := Lib.hid hrows
      have HOW := Lib.hid (show Own wr 64 9 (.slice As k cs) k rows from by rw [HRO.out.symm]; exact D.out.own)
      have HGO := Lib.hid (show ¬ OwnB (.slice As k cs) g from HOW.out.blk_ne HCU.out (by decide))
      have HXO := Lib.hid (show ¬ OwnB (.slice As k cs) X from HOW.out.blk_ne HBX.out (by decide))
      have HB1 := Lib.hid (show k + 1 ≤ maxLen ∧ (k + 1) * 16 ≤ 140737488355328 from by unfold maxLen; omega)
      have HL1 := HM
      obtain ⟨ra, hra⟩ : ∃ x, (choiceC ((z : Int), nmk)).toArray = x := ⟨_, rfl⟩
      have HRA := Lib.hid hra
      have HRD := Lib.hid (show ∀ W, Upd (fun j => j = g ∨ j = X ∨ OwnB (.slice As k cs) j) wr.drew W → Rd W 1 (.slice Ag T.length cg) T.length (T.map byteV) from fun W hu => RT.out W ((Upd.refl (fun j => w.heap.size < j) wr).drew.trans hu (fun j hj f => by
        have h1 := HGR.out
        have h2 := HRX.out.1
        rcases f with f | f | f
        · omega
        · omega
        · have h3 := D.out.new j f
          rcases Nat.lt_or_ge w.heap.size j with h4 | h4
          · exact h4
          · obtain ⟨b, hb, -⟩ := D.out.res
            have h5 : j = w.heap.size := by omega
            rw [h5] at f
            exact absurd f (HOW.out.blk_ne hb (by decide)))))
      obtain ⟨v, hv⟩ : ∃ v, Value.slice Ag T.length cg = v := ⟨_, rfl⟩
      have HV := Lib.hid hv
      rw [hv] at HRD HCU
      clear ha hz hnm hz1' hn1' hs hrows hra hv
      go_wp2_with fail
      refine wp_region_rgl (rgR [isV (.pointer (some ⟨X, 8, none⟩)), isV (.slice As k cs), isV (ptrV g), isV (.int .i64 ((z : Nat) : Int)), isV (ptrV g), isV (nameV nmk), isV (.agg ra), BkR7 wr.heap.size (choiceC ((z : Nat), nmk)), BkR8 wr.heap.size As k cs rows (choiceC ((z : Nat), nmk)), isV (.pointer (some ⟨X, 8, none⟩)), anyV]) (BkSt wr.heap.size g X As k cs) (BkPh wr.drew X g v a p As k cs (BkR8 wr.heap.size As k cs rows (choiceC ((z : Nat), nmk)))) (by kernel_rfl) (by kernel_rfl) (by kernel_rfl) (by rfl) (fun L w => BkSt.none (Upd.refl _ _)) (rgR_keepL ⟨stbL_isV _, stbL_isV _, stbL_isV _, stbL_isV _, stbL_isV _, stbL_isV _, stbL_isV _, stbL_b7, stbL_b8, stbL_isV _, stbL_any, trivial⟩) (BkPh.start (Blk.drew HBX.out) (Blk.drew HCU.out)) ?_ ?_
      · refine ⟨?_, ?_, ?_, ?_, ?_, ?_, ?_, ?_, ?_, ?_, ?_, trivial⟩
        · refine fun ρ w' L hW hLi hcl hd hdep hext hc hg hf => ?_
          rw [if_pos (show wantedR _ _ _ = true from rfl)]
          have e5 : ρ (.tmp 5) = ptrV X := hext 5 (by kernel_rfl)
          clear hdep hext hcl
          have HW := Lib.hid hW
          clear hW
          unfold OpDone
          go_simp
          exact ⟨rfl, BkSt.none (Upd.refl _ _), (HW.out.same (by decide) (by decide) (by decide) (by decide))⟩
        · refine fun ρ w' L hW hLi hcl hd hdep hext hc hg hf => ?_
          rw [if_pos (show wantedR _ _ _ = true from rfl)]
          have e15 : ρ (.tmp 15) = .pointer (some ⟨X, 8, none⟩) := hdep 0 _ rfl (by kernel_rfl)
          have h10 : L 10 = false := by
            cases h : L 10 with
            | false => rfl
            | true => exact absurd (hcl 8 1 (hcl 10 8 h (by kernel_rfl)) (by kernel_rfl)) (by rw [hLi]; decide)
          have q0 : w'.cell? ⟨X, 8, none⟩ = some (.slice As k cs) := by
            rw [(hW.x0 h10).cell 8]
            unfold blkC
            rw [List.getElem?_toArray, List.getElem?_append_right (by simp [HP8.out])]
            simp [HP8.out]
          clear hdep hext hcl
          have HW := Lib.hid hW
          clear hW
          unfold OpDone
          go_simp
          exact ⟨rfl, BkSt.none (Upd.refl _ _), (HW.out.same (by decide) (by decide) (by decide) (by decide))⟩
        · refine fun ρ w' L hW hLi hcl hd hdep hext hc hg hf => ?_
          rw [if_pos (show wantedR _ _ _ = true from rfl)]
          have e4 : ρ (.tmp 4) = ptrV g := hext 4 (by kernel_rfl)
          clear hdep hext hcl
          have HW := Lib.hid hW
          clear hW
          unfold OpDone
          go_simp
          exact ⟨rfl, BkSt.none (Upd.refl _ _), (HW.out.same (by decide) (by decide) (by decide) (by decide))⟩
        · refine fun ρ w' L hW hLi hcl hd hdep hext hc hg hf => ?_
          rw [if_pos (show wantedR _ _ _ = true from rfl)]
          have e17 : ρ (.tmp 17) = ptrV g := hdep 2 _ rfl (by kernel_rfl)
          clear hdep hext
          have h5 : L 5 = false := by
            cases h : L 5 with
            | false => rfl
            | true => exact absurd (hcl 5 3 h (by kernel_rfl)) (by rw [hLi]; decide)
          have h8 : L 8 = false := by
            cases h : L 8 with
            | false => rfl
            | true => exact absurd (hcl 6 3 (hcl 7 6 (hcl 8 7 h (by kernel_rfl)) (by kernel_rfl)) (by kernel_rfl)) (by rw [hLi]; decide)
          have h10 : L 10 = false := by
            cases h : L 10 with
            | false => rfl
            | true => exact absurd (hcl 6 3 (hcl 7 6 (hcl 8 7 (hcl 10 8 h (by kernel_rfl)) (by kernel_rfl)) (by kernel_rfl)) (by kernel_rfl)) (by rw [hLi]; decide)
          have CU := Lib.hid (curUintK_ok (k := 1) (by omega) (by omega) (hW.c0 hLi) (HRD.out w' hW.u2) HL1.out (by have := HA1.out; omega))
          rw [HZ.out] at CU
          have HW := Lib.hid hW
          have H5 := Lib.hid h5
          have HLI := Lib.hid hLi
          have H8 := Lib.hid (And.intro h8 h10)
          clear hW hcl h5 hLi hd h8 h10
          unfold OpDone
          go_simp
          refine CU.out.mono ?_
          rintro e w2 ⟨rfl, hc2, hu2⟩
          exact ⟨_, rfl, rfl, BkSt.cur H8.out.1 H8.out.2 hu2 HGS.out, HW.out.uint HLI.out H5.out H8.out.2 hc2 hu2 HGX.out⟩
        · refine fun ρ w' L hW hLi hcl hd hdep hext hc hg hf => ?_
          rw [if_pos (show wantedR _ _ _ = true from rfl)]
          have e4 : ρ (.tmp 4) = ptrV g := hext 4 (by kernel_rfl)
          clear hdep hext hcl
          have HW := Lib.hid hW
          clear hW
          unfold OpDone
          go_simp
          exact ⟨rfl, BkSt.none (Upd.refl _ _), (HW.out.same (by decide) (by decide) (by decide) (by decide))⟩
        · refine fun ρ w' L hW hLi hcl hd hdep hext hc hg hf => ?_
          rw [if_pos (show wantedR _ _ _ = true from rfl)]
          have e19 : ρ (.tmp 19) = ptrV g := hdep 4 _ rfl (by kernel_rfl)
          clear hdep hext
          have h3 : L 3 = true := hd 3 (by kernel_rfl)
          have h8 : L 8 = false := by
            cases h : L 8 with
            | false => rfl
            | true => exact absurd (hcl 6 5 (hcl 7 6 (hcl 8 7 h (by kernel_rfl)) (by kernel_rfl)) (by kernel_rfl)) (by rw [hLi]; decide)
          have h10 : L 10 = false := by
            cases h : L 10 with
            | false => rfl
            | true => exact absurd (hcl 6 5 (hcl 7 6 (hcl 8 7 (hcl 10 8 h (by kernel_rfl)) (by kernel_rfl)) (by kernel_rfl)) (by kernel_rfl)) (by rw [hLi]; decide)
          have CN := Lib.hid (curName_ok (hW.c1 h3 hLi) (HRD.out w' hW.u2) HL1.out (by have := HA1.out; omega))
          rw [HNM.out] at CN
          have HW := Lib.hid hW
          have H3 := Lib.hid h3
          have HLI := Lib.hid hLi
          have H8 := Lib.hid (And.intro h8 h10)
          clear hW hcl h3 hLi hd h8 h10
          unfold OpDone
          go_simp
          refine CN.out.mono ?_
          rintro e w2 ⟨rfl, hc2, hu2⟩
          exact ⟨_, rfl, rfl, BkSt.cur H8.out.1 H8.out.2 hu2 HGS.out, HW.out.name H3.out HLI.out H8.out.2 hc2 hu2 HGX.out⟩
        · refine fun ρ w' L hW hLi hcl hd hdep hext hc hg hf => ?_
          rw [if_pos (show wantedR _ _ _ = true from rfl)]
          have e18 : ρ (.tmp 18) = .int .i64 ((z : Nat) : Int) := hdep 3 _ rfl (by kernel_rfl)
          have e20 : ρ (.tmp 20) = nameV nmk := hdep 5 _ rfl (by kernel_rfl)
          clear hdep hext
          refine od_build 64 _ rfl #[(0, .int .i64 ((z : Nat) : Int)), (1, nameV nmk)] (by simp [e18, e20]) (by rw [build_choice _ HN8.out, HRA.out]) ⟨rfl, BkSt.none (Upd.refl _ _), hW.same (by decide) (by decide) (by decide) (by decide)⟩
        · refine fun ρ w' L hW hLi hcl hd hdep hext hc hg hf => ?_
          rw [if_pos (show wantedR _ _ _ = true from rfl)]
          have e21 : ρ (.tmp 21) = .agg ra := hdep 6 _ rfl (by kernel_rfl)
          clear hdep hext
          have hS0 : wr.heap.size ≤ w'.heap.size := hW.u2.size
          have h10 : L 10 = false := by
            cases h : L 10 with
            | false => rfl
            | true => exact absurd (hcl 8 7 (hcl 10 8 h (by kernel_rfl)) (by kernel_rfl)) (by rw [hLi]; decide)
          refine od_buildSlice_row9 65 64 (.tmp 21) rfl _ e21 ra (by rw [← HRA.out]; exact bs_choice _ HN8.out w') ?_
          exact ⟨⟨_, rfl, by rw [HRA.out]; exact Blk.new w' _ _, hS0⟩, BkSt.none ((Upd.refl _ w').alloc _), hW.built (by decide) (by decide) (by decide) (by decide) h10 ((Upd.refl _ w').alloc _)⟩
        · refine fun ρ w' L hW hLi hcl hd hdep hext hc hg hf => ?_
          rw [if_pos (show wantedR _ _ _ = true from rfl)]
          have e16 : ρ (.tmp 16) = .slice As k cs := hdep 1 _ rfl (by kernel_rfl)
          have e22 : (BkR7 wr.heap.size (choiceC ((z : Nat), nmk))) (ρ (.tmp 22)) w' := hdep 7 _ rfl (by kernel_rfl)
          clear hdep hext
          have hS0 : wr.heap.size ≤ w'.heap.size := hW.u2.size
          have h10 : L 10 = false := by
            cases h : L 10 with
            | false => rfl
            | true => exact absurd (hcl 10 8 h (by kernel_rfl)) (by rw [hLi]; decide)
          obtain ⟨g7, e22, hb7, hg7⟩ := e22
          have hO : Own w' 64 9 (.slice As k cs) k rows := HOW.out.upd (((Upd.refl (fun j => j = g) wr).drew).trans (hW.u0 hLi h10) (fun _ _ f => f)) (fun j hj f => HGO.out (by rw [show j = g from f] at hj; exact hj))
          refine od_append (.tmp 16) (.tmp 22) 65 rfl 64 i0 _ 9 16 Tryz.underlying65 hi0 hz0 hz1 hz2 (by kernel_rfl) _ k _ e16 hO _ 1 (choiceC ((z : Nat), nmk)) e22 (Rd.of_blk hb7 (by omega) (by unfold maxLen; omega) (by simp [choiceC, HN8.out]) (fun j y hy => by rw [Nat.zero_add]; simpa using hy)) (choice_one _ _) HB1.out.1 HB1.out.2 ?_
          intro A8 c8 w8 ho8 hu8 hn8
          have hty : ∀ j, OwnB (.slice As k cs) j → j < wr.heap.size := fun j hj => HOW.out.lt hj
          refine ⟨⟨A8, c8, rfl, ho8, fun j hj => ?_⟩, ⟨hu8.mono (fun j _ f => ⟨hty j f, .inr (.inr f)⟩), (fun e => by rw [hLi] at e; cases e), (fun e => by rw [h10] at e; cases e)⟩, hW.app h10 hu8 HXO.out HGO.out⟩
          rcases hn8 j hj with q | q
          · exact .inl q
          · exact .inr (by omega)
        · refine fun ρ w' L hW hLi hcl hd hdep hext hc hg hf => ?_
          rw [if_pos (show wantedR _ _ _ = true from rfl)]
          have e5 : ρ (.tmp 5) = ptrV X := hext 5 (by kernel_rfl)
          clear hdep hext hcl
          have HW := Lib.hid hW
          clear hW
          unfold OpDone
          go_simp
          exact ⟨rfl, BkSt.none (Upd.refl _ _), (HW.out.same (by decide) (by decide) (by decide) (by decide))⟩
        · refine fun ρ w' L hW hLi hcl hd hdep hext hc hg hf => ?_
          rw [if_pos (show wantedR _ _ _ = true from rfl)]
          have e24 : ρ (.tmp 24) = .pointer (some ⟨X, 8, none⟩) := hdep 9 _ rfl (by kernel_rfl)
          have e23 : (BkR8 wr.heap.size As k cs rows (choiceC ((z : Nat), nmk))) (ρ (.tmp 23)) w' := hdep 8 _ rfl (by kernel_rfl)
          clear hdep hext
          have h8 : L 8 = true := hd 8 (by kernel_rfl)
          have q1 : w'.frozen? ⟨X, 8, none⟩ = false := (hW.x0 hLi).frozen 8
          have q0 : w'.cell? ⟨X, 8, none⟩ = some (.slice As k cs) := by
            rw [(hW.x0 hLi).cell 8]
            unfold blkC
            rw [List.getElem?_toArray, List.getElem?_append_right (by simp [HP8.out])]
            simp [HP8.out]
          have HW := Lib.hid hW
          have HL := Lib.hid (And.intro hLi h8)
          obtain ⟨A8, c8, e23, hr8⟩ := e23
          have HR8 := Lib.hid hr8
          clear hW hcl hd hLi h8 hr8
          unfold OpDone
          go_simp
          exact ⟨trivial, BkSt.put HL.out.1 HXS.out (HW.out.x0 HL.out.1) ((Upd.refl (fun j => j = X) w').setCell (p := ⟨X, 8, none⟩) (.inl rfl) _), HW.out.put HL.out.1 HL.out.2 HP8.out ⟨A8, c8, rfl, HR8.out⟩ HGX.out bkR8_keep⟩
      intro vs wz Lz hLz hWz hR
      have hv0 : vs 0 = .pointer (some ⟨X, 8, none⟩) := hR 0 _ rfl
      have hv1 : vs 1 = .slice As k cs := hR 1 _ rfl
      have hv2 : vs 2 = ptrV g := hR 2 _ rfl
      have hv3 : vs 3 = .int .i64 ((z : Nat) : Int) := hR 3 _ rfl
      have hv4 : vs 4 = ptrV g := hR 4 _ rfl
      have hv5 : vs 5 = nameV nmk := hR 5 _ rfl
      have hv6 : vs 6 = .agg ra := hR 6 _ rfl
      have hr7 : (BkR7 wr.heap.size (choiceC ((z : Nat), nmk))) (vs 7) wz := hR 7 _ rfl
      obtain ⟨yg, hv7, -⟩ := hr7
      have hr8 : (BkR8 wr.heap.size As k cs rows (choiceC ((z : Nat), nmk))) (vs 8) wz := hR 8 _ rfl
      obtain ⟨zA, zc, hv8, -⟩ := hr8
      have hv9 : vs 9 = .pointer (some ⟨X, 8, none⟩) := hR 9 _ rfl
      simp only [putAll, Act.put, List.setIfInBounds_toArray, List.set_cons_zero, List.set_cons_succ, hv0, hv1, hv2, hv3, hv4, hv5, hv6, hv7, hv8, hv9]
      clear hR hv0 hv1 hv2 hv3 hv4 hv5 hv6 hv7 hv8 hv9
      have HX1 := Lib.hid (hWz.x1 (hLz 10 (by decide)))
      have HC1 := Lib.hid (hWz.c2 (hLz 5 (by decide)))
      have HU1 := Lib.hid hWz.u2
      clear hLz hWz
      obtain ⟨x8, hb8, A8, c8, hx8, ho8, hn8⟩ := HX1.out
      have DN := Lib.hid (show BkD w w.heap.size g X (.slice Ag T.length cg) p l (k + 1) A8 c8 wz from by
        obtain ⟨b, hb, hbz⟩ := D.out.res
        refine ⟨D.out.up.trans (((Upd.refl (fun j => j = g ∨ j = X ∨ OwnB (.slice As k cs) j) wr).drew).trans HU1.out (fun _ _ f => f)) (fun j hj f => ?_), ?_, ⟨b, ?_, hbz⟩, ?_, ?_, fun j hj => ?_⟩
        · have h1 := HGR.out
          have h2 := HRX.out.1
          rcases f with f | f | f
          · omega
          · omega
          · have h3 := D.out.new j f
            omega
        · rw [HV.out, show 9 + 9 * (k + 1) = a + 9 by rw [HAK.out]; omega]
          exact HC1.out
        · exact HU1.out.blk (Blk.drew hb) (fun f => by
            have h1 := HGR.out
            have h2 := HRX.out.1
            rcases f with f | f | f
            · omega
            · omega
            · exact HOW.out.blk_ne hb (by decide) f)
        · rw [← hx8]; exact hb8
        · rw [take_map_snoc choiceC HSK.out, HRO.out, ← HSS.out]
          exact ho8
        · rcases hn8 j hj with f | f
          · exact D.out.new j f
          · have := D.out.up.size
            omega)
      have RN := Lib.hid (show ∀ W, Upd (fun j => w.heap.size < j) wz W → Rd W 1 (.slice Ag T.length cg) T.length (T.map byteV) from fun W hu => RT.out W (((Upd.refl (fun j => w.heap.size < j) wr).drew.trans HU1.out (fun j hj f => by
        have h1 := HGR.out
        have h2 := HRX.out.1
        rcases f with f | f | f
        · omega
        · omega
        · have h3 := D.out.new j f
          rcases Nat.lt_or_ge w.heap.size j with h4 | h4
          · exact h4
          · obtain ⟨b, hb, -⟩ := D.out.res
            have h5 : j = w.heap.size := by omega
            rw [h5] at f
            exact absurd f (HOW.out.blk_ne hb (by decide)))).trans hu (fun _ _ f => f)))
      clear hb8 hx8 ho8 hn8
      go_wp2
      go_roundg (NL - (k + 1))
      case measure => omega
      case rel => exact ⟨k + 1, A8, c8, by first | rfl | go_num, by omega, by omega, DN, RN⟩
    · have hltz : ¬ (k : Int) < (NL : Int) := by omega
      obtain rfl : k = NL := by omega
      have HTK := Lib.hid (show l.take k = l from List.take_of_length_le (by rw [HNL.out]; exact Nat.le_refl _))
      obtain ⟨xa, hxa⟩ : ∃ x, (blkC p (.slice As k cs)).toArray = x := ⟨_, rfl⟩
      have HXA := Lib.hid hxa
      have CD := Lib.hid (curDone_any (n := T.length) (a := 9 + 9 * k) (bad := false) D.out.cur)
      have HDE := Lib.hid (show (!false && decide (9 + 9 * k = T.length)) = true from by rw [HTL.out]; simp)
      rw [HDE.out] at CD
      have CHR := Lib.hid (show ∀ W, Upd (fun j => j = w.heap.size) wr W → ChR W (.slice As l.length cs) l from fun W hu => by
        have h1 := D.out.own
        rw [HTK.out] at h1
        refine ⟨fun s hs => (HL.out s hs).1, ?_⟩
        rw [HNL.out]
        refine (h1.upd hu (fun j hj f => ?_)).rd
        obtain ⟨b, hb, -⟩ := D.out.res
        rw [show j = w.heap.size from f] at hj
        exact h1.blk_ne hb (by decide) hj)
      have CV := Lib.hid (fun W (hu : Upd NoF wr W) => validBlock_ok HP8.out (CHR.out W (hu.mono (fun _ _ f => f.elim))) HG.out)
      rw [HNL.out, hxa] at CV
      clear hxa
      go_wp2_with fail
      refine CD.out.mono ?_
      rintro e w7 ⟨rfl, hu7⟩
      have U7 := Lib.hid hu7
      clear hu7
      obtain ⟨kb, hkb⟩ : ∃ k, k = 9 := ⟨_, rfl⟩
      have aEb : ∀ w, (isAgg 67).run Tryz.prog w = .ok true w := fun w => by kernel_rfl
      have zEb : ∀ w, (Go.sizeOf 67).run Tryz.prog w = .ok 9 w := fun w => by kernel_rfl
      rw [← hkb] at zEb
      have lb7 := ld_blk (k := kb) (U7.out.blk D.out.xb (fun f => f)) (by rw [hkb, blk_size HP8.out])
      rw [HXA.out] at lb7
      have HKB := Lib.hid hkb
      clear hkb
      obtain ⟨br, hbr, hbz⟩ := D.out.res
      have HBR := Lib.hid hbr
      have HBZ := Lib.hid (show br.size = xa.size ∧ (Tryz.prog.info? 67).map (·.size) = some xa.size ∧ xa.all (·.oneCell') = true from by
        have e := blk_size HP8.out (.slice As k cs)
        rw [HXA.out] at e
        exact ⟨by rw [hbz, e], by rw [block_size, e], by rw [← HXA.out]; exact blk_one p As k cs⟩)
      clear hbr hbz
      go_wp2_with (first
        | (refine (CV.out w7 U7.out).mono ?_; rintro e w8 ⟨rfl, hu8⟩; have U8 := Lib.hid (U7.out.trans hu8 (fun _ _ f => f)); have XB8 := Lib.hid (show Blk w8 X 67 xa from by rw [← HXA.out]; exact U8.out.blk D.out.xb (fun f => f)); clear hu8)
        | (refine wpList_load_row rfl 67 (.tmp 5) rfl X 0 rfl xa.toList _ (range_blk (by rw [Array.toArray_toList]; exact XB8.out)) Tryz.underlying67 rfl (by rw [Array.length_toList]; exact HBZ.out.2.1) xa (by simp) ?_)
        | (refine wpList_store_row rfl 67 (.tmp 2) (.tmp 35) rfl w.heap.size rfl xa rfl 67 br (U8.out.blk HBR.out (fun f => f)) HBZ.out.1 HBZ.out.2.1 HBZ.out.2.2 ?_; intro w9 hb9 hu9 hs9))
      refine bodyPost_ret (results_cell_tmp Tryz.results87 _ _ w.heap.size xa.toList _ rfl (range_blk (by rw [Array.toArray_toList]; exact hb9)) Tryz.underlying67 rfl (by rw [Array.length_toList]; exact HBZ.out.2.1)) rfl ?_
      refine ⟨As, cs, by rw [HNL.out, HXA.out]; simp, CHR.out w9 ((U8.out.mono (G := fun j => j = w.heap.size) (fun _ _ f => f.elim)).trans hu9 (fun _ _ f => f)), (D.out.up.trans U8.out (fun _ _ f => f)).trans hu9 (fun j hj f => by have f : j = w.heap.size := f; omega)⟩
end Go.Proofs.YtengcmfdfmnacaaGreat
