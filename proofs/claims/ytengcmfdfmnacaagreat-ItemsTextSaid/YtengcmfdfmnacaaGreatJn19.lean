/- A list of texts turned: cut in two and put together the other way round. Conditions: sizes. Rows of names within a block: stores in the middle, clear, slices that own what they read. No condition. slices.Compact of names. Conditions: sizes. -/
import Derived.Test.YtengcmfdfmnacaaGreatTxR
import Derived.Test.YtengcmfdfmnacaaGreatJn6
import Derived.Test.YtengcmfdfmnacaaGreatJn8
import Derived.Test.YtengcmfdfmnacaaGreatJn13
import Derived.Test.YtengcmfdfmnacaaGreatJn12
namespace Go.Proofs.YtengcmfdfmnacaaGreat
section
open Go.RowKit Go.Lib

theorem cut_from_all {n c k : Nat} {A : Option Addr} (hk : k ≤ n) : ∃ A', ∀ w, (Instr.sliceAt 51 (.slice A n c) (some (.int .i64 (k : Int))) none none).run Tryz.prog w = .ok (.slice A' (n - k) (c - k)) w ∧ ∀ xs, Rd w 1 (.slice A n c) n xs → Rd w 1 (.slice A' (n - k) (c - k)) (n - k) (xs.drop k) := by
  refine ⟨if c = k then A else A.map (·.add (k * 1)), fun w => ?_⟩
  have hs : (sizeOf 52).run Tryz.prog w = .ok 1 w := by kernel_rfl
  have hkc : (0 : Int) ≤ (k : Int) ∧ (k : Int) ≤ (n : Int) := ⟨by omega, by omega⟩
  have hr : (Instr.sliceAt 51 (.slice A n c) (some (.int .i64 (k : Int))) none none).run Tryz.prog w = .ok (.slice (if c = k then A else A.map (·.add (k * 1))) (n - k) (c - k)) w := by
    simp [Instr.sliceAt, Instr.slice, run_underlying Tryz.underlying51, Instr.sliceBounds, Instr.sliceBound, asIntOf, hkc]
    exact fun h => absurd h (by omega)
  refine ⟨hr, fun xs hx => ?_⟩
  obtain ⟨A2, h1, h2⟩ := run_cut_from' (k := k) hx Tryz.underlying51 hs hk
  rw [hr] at h1
  injection h1 with h1 _
  injection h1 with h1 _ _
  rw [h1, ← Nat.mul_one k, Nat.mul_one k]
  rw [Nat.mul_one] at h2
  exact h2
theorem cut_to_all {n c k : Nat} {A : Option Addr} (hk : k ≤ n) (hn : n ≤ c) : ∃ A', ∀ w, (Instr.sliceAt 51 (.slice A n c) none (some (.int .i64 (k : Int))) none).run Tryz.prog w = .ok (.slice A' k c) w ∧ ∀ xs, Rd w 1 (.slice A n c) n xs → Rd w 1 (.slice A' k c) k (xs.take k) := by
  refine ⟨if c = 0 then A else A.map (·.add (0 * 1)), fun w => ?_⟩
  have hs : (sizeOf 52).run Tryz.prog w = .ok 1 w := by kernel_rfl
  have hkc : (0 : Int) ≤ (k : Int) ∧ (k : Int) ≤ (c : Int) := ⟨by omega, by omega⟩
  have hr : (Instr.sliceAt 51 (.slice A n c) none (some (.int .i64 (k : Int))) none).run Tryz.prog w = .ok (.slice (if c = 0 then A else A.map (·.add (0 * 1))) k c) w := by
    simp [Instr.sliceAt, Instr.slice, run_underlying Tryz.underlying51, Instr.sliceBounds, Instr.sliceBound, asIntOf, hkc]
    exact fun h => absurd h (by omega)
  refine ⟨hr, fun xs hx => ?_⟩
  obtain ⟨A2, h1, h2⟩ := run_cut_to' (k := k) hx Tryz.underlying51 hs hk
  rw [hr] at h1
  injection h1 with h1 _
  injection h1 with h1 _ _
  rw [h1]
  rw [Nat.mul_one] at h2
  exact h2
theorem tx_ones {w : World} {l : List (List UInt8)} {vs : List Value} (hl : vs.length = l.length) (h : ∀ (i : Nat) b, l[i]? = some b → ∃ u, vs[i]? = some u ∧ Rd w 1 u b.length (b.map byteV)) : ∀ u ∈ vs, u.oneCell' = true := by
  intro u hu
  obtain ⟨i, hi⟩ := List.getElem?_of_mem hu
  have hlt : i < l.length := by rw [← hl]; exact (List.getElem?_eq_some_iff.1 hi).1
  obtain ⟨v, h1, ⟨A, c, rfl, -⟩⟩ := h i l[i] (List.getElem?_eq_getElem hlt)
  rw [hi] at h1
  injection h1 with h1
  subst h1
  rfl
theorem turn_run {W : World} {A : Option Addr} {n c k : Nat} {l : List (List UInt8)} (hl : l.length = n) (h : TxR W (.slice A n c) l) (hk : k ≤ n) (hn : n ≤ 100000) : ∃ (A1 A2 A4 A8 : Option Addr) (c4 c8 : Nat) (w4 w8 : World),
    (∀ w, (Instr.sliceAt 51 (.slice A n c) (some (.int .i64 (k : Int))) none none).run Tryz.prog w = .ok (.slice A1 (n - k) (c - k)) w) ∧
    (∀ w, (Instr.sliceAt 51 (.slice A n c) none (some (.int .i64 (k : Int))) none).run Tryz.prog w = .ok (.slice A2 k c) w) ∧
    (Builtin.append_ #[51, 51] 51 #[.slice (some ⟨W.heap.size, 0, none⟩) 0 0, .slice A1 (n - k) (c - k)]).run Tryz.prog (W.alloc (.cells #[] 52)) = .ok (.slice A4 (n - k) c4) w4 ∧
    (Builtin.append_ #[51, 51] 51 #[.slice A4 (n - k) c4, .slice A2 k c]).run Tryz.prog w4 = .ok (.slice A8 n c8) w8 ∧
    TxR w8 (.slice A8 n c8) (l.drop k ++ l.take k) ∧ Upd NoF W w8 ∧ Upd NoF W w4 := by
  subst hl
  obtain ⟨vs, h1, h2, h3⟩ := h
  obtain ⟨A0, c0, e0, hnc, hcm, -⟩ := id h2
  injection e0 with _ _ e0
  subst e0
  obtain ⟨A1, H1⟩ := cut_from_all (A := A) (c := c) hk
  obtain ⟨A2, H2⟩ := cut_to_all (A := A) hk hnc
  obtain ⟨i1, hi1, hy0, hy1, hy2⟩ := info_parts bytes_info'
  have hone := tx_ones h1 h3
  have u1 : Upd NoF W (W.alloc (.cells #[] 52)) := (Upd.refl NoF W).alloc _
  have hb1 : l.length - k + k = l.length := by omega
  obtain ⟨v4, w4, r4, o4, d4, b4⟩ := run_append (P := Tryz.prog) (W.alloc (.cells #[] 52)) 51 51 52 i1 _ 1 24 Tryz.underlying51 hi1 hy0 hy1 hy2 (by kernel_rfl) (.slice (some ⟨W.heap.size, 0, none⟩) 0 0) 0 [] (NewR.fresh W 52 1).1 (.slice A1 (l.length - k) (c - k)) (l.length - k) (vs.drop k) (((H1 _).2 vs (h2.keep u1))) (fun u hu => hone u (List.mem_of_mem_drop hu)) (by unfold maxLen; omega) (by omega)
  obtain ⟨A4, c4, rfl⟩ := o4.form
  rw [Nat.zero_add] at r4 o4 b4
  rw [List.nil_append] at o4
  have new4 : ∀ j, OwnB (.slice A4 (l.length - k) c4) j → W.heap.size ≤ j := by
    intro j hj
    rcases b4 j hj with f | f
    · have : W.heap.size = j := by simpa [OwnB, Value.ownBlock] using f
      omega
    · rw [World.size_alloc] at f; omega
  have u4 : Upd NoF W w4 := u1.trans d4 (fun j hj f => by have : W.heap.size = j := (by simpa [OwnB, Value.ownBlock] using f); omega)
  obtain ⟨v8, w8, r8, o8, d8, b8⟩ := run_append (P := Tryz.prog) w4 51 51 52 i1 _ 1 24 Tryz.underlying51 hi1 hy0 hy1 hy2 (by kernel_rfl) (.slice A4 (l.length - k) c4) (l.length - k) (vs.drop k) o4 (.slice A2 k c) k (vs.take k) ((H2 _).2 vs (h2.keep u4)) (fun u hu => hone u (List.mem_of_mem_take hu)) (by unfold maxLen; omega) (by omega)
  obtain ⟨A8, c8, rfl⟩ := o8.form
  rw [hb1] at r8 o8
  have u8 : Upd NoF W w8 := u4.trans d8 (fun j hj f => by have := new4 j f; omega)
  refine ⟨A1, A2, A4, A8, c4, c8, w4, w8, fun w => (H1 w).1, fun w => (H2 w).1, r4, r8, ⟨vs.drop k ++ vs.take k, by simp [h1], ?_, ?_⟩, u8, u4⟩
  · have q := o8.rd
    rw [List.length_append, List.length_drop, List.length_take, Nat.min_eq_left hk, hb1]
    exact q
  · intro i b hb
    rcases Nat.lt_or_ge i (l.length - k) with hi | hi
    · rw [List.getElem?_append_left (by simpa using hi), List.getElem?_drop] at hb
      obtain ⟨u, e1, e2⟩ := h3 _ _ hb
      refine ⟨u, ?_, e2.keep u8⟩
      rw [List.getElem?_append_left (by simpa [h1] using hi), List.getElem?_drop]
      exact e1
    · rw [List.getElem?_append_right (by simpa using hi), List.length_drop] at hb
      obtain ⟨hlt, -⟩ := List.getElem?_eq_some_iff.1 hb
      rw [List.length_take] at hlt
      rw [List.getElem?_take, if_pos (by omega)] at hb
      obtain ⟨u, e1, e2⟩ := h3 _ _ hb
      refine ⟨u, ?_, e2.keep u8⟩
      rw [List.getElem?_append_right (by simpa [h1] using hi), List.length_drop, h1, List.getElem?_take, if_pos (by omega)]
      exact e1
end

section
open Go.RowKit Go.Shelf Go.Lib

/-- Row i of a block is the name t. -/
def RowIn (cur : Array Value) (i : Nat) (t : List UInt8) : Prop := ∀ j v, (t.map byteV)[j]? = some v → cur[i * 8 + j]? = some v
/-- Row q has been written. -/
def RowSet (cur cur' : Array Value) (q : Nat) (cells : Array Value) : Prop := cur'.size = cur.size ∧ ∀ j, cur'[j]? = if q * 8 ≤ j ∧ j < q * 8 + cells.size then cells[j - q * 8]? else cur[j]?
theorem RowIn.range {w : World} {g i : Nat} {ty : TypeId} {cur : Array Value} {t : List UInt8} (h : RowIn cur i t) (hb : Blk w g ty cur) : w.rangeAt g (i * 8) (t.map byteV) := fun j v hj => by
  rw [hb.cell]
  exact h j v hj
theorem RowSet.same {cur cur' : Array Value} {q : Nat} {t : List UInt8} (h : RowSet cur cur' q (t.map byteV).toArray) : RowIn cur' q t := fun j v hj => by
  have hlt := (List.getElem?_eq_some_iff.1 hj).1
  rw [h.2, if_pos (by simp at hlt ⊢; omega), show q * 8 + j - q * 8 = j by omega, List.getElem?_toArray]
  exact hj
theorem RowSet.other {cur cur' : Array Value} {q i : Nat} {t s : List UInt8} (h : RowSet cur cur' q (t.map byteV).toArray) (ht : t.length = 8) (hs : s.length = 8) (hne : i ≠ q) (hi : RowIn cur i s) : RowIn cur' i s := fun j v hj => by
  have hlt := (List.getElem?_eq_some_iff.1 hj).1
  rw [h.2, if_neg (by simp at hlt ⊢; rcases Nat.lt_or_ge i q with h1 | h1 <;> omega)]
  exact hi j v hj
theorem own_rows {w : World} {g q c : Nat} {e : TypeId} {cur : Array Value} {m : List (List UInt8)} (hb : Blk w g e cur) (h8 : All8 m) (hq : m.length = q) (hr : ∀ (i : Nat) t, m[i]? = some t → RowIn cur i t) (hc : q ≤ c) (hm : c ≤ maxLen) (hs : c * 8 ≤ cur.size) : Own w e 8 (.slice (some ⟨g, 0, none⟩) q c) q ((m.map (·.map byteV)).flatten) := by
  have hl : ((m.map (·.map byteV)).flatten).length = q * 8 := by
    rw [List.length_flatten, List.map_map]
    have : (m.map (List.length ∘ fun x => x.map byteV)) = List.replicate q 8 := by
      rw [List.eq_replicate_iff]
      refine ⟨by simp [hq], fun b hb => ?_⟩
      obtain ⟨x, hx, rfl⟩ := List.mem_map.1 hb
      simp [h8 x hx]
    rw [this, List.sum_replicate_nat]
  refine ⟨hl, .inr ⟨g, c, cur, rfl, hb, hc, hm, hs, ?_⟩⟩
  apply List.ext_getElem?
  intro t
  rw [List.getElem?_take]
  by_cases ht : t < q * 8
  · rw [if_pos ht]
    have hi : t / 8 < m.length := by omega
    have hj : t % 8 < 8 := Nat.mod_lt _ (by omega)
    have hrow : (m.map (·.map byteV))[t / 8]? = some (m[t / 8].map byteV) := by rw [List.getElem?_map, List.getElem?_eq_getElem hi]; rfl
    have h1 := flatten_at (k := 8) (rows := m.map (·.map byteV)) (fun r hr => by obtain ⟨x, hx, rfl⟩ := List.mem_map.1 hr; simp [h8 x hx]) hrow hj
    rw [show t / 8 * 8 + t % 8 = t from by omega] at h1
    have hlen : (m[t / 8].map byteV).length = 8 := by simp [h8 _ (List.getElem_mem hi)]
    have h2 := hr (t / 8) _ (List.getElem?_eq_getElem hi) (t % 8) _ (List.getElem?_eq_getElem (by rw [hlen]; exact hj))
    rw [h1, Array.getElem?_toList, List.getElem?_eq_getElem (by rw [hlen]; exact hj)]
    rw [show t / 8 * 8 + t % 8 = t from by omega] at h2
    exact h2
  · rw [if_neg ht, List.getElem?_eq_none (by omega)]
set_option linter.unusedVariables false in
theorem rows_own {w : World} {g n c : Nat} {e : TypeId} {cur : Array Value} {l : List (List UInt8)} (h8 : All8 l) (hx : cur.toList.take (n * 8) = (l.map (·.map byteV)).flatten) {i : Nat} {t : List UInt8} (hi : l[i]? = some t) : RowIn cur i t := fun j v hj => by
  have h8t := h8 t (List.mem_of_getElem? hi)
  have hj8 : j < 8 := by have := (List.getElem?_eq_some_iff.1 hj).1; simpa [h8t] using this
  have h1 := flatten_at (k := 8) (rows := l.map (·.map byteV)) (i := i) (r := t.map byteV) (fun r hr => by obtain ⟨x, hx, rfl⟩ := List.mem_map.1 hr; simp [h8 x hx]) (by rw [List.getElem?_map, hi]; rfl) hj8
  rw [← hx, List.getElem?_take, hj] at h1
  split at h1
  · rw [← Array.getElem?_toList]; exact h1
  · cases h1
section
variable {P : Program} {ops : Array Oper} {rest : List Oper} {o : Oper} {a : Act} {w : World} {Q : Exit → Act → World → Prop} {post : Value → World → Prop}
/-- A row stored into the middle of a block. -/
theorem wl_storeAt (hw : Region.wanted o (yielded ops a.tmps) = true) (ty : TypeId) (x y : Operand) (ho : o.op = .store ty x y) (g q : Nat) (hx : a.eval x = .pointer (some ⟨g, q * 8, none⟩)) (cells : Array Value) (hy : a.eval y = .agg cells) (t : TypeId) (cur : Array Value) (hb : Blk w g t cur) (hs : q * 8 + cells.size ≤ cur.size) (hi : (P.info? ty).map (·.size) = some cells.size) (h1 : cells.all (·.oneCell') = true)
    (hk : ∀ w' cur', Blk w' g t cur' → RowSet cur cur' q cells → Upd (fun k => k = g) w w' → w'.heap.size = w.heap.size → wpList P ops Q rest (a.put o.dst undef) w') : wpList P ops Q (o :: rest) a w := by
  have hth := hb.there (o := q * 8) (n := cells.size) hs
  refine wl_skip hw (w' := w.setCells g (q * 8) cells.toList) ?_ ?_
  · unfold execOp
    simp only [ho, hx, hy, Instr.storeAt, Instr.sureAddr, Sem.run_bind, Sem.run_pure, Result.andThen_ok, run_storeVar_mid w g (q * 8) ty cells hth hi h1]
  · obtain ⟨cs', hb', hsz⟩ := hb.setCells (vs := cells.toList) (o := q * 8)
    refine hk _ cs' hb' ⟨hsz, fun j => ?_⟩ ((Upd.refl (fun k => k = g) w).setCells (g := g) _ _ (.inl rfl)) (heap_setCells _ _ _)
    rw [← hb'.cell j]
    by_cases hj : q * 8 ≤ j ∧ j < q * 8 + cells.size
    · rw [if_pos hj]
      have := World.cell?_setCells_in g cells.toList (q * 8) w (fun j hj => (hb.there (o := q * 8) (n := cells.toList.length) (by simpa using hs) j hj).1) (j - q * 8) (by simp; omega)
      rw [show q * 8 + (j - q * 8) = j by omega] at this
      rw [this]
      simp only [Array.getElem_toList]
      rw [Array.getElem?_eq_getElem (show j - q * 8 < cells.size by omega)]
    · rw [if_neg hj, ← hb.cell j]
      exact World.cell?_setCells_out g _ _ _ _ (fun _ => by simp only [Array.length_toList]; omega)
end
/-- 'clear' of the rows from q on. -/
theorem run_clearN {w : World} {g q n : Nat} (hn : 0 < n) {cur : Array Value} (hb : Blk w g 28 cur) (hs : q * 8 + n * 8 ≤ cur.size) : ∃ w' cur', (∀ ty c, (Builtin.clear_ #[22] ty #[.slice (some ⟨g, q * 8, none⟩) n c]).run Tryz.prog w = .ok (.tuple #[]) w') ∧ Blk w' g 28 cur' ∧ cur'.size = cur.size ∧ (∀ j, j < q * 8 → cur'[j]? = cur[j]?) ∧ Upd (fun k => k = g) w w' := by
  obtain ⟨z, hz, hz8, hzo⟩ : ∃ z : Value, (∀ w, (zeroValue 28).run Tryz.prog w = .ok z w) ∧ z.cells.size = 8 ∧ ∀ v ∈ z.cells, v.oneCell' = true := ⟨nameV (List.replicate 8 0), fun w => by kernel_rfl, rfl, fun v hv => by
    have : v ∈ (List.replicate 8 (0 : UInt8)).map byteV := by simpa [Value.cells] using hv
    obtain ⟨b, -, rfl⟩ := List.mem_map.1 this
    rfl⟩
  obtain ⟨L, hL⟩ : ∃ L, L = (Builtin.zeroCells z.cells n).toList := ⟨_, rfl⟩
  have hLl : L.length = n * 8 := by rw [hL]; simp [Builtin.zeroCells, hz8]
  have hLo : ∀ v ∈ L, v.oneCell' = true := by
    intro v hv
    rw [hL] at hv
    unfold Builtin.zeroCells at hv
    have hv := Array.mem_toList_iff.1 hv
    obtain ⟨i, hi, rfl⟩ := Array.mem_iff_getElem.1 hv
    simp only [Array.getElem_map, Array.getElem_range]
    apply hzo
    rw [getElem!_pos z.cells (i % z.cells.size) (Nat.mod_lt _ (by omega))]
    exact Array.getElem_mem _
  have hst := run_storeCells_at Tryz.prog g (q * 8) 28 L 0 cur w hb (by rw [hLl]; simpa using hs) hLo
  simp only [Nat.add_zero] at hst
  obtain ⟨CC, hCC⟩ : ∃ x, x = (cur.toList.take (q * 8) ++ L ++ cur.toList.drop (q * 8 + L.length)).toArray := ⟨_, rfl⟩
  rw [← hCC] at hst
  refine ⟨w.setRow g CC, CC, fun ty c => ?_, hb.row _, ?_, fun j hj => ?_, (Upd.refl (fun k => k = g) w).setRow (.inl rfl) _⟩
  · obtain ⟨m, rfl⟩ : ∃ m, n = m + 1 := ⟨n - 1, by omega⟩
    simp [Builtin.clear_, run_underlying Tryz.underlying22, hz, ← hL, hst]
  · rw [hCC]; simp [hLl]; omega
  · rw [hCC, List.getElem?_toArray, List.append_assoc, List.getElem?_append_left (by simp; omega), List.getElem?_take, if_pos hj]
    simp
end

section
open Go.RowKit Go.Shelf Go.Lib

theorem neq_name' {a b : List UInt8} (ha : a.length = 8) (hb : b.length = 8) (w : World) : (binOp .neq 28 (nameV a) (nameV b)).run Tryz.prog w = .ok (.bool (!(decide (a = b)))) w := by
  rw [name_neq a b ha hb, show (a == b) = decide (a = b) from by by_cases h : a = b <;> simp [h]]
/-- The block while it is compacted: the first rows hold what was kept, the rows from p on are as they were. -/
structure CpN (l : List (List UInt8)) (size p q : Nat) (cur : Array Value) : Prop where
  size : cur.size = size
  len : (compL (l.take (p + 1))).length = q
  le : q ≤ p
  cells : ∀ (i : Nat) t, (compL (l.take (p + 1)))[i]? = some t → RowIn cur i t
  rest : ∀ (i : Nat) t, p ≤ i → l[i]? = some t → RowIn cur i t
section
variable {l : List (List UInt8)} {size p q : Nat} {cur cur' : Array Value} {s t : List UInt8}
theorem comp_mem {m : List (List UInt8)} {x : List UInt8} (h : x ∈ compL m) : x ∈ m := by rw [← compN_eq] at h; exact (mem_compN x m).1 h
theorem CpN.skip (h : CpN l size p q cur) (h1 : l[p]? = some s) (h2 : l[p + 1]? = some t) (he : s = t) : CpN l size (p + 1) q cur := by
  have e : compL (l.take (p + 1 + 1)) = compL (l.take (p + 1)) := by rw [comp_next h1 h2, if_pos he]
  exact ⟨h.size, by rw [e]; exact h.len, Nat.le_succ_of_le h.le, by rw [e]; exact h.cells, fun i x hi => h.rest i x (by omega)⟩
theorem CpN.keep (h : CpN l size p q cur) (h8 : All8 l) (h1 : l[p]? = some s) (h2 : l[p + 1]? = some t) (he : s ≠ t) (hr : RowSet cur cur' q (t.map byteV).toArray) : CpN l size (p + 1) (q + 1) cur' := by
  have e : compL (l.take (p + 1 + 1)) = compL (l.take (p + 1)) ++ [t] := by rw [comp_next h1 h2, if_neg he]
  have h8t := h8 t (List.mem_of_getElem? h2)
  have hq := h.le
  have hln := h.len
  refine ⟨hr.1.trans h.size, by rw [e]; simp [hln], by omega, fun i x hx => ?_, fun i x hi hx => ?_⟩
  · rw [e] at hx
    rcases Nat.lt_or_ge i q with hlt' | hge
    · rw [List.getElem?_append_left (by omega)] at hx
      exact hr.other h8t (h8 x (List.mem_of_mem_take (comp_mem (List.mem_of_getElem? hx)))) (by omega) (h.cells i x hx)
    · rw [List.getElem?_append_right (by omega)] at hx
      have h0 : i - (compL (l.take (p + 1))).length = 0 := by have := (List.getElem?_eq_some_iff.1 hx).1; simp at this; omega
      rw [h0] at hx
      simp at hx
      subst hx
      have hi : i = q := by omega
      subst hi
      exact hr.same
  · exact hr.other h8t (h8 x (List.mem_of_getElem? hx)) (by omega) (h.rest i x (by omega) hx)
end
def Cn1Rel (w : World) (l : List (List UInt8)) (i : Value) (wr : World) : Prop := ∃ k : Nat, i = .int .i64 ((k : Int) + 1) ∧ k + 1 ≤ l.length ∧ compL (l.take (k + 1)) = l.take (k + 1) ∧ Upd NoF w wr
def Cn2Rel (w : World) (g : Nat) (l : List (List UInt8)) (size k0 : Nat) (x i : Value) (wr : World) : Prop :=
  ∃ (j q : Nat) (cur : Array Value), x = .int .i64 (q : Int) ∧ i = .int .i64 ((j : Int) + 1) ∧ k0 + j + 1 ≤ l.length ∧ CpN l size (k0 + j) q cur ∧ Blk wr g 28 cur ∧ Upd (fun k => k = g) w wr
set_option maxRecDepth 100000 in
set_option maxHeartbeats 16000000 in
theorem CompactNames_any {w : World} {A : Option Addr} {c n : Nat} {l : List (List UInt8)} (h8 : All8 l) (hl : l.length = n) (h : Own w 28 8 (.slice A n c) n ((l.map (·.map byteV)).flatten)) (hs : n ≤ 100000000) :
    Calls Tryz.prog 40 #[.slice A n c] w fun e w' => e = .returned (.slice A (compL l).length c) ∧ Own w' 28 8 (.slice A (compL l).length c) (compL l).length (((compL l).map (·.map byteV)).flatten) ∧ Upd (OwnB (.slice A n c)) w w' := by
  rcases Nat.lt_or_ge n 2 with h2 | h2
  · have HC := Lib.hid (comp_small (l := l) (by omega))
    have HH := Lib.hid h
    have HN := Lib.hid hl
    have t0 : decide ((n : Int) < 2) = true := by simp; omega
    have t0' : decide (n < 2) = true := by simp; omega
    rw [HC.out, hl]
    clear h8 h hl
    go_enter Tryz.func40, Tryz.ntmps40
    go_wp2
    go_ret
    exact ⟨rfl, HH.out, Upd.refl _ _⟩
  rcases h.2 with ⟨_, hz⟩ | ⟨g, cap, cur, hv, hb, hnc, hcm, hcs, hx⟩
  · omega
  injection hv with hA _ hc
  subst hA
  subst hc
  have HROW := Lib.hid (fun (i : Nat) (t : List UInt8) (hi : l[i]? = some t) => rows_own (w := w) (g := g) (c := c) (e := 28) h8 hx hi)
  have H8 := Lib.hid h8
  have HB := Lib.hid hb
  have HCS := Lib.hid hcs
  have HOW := Lib.hid h
  have hcm' : c ≤ 9223372036854775807 := hcm
  have HN := Lib.hid hl
  have t0 : decide ((n : Int) < 2) = false := by simp; omega
  have t0' : decide (n < 2) = false := by simp; omega
  clear h8 h hb hx hcs hl hcm
  go_enter Tryz.func40, Tryz.ntmps40
  go_wp2
  clear t0 t0'
  go_loopw [3] (fun i wr => Cn1Rel w l i wr) (fun i _ => n - (intOf i).toNat)
  case atStart => exact ⟨0, rfl, by have := HN.out; omega, comp_one l, Upd.refl _ _⟩
  case round =>
    obtain ⟨k, rfl, hk, hcp, hu⟩ := hrel
    have HCP := Lib.hid hcp
    have HU := Lib.hid hu
    have hnn := HN.out
    by_cases hlt : k + 1 < n
    · have t1 : decide ((k : Int) + 1 < (n : Int)) = true := by simp; omega
      obtain ⟨s, hsx⟩ : ∃ x, l[k]? = some x := ⟨_, List.getElem?_eq_getElem (by omega)⟩
      obtain ⟨t, htx⟩ : ∃ x, l[k + 1]? = some x := ⟨_, List.getElem?_eq_getElem (by omega)⟩
      have HSX := Lib.hid hsx
      have HTY := Lib.hid htx
      have H8S := Lib.hid (H8.out s (List.mem_of_getElem? hsx))
      have H8T := Lib.hid (H8.out t (List.mem_of_getElem? htx))
      obtain ⟨zs, hzs⟩ : ∃ x, (s.map byteV).toArray = x := ⟨_, rfl⟩
      obtain ⟨zt, hzt⟩ : ∃ x, (t.map byteV).toArray = x := ⟨_, rfl⟩
      have HZs := Lib.hid hzs
      have HZt := Lib.hid hzt
      have XS := Lib.hid (show ∀ wq, Upd NoF wr.drew wq → wq.rangeAt g (k * 8) (s.map byteV) from fun wq hq => (HROW.out k s hsx).range (hq.blk (Blk.drew (hu.blk HB.out (fun f => f))) (fun f => f)))
      have XT := Lib.hid (show ∀ wq, Upd NoF wr.drew wq → wq.rangeAt g ((k + 1) * 8) (t.map byteV) from fun wq hq => (HROW.out (k + 1) t htx).range (hq.blk (Blk.drew (hu.blk HB.out (fun f => f))) (fun f => f)))
      have HE := Lib.hid (show ∀ w, (binOp .eql 28 (.agg zt) (.agg zs)).run Tryz.prog w = .ok (.bool (decide (t = s))) w from fun w => by rw [← hzt, ← hzs]; exact eql_name' H8T.out H8S.out w)
      clear hsx htx hu hcp hnn hzs hzt
      go_wp2_with fail
      refine wp_region_rgw (rgR [isV (.slice (some ⟨g, 0, none⟩) n c), isV (.int .i64 ((k : Int) + 1)), isV (.pointer (some ⟨g, (k + 1) * 8, none⟩)), isV (.agg zt), isV (.slice (some ⟨g, 0, none⟩) n c), isV (.int .i64 ((k : Int) + 1)), isV (.int .i64 (k : Int)), isV (.pointer (some ⟨g, k * 8, none⟩)), isV (.agg zs), isV (.bool (decide (t = s)))]) (fun w w' => Upd NoF w w') (fun _ wq => Upd NoF wr.drew wq) (by kernel_rfl) (by kernel_rfl) (by kernel_rfl) (by rfl) (fun w => Upd.refl _ _) (rgR_keep (by
        intro p hp; simp only [List.mem_cons, List.not_mem_nil, or_false] at hp; rcases hp with rfl | rfl | rfl | rfl | rfl | rfl | rfl | rfl | rfl | rfl <;> first | exact stb_isV _ | exact stb_any)) (Upd.refl _ _) ?_ ?_
      · refine ⟨?_, ?_, ?_, ?_, ?_, ?_, ?_, ?_, ?_, ?_, trivial⟩
        · refine fun ρ w' L hW hLi hcl hd hdep hext hc hg hf => ?_
          rw [if_pos (show wantedR _ _ _ = true from rfl)]
          have e0 : ρ (.tmp 0) = .slice (some ⟨g, 0, none⟩) n c := hext 0 (by kernel_rfl)
          clear hdep hext hcl
          have HW := Lib.hid hW
          clear hW
          unfold OpDone
          go_simp
          exact ⟨rfl, Upd.refl _ _, HW.out⟩
        · refine fun ρ w' L hW hLi hcl hd hdep hext hc hg hf => ?_
          rw [if_pos (show wantedR _ _ _ = true from rfl)]
          have e3 : ρ (.tmp 3) = .int .i64 ((k : Int) + 1) := hext 3 (by kernel_rfl)
          clear hdep hext hcl
          have HW := Lib.hid hW
          clear hW
          unfold OpDone
          go_simp
          exact ⟨rfl, Upd.refl _ _, HW.out⟩
        · refine fun ρ w' L hW hLi hcl hd hdep hext hc hg hf => ?_
          rw [if_pos (show wantedR _ _ _ = true from rfl)]
          have e16 : ρ (.tmp 16) = .slice (some ⟨g, 0, none⟩) n c := hdep 0 _ rfl (by kernel_rfl)
          have e17 : ρ (.tmp 17) = .int .i64 ((k : Int) + 1) := hdep 1 _ rfl (by kernel_rfl)
          have q0 : (0 : Int) ≤ (k : Int) + 1 := by omega
          have q1 : (k : Int) + 1 < (n : Int) := by omega
          have q3 : ((k : Int) + 1).toNat = k + 1 := by omega
          have q2 : k + 1 < n := by omega
          clear hdep hext hcl
          have HW := Lib.hid hW
          clear hW
          unfold OpDone
          go_simp
          exact ⟨rfl, Upd.refl _ _, HW.out⟩
        · refine fun ρ w' L hW hLi hcl hd hdep hext hc hg hf => ?_
          rw [if_pos (show wantedR _ _ _ = true from rfl)]
          have e18 : ρ (.tmp 18) = .pointer (some ⟨g, (k + 1) * 8, none⟩) := hdep 2 _ rfl (by kernel_rfl)
          clear hdep hext
          refine od_load_row 28 (.tmp 18) rfl _ _ e18 (t.map byteV) _ (XT.out w' hW) Tryz.underlying28 rfl (by rw [name_size]; simp [H8T.out]) ?_
          rw [HZt.out]
          exact ⟨rfl, Upd.refl _ _, hW⟩
        · refine fun ρ w' L hW hLi hcl hd hdep hext hc hg hf => ?_
          rw [if_pos (show wantedR _ _ _ = true from rfl)]
          have e0 : ρ (.tmp 0) = .slice (some ⟨g, 0, none⟩) n c := hext 0 (by kernel_rfl)
          clear hdep hext hcl
          have HW := Lib.hid hW
          clear hW
          unfold OpDone
          go_simp
          exact ⟨rfl, Upd.refl _ _, HW.out⟩
        · refine fun ρ w' L hW hLi hcl hd hdep hext hc hg hf => ?_
          rw [if_pos (show wantedR _ _ _ = true from rfl)]
          have e3 : ρ (.tmp 3) = .int .i64 ((k : Int) + 1) := hext 3 (by kernel_rfl)
          clear hdep hext hcl
          have HW := Lib.hid hW
          clear hW
          unfold OpDone
          go_simp
          exact ⟨rfl, Upd.refl _ _, HW.out⟩
        · refine fun ρ w' L hW hLi hcl hd hdep hext hc hg hf => ?_
          rw [if_pos (show wantedR _ _ _ = true from rfl)]
          have e21 : ρ (.tmp 21) = .int .i64 ((k : Int) + 1) := hdep 5 _ rfl (by kernel_rfl)
          have ww : IntKind.i64.wrap (k : Int) = k := IntWalk.i64_in _ (by omega)
          clear hdep hext hcl
          have HW := Lib.hid hW
          clear hW
          unfold OpDone
          go_simp
          exact ⟨rfl, Upd.refl _ _, HW.out⟩
        · refine fun ρ w' L hW hLi hcl hd hdep hext hc hg hf => ?_
          rw [if_pos (show wantedR _ _ _ = true from rfl)]
          have e20 : ρ (.tmp 20) = .slice (some ⟨g, 0, none⟩) n c := hdep 4 _ rfl (by kernel_rfl)
          have e22 : ρ (.tmp 22) = .int .i64 (k : Int) := hdep 6 _ rfl (by kernel_rfl)
          have q0 : (0 : Int) ≤ (k : Int) := by omega
          have q1 : (k : Int) < (n : Int) := by omega
          have q2 : k < n := by omega
          clear hdep hext hcl
          have HW := Lib.hid hW
          clear hW
          unfold OpDone
          go_simp
          exact ⟨rfl, Upd.refl _ _, HW.out⟩
        · refine fun ρ w' L hW hLi hcl hd hdep hext hc hg hf => ?_
          rw [if_pos (show wantedR _ _ _ = true from rfl)]
          have e23 : ρ (.tmp 23) = .pointer (some ⟨g, k * 8, none⟩) := hdep 7 _ rfl (by kernel_rfl)
          clear hdep hext
          refine od_load_row 28 (.tmp 23) rfl _ _ e23 (s.map byteV) _ (XS.out w' hW) Tryz.underlying28 rfl (by rw [name_size]; simp [H8S.out]) ?_
          rw [HZs.out]
          exact ⟨rfl, Upd.refl _ _, hW⟩
        · refine fun ρ w' L hW hLi hcl hd hdep hext hc hg hf => ?_
          rw [if_pos (show wantedR _ _ _ = true from rfl)]
          have e19 : ρ (.tmp 19) = .agg zt := hdep 3 _ rfl (by kernel_rfl)
          have e24 : ρ (.tmp 24) = .agg zs := hdep 8 _ rfl (by kernel_rfl)
          clear hdep hext
          have hE : ∀ w, (binOp .eql 28 (.agg zt) (.agg zs)).run Tryz.prog w = .ok (.bool (decide (t = s))) w := fun w => HE.out w
          have HW := Lib.hid hW
          clear hW
          unfold OpDone
          go_simp
          exact ⟨rfl, Upd.refl _ _, HW.out⟩
      intro vs W8 L8 hL8 hW8 hR
      have hv0 : vs 0 = .slice (some ⟨g, 0, none⟩) n c := hR 0 _ rfl
      have hv1 : vs 1 = .int .i64 ((k : Int) + 1) := hR 1 _ rfl
      have hv2 : vs 2 = .pointer (some ⟨g, (k + 1) * 8, none⟩) := hR 2 _ rfl
      have hv3 : vs 3 = .agg zt := hR 3 _ rfl
      have hv4 : vs 4 = .slice (some ⟨g, 0, none⟩) n c := hR 4 _ rfl
      have hv5 : vs 5 = .int .i64 ((k : Int) + 1) := hR 5 _ rfl
      have hv6 : vs 6 = .int .i64 (k : Int) := hR 6 _ rfl
      have hv7 : vs 7 = .pointer (some ⟨g, k * 8, none⟩) := hR 7 _ rfl
      have hv8 : vs 8 = .agg zs := hR 8 _ rfl
      have hv9 : vs 9 = .bool (decide (t = s)) := hR 9 _ rfl
      simp only [putAll, Act.put, List.setIfInBounds_toArray, List.set_cons_zero, List.set_cons_succ, hv0, hv1, hv2, hv3, hv4, hv5, hv6, hv7, hv8, hv9]
      clear hR hv0 hv1 hv2 hv3 hv4 hv5 hv6 hv7 hv8 hv9
      have HU8 := Lib.hid (show Upd NoF w W8 from HU.out.trans (((Upd.refl NoF wr).drew).trans hW8 (fun _ _ f => f)) (fun _ _ f => f))
      clear hW8
      cases hst : decide (t = s) with
      | false =>
        have HNE := Lib.hid (show s ≠ t from fun e => by rw [e] at hst; simp at hst)
        clear hst
        go_wp2
        go_roundw
        case rel => exact ⟨k + 1, by go_num, by have := HN.out; omega, comp_two HSX.out HTY.out HNE.out HCP.out, HU8.out⟩
        case measure => simp [intOf]; omega
      | true =>
        have HEQ := Lib.hid (show s = t from (of_decide_eq_true hst).symm)
        clear hst
        obtain ⟨k0, hk0⟩ : ∃ x, x = k + 1 := ⟨_, rfl⟩
        have hk0i : (k : Int) + 1 = (k0 : Int) := by omega
        have hk0n : k0 < n := by omega
        have HK0 := Lib.hid hk0
        rw [hk0i]
        have z1 : (0 : Int) ≤ (k0 : Int) := by omega
        have z2 : (k0 : Int) ≤ (n : Int) := by omega
        have z3 : (k0 : Int) ≤ (c : Int) := by omega
        clear t1 hk0 hk0i hlt hk
        go_wp2
        obtain ⟨n2, hn2⟩ : ∃ x, n - k0 = x := ⟨_, rfl⟩
        obtain ⟨c2, hc2⟩ : ∃ x, c - k0 = x := ⟨_, rfl⟩
        rw [hn2, hc2]
        have hn2' : k0 + n2 = n := by omega
        have hc2' : k0 + c2 = c := by omega
        have HC0 := Lib.hid (show CpN l cur.size (k0 + 0) k0 cur from by
          have hq := HK0.out
          have e : compL (l.take (k + 1 + 1)) = l.take (k + 1) := by rw [comp_next HSX.out HTY.out, if_pos HEQ.out, HCP.out]
          subst hq
          refine ⟨rfl, ?_, Nat.le_refl _, fun i x hx => ?_, fun i x hi hx => HROW.out i x hx⟩
          · rw [Nat.add_zero, e, List.length_take]
            have := HN.out
            omega
          · rw [Nat.add_zero, e, List.getElem?_take] at hx
            split at hx
            · exact HROW.out i x hx
            · cases hx)
        clear hn2 hc2 z1 z2 z3
        obtain ⟨wo, rfl⟩ : ∃ wo : World, wo = wr := ⟨_, rfl⟩
        go_loopw [3, 5] (fun x i wr => Cn2Rel w g l cur.size k0 x i wr) (fun _ i _ => n2 - (intOf i).toNat)
        case atStart => exact ⟨0, k0, cur, rfl, rfl, by have := HN.out; omega, HC0.out, HU8.out.blk HB.out (fun f => f), HU8.out.mono (fun _ _ f => f.elim)⟩
        case round =>
          clear XS XT HE HSX HTY HEQ HCP HU HU8 HC0 H8S H8T HZs HZt
          obtain ⟨j, q, cu1, rfl, rfl, hj, hst, hb1, hu⟩ := hrel
          have HST := Lib.hid hst
          have HB1 := Lib.hid hb1
          have HU := Lib.hid hu
          have hnn := HN.out
          have hqj : q ≤ k0 + j := hst.le
          by_cases hlt : j + 1 < n2
          · have t1 : decide ((j : Int) + 1 < (n2 : Int)) = true := by simp; omega
            obtain ⟨s, hsx⟩ : ∃ x, l[k0 + j]? = some x := ⟨_, List.getElem?_eq_getElem (by omega)⟩
            obtain ⟨t, htx⟩ : ∃ x, l[k0 + j + 1]? = some x := ⟨_, List.getElem?_eq_getElem (by omega)⟩
            have HSX := Lib.hid hsx
            have HTY := Lib.hid htx
            have H8S := Lib.hid (H8.out s (List.mem_of_getElem? hsx))
            have H8T := Lib.hid (H8.out t (List.mem_of_getElem? htx))
            obtain ⟨zs, hzs⟩ : ∃ x, (s.map byteV).toArray = x := ⟨_, rfl⟩
            obtain ⟨zt, hzt⟩ : ∃ x, (t.map byteV).toArray = x := ⟨_, rfl⟩
            have HZs := Lib.hid hzs
            have HZt := Lib.hid hzt
            have XS := Lib.hid (show ∀ wq, Upd NoF wr.drew wq → wq.rangeAt g (k0 * 8 + j * 8) (s.map byteV) from fun wq hq => by rw [← Nat.add_mul]; exact (hst.rest _ s (Nat.le_refl _) hsx).range (hq.blk (Blk.drew hb1) (fun f => f)))
            have XT := Lib.hid (show ∀ wq, Upd NoF wr.drew wq → wq.rangeAt g (k0 * 8 + (j + 1) * 8) (t.map byteV) from fun wq hq => by rw [← Nat.add_mul]; exact (hst.rest _ t (by omega) htx).range (hq.blk (Blk.drew hb1) (fun f => f)))
            have HE := Lib.hid (show ∀ w, (binOp .neq 28 (.agg zt) (.agg zs)).run Tryz.prog w = .ok (.bool (!(decide (t = s)))) w from fun w => by rw [← hzt, ← hzs]; exact neq_name' H8T.out H8S.out w)
            clear hsx htx hu hst hb1 hnn hzs hzt
            go_wp2_with fail
            refine wp_region_rgw (rgR [isV (.slice (some ⟨g, k0 * 8, none⟩) n2 c2), isV (.int .i64 ((j : Int) + 1)), isV (.pointer (some ⟨g, k0 * 8 + (j + 1) * 8, none⟩)), isV (.agg zt), isV (.slice (some ⟨g, k0 * 8, none⟩) n2 c2), isV (.int .i64 ((j : Int) + 1)), isV (.int .i64 (j : Int)), isV (.pointer (some ⟨g, k0 * 8 + j * 8, none⟩)), isV (.agg zs), isV (.bool (!(decide (t = s))))]) (fun w w' => Upd NoF w w') (fun _ wq => Upd NoF wr.drew wq) (by kernel_rfl) (by kernel_rfl) (by kernel_rfl) (by rfl) (fun w => Upd.refl _ _) (rgR_keep (by
              intro p hp; simp only [List.mem_cons, List.not_mem_nil, or_false] at hp; rcases hp with rfl | rfl | rfl | rfl | rfl | rfl | rfl | rfl | rfl | rfl <;> first | exact stb_isV _ | exact stb_any)) (Upd.refl _ _) ?_ ?_
            · refine ⟨?_, ?_, ?_, ?_, ?_, ?_, ?_, ?_, ?_, ?_, trivial⟩
              · refine fun ρ w' L hW hLi hcl hd hdep hext hc hg hf => ?_
                rw [if_pos (show wantedR _ _ _ = true from rfl)]
                have e4 : ρ (.tmp 4) = .slice (some ⟨g, k0 * 8, none⟩) n2 c2 := hext 4 (by kernel_rfl)
                clear hdep hext hcl
                have HW := Lib.hid hW
                clear hW
                unfold OpDone
                go_simp
                exact ⟨rfl, Upd.refl _ _, HW.out⟩
              · refine fun ρ w' L hW hLi hcl hd hdep hext hc hg hf => ?_
                rw [if_pos (show wantedR _ _ _ = true from rfl)]
                have e5 : ρ (.tmp 5) = .int .i64 ((j : Int) + 1) := hext 5 (by kernel_rfl)
                clear hdep hext hcl
                have HW := Lib.hid hW
                clear hW
                unfold OpDone
                go_simp
                exact ⟨rfl, Upd.refl _ _, HW.out⟩
              · refine fun ρ w' L hW hLi hcl hd hdep hext hc hg hf => ?_
                rw [if_pos (show wantedR _ _ _ = true from rfl)]
                have e35 : ρ (.tmp 35) = .slice (some ⟨g, k0 * 8, none⟩) n2 c2 := hdep 0 _ rfl (by kernel_rfl)
                have e36 : ρ (.tmp 36) = .int .i64 ((j : Int) + 1) := hdep 1 _ rfl (by kernel_rfl)
                have q0 : (0 : Int) ≤ (j : Int) + 1 := by omega
                have q1 : (j : Int) + 1 < (n2 : Int) := by omega
                have q3 : ((j : Int) + 1).toNat = j + 1 := by omega
                have q2 : j + 1 < n2 := by omega
                clear hdep hext hcl
                have HW := Lib.hid hW
                clear hW
                unfold OpDone
                go_simp
                exact ⟨rfl, Upd.refl _ _, HW.out⟩
              · refine fun ρ w' L hW hLi hcl hd hdep hext hc hg hf => ?_
                rw [if_pos (show wantedR _ _ _ = true from rfl)]
                have e37 : ρ (.tmp 37) = .pointer (some ⟨g, k0 * 8 + (j + 1) * 8, none⟩) := hdep 2 _ rfl (by kernel_rfl)
                clear hdep hext
                refine od_load_row 28 (.tmp 37) rfl _ _ e37 (t.map byteV) _ (XT.out w' hW) Tryz.underlying28 rfl (by rw [name_size]; simp [H8T.out]) ?_
                rw [HZt.out]
                exact ⟨rfl, Upd.refl _ _, hW⟩
              · refine fun ρ w' L hW hLi hcl hd hdep hext hc hg hf => ?_
                rw [if_pos (show wantedR _ _ _ = true from rfl)]
                have e4 : ρ (.tmp 4) = .slice (some ⟨g, k0 * 8, none⟩) n2 c2 := hext 4 (by kernel_rfl)
                clear hdep hext hcl
                have HW := Lib.hid hW
                clear hW
                unfold OpDone
                go_simp
                exact ⟨rfl, Upd.refl _ _, HW.out⟩
              · refine fun ρ w' L hW hLi hcl hd hdep hext hc hg hf => ?_
                rw [if_pos (show wantedR _ _ _ = true from rfl)]
                have e5 : ρ (.tmp 5) = .int .i64 ((j : Int) + 1) := hext 5 (by kernel_rfl)
                clear hdep hext hcl
                have HW := Lib.hid hW
                clear hW
                unfold OpDone
                go_simp
                exact ⟨rfl, Upd.refl _ _, HW.out⟩
              · refine fun ρ w' L hW hLi hcl hd hdep hext hc hg hf => ?_
                rw [if_pos (show wantedR _ _ _ = true from rfl)]
                have e40 : ρ (.tmp 40) = .int .i64 ((j : Int) + 1) := hdep 5 _ rfl (by kernel_rfl)
                have ww : IntKind.i64.wrap (j : Int) = j := IntWalk.i64_in _ (by omega)
                clear hdep hext hcl
                have HW := Lib.hid hW
                clear hW
                unfold OpDone
                go_simp
                exact ⟨rfl, Upd.refl _ _, HW.out⟩
              · refine fun ρ w' L hW hLi hcl hd hdep hext hc hg hf => ?_
                rw [if_pos (show wantedR _ _ _ = true from rfl)]
                have e39 : ρ (.tmp 39) = .slice (some ⟨g, k0 * 8, none⟩) n2 c2 := hdep 4 _ rfl (by kernel_rfl)
                have e41 : ρ (.tmp 41) = .int .i64 (j : Int) := hdep 6 _ rfl (by kernel_rfl)
                have q0 : (0 : Int) ≤ (j : Int) := by omega
                have q1 : (j : Int) < (n2 : Int) := by omega
                have q2 : j < n2 := by omega
                clear hdep hext hcl
                have HW := Lib.hid hW
                clear hW
                unfold OpDone
                go_simp
                exact ⟨rfl, Upd.refl _ _, HW.out⟩
              · refine fun ρ w' L hW hLi hcl hd hdep hext hc hg hf => ?_
                rw [if_pos (show wantedR _ _ _ = true from rfl)]
                have e42 : ρ (.tmp 42) = .pointer (some ⟨g, k0 * 8 + j * 8, none⟩) := hdep 7 _ rfl (by kernel_rfl)
                clear hdep hext
                refine od_load_row 28 (.tmp 42) rfl _ _ e42 (s.map byteV) _ (XS.out w' hW) Tryz.underlying28 rfl (by rw [name_size]; simp [H8S.out]) ?_
                rw [HZs.out]
                exact ⟨rfl, Upd.refl _ _, hW⟩
              · refine fun ρ w' L hW hLi hcl hd hdep hext hc hg hf => ?_
                rw [if_pos (show wantedR _ _ _ = true from rfl)]
                have e38 : ρ (.tmp 38) = .agg zt := hdep 3 _ rfl (by kernel_rfl)
                have e43 : ρ (.tmp 43) = .agg zs := hdep 8 _ rfl (by kernel_rfl)
                clear hdep hext
                have hE : ∀ w, (binOp .neq 28 (.agg zt) (.agg zs)).run Tryz.prog w = .ok (.bool (!(decide (t = s)))) w := fun w => HE.out w
                have HW := Lib.hid hW
                clear hW
                unfold OpDone
                go_simp
                exact ⟨rfl, Upd.refl _ _, HW.out⟩
            intro vs W8 L8 hL8 hW8 hR
            have hv0 : vs 0 = .slice (some ⟨g, k0 * 8, none⟩) n2 c2 := hR 0 _ rfl
            have hv1 : vs 1 = .int .i64 ((j : Int) + 1) := hR 1 _ rfl
            have hv2 : vs 2 = .pointer (some ⟨g, k0 * 8 + (j + 1) * 8, none⟩) := hR 2 _ rfl
            have hv3 : vs 3 = .agg zt := hR 3 _ rfl
            have hv4 : vs 4 = .slice (some ⟨g, k0 * 8, none⟩) n2 c2 := hR 4 _ rfl
            have hv5 : vs 5 = .int .i64 ((j : Int) + 1) := hR 5 _ rfl
            have hv6 : vs 6 = .int .i64 (j : Int) := hR 6 _ rfl
            have hv7 : vs 7 = .pointer (some ⟨g, k0 * 8 + j * 8, none⟩) := hR 7 _ rfl
            have hv8 : vs 8 = .agg zs := hR 8 _ rfl
            have hv9 : vs 9 = .bool (!(decide (t = s))) := hR 9 _ rfl
            simp only [putAll, Act.put, List.setIfInBounds_toArray, List.set_cons_zero, List.set_cons_succ, hv0, hv1, hv2, hv3, hv4, hv5, hv6, hv7, hv8, hv9]
            clear hR hv0 hv1 hv2 hv3 hv4 hv5 hv6 hv7 hv8 hv9
            have HB8 := Lib.hid (show Blk W8 g 28 cu1 from hW8.blk (Blk.drew HB1.out) (fun f => f))
            have HU8 := Lib.hid (show Upd (fun k => k = g) w W8 from HU.out.trans (((Upd.refl NoF wr).drew).trans hW8 (fun _ _ f => f)) (fun _ _ f => f.elim))
            have XT8 := Lib.hid (XT.out W8 hW8)
            clear hW8
            cases hst : decide (t = s) with
            | true =>
              have HEQ := Lib.hid (show s = t from (of_decide_eq_true hst).symm)
              clear hst
              go_wp2
              go_roundw
              case rel => exact ⟨j + 1, q, cu1, rfl, by go_num, by have := HN.out; omega, HST.out.skip HSX.out HTY.out HEQ.out, HB8.out, HU8.out⟩
              case measure => simp [intOf]; omega
            | false =>
              have HNE := Lib.hid (show s ≠ t from fun e => by rw [e] at hst; simp at hst)
              have q0 : (0 : Int) ≤ (j : Int) + 1 := by omega
              have q1 : (j : Int) + 1 < (n2 : Int) := by omega
              have q3 : ((j : Int) + 1).toNat = j + 1 := by omega
              have q2 : j + 1 < n2 := by omega
              have r0 : (0 : Int) ≤ (q : Int) := by omega
              have r1 : (q : Int) < (n : Int) := by omega
              have r2 : q < n := by omega
              have HZT8 := Lib.hid (show zt.size = 8 from by rw [← HZt.out]; simp [H8T.out])
              have HZTO := Lib.hid (show zt.all (·.oneCell') = true from by
                rw [← HZt.out, List.all_toArray, List.all_eq_true]
                intro u hu
                obtain ⟨b, -, rfl⟩ := List.mem_map.1 hu
                rfl)
              have HROOM := Lib.hid (show q * 8 + zt.size ≤ cu1.size from by have := HST.out.size; have := HCS.out; have := HZT8.out; omega)
              clear hst
              go_wp2_with (first
                | (refine wl_load rfl 28 (.tmp 49) rfl _ _ rfl (t.map byteV) _ XT8.out Tryz.underlying28 rfl (by rw [name_size]; simp [H8T.out]) zt HZt.out ?_)
                | (refine wl_storeAt rfl 28 (.tmp 51) (.tmp 50) rfl g q (by first | rfl | simp) zt rfl 28 cu1 HB8.out HROOM.out (by rw [name_size, HZT8.out]) HZTO.out ?_; intro w9 cu9 hb9 hr9 hu9 hs9; have B9 := Lib.hid hb9; have R9 := Lib.hid hr9; have U9 := Lib.hid (HU8.out.trans hu9 (fun _ _ f => f)); clear hb9 hr9 hu9 hs9))
              go_roundw
              case rel => exact ⟨j + 1, q + 1, cu9, by go_num, by go_num, by have := HN.out; omega, HST.out.keep H8.out HSX.out HTY.out HNE.out (by rw [HZt.out]; exact R9.out), B9.out, U9.out⟩
              case measure => simp [intOf]; omega
          · have t1 : decide ((j : Int) + 1 < (n2 : Int)) = false := by simp; omega
            have HFIN := Lib.hid (show l.take (k0 + j + 1) = l from List.take_of_length_le (by omega))
            have HQN := Lib.hid (show q < n by omega)
            have z1 : (0 : Int) ≤ (q : Int) := by omega
            have z2 : (q : Int) ≤ (n : Int) := by omega
            have z3 : (q : Int) ≤ (c : Int) := by omega
            have z4 : q < c := by omega
            have z5 : q < n := by omega
            clear hst hb1 hu hnn hlt hqj hj hn2' hc2' hk0n
            obtain ⟨w9, cu9, hcl, hb9, hs9, hp9, hu9⟩ := run_clearN (q := q) (n := n - q) (by omega) HB1.out (by have := HST.out.size; have := HCS.out; omega)
            have B9 := Lib.hid hb9
            have S9 := Lib.hid hs9
            have P9 := Lib.hid hp9
            have U9 := Lib.hid hu9
            clear hb9 hu9 hs9 hp9
            go_wp2
            go_ret
            have hsc := HST.out.len
            have hcells := HST.out.cells
            rw [HFIN.out] at hsc hcells
            refine ⟨by rw [hsc]; rfl, ?_, (HU.out.trans U9.out (fun _ _ f => f)).mono (fun k _ e => by rw [show k = g from e]; simp [OwnB, Value.ownBlock])⟩
            rw [hsc]
            refine own_rows B9.out (fun y hy => H8.out y (comp_mem hy)) hsc (fun i t hi => ?_) (by omega) hcm' (by have := S9.out; have := HST.out.size; have := HCS.out; omega)
            intro jj v hj
            have h8t := H8.out t (comp_mem (List.mem_of_getElem? hi))
            have hiq : i < q := by rw [← hsc]; exact (List.getElem?_eq_some_iff.1 hi).1
            have hj8 : jj < 8 := by have := (List.getElem?_eq_some_iff.1 hj).1; simpa [h8t] using this
            rw [P9.out _ (by omega)]
            exact hcells i t hi jj v hj
    · have t1 : decide ((k : Int) + 1 < (n : Int)) = false := by simp; omega
      have HFIN := Lib.hid (show compL l = l from by have := HCP.out; rw [List.take_of_length_le (by omega)] at this; exact this)
      clear hcp hu hnn
      go_wp2
      go_ret
      rw [HFIN.out, HN.out]
      exact ⟨rfl, HOW.out.upd HU.out (fun _ _ f => f), HU.out.mono (fun _ _ f => f.elim)⟩
end
end Go.Proofs.YtengcmfdfmnacaaGreat
