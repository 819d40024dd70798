/- Arguments of the statements, opened: slices of bytes and of integers, strings, slices of slices of bytes. No condition. Arguments of the statements, opened: a slice of structs whose fields take one cell each; the acts of DiskActs. No condition. Votes with their signatures, texts and views in memory, and arguments of these types opened. No condition. Encode and Less of signed votes, of package signed and of the reference. No condition but sizes. A region, in whatever order its operations come up: one goal for each operation, and one for what stands behind it. No condition. Single operations over rows of cells: loads, stores, new variables, calls, append, copy. No condition. Decode of package vote and of the reference. Conditions: sizes. Decode of signed votes, of package signed and of the reference. Conditions: sizes. -/
import Derived.Test.YtengcmfdfmnacaaGreatJn3
import Derived.Deep.Slices
import Derived.Deep.Fields
import Derived.Test.YtengcmfdfmnacaaGreatJn2
import Derived.Deep.MidRow
import Derived.Lib.SmallJoins
import Derived.Orders
import Derived.Below
import Derived.Deep.Draws
import Derived.Test.YtengcmfdfmnacaaGreatJn1
import Derived.Outline
namespace Go.Proofs.YtengcmfdfmnacaaGreat
section
open Go.ChangeShapes Go.WideShapes Go.ChangeAt Go.RowKit

/-- The blocks that were made since w. -/
def Ab (w : World) : Nat → Prop := fun k => w.heap.size ≤ k
theorem Upd.ab {w wi wj : World} {F : Nat → Prop} (h : Upd (Ab w) w wi) (h2 : Upd F wi wj) (hF : ∀ k, F k → w.heap.size ≤ k) : Upd (Ab w) w wj := h.trans h2 (fun k _ f => hF k f)

theorem spot_of_cell {w : World} {a : Addr} {v : Value} (h : w.cell? a = some v) : a.spot = none := by
  unfold World.cell? at h
  split at h
  · split at h
    · cases h
    · rename_i hs; simpa using hs
  · cases h
theorem add_form {a : Addr} (hs : a.spot = none) (i : Nat) : a.add i = ⟨a.block, a.off + i, none⟩ := by
  obtain ⟨b, o, s⟩ := a
  simp only at hs
  subst hs
  unfold Addr.add
  split <;> simp_all

/-- Cells that were there stay, while only new blocks are written. -/
theorem Rd.ab {w : World} {size : Nat} {v : Value} {n : Nat} {xs : List Value} (h : Rd w size v n xs) : RdF (Ab w) w size v n xs := by
  intro w' hu
  obtain ⟨A, c, rfl, hn, hc, hl, hA⟩ := h
  refine ⟨A, c, rfl, hn, hc, hl, fun h0 => ?_⟩
  obtain ⟨g, o, rfl, hx⟩ := hA h0
  refine ⟨g, o, rfl, fun j u hj => hu.cell (hx j u hj) ?_⟩
  have := block_lt_of_cell (hx j u hj)
  simp only [Ab]
  simp only at this
  omega

section
variable {H : Type} {enc : TypeId × Value → H} {W : World} {v : Value} {d : DataW H} {p : List MemPlace}

theorem cells_u8 : Tryz.prog.cellsOf 5 = 1 := by kernel_rfl
theorem cells_int : Tryz.prog.cellsOf 3 = 1 := by kernel_rfl
theorem open_nums {t e : TypeId} {k : IntKind} (ht : Tryz.prog.underlying t = some (.slice e)) (he : Tryz.prog.underlying e = some (.int k)) (hc : Tryz.prog.cellsOf e = 1) {fuel : Nat} {base : Nat} {spare : Nat → Bool} {held : Bool} {x : DataW H × List MemPlace}
    (h : DataW.trod enc Tryz.prog W base spare held fuel t [v] = some x) : ∃ zs : List Int, Rd W 1 v zs.length (zs.map (Value.int k)) ∧ ∀ z ∈ zs, (Lit.int k z).wf = true := by
  rcases open_ints ht he hc h with ⟨hcs, hx⟩ | ⟨a, len, cap, zs, hcs, _, hl, hm, hz, hx, hcell, hwz⟩
  · injection hcs with hcs
    subst hcs
    exact ⟨[], Rd.nil W 1, by simp⟩
  · injection hcs with hcs
    subst hcs
    have hlen : (zs.take len).length = len := by
      rw [List.length_take]
      split at hz <;> omega
    refine ⟨zs.take len, ⟨some a, cap, by rw [hlen], by omega, hm, by simp, fun h0 => ?_⟩, fun z hz' => hwz z (List.mem_of_mem_take hz')⟩
    have hlz : len ≤ zs.length := by split at hz <;> omega
    have h00 : W.cell? (a.add 0) = some (.int k (zs.getD 0 0)) := hcell 0 (by omega)
    have hs : a.spot = none := by
      have := spot_of_cell h00
      revert this
      unfold Addr.add
      simp
    refine ⟨a.block, a.off, by cases a; simp_all, fun j u hj => ?_⟩
    rw [List.getElem?_map] at hj
    have hjl : j < len := by
      rcases Nat.lt_or_ge j len with h | h
      · exact h
      · rw [List.getElem?_eq_none (by omega)] at hj; cases hj
    have := hcell j (by omega)
    rw [add_form hs] at this
    rw [this]
    rw [List.getElem?_take, if_pos hjl, List.getElem?_eq_getElem (by omega)] at hj
    simp only [Option.map_some, Option.some.injEq] at hj
    rw [← hj]
    simp [List.getElem?_eq_getElem (show j < zs.length by omega)]

set_option maxRecDepth 100000 in
theorem wf_u8 {z : Int} (h : (Lit.int .u8 z).wf = true) : 0 ≤ z ∧ z < 256 := by
  have := bounds_u8 h
  omega
set_option maxRecDepth 100000 in
theorem wf_i64 {z : Int} (h : (Lit.int .i64 z).wf = true) : -9223372036854775808 ≤ z ∧ z ≤ 9223372036854775807 := by
  have := bounds_i64 h
  omega

/-- A slice of slices of bytes. -/
def RdBB (F : Nat → Prop) (w : World) (v : Value) (l : List (List UInt8)) : Prop :=
  ∃ vs : List Value, vs.length = l.length ∧ RdF F w 1 v l.length vs ∧ ∀ (i : Nat) b, l[i]? = some b → ∃ u, vs[i]? = some u ∧ RdB F w u b

end
end

section
open Go.ChangeShapes Go.WideShapes Go.ChangeAt Go.RowKit

section
variable {H : Type} {enc : TypeId × Value → H} {W : World} {v : Value} {d : DataW H} {p : List MemPlace}

theorem flatten_at {rows : List (List Value)} {k : Nat} (hk : ∀ r ∈ rows, r.length = k) {i j : Nat} {r : List Value} (hr : rows[i]? = some r) (hj : j < k) : rows.flatten[i * k + j]? = r[j]? := by
  induction rows generalizing i with
  | nil => cases hr
  | cons y l ih =>
    have hy := hk y (by simp)
    rw [List.flatten_cons]
    cases i with
    | zero =>
      simp at hr
      subst hr
      rw [List.getElem?_append_left (by omega)]
      simp
    | succ i =>
      rw [List.getElem?_append_right (by rw [hy, Nat.succ_mul]; omega), hy, show (i + 1) * k + j - k = i * k + j by rw [Nat.succ_mul]; omega]
      exact ih (fun r hr => hk r (by simp [hr])) (by simpa using hr)
theorem flatten_len {rows : List (List Value)} {k : Nat} (hk : ∀ r ∈ rows, r.length = k) : rows.flatten.length = rows.length * k := by
  induction rows with
  | nil => simp
  | cons y l ih =>
    rw [List.flatten_cons, List.length_append, ih (fun r hr => hk r (by simp [hr])), hk y (by simp), List.length_cons, Nat.succ_mul]
    omega

end
end

section
open Go.ChangeShapes Go.WideShapes Go.ChangeAt Go.RowKit

/-! ### words -/
/-- A slice of slices of bytes, as it reads now. -/
def TxR (w : World) (v : Value) (l : List (List UInt8)) : Prop :=
  ∃ vs : List Value, vs.length = l.length ∧ Rd w 1 v l.length vs ∧ ∀ (i : Nat) b, l[i]? = some b → ∃ u, vs[i]? = some u ∧ Rd w 1 u b.length (b.map byteV)
def rowS (s : SignedS) (u : Value) : List Value := voteCells s.vote ++ [u]
/-- A slice of signed votes, as it reads now. -/
def SgR (w : World) (v : Value) (l : List SignedS) : Prop :=
  (∀ s ∈ l, s.vote.Fit) ∧ ∃ us : List Value, us.length = l.length ∧ Rd w 23 v l.length (List.zipWith rowS l us).flatten ∧ ∀ (i : Nat) s, l[i]? = some s → ∃ u, us[i]? = some u ∧ Rd w 1 u s.sig.length (s.sig.map byteV)
/-- A view. -/
def VwR (w : World) (a b : Value) (V : ViewS) : Prop := SgR w a V.votes ∧ TxR w b V.texts

section
variable {w w' : World} {v : Value}
theorem Rd.abK {size n : Nat} {xs : List Value} (h : Rd w size v n xs) (hu : Upd (Ab w) w w') : Rd w' size v n xs := h.ab w' hu
theorem Upd.toAb (h : Upd NoF w w') : Upd (Ab w) w w' := h.mono (fun _ _ f => f.elim)
theorem TxR.ab {l : List (List UInt8)} (h : TxR w v l) (hu : Upd (Ab w) w w') : TxR w' v l := by
  obtain ⟨vs, h1, h2, h3⟩ := h
  refine ⟨vs, h1, h2.abK hu, fun i b hb => ?_⟩
  obtain ⟨u, e1, e2⟩ := h3 i b hb
  exact ⟨u, e1, e2.abK hu⟩
theorem TxR.keep {l : List (List UInt8)} (h : TxR w v l) (hu : Upd NoF w w') : TxR w' v l := h.ab hu.toAb
theorem SgR.ab {l : List SignedS} (h : SgR w v l) (hu : Upd (Ab w) w w') : SgR w' v l := by
  obtain ⟨hf, us, h1, h2, h3⟩ := h
  refine ⟨hf, us, h1, h2.abK hu, fun i b hb => ?_⟩
  obtain ⟨u, e1, e2⟩ := h3 i b hb
  exact ⟨u, e1, e2.abK hu⟩
theorem SgR.keep {l : List SignedS} (h : SgR w v l) (hu : Upd NoF w w') : SgR w' v l := h.ab hu.toAb
theorem VwR.ab {a b : Value} {V : ViewS} (h : VwR w a b V) (hu : Upd (Ab w) w w') : VwR w' a b V := ⟨h.1.ab hu, h.2.ab hu⟩
theorem VwR.keep {a b : Value} {V : ViewS} (h : VwR w a b V) (hu : Upd NoF w w') : VwR w' a b V := h.ab hu.toAb
theorem TxR.nil (w : World) : TxR w (.slice none 0 0) [] := ⟨[], rfl, Rd.nil w 1, fun _ _ h => by cases h⟩
theorem SgR.nil (w : World) : SgR w (.slice none 0 0) [] := ⟨by simp, [], rfl, Rd.nil w 23, fun _ _ h => by cases h⟩
theorem TxR.form {l : List (List UInt8)} (h : TxR w v l) : ∃ A c, v = .slice A l.length c ∧ l.length ≤ c ∧ c ≤ maxLen := by
  obtain ⟨vs, _, ⟨A, c, e, h3, h4, _⟩, _⟩ := h
  exact ⟨A, c, e, h3, h4⟩
theorem SgR.form {l : List SignedS} (h : SgR w v l) : ∃ A c, v = .slice A l.length c ∧ l.length ≤ c ∧ c ≤ maxLen := by
  obtain ⟨_, vs, _, ⟨A, c, e, h3, h4, _⟩, _⟩ := h
  exact ⟨A, c, e, h3, h4⟩
theorem SgR.fit {l : List SignedS} (h : SgR w v l) {i : Nat} {s : SignedS} (hs : l[i]? = some s) : s.vote.Fit := h.1 s (List.mem_of_getElem? hs)
theorem Rd.slice {n : Nat} {xs : List Value} (h : Rd w 1 v n xs) : ∃ A c, v = .slice A n c ∧ n ≤ c ∧ c ≤ maxLen := by
  obtain ⟨A, c, e, h3, h4, _⟩ := h
  exact ⟨A, c, e, h3, h4⟩
/-- One text. -/
theorem TxR.at_ {A : Option Addr} {n c : Nat} {l : List (List UInt8)} (h : TxR w (.slice A n c) l) {i : Nat} {b : List UInt8} (hb : l[i]? = some b) :
    ∃ g o Au cu, A = some ⟨g, o, none⟩ ∧ w.cell? ⟨g, o + i, none⟩ = some (.slice Au b.length cu) ∧ Rd w 1 (.slice Au b.length cu) b.length (b.map byteV) ∧ b.length ≤ cu ∧ cu ≤ 9223372036854775807 := by
  obtain ⟨vs, h1, ⟨A', c', e, h3, h4, h5, h6⟩, h7⟩ := h
  injection e with e1 e2 e3
  subst e1
  have hlt : i < l.length := (List.getElem?_eq_some_iff.1 hb).1
  obtain ⟨g, o, rfl, hx⟩ := h6 (by omega)
  obtain ⟨u, e4, e5⟩ := h7 i b hb
  obtain ⟨Au, cu, rfl, k1, k2⟩ := e5.slice
  unfold maxLen at k2
  exact ⟨g, o, Au, cu, rfl, hx i _ e4, e5, k1, k2⟩
theorem rowS_len {s : SignedS} (hf : s.vote.Fit) (u : Value) : (rowS s u).length = 23 := by simp [rowS, voteCells, hf.parent, hf.value]
theorem zip_rows {l : List SignedS} {us : List Value} (hf : ∀ s ∈ l, s.vote.Fit) : ∀ r ∈ List.zipWith rowS l us, r.length = 23 := by
  intro r hr
  obtain ⟨i, hi, rfl⟩ := List.mem_iff_getElem.1 hr
  rw [List.getElem_zipWith]
  exact rowS_len (hf _ (List.getElem_mem _)) _
/-- One signed vote. -/
theorem SgR.at_ {A : Option Addr} {n c : Nat} {l : List SignedS} (h : SgR w (.slice A n c) l) {i : Nat} {s : SignedS} (hs : l[i]? = some s) :
    ∃ g o Au cu, A = some ⟨g, o, none⟩ ∧ w.rangeAt g (o + i * 23) (rowS s (.slice Au s.sig.length cu)) ∧ Rd w 1 (.slice Au s.sig.length cu) s.sig.length (s.sig.map byteV) ∧ s.sig.length ≤ cu ∧ cu ≤ 9223372036854775807 := by
  obtain ⟨hf, us, h1, ⟨A', c', e, h3, h4, h5, h6⟩, h7⟩ := h
  injection e with e1 e2 e3
  subst e1
  have hlt : i < l.length := (List.getElem?_eq_some_iff.1 hs).1
  obtain ⟨g, o, rfl, hx⟩ := h6 (by omega)
  obtain ⟨u, e4, e5⟩ := h7 i s hs
  obtain ⟨Au, cu, rfl, k1, k2⟩ := e5.slice
  unfold maxLen at k2
  refine ⟨g, o, Au, cu, rfl, fun j x hj => ?_, e5, k1, k2⟩
  have hrow : (List.zipWith rowS l us)[i]? = some (rowS s (.slice Au s.sig.length cu)) := by rw [List.getElem?_zipWith, hs, e4]
  have hj23 : j < 23 := by have := (List.getElem?_eq_some_iff.1 hj).1; rw [rowS_len (hf s (List.mem_of_getElem? hs))] at this; exact this
  have := flatten_at (zip_rows (us := us) hf) hrow hj23
  rw [Nat.add_assoc]
  exact hx _ x (by rw [this]; exact hj)
end

/-! ### opening -/
section
variable {H : Type} {enc : TypeId × Value → H} {W : World} {v : Value} {d : DataW H} {p : List MemPlace} {base : Nat} {spare : Nat → Bool} {held : Bool} {fuel : Nat}

theorem cells_name : Tryz.prog.cellsOf 28 = 8 := by kernel_rfl
theorem open_byte {c : Value} {x : DataW H × List MemPlace} (h : DataW.trod enc Tryz.prog W base spare held fuel 5 [c] = some x) : ∃ b : UInt8, c = byteV b := by
  obtain ⟨z, e, _, hw⟩ := DataW.trod_int Tryz.underlying5 h
  injection e with e
  obtain ⟨h1, h2⟩ := wf_u8 hw
  refine ⟨UInt8.ofNat z.toNat, ?_⟩
  rw [e]
  show Value.int .u8 z = .int .u8 _
  congr 1
  simp
  omega
theorem open_int1 {t : TypeId} (ht : Tryz.prog.underlying t = some (.int .i64)) {c : Value} {x : DataW H × List MemPlace} (h : DataW.trod enc Tryz.prog W base spare held fuel t [c] = some x) : ∃ z : Int, c = .int .i64 z ∧ in64 z := by
  obtain ⟨z, e, _, hw⟩ := DataW.trod_int ht h
  injection e with e
  exact ⟨z, e, wf_i64 hw⟩
theorem open_name_cells {c0 c1 c2 c3 c4 c5 c6 c7 : Value} {x : DataW H × List MemPlace} (h : DataW.trod enc Tryz.prog W base spare held fuel 28 [c0, c1, c2, c3, c4, c5, c6, c7] = some x) : ∃ l : List UInt8, l.length = 8 ∧ [c0, c1, c2, c3, c4, c5, c6, c7] = l.map byteV := by
  obtain ⟨xs, m, _, _, _, hl, hi⟩ := DataW.trod_array Tryz.underlying28 h
  rw [cells_u8] at hi
  have get : ∀ i, i < 8 → ∃ y, xs[i]? = some y := fun i h => ⟨_, List.getElem?_eq_getElem (by omega)⟩
  have one : ∀ (i : Nat) (c : Value), i < 8 → (([c0, c1, c2, c3, c4, c5, c6, c7] : List Value).drop (i * 1)).take 1 = [c] → ∃ b : UInt8, c = byteV b := fun i c h1 h2 => by
    obtain ⟨y, hy⟩ := get i h1
    have := hi i h1
    rw [h2, hy] at this
    exact open_byte this
  obtain ⟨b0, rfl⟩ := one 0 c0 (by omega) rfl
  obtain ⟨b1, rfl⟩ := one 1 c1 (by omega) rfl
  obtain ⟨b2, rfl⟩ := one 2 c2 (by omega) rfl
  obtain ⟨b3, rfl⟩ := one 3 c3 (by omega) rfl
  obtain ⟨b4, rfl⟩ := one 4 c4 (by omega) rfl
  obtain ⟨b5, rfl⟩ := one 5 c5 (by omega) rfl
  obtain ⟨b6, rfl⟩ := one 6 c6 (by omega) rfl
  obtain ⟨b7, rfl⟩ := one 7 c7 (by omega) rfl
  exact ⟨[b0, b1, b2, b3, b4, b5, b6, b7], rfl, rfl⟩
/-- A slice of values of whatever type, row by row. -/
theorem open_slice_rows {t e : TypeId} (ht : Tryz.prog.underlying t = some (.slice e)) (hpos : 0 < Tryz.prog.cellsOf e) {x : DataW H × List MemPlace} (h : DataW.trod enc Tryz.prog W base spare held fuel t [v] = some x) :
    ∃ rows : List (List Value), Rd W (Tryz.prog.cellsOf e) v rows.length rows.flatten ∧ ∀ row ∈ rows, row.length = Tryz.prog.cellsOf e ∧ ∃ n y, DataW.trod enc Tryz.prog W base spare held n e row = some y := by
  generalize hk : Tryz.prog.cellsOf e = k at hpos ⊢
  rcases Go.Deep.open_slice ht h with ⟨hcs, hx⟩ | ⟨a, len, cap, m, n, D, Pl, hcs, _, hl, hm, hz, hx, hi⟩
  · injection hcs with hcs
    subst hcs
    exact ⟨[], Rd.nil W _, by simp⟩
  · injection hcs with hcs
    subst hcs
    rw [hk] at hi
    have hlm : len ≤ m := by split at hz <;> omega
    have hex : ∀ i, i < len → ∃ cs' : List Value, cs'.length = k ∧ (∀ j, j < k → W.cell? (a.add (i * k + j)) = cs'[j]?) ∧ ∃ n y, DataW.trod enc Tryz.prog W base spare held n e cs' = some y := by
      intro i hilt
      obtain ⟨cs', h1, h2⟩ := hi i (by omega)
      obtain ⟨_, hcl, hat⟩ := World.cells?_some h1
      exact ⟨cs', hcl, fun j hj => by rw [← Go.Deep.add_add]; exact hat j hj, n, _, h2⟩
    have hrows : ∀ q, q ≤ len → ∃ rows : List (List Value), rows.length = q ∧ ∀ i, i < q → ∃ cs', rows[i]? = some cs' ∧ cs'.length = k ∧ (∀ j, j < k → W.cell? (a.add (i * k + j)) = cs'[j]?) ∧ ∃ n y, DataW.trod enc Tryz.prog W base spare held n e cs' = some y := by
      intro q
      induction q with
      | zero => exact fun _ => ⟨[], rfl, fun i hi => by omega⟩
      | succ q ih =>
        intro hq
        obtain ⟨rows, hrl, hr⟩ := ih (by omega)
        obtain ⟨cs', c1⟩ := hex q (by omega)
        refine ⟨rows ++ [cs'], by simp [hrl], fun i hi => ?_⟩
        rcases Nat.lt_or_ge i q with h | h
        · obtain ⟨c2, e1, e2⟩ := hr i h
          exact ⟨c2, by rw [List.getElem?_append_left (by omega)]; exact e1, e2⟩
        · obtain rfl : i = q := by omega
          exact ⟨cs', by rw [List.getElem?_append_right (by omega)]; simp [hrl], c1⟩
    obtain ⟨rows, hrl, hr⟩ := hrows len (Nat.le_refl _)
    have hall : ∀ row ∈ rows, row.length = k ∧ ∃ n y, DataW.trod enc Tryz.prog W base spare held n e row = some y := by
      intro row hrow
      obtain ⟨i, hi', rfl⟩ := List.mem_iff_getElem.1 hrow
      obtain ⟨c2, e1, e2, _, e4⟩ := hr i (by omega)
      rw [List.getElem?_eq_getElem hi'] at e1
      have e1 := Option.some.inj e1
      rw [e1]
      exact ⟨e2, e4⟩
    have hlen : ∀ row ∈ rows, row.length = k := fun row hrow => (hall row hrow).1
    refine ⟨rows, ⟨some a, cap, by rw [hrl], by omega, hm, flatten_len hlen, fun h0 => ?_⟩, hall⟩
    have hs : a.spot = none := by
      obtain ⟨c2, e1, e2, e3, _⟩ := hr 0 (by omega)
      have := e3 0 hpos
      rw [List.getElem?_eq_getElem (by omega)] at this
      have := spot_of_cell this
      revert this
      unfold Addr.add
      simp
    refine ⟨a.block, a.off, by cases a; simp_all, fun j u hj => ?_⟩
    have hjl : j < len * k := by
      have := (List.getElem?_eq_some_iff.1 hj).1
      rw [flatten_len hlen, hrl] at this
      exact this
    have hdm : j / k < len := by rw [Nat.div_lt_iff_lt_mul hpos]; exact hjl
    have hmod := Nat.mod_lt j hpos
    obtain ⟨c2, e1, e2, e3, _⟩ := hr (j / k) hdm
    have e4 := flatten_at hlen e1 hmod
    have e5 : j / k * k + j % k = j := Nat.div_add_mod' j k
    rw [e5, hj] at e4
    have := e3 (j % k) hmod
    rw [e5, ← e4, add_form hs] at this
    exact this

end
end

section
open Go.RowKit
end

section
open Go.RowKit

/-- Operation o, its operands read by ρ, runs to its end and leaves a value and a world that 'post' holds of. -/
def OpDone (P : Program) (o : Oper) (ρ : Operand → Value) (w : World) (post : Value → World → Prop) : Prop :=
  match (execOp ρ o).run P w with
  | .ok (.value v) w' => post v w'
  | .ok .skip w' => post undef w'
  | .ok (.enter f args) w' => Calls P f args w' fun e w'' => ∃ v, e = .returned v ∧ post v w''
  | _ => False

theorem OpDone.wp {P : Program} {o : Oper} {a : Act} {w : World} {post : Value → World → Prop} {K : Act → World → Prop} {Q : Exit → Act → World → Prop} (h : OpDone P o a.eval w post) (hk : ∀ v w', post v w' → K (a.put o.dst v) w') : o.wp P a w K Q := by
  unfold OpDone at h
  unfold Oper.wp
  generalize (execOp a.eval o).run P w = r at *
  cases r with
  | ok n w' =>
    cases n with
    | value v => exact hk _ _ h
    | skip => exact hk _ _ h
    | enter f args => exact Calls.mono h (fun e w'' ⟨v, he, hp⟩ => by subst he; exact hk _ _ hp)
    | _ => exact h.elim
  | halt x w' => exact h.elim

theorem OpDone.mono {P : Program} {o : Oper} {ρ : Operand → Value} {w : World} {post post' : Value → World → Prop} (h : OpDone P o ρ w post) (hp : ∀ v w', post v w' → post' v w') : OpDone P o ρ w post' := by
  unfold OpDone at *
  generalize (execOp ρ o).run P w = r at *
  cases r with
  | ok n w' =>
    cases n with
    | value v => exact hp _ _ h
    | skip => exact hp _ _ h
    | enter f args => exact Calls.mono h (fun e w'' ⟨v, he, hq⟩ => ⟨v, he, hp _ _ hq⟩)
    | _ => exact h.elim
  | halt x w' => exact h.elim

/-- Op i waits for op j. -/
def depOn (l : List Oper) (i j : Nat) : Bool := match l[i]? with | none => false | some o => o.after.any fun e => e.on == j && Region.binds .any e
/-- Whoever writes slot t waits for op i. -/
def extFrom (l : List Oper) (i t : Nat) : Nat → List Oper → Bool
  | _, [] => true
  | j, o :: r => (o.dst != some t || depOn l j i) && extFrom l i t (j + 1) r
def extOk (l : List Oper) (i t : Nat) : Bool := extFrom l i t 0 l
def acycFrom : Nat → List Oper → Bool
  | _, [] => true
  | k, o :: l => o.after.all (fun e => decide (e.on < k)) && acycFrom (k + 1) l
def distinctB : List Oper → Bool
  | [] => true
  | o :: l => (match o.dst with | none => true | some d => l.all fun p => p.dst != some d) && distinctB l
def slotV (ρ : Operand → Value) (o : Oper) : Value := match o.dst with | some d => ρ (.tmp d) | none => undef
def leftV (o : Oper) (v : Value) : Value := match o.dst with | some _ => v | none => undef
def wantedR (l : List Oper) (o : Oper) (ρ : Operand → Value) : Bool := match o.guard with
  | none => true
  | some (g, b) => match (l[g]?).bind (·.dst) with
    | none => false
    | some d => match ρ (.tmp d) with | .bool c => c == b | _ => false
/-- What op number i is owed: L says which operations have run; W what the world is like then. -/
def OpStep (P : Program) (l : List Oper) (R : Nat → Value → World → Prop) (St : World → World → Prop) (W : (Nat → Bool) → World → Prop) (ρ0 : Operand → Value) (i : Nat) (o : Oper) : Prop :=
  ∀ (ρ : Operand → Value) (w : World) (L : Nat → Bool), W L w → L i = false → (∀ j k, L j = true → depOn l j k = true → L k = true) → (∀ k, depOn l i k = true → L k = true) → (∀ j oj, l[j]? = some oj → depOn l i j = true → R j (slotV ρ oj) w) → (∀ t, extOk l i t = true → ρ (.tmp t) = ρ0 (.tmp t)) → (∀ v, ρ (.const v) = v) → (∀ g, ρ (.global g) = .pointer (some ⟨g, 0, none⟩)) → (∀ f, ρ (.func f) = .func (.func f) #[] #[]) →
    if wantedR l o ρ = true then OpDone P o ρ w (fun v w' => R i (leftV o v) w' ∧ St w w' ∧ W (fun j => j == i || L j) w') else R i undef w ∧ W (fun j => j == i || L j) w
theorem OpStep.plain {P : Program} {l : List Oper} {R : Nat → Value → World → Prop} {St : World → World → Prop} {w0 : World} {ρ0 : Operand → Value} {i : Nat} {o : Oper} (st_trans : ∀ {x y z}, St x y → St y z → St x z) (hg : o.guard = none)
    (h : ∀ (ρ : Operand → Value) (w : World), St w0 w → (∀ j oj, l[j]? = some oj → depOn l i j = true → R j (slotV ρ oj) w) → (∀ t, extOk l i t = true → ρ (.tmp t) = ρ0 (.tmp t)) → (∀ v, ρ (.const v) = v) → (∀ g, ρ (.global g) = .pointer (some ⟨g, 0, none⟩)) → (∀ f, ρ (.func f) = .func (.func f) #[] #[]) → OpDone P o ρ w (fun v w' => R i (leftV o v) w' ∧ St w w')) : OpStep P l R St (fun _ w => St w0 w) ρ0 i o := by
  intro ρ w L h1 _ _ _ h2 h3 h4 h5 h6
  rw [if_pos (by unfold wantedR; rw [hg])]
  exact (h ρ w h1 h2 h3 h4 h5 h6).mono (fun v w' ⟨a, b⟩ => ⟨a, b, st_trans h1 b⟩)
def AllOps (P : Program) (l : List Oper) (R : Nat → Value → World → Prop) (St : World → World → Prop) (W : (Nat → Bool) → World → Prop) (ρ0 : Operand → Value) : Nat → List Oper → Prop
  | _, [] => True
  | i, o :: r => OpStep P l R St W ρ0 i o ∧ AllOps P l R St W ρ0 (i + 1) r
def putAll : List Oper → (Nat → Value) → Nat → Act → Act
  | [], _, _, a => a
  | o :: l, vs, k, a => putAll l vs (k + 1) (a.put o.dst (vs k))

section
variable {P : Program} {l : List Oper} {R : Nat → Value → World → Prop} {St : World → World → Prop} {W : (Nat → Bool) → World → Prop} {a0 : Act}

theorem AllOps.get {ρ0 : Operand → Value} : ∀ {r : List Oper} {k : Nat}, AllOps P l R St W ρ0 k r → ∀ {i : Nat} {o : Oper}, r[i]? = some o → OpStep P l R St W ρ0 (k + i) o
  | [], _, _, i, o, h => by cases h
  | x :: r, k, h, 0, o, hi => by
    simp at hi
    subst hi
    exact h.1
  | x :: r, k, h, i + 1, o, hi => by
    have := AllOps.get h.2 (i := i) (o := o) (by simpa using hi)
    rw [show k + (i + 1) = k + 1 + i by omega]
    exact this
theorem extFrom_get {i t : Nat} : ∀ {r : List Oper} {k : Nat}, extFrom l i t k r = true → ∀ {j : Nat} {o : Oper}, r[j]? = some o → o.dst = some t → depOn l (k + j) i = true
  | [], _, _, j, o, h, _ => by cases h
  | x :: r, k, h, 0, o, hi, hd => by
    simp at hi
    subst hi
    simp only [extFrom, Bool.and_eq_true, Bool.or_eq_true] at h
    rcases h.1 with e | e
    · rw [hd] at e; simp at e
    · exact e
  | x :: r, k, h, j + 1, o, hi, hd => by
    simp only [extFrom, Bool.and_eq_true] at h
    have := extFrom_get h.2 (j := j) (o := o) (by simpa using hi) hd
    rw [show k + (j + 1) = k + 1 + j by omega]
    exact this
theorem acyc_get : ∀ {r : List Oper} {k : Nat}, acycFrom k r = true → ∀ {i : Nat} {o : Oper}, r[i]? = some o → ∀ e ∈ o.after, e.on < k + i
  | [], _, _, i, o, h => by cases h
  | x :: r, k, h, 0, o, hi => by
    simp at hi
    subst hi
    simp only [acycFrom, Bool.and_eq_true] at h
    intro e he
    have := Array.all_eq_true_iff_forall_mem.1 h.1 e he
    simpa using this
  | x :: r, k, h, i + 1, o, hi => by
    simp only [acycFrom, Bool.and_eq_true] at h
    intro e he
    have := acyc_get h.2 (i := i) (o := o) (by simpa using hi) e he
    omega
theorem distinct_get : ∀ {r : List Oper}, distinctB r = true → ∀ {i j : Nat} {x y : Oper} {d : Nat}, r[i]? = some x → r[j]? = some y → x.dst = some d → y.dst = some d → i = j
  | [], _, i, j, x, y, d, h, _, _, _ => by cases h
  | o :: r, h, 0, 0, x, y, d, _, _, _, _ => rfl
  | o :: r, h, 0, j + 1, x, y, d, hx, hy, dx, dy => by
    simp at hx
    subst hx
    simp only [distinctB, dx, Bool.and_eq_true, List.all_eq_true] at h
    have := h.1 y (List.mem_of_getElem? (by simpa using hy))
    rw [dy] at this
    simp at this
  | o :: r, h, i + 1, 0, x, y, d, hx, hy, dx, dy => by
    simp at hy
    subst hy
    simp only [distinctB, dy, Bool.and_eq_true, List.all_eq_true] at h
    have := h.1 x (List.mem_of_getElem? (by simpa using hx))
    rw [dx] at this
    simp at this
  | o :: r, h, i + 1, j + 1, x, y, d, hx, hy, dx, dy => by
    simp only [distinctB, Bool.and_eq_true] at h
    have := distinct_get h.2 (i := i) (j := j) (x := x) (y := y) (by simpa using hx) (by simpa using hy) dx dy
    omega
theorem put_size (a : Act) (d : Option Tmp) (v : Value) : (a.put d v).tmps.size = a.tmps.size := by cases d <;> simp [Act.put]
theorem put_defers (a : Act) (d : Option Tmp) (v : Value) : (a.put d v).defers = a.defers := by cases d <;> rfl
theorem put_get_ne (a : Act) {d : Option Tmp} {v : Value} {t : Nat} (h : d ≠ some t) : (a.put d v).tmps[t]? = a.tmps[t]? := by
  cases d with
  | none => rfl
  | some d => simp [Act.put, Array.getElem?_setIfInBounds_ne (show d ≠ t from fun e => h (by rw [e]))]
theorem put_get_same (a : Act) {v : Value} {t : Nat} (h : t < a.tmps.size) : (a.put (some t) v).tmps[t]? = some v := by simp [Act.put, h]
theorem putAll_size : ∀ (r : List Oper) (vs : Nat → Value) (k : Nat) (a : Act), (putAll r vs k a).tmps.size = a.tmps.size
  | [], _, _, _ => rfl
  | o :: r, vs, k, a => by rw [putAll, putAll_size, put_size]
theorem putAll_defers : ∀ (r : List Oper) (vs : Nat → Value) (k : Nat) (a : Act), (putAll r vs k a).defers = a.defers
  | [], _, _, _ => rfl
  | o :: r, vs, k, a => by rw [putAll, putAll_defers, put_defers]
theorem putAll_none : ∀ (r : List Oper) (vs : Nat → Value) (k : Nat) (a : Act) (t : Nat), (∀ o ∈ r, o.dst ≠ some t) → (putAll r vs k a).tmps[t]? = a.tmps[t]?
  | [], _, _, _, _, _ => rfl
  | o :: r, vs, k, a, t, h => by rw [putAll, putAll_none r vs (k + 1) _ t (fun x hx => h x (by simp [hx])), put_get_ne a (h o (by simp))]
theorem putAll_some : ∀ (r : List Oper) (vs : Nat → Value) (k : Nat) (a : Act) (t i : Nat) (o : Oper), distinctB r = true → r[i]? = some o → o.dst = some t → t < a.tmps.size → (putAll r vs k a).tmps[t]? = some (vs (k + i))
  | [], _, _, _, _, _, _, _, h, _, _ => by cases h
  | x :: r, vs, k, a, t, 0, o, hd, hi, ho, ht => by
    simp at hi
    subst hi
    rw [putAll, putAll_none, ho, put_get_same a ht]
    · rfl
    · intro y hy e
      simp only [distinctB, ho, Bool.and_eq_true, List.all_eq_true] at hd
      have := hd.1 y hy
      rw [e] at this
      simp at this
  | x :: r, vs, k, a, t, i + 1, o, hd, hi, ho, ht => by
    simp only [distinctB, Bool.and_eq_true] at hd
    rw [putAll, putAll_some r vs (k + 1) _ t i o hd.2 (by simpa using hi) ho (by rw [put_size]; exact ht)]
    congr 2
    omega
theorem Act.ext' {a b : Act} (h1 : a.tmps = b.tmps) (h2 : a.defers = b.defers) : a = b := by cases a; cases b; simp_all

def unl : List Bool → Nat
  | [] => 0
  | b :: l => (if b then 0 else 1) + unl l
theorem unl_set : ∀ (l : List Bool) (i : Nat), l[i]? = some false → unl (l.set i true) + 1 = unl l
  | [], _, h => by cases h
  | b :: l, 0, h => by simp at h; subst h; simp [unl]; omega
  | b :: l, i + 1, h => by
    have := unl_set l i (by simpa using h)
    simp only [List.set_cons_succ, unl]
    omega
theorem unl_zero : ∀ (l : List Bool), unl l = 0 → ∀ b ∈ l, b = true
  | [], _, _, h => by cases h
  | b :: l, h, c, hc => by
    simp only [unl] at h
    rcases List.mem_cons.1 hc with rfl | hc
    · cases c
      · simp at h
      · rfl
    · exact unl_zero l (by omega) c hc
theorem unl_replicate : ∀ n, unl (List.replicate n false) = n
  | 0 => rfl
  | n + 1 => by rw [List.replicate_succ, unl, unl_replicate n]; simp; omega

theorem wanted_eq (o : Oper) (a : Act) : Region.wanted o (yielded l.toArray a.tmps) = wantedR l o a.eval := by
  unfold Region.wanted wantedR
  cases o.guard with
  | none => rfl
  | some p =>
    obtain ⟨g, b⟩ := p
    simp only [yielded, List.getElem?_toArray]
    cases (l[g]?).bind (·.dst) with
    | none => simp
    | some d =>
      simp only [Option.bind_some, Act.eval]
      rw [Array.getD_eq_getD_getElem?]
      cases a.tmps[d]? with
      | none => simp [undef]
      | some v => cases v <;> simp

/-- Where the region stands. -/
def lst (listed : Array Bool) : Nat → Bool := fun j => listed[j]? == some true
structure RgAt (l : List Oper) (R : Nat → Value → World → Prop) (W : (Nat → Bool) → World → Prop) (a0 : Act) (listed : Array Bool) (a : Act) (w : World) : Prop where
  ls : listed.size = l.length
  size : a.tmps.size = a0.tmps.size
  defers : a.defers = a0.defers
  st : W (lst listed) w
  done : ∀ (j : Nat) oj, l[j]? = some oj → listed[j]? = some true → R j (slotV a.eval oj) w
  ext : ∀ t, (∀ (j : Nat) oj, l[j]? = some oj → oj.dst = some t → listed[j]? = some false) → a.tmps[t]? = a0.tmps[t]?
  closed : ∀ (j k : Nat), listed[j]? = some true → depOn l j k = true → listed[k]? = some true

theorem RgAt.step (st_refl : ∀ w, St w w) (keep : ∀ i v w w', R i v w → St w w' → R i v w') (hdi : distinctB l = true) (hdst : ∀ o ∈ l, ∀ d, o.dst = some d → d < a0.tmps.size) {Q : Exit → Act → World → Prop} (hops : AllOps P l R St W a0.eval 0 l) {listed : Array Bool} {a : Act} {w : World} (h : RgAt l R W a0 listed a w) {i : Nat} {o : Oper} (ho : l[i]? = some o) (hun : listed[i]? = some false) (hrdy : ∀ k, depOn l i k = true → listed[k]? = some true) :
    if Region.wanted o (yielded l.toArray a.tmps) then o.wp P a w (fun a' w' => RgAt l R W a0 (listed.setIfInBounds i true) a' w') Q else RgAt l R W a0 (listed.setIfInBounds i true) (a.put o.dst undef) w := by
  have hi : i < listed.size := (Array.getElem?_eq_some_iff.1 hun).1
  have hs := (hops.get ho) a.eval w (lst listed) h.st (by simp [lst, hun]) (fun j k hj hk => by unfold lst at hj ⊢; rw [beq_iff_eq] at hj ⊢; exact h.closed j k hj hk) (fun k hk => by unfold lst; rw [beq_iff_eq]; exact hrdy k (by simpa using hk)) (fun j oj hj hd => h.done j oj hj (hrdy j (by simpa using hd))) (fun t ht => by
    have hx := h.ext t (fun j oj hj hd => by
      have hdep := extFrom_get ht hj hd
      rw [Nat.zero_add, Nat.zero_add] at hdep
      have hjl : j < listed.size := by rw [h.ls]; exact (List.getElem?_eq_some_iff.1 hj).1
      rw [Array.getElem?_eq_getElem hjl]
      cases hb : listed[j] with
      | false => rfl
      | true =>
        have := h.closed j i (by rw [Array.getElem?_eq_getElem hjl, hb]) hdep
        rw [hun] at this
        cases this)
    simp only [Act.eval, Array.getD_eq_getD_getElem?, hx]) (fun _ => rfl) (fun _ => rfl) (fun _ => rfl)
  rw [Nat.zero_add] at hs
  have hlst : lst (listed.setIfInBounds i true) = fun j => j == i || lst listed j := by
    funext j
    unfold lst
    by_cases hji : j = i
    · subst hji; simp [hi]
    · rw [Array.getElem?_setIfInBounds_ne (fun e => hji e.symm)]; simp [hji]
  have next : ∀ v w', R i (leftV o v) w' → St w w' → W (fun j => j == i || lst listed j) w' → RgAt l R W a0 (listed.setIfInBounds i true) (a.put o.dst v) w' := by
    intro v w' hv hst hW
    have hset : ∀ j, j ≠ i → (listed.setIfInBounds i true)[j]? = listed[j]? := fun j hj => Array.getElem?_setIfInBounds_ne (fun e => hj e.symm)
    have hseti : (listed.setIfInBounds i true)[i]? = some true := by simp [hi]
    refine ⟨by simp [h.ls], by rw [put_size, h.size], by rw [put_defers, h.defers], by rw [hlst]; exact hW, ?_, ?_, ?_⟩
    · intro j oj hj hl
      by_cases hji : j = i
      · subst hji
        have e := ho.symm.trans hj
        have e := Option.some.inj e
        subst e
        have : slotV (a.put o.dst v).eval o = leftV o v := by
          unfold slotV leftV
          cases hd : o.dst with
          | none => rfl
          | some d =>
            have hlt : d < a.tmps.size := by rw [h.size]; exact hdst o (List.mem_of_getElem? ho) d hd
            simp only [Act.eval, Array.getD_eq_getD_getElem?, put_get_same a hlt]
            rfl
        rw [this]
        exact hv
      · rw [hset j hji] at hl
        have hr := h.done j oj hj hl
        have e : slotV (a.put o.dst v).eval oj = slotV a.eval oj := by
          unfold slotV
          cases hd : oj.dst with
          | none => rfl
          | some d =>
            have : o.dst ≠ some d := fun e => hji (distinct_get hdi hj ho hd e)
            simp only [Act.eval, Array.getD_eq_getD_getElem?, put_get_ne a this]
        rw [e]
        exact keep _ _ _ _ hr hst
    · intro t ht
      have hne : o.dst ≠ some t := fun e => by
        have := ht i o ho e
        rw [hseti] at this
        cases this
      rw [put_get_ne a hne]
      refine h.ext t (fun j oj hj hd => ?_)
      have := ht j oj hj hd
      by_cases hji : j = i
      · subst hji; rw [hseti] at this; cases this
      · rw [hset j hji] at this; exact this
    · intro j k hj hd
      by_cases hji : j = i
      · subst hji
        have := hrdy k hd
        by_cases hki : k = j
        · subst hki; exact hseti
        · rw [hset k hki]; exact this
      · rw [hset j hji] at hj
        have := h.closed j k hj hd
        by_cases hki : k = i
        · subst hki; exact hseti
        · rw [hset k hki]; exact this
  rw [wanted_eq]
  by_cases hw : wantedR l o a.eval = true
  · rw [if_pos hw] at hs ⊢
    exact hs.wp (fun v w' ⟨h1, h2, h3⟩ => next v w' h1 h2 h3)
  · rw [if_neg hw] at hs ⊢
    have e : leftV o undef = undef := by unfold leftV; cases o.dst <;> rfl
    exact next undef w (by rw [e]; exact hs.1) (st_refl w) hs.2

theorem RgAt.fin (hdi : distinctB l = true) {listed : Array Bool} {a : Act} {w : World} (h : RgAt l R W a0 listed a w) (hall : ∀ b ∈ listed.toList, b = true) :
    ∃ vs : Nat → Value, a = putAll l vs 0 a0 ∧ ∀ (i : Nat) o, l[i]? = some o → R i (leftV o (vs i)) w := by
  refine ⟨fun i => match l[i]? with | some o => slotV a.eval o | none => undef, ?_, ?_⟩
  · refine Act.ext' ?_ (by rw [putAll_defers, h.defers])
    apply Array.ext_getElem?
    intro t
    by_cases ht : t < a.tmps.size
    · by_cases hd : ∃ (i : Nat) (o : Oper), l[i]? = some o ∧ o.dst = some t
      · obtain ⟨i, o, ho, hd⟩ := hd
        rw [putAll_some l _ 0 a0 t i o hdi ho hd (by rw [← h.size]; exact ht), Nat.zero_add]
        simp only [ho]
        unfold slotV
        simp only [hd, Act.eval, Array.getD_eq_getD_getElem?]
        rw [Array.getElem?_eq_getElem ht]
        rfl
      · rw [putAll_none l _ 0 a0 t (fun o ho e => by
          obtain ⟨i, hi⟩ := List.getElem?_of_mem ho
          exact hd ⟨i, o, hi, e⟩)]
        exact h.ext t (fun j oj hj e => absurd ⟨j, oj, hj, e⟩ hd)
    · rw [Array.getElem?_eq_none (by omega), Array.getElem?_eq_none (by rw [putAll_size, ← h.size]; omega)]
  · intro i o ho
    have hi : i < listed.size := by rw [h.ls]; exact (List.getElem?_eq_some_iff.1 ho).1
    have := h.done i o ho (by rw [Array.getElem?_eq_getElem hi, hall listed[i] (by simp)])
    simp only [ho]
    unfold leftV
    cases hd : o.dst with
    | none => unfold slotV at this; rw [hd] at this; exact this
    | some d => exact this

theorem ready_iff {listed : Array Bool} (hs : listed.size = l.length) {i : Nat} (h : i ∈ Region.ready .any l.toArray listed) : ∃ o, l[i]? = some o ∧ listed[i]? = some false ∧ ∀ k, depOn l i k = true → listed[k]? = some true := by
  unfold Region.ready at h
  obtain ⟨h1, h2⟩ := List.mem_filter.1 h
  have hi : i < l.length := by simpa using h1
  have hil : i < listed.size := by omega
  refine ⟨l[i], List.getElem?_eq_getElem hi, ?_, ?_⟩
  · simp only [Bool.and_eq_true] at h2
    have := h2.1
    rw [Array.getD_eq_getD_getElem?, Array.getElem?_eq_getElem hil] at this
    rw [Array.getElem?_eq_getElem hil]
    simpa using this
  · intro k hk
    simp only [Bool.and_eq_true] at h2
    have h3 := h2.2
    unfold depOn at hk
    rw [List.getElem?_eq_getElem hi] at hk
    obtain ⟨q, hq, hk⟩ := Array.any_eq_true.1 hk
    simp only [Bool.and_eq_true, beq_iff_eq] at hk
    simp only [List.getElem?_toArray, List.getElem?_eq_getElem hi, Option.map_some, Option.getD_some] at h3
    have h4 := Array.all_eq_true.1 h3 q hq
    rw [hk.2, hk.1] at h4
    simp only [Bool.not_true, Bool.false_or] at h4
    rw [Array.getD_eq_getD_getElem?] at h4
    cases hl : listed[k]? with
    | none => rw [hl] at h4; cases h4
    | some b => rw [hl] at h4; simp at h4; rw [h4]
theorem not_ready (hac : acycFrom 0 l = true) {listed : Array Bool} (hs : listed.size = l.length) (h : Region.ready .any l.toArray listed = []) : ∀ i, i < l.length → listed[i]? = some true := by
  intro i
  induction i using Nat.strongRecOn with
  | ind i ih =>
    intro hi
    have hil : i < listed.size := by omega
    rw [Array.getElem?_eq_getElem hil]
    cases hb : listed[i] with
    | true => rfl
    | false =>
      exfalso
      have : i ∈ Region.ready .any l.toArray listed := by
        unfold Region.ready
        refine List.mem_filter.2 ⟨by simpa using hi, ?_⟩
        rw [Array.getD_eq_getD_getElem?, Array.getElem?_eq_getElem hil, hb]
        simp only [List.getElem?_toArray, List.getElem?_eq_getElem hi, Option.map_some, Option.getD_some, Bool.not_false, Bool.true_and]
        refine Array.all_eq_true.2 (fun q hq => ?_)
        have hlt := acyc_get hac (List.getElem?_eq_getElem hi) _ (Array.getElem_mem hq)
        rw [Nat.zero_add] at hlt
        have := ih _ hlt (by omega)
        rw [Array.getD_eq_getD_getElem?, this]
        simp
      rw [h] at this
      cases this

theorem RgAt.any (st_refl : ∀ w, St w w) (keep : ∀ i v w w', R i v w → St w w' → R i v w') (hac : acycFrom 0 l = true) (hdi : distinctB l = true) (hdst : ∀ o ∈ l, ∀ d, o.dst = some d → d < a0.tmps.size) {Q : Exit → Act → World → Prop} (hops : AllOps P l R St W a0.eval 0 l) (hend : ∀ (vs : Nat → Value) (w : World) (L : Nat → Bool), (∀ i, i < l.length → L i = true) → W L w → (∀ (i : Nat) o, l[i]? = some o → R i (leftV o (vs i)) w) → Q .normal (putAll l vs 0 a0) w) :
    ∀ (fuel : Nat) (listed : Array Bool) (a : Act) (w : World), unl listed.toList ≤ fuel → RgAt l R W a0 listed a w → wpAny P .any l.toArray Q fuel listed a w := by
  have fin : ∀ (listed : Array Bool) (a : Act) (w : World), RgAt l R W a0 listed a w → Region.ready .any l.toArray listed = [] → Q .normal a w := by
    intro listed a w h hr
    have hn := not_ready hac h.ls hr
    obtain ⟨vs, rfl, hv⟩ := h.fin hdi (fun b hb => by
      obtain ⟨i, hi⟩ := List.getElem?_of_mem hb
      have hlt : i < l.length := by rw [← h.ls]; have := (List.getElem?_eq_some_iff.1 hi).1; simpa using this
      have := hn i hlt
      have hi' : listed[i]? = some b := by simpa using hi
      rw [hi'] at this
      exact Option.some.inj this)
    exact hend vs w (lst listed) (fun i hi => by unfold lst; rw [beq_iff_eq]; exact hn i hi) h.st hv
  intro fuel
  induction fuel with
  | zero =>
    intro listed a w hu h
    have hz := unl_zero _ (by omega : unl listed.toList = 0)
    have hr : Region.ready .any l.toArray listed = [] := by
      apply List.eq_nil_iff_forall_not_mem.2
      intro i hi
      obtain ⟨o, _, h2, _⟩ := ready_iff h.ls hi
      have := hz false (List.mem_of_getElem? (i := i) (by simpa using h2))
      cases this
    exact ⟨hr, fin listed a w h hr⟩
  | succ fuel ih =>
    intro listed a w hu h
    refine ⟨fun hr => fin listed a w h hr, fun i hi => ?_⟩
    obtain ⟨o, h1, h2, h3⟩ := ready_iff h.ls hi
    have hs := h.step st_refl keep hdi hdst (Q := Q) hops h1 h2 h3
    have hun : unl (listed.setIfInBounds i true).toList ≤ fuel := by
      have := unl_set listed.toList i (by simpa using h2)
      rw [Array.toList_setIfInBounds]
      omega
    unfold wpOp
    simp only [List.getElem?_toArray, h1]
    split
    · rename_i hw
      rw [if_pos hw] at hs
      exact .inl (Oper.wp_mono (fun a' w' h' => ih _ a' w' hun h') hs)
    · rename_i hw
      rw [if_neg hw] at hs
      exact ih _ _ _ hun hs
end

/-- A region that draws its order, by phases. -/
theorem wp_region_rgw {P : Program} {l : List Oper} {a0 : Act} {w0 : World} {Q : Exit → Act → World → Prop} {id : Nat} (R : Nat → Value → World → Prop) (St : World → World → Prop) (W : (Nat → Bool) → World → Prop) (hm : P.follows .mixedOrders = true) (hac : acycFrom 0 l = true) (hdi : distinctB l = true) (hdst : (l.all fun o => match o.dst with | some d => decide (d < a0.tmps.size) | none => true) = true)
    (st_refl : ∀ w, St w w) (keep : ∀ i v w w', R i v w → St w w' → R i v w') (hW : W (fun _ => false) w0.drew)
    (hops : AllOps P l R St W a0.eval 0 l) (hend : ∀ (vs : Nat → Value) (w : World) (L : Nat → Bool), (∀ i, i < l.length → L i = true) → W L w → (∀ (i : Nat) o, l[i]? = some o → R i (leftV o (vs i)) w) → Q .normal (putAll l vs 0 a0) w) : (Code.region id l.toArray true).wp P Q a0 w0 := by
  have hdst' : ∀ o ∈ l, ∀ d, o.dst = some d → d < a0.tmps.size := fun o ho d hd => by
    have := List.all_eq_true.1 hdst o ho
    rw [hd] at this
    simpa using this
  have hl0 : lst (Array.replicate l.length false) = fun _ => false := by
    funext j
    unfold lst
    rw [Array.getElem?_replicate]
    split <;> rfl
  refine wp_region_any hm ?_
  refine RgAt.any (R := R) (St := St) (W := W) (a0 := a0) st_refl keep hac hdi hdst' hops hend _ _ _ _ ?_ ?_
  · simp [unl_replicate]
  · refine ⟨by simp, rfl, rfl, by simp only [List.size_toArray]; rw [hl0]; exact hW, fun j oj _ h => ?_, fun _ _ => rfl, fun j k h => ?_⟩
    · rw [Array.getElem?_replicate] at h
      split at h
      · cases h
      · cases h
    · rw [Array.getElem?_replicate] at h
      split at h
      · cases h
      · cases h
end

section
open Go.RowKit

section
variable {g : Nat}
theorem Upd.setCells {F : Nat → Prop} {w0 : World} : ∀ (vs : List Value) (o : Nat) {w : World}, Upd F w0 w → (F g ∨ w0.heap.size ≤ g) → Upd F w0 (w.setCells g o vs)
  | [], _, _, h, _ => h
  | v :: r, o, _, h, hg => Upd.setCells r (o + 1) (h.setCell (p := ⟨g, o, none⟩) hg v) hg
theorem Blk.setCells {t : TypeId} : ∀ (vs : List Value) (o : Nat) {w : World} {cur : Array Value}, Blk w g t cur → ∃ cs', Blk (w.setCells g o vs) g t cs' ∧ cs'.size = cur.size
  | [], _, _, cur, h => ⟨cur, h, rfl⟩
  | v :: r, o, w, cur, h => by
    obtain ⟨cs', h1, h2⟩ := Blk.setCells r (o + 1) (h.put o v)
    exact ⟨cs', h1, by rw [h2]; simp⟩
end
section
variable {w : World} {g : Nat} {t : TypeId}
theorem Blk.there {cur : Array Value} (h : Blk w g t cur) {o n : Nat} (hn : o + n ≤ cur.size) : w.there g o n := fun j hj => by
  refine ⟨?_, h.frozen _⟩
  rw [h.cell, Array.getElem?_eq_getElem (by omega)]
  rfl
theorem Blk.setAll {cur cells : Array Value} (h : Blk w g t cur) (hs : cur.size = cells.size) : Blk (w.setCells g 0 cells.toList) g t cells := by
  obtain ⟨cs', h1, h2⟩ := h.setCells (vs := cells.toList) (o := 0)
  have : cs' = cells := by
    apply Array.ext (by omega)
    intro i hi hj
    have e1 := h1.cell i
    have e2 := World.cell?_setCells_in g cells.toList 0 w (fun j hj => (h.there (o := 0) (n := cells.toList.length) (by simp; omega) j hj).1) i (by simpa using hj)
    rw [Nat.zero_add] at e2
    rw [e2, Array.getElem?_eq_getElem hi] at e1
    have e1 := Option.some.inj e1
    rw [← e1]
    simp
  rw [this] at h1
  exact h1
theorem heap_setCells : ∀ (vs : List Value) (o : Nat) (w : World), (w.setCells g o vs).heap.size = w.heap.size
  | [], _, _ => rfl
  | v :: r, o, w => by rw [World.setCells, heap_setCells r]; simp [World.setCell]
end

section
variable {P : Program} {o : Oper} {ρ : Operand → Value} {w : World} {post : Value → World → Prop}
theorem od_of_run {v : Value} {w' : World} (h : (execOp ρ o).run P w = .ok (.value v) w') (hp : post v w') : OpDone P o ρ w post := by
  unfold OpDone
  rw [h]
  exact hp
theorem od_load_row (ty : TypeId) (x : Operand) (ho : o.op = .load ty x) (b off : Nat) (hx : ρ x = .pointer (some ⟨b, off, none⟩)) (cs : List Value) (d : TypeDesc) (hc : w.rangeAt b off cs) (hu : P.underlying ty = some d) (hd : d.isRow = true) (hi : (P.info? ty).map (·.size) = some cs.length) (hp : post (.agg cs.toArray) w) : OpDone P o ρ w post := by
  unfold OpDone execOp
  simp only [ho, hx, Sem.run_bind, Sem.run_pure, run_loadAt_mid w b off ty cs d hc hu hd hi, Result.andThen_ok]
  exact hp
theorem od_store_row (ty : TypeId) (x y : Operand) (ho : o.op = .store ty x y) (g : Nat) (hx : ρ x = .pointer (some ⟨g, 0, none⟩)) (cells : Array Value) (hy : ρ y = .agg cells) (t : TypeId) (cur : Array Value) (hb : Blk w g t cur) (hs : cur.size = cells.size) (hi : (P.info? ty).map (·.size) = some cells.size) (h1 : cells.all (·.oneCell') = true)
    (hp : ∀ w', Blk w' g t cells → Upd (fun k => k = g) w w' → w'.heap.size = w.heap.size → post undef w') : OpDone P o ρ w post := by
  unfold OpDone execOp
  simp only [ho, hx, hy, Instr.storeAt, Instr.sureAddr, Sem.run_bind, Sem.run_pure, Result.andThen_ok, run_storeVar_mid w g 0 ty cells (hb.there (by omega)) hi h1]
  exact hp _ (hb.setAll hs) ((Upd.refl (fun k => k = g) w).setCells (g := g) _ _ (.inl rfl)) (heap_setCells _ _ _)
theorem od_alloc_row (ty : TypeId) (ho : o.op = .alloc ty) (zs : Array Value) (hz : ∀ w, (Instr.alloc ty true (.tuple #[])).run P w = .ok (.pointer (some ⟨w.heap.size, 0, none⟩)) (w.alloc (.cells zs ty)))
    (hp : ∀ w', Blk w' w.heap.size ty zs → Upd NoF w w' → w'.heap.size = w.heap.size + 1 → post (.pointer (some ⟨w.heap.size, 0, none⟩)) w') : OpDone P o ρ w post := by
  unfold OpDone execOp
  simp only [ho, Sem.run_bind, Sem.run_pure, hz, Result.andThen_ok]
  exact hp _ (Blk.new w ty zs) ((Upd.refl NoF w).alloc _) (by simp)
theorem od_append (s x : Operand) (t : TypeId) (ho : o.op = .call { callee := .builtin .append, args := #[s, x], argTypes := #[t, t] })
    (e : TypeId) (i : TypeInfo) (z : Value) (size bytes : Nat) (ht : P.underlying t = some (.slice e)) (hi : P.info? e = some i) (hz : i.zero = some z) (hsize : i.size = size) (hby : i.bytes = bytes) (hzs : z.cells.size = size)
    (v : Value) (n : Nat) (xs : List Value) (hs : ρ s = v) (hown : Own w e size v n xs) (u : Value) (m : Nat) (ys : List Value) (hx : ρ x = u) (hr : Rd w size u m ys) (h1 : ∀ u ∈ ys, u.oneCell' = true)
    (h63 : n + m ≤ maxLen) (hbytes : (n + m) * bytes ≤ 140737488355328)
    (hp : ∀ A c w', Own w' e size (.slice A (n + m) c) (n + m) (xs ++ ys) → Upd (OwnB v) w w' → (∀ k, OwnB (.slice A (n + m) c) k → OwnB v k ∨ w.heap.size ≤ k) → post (.slice A (n + m) c) w') : OpDone P o ρ w post := by
  obtain ⟨v', w', hrun, h2, h3, h4⟩ := run_append (P := P) w t o.type e i z size bytes ht hi hz hsize hby hzs v n xs hown u m ys hr h1 h63 hbytes
  unfold OpDone execOp
  simp only [ho, resolve, invoke, builtin, Sem.run_bind, Sem.run_pure, Result.andThen_ok, List.map_toArray, List.map_cons, List.map_nil, hs, hx, hrun]
  obtain ⟨A, c, rfl⟩ := h2.form
  exact hp A c w' h2 h3 h4
theorem od_build (ty : TypeId) (ps : Array (Nat × Operand)) (ho : o.op = .build ty ps) (vs : Array (Nat × Value)) (hv : ps.map (fun p => (p.1, ρ p.2)) = vs) {v : Value} {w' : World} (hr : (Instr.build ty vs).run P w = .ok v w') (hp : post v w') : OpDone P o ρ w post := by
  unfold OpDone execOp
  simp only [ho, hv, Sem.run_bind, Sem.run_pure, hr, Result.andThen_ok]
  exact hp
/-- One operation of a region that keeps its order. -/
theorem wpList_od {ops : Array Oper} {rest : List Oper} {a : Act} {Q : Exit → Act → World → Prop} (hgd : o.guard = none) (h : OpDone P o a.eval w post) (hk : ∀ v w', post v w' → wpList P ops Q rest (a.put o.dst v) w') : wpList P ops Q (o :: rest) a w :=
  wpList_plain hgd fun _ hK => h.wp (fun v w' hp => hK _ _ (hk v w' hp))
end

/-- A new variable of a row. -/
theorem wpList_alloc_row {P : Program} {o : Oper} {w : World} {ops : Array Oper} {rest : List Oper} {a : Act} {Q : Exit → Act → World → Prop} (hgd : o.guard = none) (ty : TypeId) (ho : o.op = .alloc ty) (zs : Array Value) (hz : ∀ w, (Instr.alloc ty true (.tuple #[])).run P w = .ok (.pointer (some ⟨w.heap.size, 0, none⟩)) (w.alloc (.cells zs ty)))
    (hk : ∀ w', Blk w' w.heap.size ty zs → Upd NoF w w' → w'.heap.size = w.heap.size + 1 → wpList P ops Q rest (a.put o.dst (.pointer (some ⟨w.heap.size, 0, none⟩))) w') : wpList P ops Q (o :: rest) a w :=
  wpList_od (post := fun v w' => wpList P ops Q rest (a.put o.dst v) w') hgd (od_alloc_row ty ho zs hz hk) (fun _ _ h => h)
/-- A whole row stored into a variable. -/
theorem wpList_store_row {P : Program} {o : Oper} {w : World} {ops : Array Oper} {rest : List Oper} {a : Act} {Q : Exit → Act → World → Prop} (hgd : o.guard = none) (ty : TypeId) (x y : Operand) (ho : o.op = .store ty x y) (g : Nat) (hx : a.eval x = .pointer (some ⟨g, 0, none⟩)) (cells : Array Value) (hy : a.eval y = .agg cells) (t : TypeId) (cur : Array Value) (hb : Blk w g t cur) (hs : cur.size = cells.size) (hi : (P.info? ty).map (·.size) = some cells.size) (h1 : cells.all (·.oneCell') = true)
    (hk : ∀ w', Blk w' g t cells → Upd (fun k => k = g) w w' → w'.heap.size = w.heap.size → wpList P ops Q rest (a.put o.dst undef) w') : wpList P ops Q (o :: rest) a w :=
  wpList_od (post := fun v w' => wpList P ops Q rest (a.put o.dst v) w') hgd (od_store_row ty x y ho g hx cells hy t cur hb hs hi h1 hk) (fun _ _ h => h)

def rgR (ps : List (Value → World → Prop)) (i : Nat) (v : Value) (w : World) : Prop := ps.getD i (fun _ _ => True) v w
def isV (x : Value) : Value → World → Prop := fun v _ => v = x
def anyV : Value → World → Prop := fun _ _ => True
def Stb (St : World → World → Prop) (p : Value → World → Prop) : Prop := ∀ v w w', p v w → St w w' → p v w'
theorem stb_isV {St : World → World → Prop} (x : Value) : Stb St (isV x) := fun _ _ _ h _ => h
theorem stb_any {St : World → World → Prop} : Stb St anyV := fun _ _ _ _ _ => trivial
theorem rgR_keep {St : World → World → Prop} {ps : List (Value → World → Prop)} (h : ∀ p ∈ ps, Stb St p) : ∀ i v w w', rgR ps i v w → St w w' → rgR ps i v w' := by
  intro i v w w' h1 h2
  unfold rgR at *
  rw [List.getD_eq_getElem?_getD] at *
  cases hi : ps[i]? with
  | none => trivial
  | some p =>
    rw [hi] at h1
    exact h p (List.mem_of_getElem? hi) v w w' h1 h2

/-! ### phases of a region -/
/-- Op a makes a variable, op b stores a row into it. -/
structure NewVar (w0 : World) (G : Nat) (t : TypeId) (row : Array Value) (a b : Nat) (L : Nat → Bool) (w : World) : Prop where
  upd : Upd NoF w0 w
  size : w0.heap.size = G
  before : L a = false → w.heap.size = G
  made : L a = true → ∃ cs, Blk w G t cs ∧ cs.size = row.size
  stored : L b = true → Blk w G t row
theorem NewVar.start {w0 : World} {G : Nat} (t : TypeId) (row : Array Value) (a b : Nat) (h : w0.heap.size = G) : NewVar w0 G t row a b (fun _ => false) w0 := ⟨Upd.refl _ _, h, fun _ => h, (fun e => by cases e), (fun e => by cases e)⟩
section
variable {w0 w w' : World} {G : Nat} {t : TypeId} {row : Array Value} {a b i : Nat} {L : Nat → Bool}
theorem NewVar.other (h : NewVar w0 G t row a b L w) (ha : a ≠ i) (hb : b ≠ i) : NewVar w0 G t row a b (fun j => j == i || L j) w := by
  refine ⟨h.upd, h.size, fun e => h.before ?_, fun e => h.made ?_, fun e => h.stored ?_⟩
  · simpa [ha] using e
  · simpa [ha] using e
  · simpa [hb] using e
theorem NewVar.alloc (h : NewVar w0 G t row a b L w) (hb : L b = false) (hab : b ≠ a) {zs : Array Value} (hz : zs.size = row.size) (hn : Blk w' G t zs) (hu : Upd NoF w w') : NewVar w0 G t row a b (fun j => j == a || L j) w' := by
  refine ⟨h.upd.trans hu (fun _ _ f => f), h.size, (fun e => by simp at e), fun _ => ⟨zs, hn, hz⟩, fun e => ?_⟩
  simp [hab, hb] at e
theorem NewVar.store (h : NewVar w0 G t row a b L w) (ha : L a = true) (hn : Blk w' G t row) (hu : Upd (fun k => k = G) w w') : NewVar w0 G t row a b (fun j => j == b || L j) w' := by
  refine ⟨h.upd.trans hu (fun k hk e => ?_), h.size, (fun e => by simp [ha] at e), fun _ => ⟨row, hn, rfl⟩, fun _ => hn⟩
  have e : k = G := e
  have := h.size
  omega
end
/-- Op b turns a block that is known whole. -/
structure ChgVar (w0 : World) (G : Nat) (t : TypeId) (cs0 cs1 : Array Value) (b : Nat) (L : Nat → Bool) (w : World) : Prop where
  upd : Upd (fun k => k = G) w0 w
  before : L b = false → Blk w G t cs0
  after : L b = true → Blk w G t cs1
theorem ChgVar.start {w0 : World} {G : Nat} {t : TypeId} {cs0 : Array Value} (cs1 : Array Value) (b : Nat) (h : Blk w0 G t cs0) : ChgVar w0 G t cs0 cs1 b (fun _ => false) w0 := ⟨Upd.refl _ _, fun _ => h, (fun e => by cases e)⟩
section
variable {w0 w w' : World} {G : Nat} {t : TypeId} {cs0 cs1 : Array Value} {b i : Nat} {L : Nat → Bool}
theorem ChgVar.other (h : ChgVar w0 G t cs0 cs1 b L w) (hb : b ≠ i) : ChgVar w0 G t cs0 cs1 b (fun j => j == i || L j) w := by
  refine ⟨h.upd, fun e => h.before ?_, fun e => h.after ?_⟩
  · simpa [hb] using e
  · simpa [hb] using e
theorem ChgVar.turn (h : ChgVar w0 G t cs0 cs1 b L w) (hn : Blk w' G t cs1) (hu : Upd (fun k => k = G) w w') : ChgVar w0 G t cs0 cs1 b (fun j => j == b || L j) w' :=
  ⟨h.upd.trans hu (fun _ _ f => f), (fun e => by simp at e), fun _ => hn⟩
end
end

section
open Go.RowKit

abbrev zeroV : VoteS := ⟨0, 0, 0, 0, 0, 0, zero8, zero8⟩
def decVS (bs : List UInt8) : VoteS × Int := if bs.length < 23 then (zeroV, 2) else if 23 < bs.length then (zeroV, 3) else if validB (decV bs) then (decV bs, 0) else (zeroV, 11)
def DecVPost (w : World) (r : VoteS × Int) (e : Ending) (w' : World) : Prop := e = .returned (.tuple #[voteV r.1, .int .i64 r.2]) ∧ Upd NoF w w'

/-- Two results: a row that lies in a variable of the call's, and a slot. -/
theorem results_cell_tmp {P : Program} {fn : Func} {p u : Tmp} {ty : TypeId} (h : fn.results = #[.cell p ty, .tmp u]) (tmps : Array Value) (w : World) (g : Nat) (cs : List Value) (d : TypeDesc)
    (hp : tmps.getD p undef = .pointer (some ⟨g, 0, none⟩)) (hc : w.rangeAt g 0 cs) (hu : P.underlying ty = some d) (hd : d.isRow = true) (hi : (P.info? ty).map (·.size) = some cs.length) :
    (results fn tmps).run P w = .ok (.tuple #[.agg cs.toArray, tmps.getD u undef]) w := by
  have hp' : tmps[p]?.getD undef = .pointer (some ⟨g, 0, none⟩) := by simpa using hp
  simp [results, h, hp', asAddr, run_loadVar_mid w g 0 ty cs d hc hu hd hi]
end

section
open Go.RowKit

def zeroS : SignedS := ⟨zeroV, []⟩
def nilV : Value := .slice none 0 0
def okDec (bs : List UInt8) : Bool := decide (bs.length = 393) && validB (decV (bs.take 23))
def zeroRow : Array Value := (rowS zeroS nilV).toArray
/-- What Decode leaves where it refuses. -/
def SDecBad (w : World) (e : Ending) (w' : World) : Prop := ∃ c : Int, c ≠ 0 ∧ e = .returned (.tuple #[.agg zeroRow, .int .i64 c]) ∧ Upd NoF w w'
def SDecOk (w : World) (s : SignedS) (e : Ending) (w' : World) : Prop := ∃ A c, e = .returned (.tuple #[.agg (rowS s (.slice A s.sig.length c)).toArray, .int .i64 0]) ∧ RdF (fun k => k < w.heap.size) w' 1 (.slice A s.sig.length c) s.sig.length (s.sig.map byteV) ∧ Upd NoF w w'
def SigF (R : Nat) (sig : List UInt8) (v : Value) (w : World) : Prop := ∃ A c, v = .slice A sig.length c ∧ RdF (fun k => k ≤ R) w 1 v sig.length (sig.map byteV)
def RowF (R : Nat) (s : SignedS) (v : Value) (w : World) : Prop := ∃ A c, v = .agg (rowS s (.slice A s.sig.length c)).toArray ∧ RdF (fun k => k ≤ R) w 1 (.slice A s.sig.length c) s.sig.length (s.sig.map byteV)
/-- The variable of the result: zero until op b has stored a row into it. -/
structure ResVar (w0 : World) (R : Nat) (s : SignedS) (b : Nat) (L : Nat → Bool) (w : World) : Prop where
  upd : Upd (fun k => k = R) w0 w
  before : ∃ cs, Blk w R 308 cs ∧ cs.size = 23
  after : L b = true → ∃ A c, Blk w R 308 (rowS s (.slice A s.sig.length c)).toArray ∧ RdF (fun k => k ≤ R) w 1 (.slice A s.sig.length c) s.sig.length (s.sig.map byteV)
theorem ResVar.other {w0 w w' : World} {R : Nat} {s : SignedS} {b i : Nat} {L : Nat → Bool} (h : ResVar w0 R s b L w) (hb : b ≠ i) (hLb : L b = false) (hu : Upd (fun k => k = R) w w') (hk : ∃ cs, Blk w' R 308 cs ∧ cs.size = 23) : ResVar w0 R s b (fun j => j == i || L j) w' :=
  ⟨h.upd.trans hu (fun _ _ f => f), hk, (fun e => by simp [hb, hLb] at e)⟩
theorem ResVar.same {w0 w : World} {R : Nat} {s : SignedS} {b i : Nat} {L : Nat → Bool} (h : ResVar w0 R s b L w) (hb : b ≠ i) : ResVar w0 R s b (fun j => j == i || L j) w :=
  ⟨h.upd, h.before, fun e => h.after (by simpa [hb] using e)⟩
end
end Go.Proofs.YtengcmfdfmnacaaGreat
