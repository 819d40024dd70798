/- Arguments of the statements, opened: a slice of structs whose fields take one cell each; the acts of DiskActs. No condition. -/
import Derived.Test.YtmapijpphnlcmaaOpen
import Derived.Deep.Fields
namespace Go.Proofs.Ytmapijpphnlcmaa
open Go.ChangeShapes Go.WideShapes Go.ChangeAt Go.RowKit

section
variable {H : Type} {enc : TypeId × Value → H} {W : World} {v : Value} {d : DataW H} {p : List MemPlace}

theorem flatten_at {rows : List (List Value)} {k : Nat} (hk : ∀ r ∈ rows, r.length = k) {i j : Nat} {r : List Value} (hr : rows[i]? = some r) (hj : j < k) : rows.flatten[i * k + j]? = r[j]? := by
  induction rows generalizing i with
  | nil => cases hr
  | cons y l ih =>
    have hy := hk y (by simp)
    rw [List.flatten_cons]
    cases i with
    | zero =>
      simp at hr
      subst hr
      rw [List.getElem?_append_left (by omega)]
      simp
    | succ i =>
      rw [List.getElem?_append_right (by rw [hy, Nat.succ_mul]; omega), hy, show (i + 1) * k + j - k = i * k + j by rw [Nat.succ_mul]; omega]
      exact ih (fun r hr => hk r (by simp [hr])) (by simpa using hr)
theorem flatten_len {rows : List (List Value)} {k : Nat} (hk : ∀ r ∈ rows, r.length = k) : rows.flatten.length = rows.length * k := by
  induction rows with
  | nil => simp
  | cons y l ih =>
    rw [List.flatten_cons, List.length_append, ih (fun r hr => hk r (by simp [hr])), hk y (by simp), List.length_cons, Nat.succ_mul]
    omega

/-- A slice of structs of one-cell fields: its rows, and each field read. -/
theorem open_rows {t e : TypeId} {fs : Array Field} (ht : Try.prog.underlying t = some (.slice e)) (he : Try.prog.underlying e = some (.struct fs)) (hone : Go.Deep.oneCellFields Try.prog fs = true) (hC : Try.prog.cellsOf e = fs.size) (hpos : 0 < fs.size)
    {fuel base : Nat} {spare : Nat → Bool} {held : Bool} {x : DataW H × List MemPlace} (h : DataW.trod enc Try.prog W base spare held fuel t [v] = some x) :
    ∃ rows : List (List Value), Rd W fs.size v rows.length rows.flatten ∧ ∀ row ∈ rows, row.length = fs.size ∧ ∀ (j : Nat) (f : Field), fs[j]? = some f → ∃ u n y, row[j]? = some u ∧ DataW.trod enc Try.prog W base spare held n f.type [u] = some y := by
  rcases Go.Deep.open_slice ht h with ⟨hcs, hx⟩ | ⟨a, len, cap, m, n, D, Pl, hcs, _, hl, hm, hz, hx, hi⟩
  · injection hcs with hcs
    subst hcs
    exact ⟨[], Rd.nil W _, by simp⟩
  · injection hcs with hcs
    subst hcs
    have hlm : len ≤ m := by split at hz <;> omega
    have hex : ∀ i, i < len → ∃ cs' : List Value, cs'.length = fs.size ∧ (∀ j, j < fs.size → W.cell? (a.add (i * fs.size + j)) = cs'[j]?) ∧ ∀ (j : Nat) (f : Field), fs[j]? = some f → ∃ u n y, cs'[j]? = some u ∧ DataW.trod enc Try.prog W base spare held n f.type [u] = some y := by
      intro i hilt
      obtain ⟨cs', h1, h2⟩ := hi i (by omega)
      rw [hC] at h1
      obtain ⟨_, hcl, hat⟩ := World.cells?_some h1
      obtain ⟨ys, n', _, _, _, hyl, hf⟩ := DataW.trod_struct he h2
      refine ⟨cs', hcl, fun j hj => ?_, fun j f hj => ?_⟩
      · rw [← Go.Deep.add_add]
        exact hat j hj
      · obtain ⟨ho, hk⟩ := Go.Deep.hone_of hone j f hj
        have hjl : j < fs.size := (Array.getElem?_eq_some_iff.1 hj).1
        have h1 := hf j f hj
        rw [ho, hk, List.drop_eq_getElem_cons (by omega), show ∀ (q : Value) (l : List Value), (q :: l).take 1 = [q] from fun _ _ => rfl, List.getElem?_eq_getElem (by omega)] at h1
        exact ⟨_, n', _, List.getElem?_eq_getElem (by omega), h1⟩
    have hrows : ∃ rows : List (List Value), rows.length = len ∧ ∀ i, i < len → ∃ cs', rows[i]? = some cs' ∧ cs'.length = fs.size ∧ (∀ j, j < fs.size → W.cell? (a.add (i * fs.size + j)) = cs'[j]?) ∧ ∀ (j : Nat) (f : Field), fs[j]? = some f → ∃ u n y, cs'[j]? = some u ∧ DataW.trod enc Try.prog W base spare held n f.type [u] = some y := by
      clear hl hz hx hi hlm hm h
      have : ∀ k, k ≤ len → ∃ rows : List (List Value), rows.length = k ∧ ∀ i, i < k → ∃ cs', rows[i]? = some cs' ∧ cs'.length = fs.size ∧ (∀ j, j < fs.size → W.cell? (a.add (i * fs.size + j)) = cs'[j]?) ∧ ∀ (j : Nat) (f : Field), fs[j]? = some f → ∃ u n y, cs'[j]? = some u ∧ DataW.trod enc Try.prog W base spare held n f.type [u] = some y := by
        intro k
        induction k with
        | zero => exact fun _ => ⟨[], rfl, fun i hi => by omega⟩
        | succ k ih =>
          intro hk
          obtain ⟨rows, hrl, hr⟩ := ih (by omega)
          obtain ⟨cs', c1⟩ := hex k (by omega)
          refine ⟨rows ++ [cs'], by simp [hrl], fun i hi => ?_⟩
          rcases Nat.lt_or_ge i k with h | h
          · obtain ⟨c2, e1, e2⟩ := hr i h
            exact ⟨c2, by rw [List.getElem?_append_left (by omega)]; exact e1, e2⟩
          · obtain rfl : i = k := by omega
            exact ⟨cs', by rw [List.getElem?_append_right (by omega)]; simp [hrl], c1⟩
      exact this len (Nat.le_refl _)
    obtain ⟨rows, hrl, hr⟩ := hrows
    have hall : ∀ row ∈ rows, ∃ i, i < len ∧ rows[i]? = some row := by
      intro row hrow
      obtain ⟨i, hi', rfl⟩ := List.mem_iff_getElem.1 hrow
      exact ⟨i, by omega, List.getElem?_eq_getElem hi'⟩
    have hlen : ∀ row ∈ rows, row.length = fs.size := by
      intro row hrow
      obtain ⟨i, h1, h2⟩ := hall row hrow
      obtain ⟨c2, e1, e2, _⟩ := hr i h1
      rw [h2] at e1
      have e1 := Option.some.inj e1
      rw [e1]; exact e2
    refine ⟨rows, ⟨some a, cap, by rw [hrl], by omega, hm, flatten_len hlen, fun h0 => ?_⟩, fun row hrow => ⟨hlen row hrow, ?_⟩⟩
    · have hs0 := hpos
      have hs : a.spot = none := by
        obtain ⟨c2, e1, e2, e3, _⟩ := hr 0 (by omega)
        have := e3 0 hs0
        rw [List.getElem?_eq_getElem (by omega)] at this
        have := spot_of_cell this
        revert this
        unfold Addr.add
        simp
      refine ⟨a.block, a.off, by cases a; simp_all, fun j u hj => ?_⟩
      have hjl : j < len * fs.size := by
        have := (List.getElem?_eq_some_iff.1 hj).1
        rw [flatten_len hlen, hrl] at this
        exact this
      have hdm : j / fs.size < len := by rw [Nat.div_lt_iff_lt_mul hs0]; exact hjl
      have hmod := Nat.mod_lt j hs0
      obtain ⟨c2, e1, e2, e3, _⟩ := hr (j / fs.size) hdm
      have e4 := flatten_at hlen e1 hmod
      have e5 : j / fs.size * fs.size + j % fs.size = j := Nat.div_add_mod' j fs.size
      rw [e5, hj] at e4
      have := e3 (j % fs.size) hmod
      rw [e5, ← e4, add_form hs] at this
      exact this
    · obtain ⟨i, h1, h2⟩ := hall row hrow
      obtain ⟨c2, e1, _, _, e4⟩ := hr i h1
      rw [h2] at e1
      have e1 := Option.some.inj e1
      rw [e1]; exact e4
end
end Go.Proofs.Ytmapijpphnlcmaa
