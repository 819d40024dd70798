/- Both journals under one call. Conditions: those that each theorem states. -/
import Derived.Test.YtmapijpphnlcmaaSpec2
import Derived.Test.YtmapijpphnlcmaaOpen
import Derived.Deep.Fields
import Derived.Test.YtmapijpphnlcmaaMj5
import Derived.Test.YtmapijpphnlcmaaMj4
namespace Go.Proofs.Ytmapijpphnlcmaa
section
open Go

theorem take_flipLast (n : Nat) (c : List UInt8) (h : n < c.length) : (flipLast c).take n = c.take n := by
  apply List.ext_getElem?
  intro i
  unfold flipLast
  rw [List.getElem?_take, List.getElem?_take, List.getElem?_modify]
  split
  · have : ¬ (c.length - 1 = i) := by omega
    simp [this]
  · rfl
theorem take_zeroLast (n k : Nat) (c : List UInt8) (h : n + k ≤ c.length) : (zeroLast k c).take n = c.take n := by
  unfold zeroLast
  rw [List.take_append_of_le_length (by simp; omega), List.take_take]
  congr 1
  omega

theorem crashF_keeps (picks : List Int) (f : FSt) (h : f.dur ≤ f.c.length) : f.dur ≤ (crashF picks f).1.c.length ∧ (crashF picks f).1.c.length ≤ f.c.length ∧ (crashF picks f).1.c.take f.dur = f.c.take f.dur := by
  unfold crashF
  split
  · exact ⟨h, Nat.le_refl _, rfl⟩
  · rename_i ht
    have hb := below_lt picks (f.c.length - f.dur + 1) (by omega)
    generalize below picks (f.c.length - f.dur + 1) = k at hb
    simp only
    have hl : (f.c.take (f.dur + k.1)).length = f.dur + k.1 := by simp; omega
    have ht2 : (f.c.take (f.dur + k.1)).take f.dur = f.c.take f.dur := by rw [List.take_take]; congr 1; omega
    unfold damaged
    split
    · rename_i hc
      refine ⟨by simp [flipLast]; omega, by simp [flipLast]; omega, ?_⟩
      rw [take_flipLast _ _ (by omega), ht2]
    · split
      · refine ⟨by simp [zeroLast]; omega, by simp [zeroLast]; omega, ?_⟩
        rw [take_zeroLast _ _ _ (by omega), ht2]
      · exact ⟨by omega, by omega, ht2⟩

/-- The state of the disk behind k rounds. -/
def flat (l : List (List UInt8)) (k : Nat) : List UInt8 := (l.take k).flatten
def synDur (l : List (List UInt8)) (at_ k : Nat) : Nat := if at_ < k then (flat l at_).length else 0
def synS (nm : List UInt8) (l : List (List UInt8)) (at_ k : Nat) : DSt := ⟨if k = 0 then [] else [(nm, ⟨flat l k, synDur l at_ k⟩)], false, false, 0⟩
def synSafe (l : List (List UInt8)) (at_ k : Nat) : List UInt8 := if at_ < k then flat l at_ else []

theorem flat_succ (l : List (List UInt8)) (k : Nat) (b : List UInt8) (h : l[k]? = some b) : flat l (k + 1) = flat l k ++ b := by
  obtain ⟨hlt, rfl⟩ := List.getElem?_eq_some_iff.1 h
  unfold flat
  rw [List.take_succ_eq_append_getElem hlt, List.flatten_append]
  simp
theorem flat_zero (l : List (List UInt8)) : flat l 0 = [] := rfl
theorem flat_take (l : List (List UInt8)) (a k : Nat) (h : a ≤ k) : (flat l k).take (flat l a).length = flat l a := by
  unfold flat
  have : l.take k = l.take a ++ (l.take k).drop a := by
    rw [show l.take a = (l.take k).take a by rw [List.take_take]; congr 1; omega]
    exact (List.take_append_drop a _).symm
  rw [this, List.flatten_append]
  exact List.take_left
theorem flat_le (l : List (List UInt8)) (a k : Nat) (h : a ≤ k) : (flat l a).length ≤ (flat l k).length := by
  have := congrArg List.length (flat_take l a k h)
  simp at this
  omega

/-- A round without the sync. -/
theorem syn_append (nm : List UInt8) (hn : nm ≠ []) (l : List (List UInt8)) (a k : Nat) (b : List UInt8) (h : l[k]? = some b) (hne : k ≠ a) : sAppend (synS nm l a k) nm b = (0, synS nm l a (k + 1)) := by
  have hd : synDur l a (k + 1) = synDur l a k := by
    unfold synDur
    by_cases h1 : a < k
    · rw [if_pos h1, if_pos (by omega)]
    · rw [if_neg h1, if_neg (by omega)]
  have h0 : k = 0 → synDur l a k = 0 := by rintro rfl; simp [synDur]
  by_cases hk : k = 0
  · subst hk
    simp [sAppend, synS, hn, getF, withFile, insF, setF, wrS, wrB, wrL, hd, h0, flat_succ l 0 b h, flat_zero]
  · simp [sAppend, synS, hn, hk, getF, withFile, setF, wrS, wrB, wrL, hd, flat_succ l k b h]
/-- The round with the sync. -/
theorem syn_sync (nm : List UInt8) (hn : nm ≠ []) (l : List (List UInt8)) (a : Nat) (b : List UInt8) (h : l[a]? = some b) :
    (sSync (synS nm l a a) nm).1 = (if a = 0 then 6 else 0) ∧ sAppend (sSync (synS nm l a a) nm).2 nm b = (0, synS nm l a (a + 1)) := by
  by_cases hk : a = 0
  · subst hk
    simp [sSync, sChange, sAppend, synS, hn, getF, withFile, insF, setF, wrS, wrB, wrL, flat_succ l 0 b h, flat_zero, synDur]
  · simp [sSync, sChange, sAppend, synS, hn, hk, getF, withFile, setF, wrS, wrB, wrL, flat_succ l a b h, synDur]

theorem syn_len (nm : List UInt8) (l : List (List UInt8)) (a k : Nat) : ((getF (synS nm l a k).fs nm).getD ⟨[], 0⟩).c.length ≤ (flat l k).length ∧ (synS nm l a k).fs.length ≤ 1 := by
  by_cases hk : k = 0
  · simp [synS, hk, getF]
  · simp [synS, hk, getF]
theorem syn_len2 (nm : List UInt8) (hn : nm ≠ []) (l : List (List UInt8)) (a : Nat) : ((getF (sSync (synS nm l a a) nm).2.fs nm).getD ⟨[], 0⟩).c.length ≤ (flat l a).length ∧ (sSync (synS nm l a a) nm).2.fs.length ≤ 1 := by
  by_cases hk : a = 0
  · simp [sSync, sChange, synS, hn, hk, getF]
  · simp [sSync, sChange, synS, hn, hk, getF, wrS, wrB, wrL, setF]

/-- What is read behind the crash. -/
theorem syn_end (nm : List UInt8) (hn : nm ≠ []) (l : List (List UInt8)) (a : Nat) (hk : 0 < l.length) (picks : List Int) : ∃ c, sRead (sCrash (synS nm l a l.length) picks) nm = (c, 0) ∧
    (synSafe l a l.length).length ≤ c.length ∧ c.length ≤ (flat l l.length).length ∧ c.take (synSafe l a l.length).length = synSafe l a l.length := by
  have hd : synDur l a l.length ≤ (flat l l.length).length := by
    unfold synDur
    split
    · exact flat_le l a _ (by omega)
    · omega
  have hs : (synSafe l a l.length).length = synDur l a l.length := by
    unfold synSafe synDur
    split <;> rfl
  have ht : (flat l l.length).take (synDur l a l.length) = synSafe l a l.length := by
    unfold synDur synSafe
    split
    · exact flat_take l a _ (by omega)
    · simp
  obtain ⟨h1, h2, h3⟩ := crashF_keeps picks ⟨flat l l.length, synDur l a l.length⟩ hd
  refine ⟨(crashF picks ⟨flat l l.length, synDur l a l.length⟩).1.c, ?_, by rw [hs]; exact h1, h2, by rw [hs, h3]; exact ht⟩
  have hk' : l.length ≠ 0 := by omega
  simp only [sRead, sCrash, synS, if_neg hn, if_neg hk', crashL, getF]
  simp
theorem syn_end0 (nm : List UInt8) (hn : nm ≠ []) (l : List (List UInt8)) (a : Nat) (hk : l.length = 0) (picks : List Int) : sRead (sCrash (synS nm l a l.length) picks) nm = ([], 6) := by
  simp [sRead, sCrash, synS, hn, hk, crashL, getF]
theorem syn_crash_len (nm : List UInt8) (l : List (List UInt8)) (a k : Nat) : (synS nm l a k).fs.length ≤ 1 := by
  by_cases hk : k = 0 <;> simp [synS, hk]
end

section
open Go

/-- Sizes behind k acts. -/
def Bnd (s : DSt) (k : Nat) : Prop := (∀ p ∈ s.fs, p.2.c.length ≤ 3000 * k) ∧ s.fs.length ≤ k

theorem Bnd.mono {s : DSt} {k k' : Nat} (h : Bnd s k) (hk : k ≤ k') : Bnd s k' := ⟨fun p hp => by have := h.1 p hp; omega, by have := h.2; omega⟩

theorem mem_setF {nm : List UInt8} {f : FSt} {fs : FS} {p : List UInt8 × FSt} (h : p ∈ setF nm f fs) : p.2 = f ∨ p ∈ fs := by
  obtain ⟨q, hq, rfl⟩ := List.mem_map.1 h
  split
  · exact .inl rfl
  · exact .inr hq
theorem len_setF (nm : List UInt8) (f : FSt) (fs : FS) : (setF nm f fs).length = fs.length := by simp [setF]
theorem mem_insF {x p : List UInt8 × FSt} {fs : FS} (h : p ∈ insF x fs) : p = x ∨ p ∈ fs := by
  induction fs with
  | nil => simp [insF] at h; exact .inl h
  | cons y l ih =>
    simp only [insF] at h
    split at h
    · rcases List.mem_cons.1 h with e | e
      · exact .inl e
      · exact .inr e
    · rcases List.mem_cons.1 h with e | e
      · exact .inr (by simp [e])
      · rcases ih e with e | e
        · exact .inl e
        · exact .inr (by simp [e])
theorem len_insF (x : List UInt8 × FSt) (fs : FS) : (insF x fs).length = fs.length + 1 := by
  induction fs with
  | nil => rfl
  | cons y l ih =>
    simp only [insF]
    split
    · rfl
    · simp [ih]
theorem mem_delF {nm : List UInt8} {p : List UInt8 × FSt} {fs : FS} (h : p ∈ delF nm fs) : p ∈ fs := (List.mem_filter.1 h).1
theorem len_delF (nm : List UInt8) (fs : FS) : (delF nm fs).length ≤ fs.length := List.length_filter_le _ _
theorem mem_getF {nm : List UInt8} {f : FSt} {fs : FS} (h : getF fs nm = some f) : ∃ p ∈ fs, p.1 = nm ∧ p.2 = f := by
  unfold getF at h
  obtain ⟨p, hp, rfl⟩ := Option.map_eq_some_iff.1 h
  exact ⟨p, List.mem_of_find?_eq_some hp, by simpa using List.find?_some hp, rfl⟩
theorem getF_len {s : DSt} {k : Nat} (h : Bnd s k) (nm : List UInt8) : ((getF s.fs nm).getD ⟨[], 0⟩).c.length ≤ 3000 * k := by
  cases e : getF s.fs nm with
  | none => simp
  | some f =>
    obtain ⟨p, hp, _, rfl⟩ := mem_getF e
    exact h.1 p hp
theorem len_del_lt {nm : List UInt8} {f : FSt} {fs : FS} (h : getF fs nm = some f) : (delF nm fs).length + 1 ≤ fs.length := by
  obtain ⟨p, hp, hn, _⟩ := mem_getF h
  have : (delF nm fs).length < fs.length := by
    unfold delF
    refine Nat.lt_of_le_of_ne (List.length_filter_le _ _) (fun e => ?_)
    rw [List.length_filter_eq_length_iff] at e
    have := e p hp
    simp [hn] at this
  omega

theorem bnd_append {s : DSt} {k : Nat} (h : Bnd s k) (nm b : List UInt8) (hb : b.length ≤ 3000) : Bnd (sAppend s nm b).2 (k + 1) := by
  have h0 := getF_len h nm
  unfold sAppend
  split
  · exact h.mono (by omega)
  · split
    · exact h.mono (by omega)
    · refine ⟨fun p hp => ?_, ?_⟩
      · rcases mem_setF (show p ∈ setF nm _ (withFile nm s.fs) from hp) with e | e
        · rw [e]; simp; omega
        · unfold withFile at e
          split at e
          · rcases mem_insF e with e | e
            · rw [e]; simp
            · have := h.1 p e; omega
          · have := h.1 p e; omega
      · show (setF nm _ (withFile nm s.fs)).length ≤ k + 1
        rw [len_setF]
        unfold withFile
        have := h.2
        split
        · rw [len_insF]; omega
        · omega
theorem bnd_change {s : DSt} {k : Nat} (h : Bnd s k) (nm : List UInt8) (g : FS → FSt → FS) (hg : ∀ f, getF s.fs nm = some f → (∀ p ∈ g s.fs f, p.2.c.length ≤ 3000 * k) ∧ (g s.fs f).length ≤ k + 1) : Bnd (sChange s nm g).2 (k + 1) := by
  have h1 : Bnd s (k + 1) := ⟨fun p hp => by have := h.1 p hp; omega, by have := h.2; omega⟩
  unfold sChange
  split
  · exact h1
  · split
    · exact h1
    · split
      · exact h1
      · rename_i f hf
        split
        · obtain ⟨e1, e2⟩ := hg f hf
          exact ⟨fun p hp => by have := e1 p hp; omega, e2⟩
        · exact h1
theorem bnd_crash {s : DSt} {k : Nat} (h : Bnd s k) (hd : ∀ p ∈ s.fs, p.2.dur ≤ p.2.c.length) (picks : List Int) : Bnd (sCrash s picks) k := by
  obtain ⟨fs, off, armed, left⟩ := s
  obtain ⟨h1, h2⟩ := h
  simp only [sCrash, Bnd] at h1 h2 hd ⊢
  have hl : ∀ (fs : FS) (ps : List Int), (crashL ps fs).length = fs.length := by
    intro fs
    induction fs with
    | nil => intro ps; rfl
    | cons y l ih => intro ps; simp [crashL, ih]
  refine ⟨?_, by rw [hl]; exact h2⟩
  clear h2 hl
  induction fs generalizing picks with
  | nil => intro p hp; cases hp
  | cons y l ih =>
    intro p hp
    simp only [crashL] at hp
    rcases List.mem_cons.1 hp with e | e
    · subst e
      have := (crashF_keeps picks y.2 (hd y (by simp))).2.1
      have := h1 y (by simp)
      simp only
      omega
    · exact ih _ (fun p hp => hd p (by simp [hp])) (fun p hp => h1 p (by simp [hp])) p e
end

section
open Go.ChangeShapes Go.WideShapes Go.ChangeAt Go.RowKit

section
variable {H : Type} {enc : TypeId × Value → H} {W : World} {v : Value} {d : DataW H} {p : List MemPlace}

theorem flatten_at {rows : List (List Value)} {k : Nat} (hk : ∀ r ∈ rows, r.length = k) {i j : Nat} {r : List Value} (hr : rows[i]? = some r) (hj : j < k) : rows.flatten[i * k + j]? = r[j]? := by
  induction rows generalizing i with
  | nil => cases hr
  | cons y l ih =>
    have hy := hk y (by simp)
    rw [List.flatten_cons]
    cases i with
    | zero =>
      simp at hr
      subst hr
      rw [List.getElem?_append_left (by omega)]
      simp
    | succ i =>
      rw [List.getElem?_append_right (by rw [hy, Nat.succ_mul]; omega), hy, show (i + 1) * k + j - k = i * k + j by rw [Nat.succ_mul]; omega]
      exact ih (fun r hr => hk r (by simp [hr])) (by simpa using hr)
theorem flatten_len {rows : List (List Value)} {k : Nat} (hk : ∀ r ∈ rows, r.length = k) : rows.flatten.length = rows.length * k := by
  induction rows with
  | nil => simp
  | cons y l ih =>
    rw [List.flatten_cons, List.length_append, ih (fun r hr => hk r (by simp [hr])), hk y (by simp), List.length_cons, Nat.succ_mul]
    omega

/-- A slice of structs of one-cell fields: its rows, and each field read. -/
theorem open_rows {t e : TypeId} {fs : Array Field} (ht : Try.prog.underlying t = some (.slice e)) (he : Try.prog.underlying e = some (.struct fs)) (hone : Go.Deep.oneCellFields Try.prog fs = true) (hC : Try.prog.cellsOf e = fs.size) (hpos : 0 < fs.size)
    {fuel base : Nat} {spare : Nat → Bool} {held : Bool} {x : DataW H × List MemPlace} (h : DataW.trod enc Try.prog W base spare held fuel t [v] = some x) :
    ∃ rows : List (List Value), Rd W fs.size v rows.length rows.flatten ∧ ∀ row ∈ rows, row.length = fs.size ∧ ∀ (j : Nat) (f : Field), fs[j]? = some f → ∃ u n y, row[j]? = some u ∧ DataW.trod enc Try.prog W base spare held n f.type [u] = some y := by
  rcases Go.Deep.open_slice ht h with ⟨hcs, hx⟩ | ⟨a, len, cap, m, n, D, Pl, hcs, _, hl, hm, hz, hx, hi⟩
  · injection hcs with hcs
    subst hcs
    exact ⟨[], Rd.nil W _, by simp⟩
  · injection hcs with hcs
    subst hcs
    have hlm : len ≤ m := by split at hz <;> omega
    have hex : ∀ i, i < len → ∃ cs' : List Value, cs'.length = fs.size ∧ (∀ j, j < fs.size → W.cell? (a.add (i * fs.size + j)) = cs'[j]?) ∧ ∀ (j : Nat) (f : Field), fs[j]? = some f → ∃ u n y, cs'[j]? = some u ∧ DataW.trod enc Try.prog W base spare held n f.type [u] = some y := by
      intro i hilt
      obtain ⟨cs', h1, h2⟩ := hi i (by omega)
      rw [hC] at h1
      obtain ⟨_, hcl, hat⟩ := World.cells?_some h1
      obtain ⟨ys, n', _, _, _, hyl, hf⟩ := DataW.trod_struct he h2
      refine ⟨cs', hcl, fun j hj => ?_, fun j f hj => ?_⟩
      · rw [← Go.Deep.add_add]
        exact hat j hj
      · obtain ⟨ho, hk⟩ := Go.Deep.hone_of hone j f hj
        have hjl : j < fs.size := (Array.getElem?_eq_some_iff.1 hj).1
        have h1 := hf j f hj
        rw [ho, hk, List.drop_eq_getElem_cons (by omega), show ∀ (q : Value) (l : List Value), (q :: l).take 1 = [q] from fun _ _ => rfl, List.getElem?_eq_getElem (by omega)] at h1
        exact ⟨_, n', _, List.getElem?_eq_getElem (by omega), h1⟩
    have hrows : ∃ rows : List (List Value), rows.length = len ∧ ∀ i, i < len → ∃ cs', rows[i]? = some cs' ∧ cs'.length = fs.size ∧ (∀ j, j < fs.size → W.cell? (a.add (i * fs.size + j)) = cs'[j]?) ∧ ∀ (j : Nat) (f : Field), fs[j]? = some f → ∃ u n y, cs'[j]? = some u ∧ DataW.trod enc Try.prog W base spare held n f.type [u] = some y := by
      clear hl hz hx hi hlm hm h
      have : ∀ k, k ≤ len → ∃ rows : List (List Value), rows.length = k ∧ ∀ i, i < k → ∃ cs', rows[i]? = some cs' ∧ cs'.length = fs.size ∧ (∀ j, j < fs.size → W.cell? (a.add (i * fs.size + j)) = cs'[j]?) ∧ ∀ (j : Nat) (f : Field), fs[j]? = some f → ∃ u n y, cs'[j]? = some u ∧ DataW.trod enc Try.prog W base spare held n f.type [u] = some y := by
        intro k
        induction k with
        | zero => exact fun _ => ⟨[], rfl, fun i hi => by omega⟩
        | succ k ih =>
          intro hk
          obtain ⟨rows, hrl, hr⟩ := ih (by omega)
          obtain ⟨cs', c1⟩ := hex k (by omega)
          refine ⟨rows ++ [cs'], by simp [hrl], fun i hi => ?_⟩
          rcases Nat.lt_or_ge i k with h | h
          · obtain ⟨c2, e1, e2⟩ := hr i h
            exact ⟨c2, by rw [List.getElem?_append_left (by omega)]; exact e1, e2⟩
          · obtain rfl : i = k := by omega
            exact ⟨cs', by rw [List.getElem?_append_right (by omega)]; simp [hrl], c1⟩
      exact this len (Nat.le_refl _)
    obtain ⟨rows, hrl, hr⟩ := hrows
    have hall : ∀ row ∈ rows, ∃ i, i < len ∧ rows[i]? = some row := by
      intro row hrow
      obtain ⟨i, hi', rfl⟩ := List.mem_iff_getElem.1 hrow
      exact ⟨i, by omega, List.getElem?_eq_getElem hi'⟩
    have hlen : ∀ row ∈ rows, row.length = fs.size := by
      intro row hrow
      obtain ⟨i, h1, h2⟩ := hall row hrow
      obtain ⟨c2, e1, e2, _⟩ := hr i h1
      rw [h2] at e1
      have e1 := Option.some.inj e1
      rw [e1]; exact e2
    refine ⟨rows, ⟨some a, cap, by rw [hrl], by omega, hm, flatten_len hlen, fun h0 => ?_⟩, fun row hrow => ⟨hlen row hrow, ?_⟩⟩
    · have hs0 := hpos
      have hs : a.spot = none := by
        obtain ⟨c2, e1, e2, e3, _⟩ := hr 0 (by omega)
        have := e3 0 hs0
        rw [List.getElem?_eq_getElem (by omega)] at this
        have := spot_of_cell this
        revert this
        unfold Addr.add
        simp
      refine ⟨a.block, a.off, by cases a; simp_all, fun j u hj => ?_⟩
      have hjl : j < len * fs.size := by
        have := (List.getElem?_eq_some_iff.1 hj).1
        rw [flatten_len hlen, hrl] at this
        exact this
      have hdm : j / fs.size < len := by rw [Nat.div_lt_iff_lt_mul hs0]; exact hjl
      have hmod := Nat.mod_lt j hs0
      obtain ⟨c2, e1, e2, e3, _⟩ := hr (j / fs.size) hdm
      have e4 := flatten_at hlen e1 hmod
      have e5 : j / fs.size * fs.size + j % fs.size = j := Nat.div_add_mod' j fs.size
      rw [e5, hj] at e4
      have := e3 (j % fs.size) hmod
      rw [e5, ← e4, add_form hs] at this
      exact this
    · obtain ⟨i, h1, h2⟩ := hall row hrow
      obtain ⟨c2, e1, _, _, e4⟩ := hr i h1
      rw [h2] at e1
      have e1 := Option.some.inj e1
      rw [e1]; exact e4
end
end

section
open Go.RowKit

theorem code_append (s : DSt) (nm b : List UInt8) (hn : nm ≠ []) : (sAppend s nm b).1 = 0 ∨ (sAppend s nm b).1 = 103 := by
  unfold sAppend
  rw [if_neg hn]
  split
  · exact .inr rfl
  · simp only
    split
    · exact .inl rfl
    · exact .inr rfl
theorem note_append (s : DSt) (nm b : List UInt8) (hn : nm ≠ []) : decide ((sAppend s nm b).1 ≠ 0) = noteB false (sAppend s nm b).1 := by
  rcases code_append s nm b hn with h | h <;> rw [h] <;> rfl
theorem note_sync (s : DSt) (nm : List UInt8) (hn : nm ≠ []) : decide ((sSync s nm).1 ≠ 0) = noteB false (sSync s nm).1 := by
  unfold sSync sChange
  rw [if_neg hn]
  split
  · rfl
  · split
    · rfl
    · split <;> rfl

section
variable {w : World} {d : Nat} {s : DSt} {F : Nat → Prop} {j : Nat} {nm : List UInt8} {l : List (List UInt8)} {safe : Nat} {dead : Bool} {G : Nat → Prop}
theorem rJAppend_spec (h : RJ w d s F j nm l safe dead G) (hn : nm ≠ []) (hp : PW s.fs) {v : Value} {b : List UInt8} (hb : RdB (fun k => F k ∨ G k) w v b) (hl1 : ((getF s.fs nm).getD ⟨[], 0⟩).c.length ≤ 549755813888) (hL : s.fs.length ≤ 549755813888) (hll : l.length < 1099511627776) :
    Calls Try.prog 31 #[ptrV j, v] w (RJPost w F G d j nm (sJAppend s nm l dead b).1 (sJAppend s nm l dead b).2.1 (sJAppend s nm l dead b).2.2.1 safe (sJAppend s nm l dead b).2.2.2) := by
  unfold sJAppend
  split
  · rename_i hbig
    refine (rJAppend_big h hb hbig).mono ?_
    rintro e w' ⟨rfl, rfl⟩
    exact ⟨rfl, h.refl⟩
  · rename_i hbig
    cases dead with
    | true =>
      refine (rJAppend_dead h hb hbig).mono ?_
      rintro e w' ⟨rfl, rfl⟩
      exact ⟨rfl, h.refl⟩
    | false =>
      simp only [Bool.false_eq_true, if_false]
      rw [← note_append s nm _ hn]
      exact rJAppend_live h hp hb (by omega) hl1 hL hll
theorem rJSync_spec (h : RJ w d s F j nm l safe dead G) (hn : nm ≠ []) (hp : PW s.fs) :
    Calls Try.prog 33 #[ptrV j] w (RJPost w F G d j nm (sJSync s nm l safe dead).1 (sJSync s nm l safe dead).2.1 l (sJSync s nm l safe dead).2.2.1 (sJSync s nm l safe dead).2.2.2) := by
  unfold sJSync
  cases dead with
  | true =>
    refine (rJSync_dead h).mono ?_
    rintro e w' ⟨rfl, rfl⟩
    exact ⟨rfl, h.refl⟩
  | false =>
    split
    · contradiction
    · split
      · rename_i hl0
        refine (rJSync_none h hl0).mono ?_
        rintro e w' ⟨rfl, rfl⟩
        exact ⟨rfl, h.refl⟩
      · rename_i hl0
        rw [← note_sync s nm hn]
        exact rJSync_live h hp hl0
end

theorem DiskAt.pw {w : World} {d : Nat} {s : DSt} {F : Nat → Prop} (h : DiskAt w d s F) : PW s.fs := by
  obtain ⟨mb, L, hd, hs, rfl⟩ := h
  rw [hs]
  exact absL_pairwise hd
theorem DiskAt.durs {w : World} {d : Nat} {s : DSt} {F : Nat → Prop} (h : DiskAt w d s F) : ∀ p ∈ s.fs, p.2.dur ≤ p.2.c.length := by
  obtain ⟨mb, L, hd, hs, rfl⟩ := h
  intro p hp
  rw [hs] at hp
  obtain ⟨r, hr, rfl⟩ := List.mem_map.1 hp
  exact hd.dur r hr

def QJ (w0 : World) (d m : Nat) (s : DSt) (j k : Nat) (nm : List UInt8) (l : List (List UInt8)) (safe : Nat) (dead : Bool) (w : World) : Prop :=
  ∃ F G F2 G2, DJ w d s F j nm l safe dead G ∧ RJ w m s F2 k nm l safe dead G2 ∧ (∀ x, (F x ∨ G x) → ¬ (F2 x ∨ G2 x)) ∧ (∀ x, (F x ∨ G x) → w0.heap.size ≤ x) ∧ (∀ x, (F2 x ∨ G2 x) → w0.heap.size ≤ x) ∧ Upd NoF w0 w

section
variable {w0 w w' : World} {d m : Nat} {s s1 : DSt} {j k : Nat} {nm : List UInt8} {l l1 : List (List UInt8)} {safe safe1 : Nat} {dead dead1 : Bool}

theorem QJ.upd (h : QJ w0 d m s j k nm l safe dead w) (hu : Upd NoF w w') : QJ w0 d m s j k nm l safe dead w' := by
  obtain ⟨F, G, F2, G2, h1, h2, h3, h4, h5, h6⟩ := h
  exact ⟨F, G, F2, G2, h1.upd hu, h2.upd hu, h3, h4, h5, h6.trans hu (fun _ _ h => h)⟩
theorem QJ.out (h : QJ w0 d m s j k nm l safe dead w) : Upd NoF w0 w := by obtain ⟨F, G, F2, G2, h1, h2, h3, h4, h5, h6⟩ := h; exact h6
theorem QJ.durs (h : QJ w0 d m s j k nm l safe dead w) : ∀ p ∈ s.fs, p.2.dur ≤ p.2.c.length := by obtain ⟨F, G, F2, G2, h1, _⟩ := h; exact h1.1.durs

/-- The blocks that were made between w and wx are as they were. -/
def KeepB (w wx w1 : World) : Prop := ∀ x, w.heap.size ≤ x → x < wx.heap.size → w1.heap[x]? = wx.heap[x]?
theorem KeepB.blk {w wx w1 : World} (h : KeepB w wx w1) {g : Nat} {t : TypeId} {cs : Array Value} (hb : Blk wx g t cs) (hg : w.heap.size ≤ g) : Blk w1 g t cs := (h g hg hb.lt).trans hb

/-- A call of the one, and then of the other. -/
theorem QJ.pair (h : QJ w0 d m s j k nm l safe dead w) {wx : World} (hx : Upd NoF w wx) {f1 f2 : FuncId} {a1 a2 : Array Value} {e1 e2 : Ending}
    (hc1 : ∀ F G, DJ wx d s F j nm l safe dead G → (∀ x, (F x ∨ G x) → w0.heap.size ≤ x) → Upd NoF w0 wx → Calls Try.prog f1 a1 wx fun e w1 => e = e1 ∧ DJStep wx F G d s1 j nm l1 safe1 dead1 w1)
    (hc2 : ∀ w1 F2 G2, RJ w1 m s F2 k nm l safe dead G2 → (∀ x, (F2 x ∨ G2 x) → w0.heap.size ≤ x) → Upd NoF w0 w1 → PW s.fs → (∀ p ∈ s.fs, p.2.dur ≤ p.2.c.length) → Calls Try.prog f2 a2 w1 fun e w2 => e = e2 ∧ RJStep w1 F2 G2 m s1 k nm l1 safe1 dead1 w2) :
    Calls Try.prog f1 a1 wx fun e w1 => e = e1 ∧ KeepB w wx w1 ∧ Calls Try.prog f2 a2 w1 fun e w2 => e = e2 ∧ KeepB w wx w2 ∧ QJ w0 d m s1 j k nm l1 safe1 dead1 w2 := by
  obtain ⟨F, G, F2, G2, h1, h2, h3, h4, h5, h6⟩ := h
  have hlt1w : ∀ x, (F x ∨ G x) → x < w.heap.size := fun x hx => hx.elim (fun e => h1.1.lt e) (fun e => h1.2.1.lt e)
  have hlt2 : ∀ x, (F2 x ∨ G2 x) → x < w.heap.size := fun x hx => hx.elim (fun e => h2.1.lt e) (fun e => h2.2.1.lt e)
  have hzx := hx.size
  have h6x : Upd NoF w0 wx := h6.trans hx (fun _ _ h => h)
  have hz := h6x.size
  refine (hc1 F G (h1.upd hx) h4 h6x).mono ?_
  rintro e w1 ⟨rfl, F', G', b1, b2, b3, b4⟩
  have hU1 : Upd NoF w0 w1 := h6x.trans b2 (fun x hx e => by have := h4 x e; omega)
  have hb2z := b2.size
  have r1 : RJ w1 m s F2 k nm l safe dead G2 := ⟨(h2.1.upd hx (fun _ _ h => h)).upd b2 (fun x hx e => h3 x e (.inl hx)), (h2.2.1.upd hx (fun _ _ h => h)).upd b2 (fun x hx e => h3 x e (.inr hx)), h2.2.2⟩
  have d1 : ∀ x, (F' x ∨ G' x) → ¬ (F2 x ∨ G2 x) := fun x hx h22 => by
    have := hlt2 x h22
    rcases hx with e | e
    · rcases b3 x e with e | e
      · exact h3 x (.inl e) h22
      · omega
    · rcases b4 x e with e | e
      · exact h3 x (.inr e) h22
      · omega
  have g1 : ∀ x, (F' x ∨ G' x) → w0.heap.size ≤ x := fun x hx => by
    rcases hx with e | e
    · rcases b3 x e with e | e
      · exact h4 x (.inl e)
      · omega
    · rcases b4 x e with e | e
      · exact h4 x (.inr e)
      · omega
  have hk1 : KeepB w wx w1 := fun x h7 h8 => b2.block x h8 (fun e => by have := hlt1w x e; omega)
  refine ⟨rfl, hk1, (hc2 w1 F2 G2 r1 h5 hU1 h1.1.pw h1.1.durs).mono ?_⟩
  rintro e w2 ⟨rfl, F2', G2', c1, c2, c3, c4⟩
  have hz1 := hU1.size
  have hlt1 : ∀ x, (F' x ∨ G' x) → x < w1.heap.size := fun x hx => hx.elim (fun e => b1.1.lt e) (fun e => b1.2.1.lt e)
  have hk2 : KeepB w wx w2 := fun x h7 h8 => (c2.block x (by omega) (fun e => by have := hlt2 x e; omega)).trans (hk1 x h7 h8)
  refine ⟨rfl, hk2, F', G', F2', G2', ⟨b1.1.upd c2 (fun x hx => d1 x (.inl hx)), b1.2.1.upd c2 (fun x hx => d1 x (.inr hx)), b1.2.2⟩, c1, fun x hx h22 => ?_, g1, fun x hx => ?_, hU1.trans c2 (fun x hx e => by have := h5 x e; omega)⟩
  · have := hlt1 x hx
    rcases h22 with e | e
    · rcases c3 x e with e | e
      · exact d1 x hx (.inl e)
      · omega
    · rcases c4 x e with e | e
      · exact d1 x hx (.inr e)
      · omega
  · rcases hx with e | e
    · rcases c3 x e with e | e
      · exact h5 x (.inl e)
      · omega
    · rcases c4 x e with e | e
      · exact h5 x (.inr e)
      · omega

/-- A call on the disk alone. -/
theorem DJ.disk {F G : Nat → Prop} (h : DJ w d s F j nm l safe dead G) {f : FuncId} {args : Array Value} {e0 : Ending} (hc : Calls Try.prog f args w fun e w' => e = e0 ∧ DiskStep w d s1 F w') : Calls Try.prog f args w fun e w' => e = e0 ∧ DJStep w F G d s1 j nm l safe dead w' := by
  obtain ⟨h1, h5, h6⟩ := h
  refine hc.mono ?_
  rintro e w' ⟨rfl, F', a1, a2, a3⟩
  refine ⟨rfl, F', G, ⟨a1, h5.upd a2 (fun x hx e => h6 x e hx), fun x hx hg => ?_⟩, a2.mono (fun _ _ e => .inl e), a3, fun x hx => .inl hx⟩
  rcases a3 x hx with e | e
  · exact h6 x e hg
  · have := h5.lt hg; omega
theorem RJ.disk {F G : Nat → Prop} (h : RJ w m s F k nm l safe dead G) {f : FuncId} {args : Array Value} {e0 : Ending} (hc : Calls Try.prog f args w fun e w' => e = e0 ∧ RefStep w m s1 F w') : Calls Try.prog f args w fun e w' => e = e0 ∧ RJStep w F G m s1 k nm l safe dead w' := by
  obtain ⟨h1, h5, h6⟩ := h
  refine hc.mono ?_
  rintro e w' ⟨rfl, F', a1, a2, a3⟩
  refine ⟨rfl, F', G, ⟨a1, h5.upd a2 (fun x hx e => h6 x e hx), fun x hx hg => ?_⟩, a2.mono (fun _ _ e => .inl e), a3, fun x hx => .inl hx⟩
  rcases a3 x hx with e | e
  · exact h6 x e hg
  · have := h5.lt hg; omega

theorem rcrash_spec {F : Nat → Prop} (h : RefAt w m s F) (hq : ∀ p ∈ s.fs, p.2.dur ≤ p.2.c.length) (v : Value) (picks : List Int) (hv : RdI F w v picks) (hp : ∀ z ∈ picks, -9223372036854775808 ≤ z ∧ z ≤ 9223372036854775807) (hL : s.fs.length ≤ 4294967296) :
    Calls Try.prog 36 #[ptrV m, v] w fun e w' => e = .returned (.tuple #[]) ∧ RefStep w m (sCrash s picks) F w' := by
  obtain ⟨lv, R, a, b, rfl⟩ := h
  refine (rcrash_any a (fun r hr => ?_) v picks (hv.mono (fun k _ e => .inl e)) hp (by rw [b] at hL; simpa using hL)).mono ?_
  · exact hq (absRR r) (by rw [b]; exact List.mem_map.2 ⟨r, hr, rfl⟩)
  · rintro e w' ⟨rfl, lv', R', hd, he, hu, hf⟩
    exact ⟨rfl, _, ⟨lv', R', hd, by rw [he, ← b]; rfl, rfl⟩, hu.mono (fun k _ e => .inl e), hf⟩

theorem QJ.append (h : QJ w0 d m s j k nm l safe dead w) {wx : World} (hx : Upd NoF w wx) (hn : nm ≠ []) (hm : nm.length ≤ maxLen) {v : Value} {b : List UInt8} (hb : RdB (Ab w0) w0 v b) (hl1 : ((getF s.fs nm).getD ⟨[], 0⟩).c.length ≤ 549755813888) (hL : s.fs.length ≤ 549755813888) (hll : l.length < 1099511627776) :
    Calls Try.prog 30 #[ptrV j, v] wx fun e w1 => e = retE (sJAppend s nm l dead b).1 ∧ KeepB w wx w1 ∧ Calls Try.prog 31 #[ptrV k, v] w1 fun e w2 => e = retE (sJAppend s nm l dead b).1 ∧ KeepB w wx w2 ∧ QJ w0 d m (sJAppend s nm l dead b).2.1 j k nm (sJAppend s nm l dead b).2.2.1 safe (sJAppend s nm l dead b).2.2.2 w2 :=
  h.pair hx (fun _ _ h1 hg hu => jAppend_spec h1 (RdF.upd' hb (hu.mono (fun _ _ h => h.elim)) (fun i _ f => hg i f)) hm hl1 (by unfold maxLen; omega) hll) (fun _ _ _ h2 hg hu1 hp _ => rJAppend_spec h2 hn hp (RdF.upd' hb (hu1.mono (fun _ _ h => h.elim)) (fun i _ f => hg i f)) hl1 hL hll)
theorem QJ.sync (h : QJ w0 d m s j k nm l safe dead w) {wx : World} (hx : Upd NoF w wx) (hn : nm ≠ []) (hm : nm.length ≤ maxLen) :
    Calls Try.prog 32 #[ptrV j] wx fun e w1 => e = retE (sJSync s nm l safe dead).1 ∧ KeepB w wx w1 ∧ Calls Try.prog 33 #[ptrV k] w1 fun e w2 => e = retE (sJSync s nm l safe dead).1 ∧ KeepB w wx w2 ∧ QJ w0 d m (sJSync s nm l safe dead).2.1 j k nm l (sJSync s nm l safe dead).2.2.1 (sJSync s nm l safe dead).2.2.2 w2 :=
  h.pair hx (fun _ _ h1 _ _ => jSync_spec h1 hm) (fun _ _ _ h2 _ _ hp _ => rJSync_spec h2 hn hp)
theorem QJ.arm (h : QJ w0 d m s j k nm l safe dead w) {wx : World} (hx : Upd NoF w wx) (n : Int) (h0 : -9223372036854775808 ≤ n) (h1 : n ≤ 9223372036854775807) :
    Calls Try.prog 16 #[ptrV d, .int .i64 n] wx fun e w1 => e = .returned (.tuple #[]) ∧ KeepB w wx w1 ∧ Calls Try.prog 34 #[ptrV m, .int .i64 n] w1 fun e w2 => e = .returned (.tuple #[]) ∧ KeepB w wx w2 ∧ QJ w0 d m (sArm s n) j k nm l safe dead w2 :=
  h.pair hx (fun _ _ hd _ _ => hd.disk (arm_spec hd.1 n h0 h1)) (fun _ _ _ hr _ _ _ _ => hr.disk (rarm_spec hr.1 n h0 h1))
theorem QJ.raw (h : QJ w0 d m s j k nm l safe dead w) {wx : World} (hx : Upd NoF w wx) (nm' : List UInt8) (hm : nm'.length ≤ maxLen) {v : Value} {b : List UInt8} (hb : RdB (Ab w0) w0 v b) (hl1 : ((getF s.fs nm').getD ⟨[], 0⟩).c.length + b.length ≤ 1099511627776) (hL : s.fs.length ≤ 549755813888) :
    Calls Try.prog 13 #[ptrV d, strV nm', v] wx fun e w1 => e = retE (sAppend s nm' b).1 ∧ KeepB w wx w1 ∧ Calls Try.prog 35 #[ptrV m, strV nm', v] w1 fun e w2 => e = retE (sAppend s nm' b).1 ∧ KeepB w wx w2 ∧ QJ w0 d m (sAppend s nm' b).2 j k nm l safe dead w2 :=
  h.pair hx (fun _ _ hd hg hu => hd.disk (append_spec hd.1 nm' hm v b (RdF.upd' hb (hu.mono (fun _ _ h => h.elim)) (fun i _ f => hg i (.inl f))) hl1 (by unfold maxLen; omega)))
    (fun _ _ _ hr hg hu1 hp _ => hr.disk (rappend_spec hr.1 hp nm' v b (RdF.upd' hb (hu1.mono (fun _ _ h => h.elim)) (fun i _ f => by rw [f]; exact hg m (.inl hr.1.mem))) hl1 (by omega)))
theorem QJ.crash (h : QJ w0 d m s j k nm l safe dead w) {wx : World} (hx : Upd NoF w wx) {v : Value} {picks : List Int} (hv : RdI (Ab w0) w0 v picks) (hp : ∀ z ∈ picks, -9223372036854775808 ≤ z ∧ z ≤ 9223372036854775807) (hL : s.fs.length ≤ 4294967296) :
    Calls Try.prog 14 #[ptrV d, v] wx fun e w1 => e = .returned (.tuple #[]) ∧ KeepB w wx w1 ∧ Calls Try.prog 36 #[ptrV m, v] w1 fun e w2 => e = .returned (.tuple #[]) ∧ KeepB w wx w2 ∧ QJ w0 d m (sCrash s picks) j k nm l safe dead w2 :=
  h.pair hx (fun _ _ hd hg hu => hd.disk (crash_spec hd.1 v picks (RdF.upd' hv (hu.mono (fun _ _ h => h.elim)) (fun i _ f => hg i (.inl f))) hp (by omega)))
    (fun _ _ _ hr hg hu1 _ hq => hr.disk (rcrash_spec hr.1 hq v picks (RdF.upd' hv (hu1.mono (fun _ _ h => h.elim)) (fun i _ f => hg i (.inl f))) hp hL))
end
end

section
open Go.ChangeShapes Go.WideShapes Go.ChangeAt Go.RowKit

def QD (w0 : World) (d m : Nat) (s : DSt) (w : World) : Prop :=
  ∃ F F2, DiskAt w d s F ∧ RefAt w m s F2 ∧ (∀ x, F x → ¬ F2 x) ∧ (∀ x, F x → w0.heap.size ≤ x) ∧ (∀ x, F2 x → w0.heap.size ≤ x) ∧ Upd NoF w0 w

section
variable {w0 w w' : World} {d m : Nat} {s s1 : DSt} {j k : Nat} {nm nm' : List UInt8} {l l1 : List (List UInt8)} {safe : Nat} {dead : Bool}
theorem QJ.qd (h : QJ w0 d m s j k nm l safe dead w) : QD w0 d m s w := by
  obtain ⟨F, G, F2, G2, h1, h2, h3, h4, h5, h6⟩ := h
  exact ⟨F, F2, h1.1, h2.1, fun x hx h22 => h3 x (.inl hx) (.inl h22), fun x hx => h4 x (.inl hx), fun x hx => h5 x (.inl hx), h6⟩

abbrev RetJ (j : Nat) : Ending := .returned (.tuple #[ptrV j, .int .i64 0])
abbrev RetN (code : Int) : Ending := .returned (.tuple #[.pointer none, .int .i64 code])

theorem QD.open_ok (h : QD w0 d m s w) (hm : nm'.length ≤ maxLen) (hb : (sRead s nm').1.length ≤ 549755813888) (hr : sOpen s nm' = (0, s1, l1)) :
    Calls Try.prog 28 #[ptrV d, strV nm'] w fun e w1 => ∃ j', e = RetJ j' ∧ Upd NoF w0 w1 ∧ Calls Try.prog 29 #[ptrV m, strV nm'] w1 fun e w2 => ∃ k', e = RetJ k' ∧ QJ w0 d m s1 j' k' nm' l1 l1.length false w2 := by
  obtain ⟨F, F2, h1, h2, h3, h4, h5, h6⟩ := h
  have hz := h6.size
  have P1 := jOpen_any h1 nm' hm hb
  rw [hr] at P1
  refine P1.mono ?_
  rintro e w1 (⟨-, j', F', G', rfl, a1, a2, a3, a4, a5, a6⟩ | ⟨hne, _⟩)
  case inr => exact absurd rfl hne
  simp only at a1 a2
  have hU1 : Upd NoF w0 w1 := h6.trans a6 (fun x hx e => by have := h4 x e; omega)
  have hz1 := hU1.size
  have hz2 := a6.size
  have r1 : RefAt w1 m s F2 := h2.upd a6 (fun x hx e => h3 x e hx)
  have hlt2 : ∀ x, F2 x → x < w.heap.size := fun x hx => h2.lt hx
  have d1 : ∀ x, (F' x ∨ G' x) → ¬ F2 x := fun x hx h22 => by
    have := hlt2 x h22
    rcases hx with e | e
    · rcases a4 x e with e | e
      · exact h3 x e h22
      · omega
    · have := a5 x e; omega
  have hlt1 : ∀ x, (F' x ∨ G' x) → x < w1.heap.size := fun x hx => hx.elim (fun e => a1.lt e) (fun e => a2.lt e)
  refine ⟨j', rfl, hU1, ?_⟩
  have P2 := rOpenJ_any r1 nm' h1.pw hb
  rw [hr] at P2
  refine P2.mono ?_
  rintro e w2 (⟨-, k', F2', G2', rfl, c1, c2, c3, c4, c5, c6⟩ | ⟨hne, _⟩)
  case inr => exact absurd rfl hne
  simp only at c1 c2
  refine ⟨k', rfl, F', G', F2', G2', ⟨a1.upd c6 (fun x hx => d1 x (.inl hx)), a2.upd c6 (fun x hx => d1 x (.inr hx)), a3⟩, ⟨c1, c2, c3⟩, fun x hx h22 => ?_, fun x hx => ?_, fun x hx => ?_, hU1.trans c6 (fun x hx e => by have := h5 x e; omega)⟩
  · have := hlt1 x hx
    rcases h22 with e | e
    · rcases c4 x e with e | e
      · exact d1 x hx e
      · omega
    · have := c5 x e; omega
  · rcases hx with e | e
    · rcases a4 x e with e | e
      · exact h4 x e
      · omega
    · have := a5 x e; omega
  · rcases hx with e | e
    · rcases c4 x e with e | e
      · exact h5 x e
      · omega
    · have := c5 x e; omega

theorem QJ.open_err (h : QJ w0 d m s j k nm l safe dead w) (hm : nm'.length ≤ maxLen) (hb : (sRead s nm').1.length ≤ 549755813888) {code : Int} (hc : code ≠ 0) (hr : sOpen s nm' = (code, s1, l1)) :
    Calls Try.prog 28 #[ptrV d, strV nm'] w fun e w1 => e = RetN code ∧ KeepB w w w1 ∧ Calls Try.prog 29 #[ptrV m, strV nm'] w1 fun e w2 => e = RetN code ∧ KeepB w w w2 ∧ QJ w0 d m s1 j k nm l safe dead w2 := by
  refine h.pair (Upd.refl _ _) (fun F G hd _ _ => hd.disk ?_) (fun w1 F2 G2 hr2 _ _ hp _ => hr2.disk ?_)
  · have P1 := jOpen_any hd.1 nm' hm hb
    rw [hr] at P1
    refine P1.mono ?_
    rintro e w1 (⟨h0, _⟩ | ⟨_, rfl, hs⟩)
    · exact absurd h0 hc
    · exact ⟨rfl, hs⟩
  · have P1 := rOpenJ_any hr2.1 nm' hp hb
    rw [hr] at P1
    refine P1.mono ?_
    rintro e w1 (⟨h0, _⟩ | ⟨_, rfl, hs⟩)
    · exact absurd h0 hc
    · exact ⟨rfl, hs⟩

theorem ref_new31 (w : World) : RefAt (w.alloc (.cells #[.slice none 0 0, .bool false, .int .i64 0, .bool false] 43)) w.heap.size sNew (fun k => k = w.heap.size) := by
  refine ⟨.slice none 0 0, [], ⟨Blk.new w _ _, Own.nil _ _ _, fun r hr => (by cases hr), by simp [sNew], fun r hr => (by cases hr), by simp⟩, rfl, ?_⟩
  funext k
  simp [refFoot, OwnB, Value.ownBlock]
theorem qd_new {w1 : World} (h : Dk w0 NoF (w0.heap.size + 1) sNew w1) : QD w0 (w0.heap.size + 1) w1.heap.size sNew (w1.alloc (.cells #[.slice none 0 0, .bool false, .int .i64 0, .bool false] 43)) := by
  obtain ⟨F, a, b, c⟩ := h
  have hb := b.size
  refine ⟨F, _, a.upd ((Upd.refl NoF w1).alloc _) (fun _ _ h => h), ref_new31 w1, fun j f e => ?_, fun j f => (c j f).resolve_left (fun h => h), fun j e => ?_, b.alloc _⟩
  · have := a.lt f; have e : j = w1.heap.size := e; omega
  · have e : j = w1.heap.size := e; omega
end

/-! ### the acts -/
structure ActJ where
  kind : Int
  dv : Value
  data : List UInt8
  n : Int
  pv : Value
  picks : List Int
def rowJ (a : ActJ) : List Value := [.int .i64 a.kind, a.dv, .int .i64 a.n, a.pv]
structure ActJOk (w : World) (a : ActJ) : Prop where
  data : RdB (Ab w) w a.dv a.data
  picks : RdI (Ab w) w a.pv a.picks
  pb : ∀ z ∈ a.picks, -9223372036854775808 ≤ z ∧ z ≤ 9223372036854775807
  nb : -9223372036854775808 ≤ a.n ∧ a.n ≤ 9223372036854775807
def RdActsJ (w : World) (v : Value) (l : List ActJ) : Prop := RdF (Ab w) w 4 v l.length (l.map rowJ).flatten ∧ ∀ a ∈ l, ActJOk w a

section
variable {H : Type} {enc : TypeId × Value → H} {W : World} {v : Value} {d : DataW H} {p : List MemPlace}
theorem open_picks_of31 {fuel base : Nat} {spare : Nat → Bool} {held : Bool} {x : DataW H × List MemPlace} (h : DataW.trod enc Try.prog W base spare held fuel 23 [v] = some x) : ∃ zs : List Int, RdI (Ab W) W v zs ∧ ∀ z ∈ zs, -9223372036854775808 ≤ z ∧ z ≤ 9223372036854775807 := by
  obtain ⟨zs, h1, h2⟩ := open_nums (v := v) Try.underlying23 Try.underlying3 cells_int h
  exact ⟨zs, h1.ab, fun z hz => wf_i64 (h2 z hz)⟩
set_option maxRecDepth 100000 in
theorem actj_row {base : Nat} {spare : Nat → Bool} {held : Bool} {row : List Value} (hl : row.length = 4)
    (hf : ∀ (j : Nat) (t : TypeId), [3, 27, 3, 23][j]? = some t → ∃ u n y, row[j]? = some u ∧ DataW.trod enc Try.prog W base spare held n t [u] = some y) : ∃ a : ActJ, row = rowJ a ∧ ActJOk W a := by
  match row, hl with
  | [r0, r3, r4, r5], _ =>
    obtain ⟨u, n, y, e0, t0⟩ := hf 0 3 rfl
    obtain rfl : r0 = u := by simpa using e0
    obtain ⟨z0, e, _, w0⟩ := DataW.trod_int Try.underlying3 t0
    obtain rfl : r0 = .int .i64 z0 := by simpa using e
    obtain ⟨u, n, y, e3, t3⟩ := hf 1 27 rfl
    obtain rfl : r3 = u := by simpa using e3
    obtain ⟨bs, hbs⟩ := open_bytes_of t3
    obtain ⟨u, n, y, e4, t4⟩ := hf 2 3 rfl
    obtain rfl : r4 = u := by simpa using e4
    obtain ⟨z4, e, _, w4⟩ := DataW.trod_int Try.underlying3 t4
    obtain rfl : r4 = .int .i64 z4 := by simpa using e
    obtain ⟨u, n, y, e5, t5⟩ := hf 3 23 rfl
    obtain rfl : r5 = u := by simpa using e5
    obtain ⟨zs, hz1, hz2⟩ := open_picks_of31 t5
    exact ⟨⟨z0, r3, bs, z4, r5, zs⟩, rfl, ⟨hbs.ab, hz1, hz2, wf_i64 w4⟩⟩
set_option maxRecDepth 100000 in
theorem open_actsJ {base0 : Nat} (hok : Value.okWide Try.prog W .any base0 52 v) (h : DataW.Trod enc Try.prog W 0 (fun _ => true) true 52 v d p) : ∃ l : List ActJ, RdActsJ W v l := by
  obtain ⟨fuel, hf⟩ := slice_cells (t := 52) (e := 60) Try.underlying52 hok h
  obtain ⟨rows, h1, h2⟩ := open_rows Try.underlying52 Try.underlying60 (by kernel_rfl) (by kernel_rfl) (by decide) hf
  have h3 : ∀ row ∈ rows, ∃ a : ActJ, row = rowJ a ∧ ActJOk W a := fun row hrow => by
    obtain ⟨hl, hj⟩ := h2 row hrow
    refine actj_row (enc := enc) (base := 0) (spare := fun _ => true) (held := true) hl (fun j t ht => ?_)
    match j, ht with
    | 0, rfl => exact hj 0 _ rfl
    | 1, rfl => exact hj 1 _ rfl
    | 2, rfl => exact hj 2 _ rfl
    | 3, rfl => exact hj 3 _ rfl
  have h4 : ∃ l : List ActJ, rows = l.map rowJ ∧ ∀ a ∈ l, ActJOk W a := by
    clear h1 h2
    induction rows with
    | nil => exact ⟨[], rfl, by simp⟩
    | cons r rows ih =>
      obtain ⟨l, rfl, hl⟩ := ih (fun x hx => h3 x (by simp [hx]))
      obtain ⟨a, rfl, ha⟩ := h3 r (by simp)
      exact ⟨a :: l, rfl, by simpa using ⟨ha, hl⟩⟩
  obtain ⟨l, rfl, hl⟩ := h4
  refine ⟨l, ?_, hl⟩
  have := h1.ab
  rw [List.length_map] at this
  exact this
end

theorem RdActsJ.form {w : World} {v : Value} {l : List ActJ} (h : RdActsJ w v l) : ∃ A c, v = .slice A l.length c ∧ l.length ≤ c ∧ c ≤ maxLen ∧ (0 < l.length → ∃ g o, A = some ⟨g, o, none⟩ ∧
    ∀ i a, l[i]? = some a → w.cell? ⟨g, o + i * 4, none⟩ = some (.int .i64 a.kind) ∧ w.cell? ⟨g, o + i * 4 + 1, none⟩ = some a.dv ∧ w.cell? ⟨g, o + i * 4 + 2, none⟩ = some (.int .i64 a.n) ∧ w.cell? ⟨g, o + i * 4 + 3, none⟩ = some a.pv) := by
  obtain ⟨A, c, rfl, hn, hc, hl, hA⟩ := h.1.now
  refine ⟨A, c, rfl, hn, hc, fun h0 => ?_⟩
  obtain ⟨g, o, rfl, hcell⟩ := hA h0
  refine ⟨g, o, rfl, fun i a ha => ?_⟩
  have hx : ∀ j u, (rowJ a)[j]? = some u → w.cell? ⟨g, o + i * 4 + j, none⟩ = some u := fun j u hj => by
    rw [Nat.add_assoc]
    refine hcell _ u ?_
    have hjl : j < 4 := (List.getElem?_eq_some_iff.1 hj).1
    rw [flatten_at (rows := l.map rowJ) (k := 4) (r := rowJ a) (by intro r hr; obtain ⟨x, _, rfl⟩ := List.mem_map.1 hr; rfl) (by rw [List.getElem?_map, ha]; rfl) hjl]
    exact hj
  exact ⟨hx 0 _ rfl, hx 1 _ rfl, hx 2 _ rfl, hx 3 _ rfl⟩

/-! ### bounds -/
theorem bnd_trunc {s : DSt} {k : Nat} (h : Bnd s k) (nm : List UInt8) (n : Int) : Bnd (sTruncate s nm n).2 (k + 1) := by
  refine bnd_change h _ _ (fun f hf => ⟨fun p hp => ?_, ?_⟩)
  · have h0 := getF_len h nm
    rw [hf] at h0
    simp at h0
    rcases mem_setF hp with e | e
    · rw [e]; simp; omega
    · exact h.1 p e
  · rw [len_setF]; have := h.2; omega
theorem bnd_sync {s : DSt} {k : Nat} (h : Bnd s k) (nm : List UInt8) : Bnd (sSync s nm).2 (k + 1) := by
  refine bnd_change h _ _ (fun f hf => ⟨fun p hp => ?_, ?_⟩)
  · have h0 := getF_len h nm
    rw [hf] at h0
    simp at h0
    rcases mem_setF hp with e | e
    · rw [e]; simpa using h0
    · exact h.1 p e
  · rw [len_setF]; have := h.2; omega
theorem bnd_read {s : DSt} {k : Nat} (h : Bnd s k) (nm : List UInt8) : (sRead s nm).1.length ≤ 3000 * k := by
  have h0 := getF_len h nm
  unfold sRead
  split
  · simp
  · split
    · simp
    · cases hg : getF s.fs nm with
      | none => simp
      | some f => rw [hg] at h0; simpa using h0
theorem bnd_open {s : DSt} {k : Nat} (h : Bnd s k) (nm : List UInt8) : Bnd (sOpen s nm).2.1 (k + 2) ∧ (sOpen s nm).2.2.length ≤ 3000 * k := by
  have hr := bnd_read h nm
  have hp := (parse_recs (sRead s nm).1).2
  have hl : (parseS (sRead s nm).1).1.length ≤ 3000 * k := by omega
  unfold sOpen
  simp only
  generalize ht0 : (if (parseS (sRead s nm).1).2 < (sRead s nm).1.length then sTruncate s nm (parseS (sRead s nm).1).2 else (0, s)) = t
  have ht : Bnd t.2 (k + 1) := by
    rw [← ht0]
    split
    · exact bnd_trunc h _ _
    · exact h.mono (by omega)
  generalize hu0 : (if (sRead s nm).2 = 0 then sSync t.2 nm else (0, t.2)) = u
  have hu : Bnd u.2 (k + 2) := by
    rw [← hu0]
    split
    · exact bnd_sync ht _
    · exact ht.mono (by omega)
  split
  · exact ⟨h.mono (by omega), by simp⟩
  · split
    · exact ⟨ht.mono (by omega), by simp⟩
    · split
      · exact ⟨hu, by simp⟩
      · exact ⟨hu, hl⟩
end
end Go.Proofs.Ytmapijpphnlcmaa
