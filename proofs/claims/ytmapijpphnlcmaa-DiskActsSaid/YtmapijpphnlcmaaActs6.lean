/- DiskActs: bounds of the plain disk; both disks under one act. Conditions: sizes. -/
import Derived.Test.YtmapijpphnlcmaaActs5
import Derived.Test.YtmapijpphnlcmaaSynced
namespace Go.Proofs.Ytmapijpphnlcmaa
open Go.RowKit

/-- Sizes behind k acts. -/
def Bnd (s : DSt) (k : Nat) : Prop := (∀ p ∈ s.fs, p.2.c.length ≤ 3000 * k) ∧ s.fs.length ≤ k

theorem Bnd.mono {s : DSt} {k k' : Nat} (h : Bnd s k) (hk : k ≤ k') : Bnd s k' := ⟨fun p hp => by have := h.1 p hp; omega, by have := h.2; omega⟩

theorem mem_setF {nm : List UInt8} {f : FSt} {fs : FS} {p : List UInt8 × FSt} (h : p ∈ setF nm f fs) : p.2 = f ∨ p ∈ fs := by
  obtain ⟨q, hq, rfl⟩ := List.mem_map.1 h
  split
  · exact .inl rfl
  · exact .inr hq
theorem len_setF (nm : List UInt8) (f : FSt) (fs : FS) : (setF nm f fs).length = fs.length := by simp [setF]
theorem mem_insF {x p : List UInt8 × FSt} {fs : FS} (h : p ∈ insF x fs) : p = x ∨ p ∈ fs := by
  induction fs with
  | nil => simp [insF] at h; exact .inl h
  | cons y l ih =>
    simp only [insF] at h
    split at h
    · rcases List.mem_cons.1 h with e | e
      · exact .inl e
      · exact .inr e
    · rcases List.mem_cons.1 h with e | e
      · exact .inr (by simp [e])
      · rcases ih e with e | e
        · exact .inl e
        · exact .inr (by simp [e])
theorem len_insF (x : List UInt8 × FSt) (fs : FS) : (insF x fs).length = fs.length + 1 := by
  induction fs with
  | nil => rfl
  | cons y l ih =>
    simp only [insF]
    split
    · rfl
    · simp [ih]
theorem mem_delF {nm : List UInt8} {p : List UInt8 × FSt} {fs : FS} (h : p ∈ delF nm fs) : p ∈ fs := (List.mem_filter.1 h).1
theorem len_delF (nm : List UInt8) (fs : FS) : (delF nm fs).length ≤ fs.length := List.length_filter_le _ _
theorem mem_getF {nm : List UInt8} {f : FSt} {fs : FS} (h : getF fs nm = some f) : ∃ p ∈ fs, p.1 = nm ∧ p.2 = f := by
  unfold getF at h
  obtain ⟨p, hp, rfl⟩ := Option.map_eq_some_iff.1 h
  exact ⟨p, List.mem_of_find?_eq_some hp, by simpa using List.find?_some hp, rfl⟩
theorem getF_len {s : DSt} {k : Nat} (h : Bnd s k) (nm : List UInt8) : ((getF s.fs nm).getD ⟨[], 0⟩).c.length ≤ 3000 * k := by
  cases e : getF s.fs nm with
  | none => simp
  | some f =>
    obtain ⟨p, hp, _, rfl⟩ := mem_getF e
    exact h.1 p hp
theorem len_del_lt {nm : List UInt8} {f : FSt} {fs : FS} (h : getF fs nm = some f) : (delF nm fs).length + 1 ≤ fs.length := by
  obtain ⟨p, hp, hn, _⟩ := mem_getF h
  have : (delF nm fs).length < fs.length := by
    unfold delF
    refine Nat.lt_of_le_of_ne (List.length_filter_le _ _) (fun e => ?_)
    rw [List.length_filter_eq_length_iff] at e
    have := e p hp
    simp [hn] at this
  omega

theorem bnd_append {s : DSt} {k : Nat} (h : Bnd s k) (nm b : List UInt8) (hb : b.length ≤ 3000) : Bnd (sAppend s nm b).2 (k + 1) := by
  have h0 := getF_len h nm
  unfold sAppend
  split
  · exact h.mono (by omega)
  · split
    · exact h.mono (by omega)
    · refine ⟨fun p hp => ?_, ?_⟩
      · rcases mem_setF (show p ∈ setF nm _ (withFile nm s.fs) from hp) with e | e
        · rw [e]; simp; omega
        · unfold withFile at e
          split at e
          · rcases mem_insF e with e | e
            · rw [e]; simp
            · have := h.1 p e; omega
          · have := h.1 p e; omega
      · show (setF nm _ (withFile nm s.fs)).length ≤ k + 1
        rw [len_setF]
        unfold withFile
        have := h.2
        split
        · rw [len_insF]; omega
        · omega
theorem bnd_change {s : DSt} {k : Nat} (h : Bnd s k) (nm : List UInt8) (g : FS → FSt → FS) (hg : ∀ f, getF s.fs nm = some f → (∀ p ∈ g s.fs f, p.2.c.length ≤ 3000 * k) ∧ (g s.fs f).length ≤ k + 1) : Bnd (sChange s nm g).2 (k + 1) := by
  have h1 : Bnd s (k + 1) := ⟨fun p hp => by have := h.1 p hp; omega, by have := h.2; omega⟩
  unfold sChange
  split
  · exact h1
  · split
    · exact h1
    · split
      · exact h1
      · rename_i f hf
        split
        · obtain ⟨e1, e2⟩ := hg f hf
          exact ⟨fun p hp => by have := e1 p hp; omega, e2⟩
        · exact h1
theorem bnd_crash {s : DSt} {k : Nat} (h : Bnd s k) (hd : ∀ p ∈ s.fs, p.2.dur ≤ p.2.c.length) (picks : List Int) : Bnd (sCrash s picks) k := by
  obtain ⟨fs, off, armed, left⟩ := s
  obtain ⟨h1, h2⟩ := h
  simp only [sCrash, Bnd] at h1 h2 hd ⊢
  have hl : ∀ (fs : FS) (ps : List Int), (crashL ps fs).length = fs.length := by
    intro fs
    induction fs with
    | nil => intro ps; rfl
    | cons y l ih => intro ps; simp [crashL, ih]
  refine ⟨?_, by rw [hl]; exact h2⟩
  clear h2 hl
  induction fs generalizing picks with
  | nil => intro p hp; cases hp
  | cons y l ih =>
    intro p hp
    simp only [crashL] at hp
    rcases List.mem_cons.1 hp with e | e
    · subst e
      have := (crashF_keeps picks y.2 (hd y (by simp))).2.1
      have := h1 y (by simp)
      simp only
      omega
    · exact ih _ (fun p hp => hd p (by simp [hp])) (fun p hp => h1 p (by simp [hp])) p e

theorem bnd_do {s : DSt} {k : Nat} (h : Bnd s k) (hd : ∀ p ∈ s.fs, p.2.dur ≤ p.2.c.length) (a : ActR) (ha : a.data.length ≤ 3000) : Bnd (sDo s a).2 (k + 1) := by
  have hset : ∀ (nm : List UInt8) (f f' : FSt), getF s.fs nm = some f → f'.c.length ≤ f.c.length → (∀ p ∈ setF nm f' s.fs, p.2.c.length ≤ 3000 * k) ∧ (setF nm f' s.fs).length ≤ k + 1 := by
    intro nm f f' hf hl
    have h0 := getF_len h nm
    rw [hf] at h0
    simp at h0
    refine ⟨fun p hp => ?_, by rw [len_setF]; have := h.2; omega⟩
    rcases mem_setF hp with e | e
    · rw [e]; omega
    · exact h.1 p e
  unfold sDo
  split
  · exact bnd_append h _ _ ha
  · split
    · exact bnd_change h _ _ (fun f hf => hset _ f _ hf (by simp; omega))
    · split
      · exact bnd_change h _ _ (fun f hf => hset _ f _ hf (by simp))
      · split
        · unfold sRename
          split
          · exact h.mono (by omega)
          · refine bnd_change h _ _ (fun f hf => ⟨fun p hp => ?_, ?_⟩)
            · rcases mem_insF hp with e | e
              · have h0 := getF_len h a.nm
                rw [hf] at h0
                rw [e]
                simpa using h0
              · exact h.1 p (mem_delF (mem_delF e))
            · rw [len_insF]
              have := len_del_lt hf
              have := len_delF a.to (delF a.nm s.fs)
              have := h.2
              omega
        · split
          · exact bnd_change h _ _ (fun f hf => ⟨fun p hp => h.1 p (mem_delF hp), by have := len_delF a.nm s.fs; have := h.2; omega⟩)
          · split
            · exact h.mono (by omega)
            · split
              · exact (bnd_crash h hd _).mono (by omega)
              · exact h.mono (by omega)

/-- Both disks in one state; their blocks lie apart, and are newer than w. -/
def Both (w : World) (d m : Nat) (s : DSt) (wr : World) : Prop :=
  ∃ F G, DiskAt wr d s F ∧ RefAt wr m s G ∧ (∀ j, F j → ¬ G j) ∧ (∀ j, F j → w.heap.size ≤ j) ∧ (∀ j, G j → w.heap.size ≤ j) ∧ Upd (Ab w) w wr

theorem RefAt.lt {w : World} {m : Nat} {s : DSt} {F : Nat → Prop} (h : RefAt w m s F) {k : Nat} (hk : F k) : k < w.heap.size := by
  obtain ⟨lv, R, a, b, rfl⟩ := h
  exact a.foot_lt hk
theorem Both.upd {w wr wr' : World} {d m : Nat} {s : DSt} (h : Both w d m s wr) (hu : Upd NoF wr wr') : Both w d m s wr' := by
  obtain ⟨F, G, a, b, c, e, f, g⟩ := h
  exact ⟨F, G, a.upd hu (fun _ _ h => h), b.upd hu (fun _ _ h => h), c, e, f, g.trans hu (fun _ _ h => h.elim)⟩
theorem Both.out {w wr : World} {d m : Nat} {s : DSt} (h : Both w d m s wr) : Upd (Ab w) w wr := by
  obtain ⟨F, G, a, b, c, e, f, g⟩ := h
  exact g
theorem Both.durs {w wr : World} {d m : Nat} {s : DSt} (h : Both w d m s wr) : ∀ p ∈ s.fs, p.2.dur ≤ p.2.c.length := by
  obtain ⟨F, G, a, _⟩ := h
  exact a.durs

theorem both_do {w wr : World} {d m : Nat} {s : DSt} {k : Nat} (h : Both w d m s wr) (a : ActR) (ha : ActOk (Ab w) w a) (hb : Bnd s k) (hk : k ≤ 200) (hda : a.data.length ≤ 3000) :
    Calls Try.prog 20 #[ptrV d, aggA a] wr fun e w1 => e = retE (sDo s a).1 ∧ Upd (Ab w) w w1 ∧ Calls Try.prog 21 #[ptrV m, aggA a] w1 fun e w2 => e = retE (sDo s a).1 ∧ Both w d m (sDo s a).2 w2 := by
  obtain ⟨F, G, hD, hR, hdis, hF, hG, hU⟩ := h
  have hl := getF_len hb a.nm
  have hn := hb.2
  have ha1 : ∀ (E : Nat → Prop) (w1 : World), (∀ j, E j → w.heap.size ≤ j) → Upd (Ab w) w w1 → ActOk E w1 a := fun E w1 hE hu => ha.upd' hu (fun i _ e => hE i e)
  refine (do_spec hD a (ha1 F wr hF hU) (by omega) (by omega)).mono ?_
  rintro e w1 ⟨rfl, F', a1, a2, a3⟩
  have hU1 : Upd (Ab w) w w1 := hU.trans a2 (fun j _ f => hF j f)
  have hR1 : RefAt w1 m s G := hR.upd a2 (fun j g f => hdis j f g)
  refine ⟨rfl, hU1, ?_⟩
  refine (refdo_spec hR1 a (ha1 G w1 hG hU1) (by omega) (by omega) hD.pw hD.durs).mono ?_
  rintro e w2 ⟨rfl, G', b1, b2, b3⟩
  have hdis1 : ∀ j, F' j → ¬ G j := fun j f g => by
    rcases a3 j f with h | h
    · exact hdis j h g
    · have := hR.lt g; omega
  refine ⟨rfl, F', G', a1.upd b2 hdis1, b1, fun j f g => ?_, fun j f => ?_, fun j g => ?_, hU1.trans b2 (fun j _ g => hG j g)⟩
  · rcases b3 j g with h | h
    · exact hdis1 j f h
    · have := a1.lt f; omega
  · rcases a3 j f with h | h
    · exact hF j h
    · have := hU.size; omega
  · rcases b3 j g with h | h
    · exact hG j h
    · have := hU1.size; omega
end Go.Proofs.Ytmapijpphnlcmaa
