/- The functions of package disk, each against its plain specification. Conditions: no name longer than memory, no file beyond 2^40 bytes. -/
import Derived.Test.YtmapijpphnlcmaaDisk8
namespace Go.Proofs.Ytmapijpphnlcmaa
open Go.RowKit Go.Maps

def absR (r : FRec) : List UInt8 × FSt := (r.nm, ⟨r.c, r.dur⟩)
def absL (L : List FRec) : FS := L.map absR

/-- The disk at block d is in the state s; its blocks are those of F. -/
def DiskAt (w : World) (d : Nat) (s : DSt) (F : Nat → Prop) : Prop := ∃ mb L, DiskL w d mb s.off s.armed s.left L ∧ s.fs = absL L ∧ F = foot d mb L

/-- The disk has gone over to the state s; nothing else that was there has turned. -/
def DiskStep (w : World) (d : Nat) (s : DSt) (F : Nat → Prop) (w' : World) : Prop := ∃ F', DiskAt w' d s F' ∧ Upd F w w' ∧ ∀ k, F' k → F k ∨ w.heap.size ≤ k

theorem getF_absL (L : List FRec) (nm : List UInt8) : getF (absL L) nm = (L.find? (fun r => r.nm == nm)).map (fun r => ⟨r.c, r.dur⟩) := by
  unfold getF absL
  rw [List.find?_map]
  simp only [Function.comp_def, absR, Option.map_map]

theorem absL_insR (r : FRec) (L : List FRec) : absL (insR r L) = insF (absR r) (absL L) := by
  induction L with
  | nil => rfl
  | cons y l ih =>
    simp only [absL, List.map_cons, insR, insF] at ih ⊢
    show List.map absR (if bytesBefore r.nm y.nm = true then r :: y :: l else y :: insR r l) = if bytesBefore r.nm y.nm = true then _ else _
    split
    · rfl
    · simp [ih]
theorem absL_delR (nm : List UInt8) (L : List FRec) : absL (delR nm L) = delF nm (absL L) := by
  unfold absL delR delF
  rw [List.filter_map]
  rfl
theorem absL_setR {w : World} {d mb : Nat} {off armed : Bool} {left : Nat} {L : List FRec} (h : DiskL w d mb off armed left L) {r r' : FRec} (hr : r ∈ L) (hnm : r'.nm = r.nm) (hfb : r'.fb = r.fb) :
    absL (setR r' L) = setF r.nm ⟨r'.c, r'.dur⟩ (absL L) := by
  unfold absL setR setF
  rw [List.map_map, List.map_map]
  refine List.map_congr_left (fun x hx => ?_)
  simp only [Function.comp]
  by_cases he : x.fb = r'.fb
  · have := h.same_of_fb hx hr (he.trans hfb)
    subst this
    rw [if_pos he]
    simp [absR, hnm]
  · have hne : x.nm ≠ r.nm := fun e => he ((h.same_of_nm hx hr e) ▸ hfb.symm)
    rw [if_neg he]
    simp [absR, hne]

theorem setF_insF (nm : List UInt8) (f g : FSt) (fs : FS) (h : getF fs nm = none) : setF nm g (insF (nm, f) fs) = insF (nm, g) fs := by
  have hne : ∀ p ∈ fs, (p.1 == nm) = false := by
    intro p hp
    unfold getF at h
    rw [Option.map_eq_none_iff, List.find?_eq_none] at h
    simpa using h p hp
  clear h
  have hs : ∀ l : FS, (∀ p ∈ l, (p.1 == nm) = false) → setF nm g l = l := by
    intro l hl
    induction l with
    | nil => rfl
    | cons y l ih =>
      have := ih (fun p hp => hl p (by simp [hp]))
      simp only [setF, List.map_cons] at this ⊢
      rw [this, hl y (by simp)]
      rfl
  induction fs with
  | nil => simp [insF, setF]
  | cons y l ih =>
    simp only [insF]
    split
    · have := hs (y :: l) hne
      simp only [setF, List.map_cons] at this ⊢
      rw [this]
      simp
    · have := ih (fun p hp => hne p (by simp [hp]))
      simp only [setF, List.map_cons] at this ⊢
      rw [this, hne y (by simp)]
      rfl

section
variable {w : World} {d : Nat} {s : DSt} {F : Nat → Prop}

theorem DiskAt.upd (h : DiskAt w d s F) {G : Nat → Prop} {w' : World} (hu : Upd G w w') (hF : ∀ k, F k → ¬ G k) : DiskAt w' d s F := by
  obtain ⟨mb, L, h1, h2, rfl⟩ := h
  exact ⟨mb, L, h1.upd hu hF, h2, rfl⟩
theorem DiskAt.lt (h : DiskAt w d s F) {k : Nat} (hk : F k) : k < w.heap.size := by
  obtain ⟨mb, L, h1, h2, rfl⟩ := h
  exact h1.foot_lt hk
theorem DiskStep.refl (h : DiskAt w d s F) : DiskStep w d s F w := ⟨F, h, Upd.refl _ _, fun _ h => .inl h⟩
theorem DiskStep.trans {w1 w2 : World} {s1 s2 : DSt} (h : DiskStep w d s1 F w1) (h2 : ∀ F1, DiskAt w1 d s1 F1 → DiskStep w1 d s2 F1 w2) : DiskStep w d s2 F w2 := by
  obtain ⟨F1, a, b, c⟩ := h
  obtain ⟨F2, a2, b2, c2⟩ := h2 F1 a
  refine ⟨F2, a2, b.trans b2 (fun k hk f => (c k f).resolve_right (by omega)), fun k hk => ?_⟩
  rcases c2 k hk with e | e
  · exact c k e
  · exact .inr (Nat.le_trans b.size e)

/-- What a function of the disk returns, a number of an error, and what it leaves. -/
def ErrPost (w : World) (d : Nat) (F : Nat → Prop) (r : Int × DSt) (e : Ending) (w' : World) : Prop := e = retE r.1 ∧ DiskStep w d r.2 F w'

theorem append_spec (h : DiskAt w d s F) (nm : List UInt8) (hm : nm.length ≤ maxLen) (v : Value) (b : List UInt8) (hb : RdB F w v b) (hl : ((getF s.fs nm).getD ⟨[], 0⟩).c.length + b.length ≤ 1099511627776) (hL : s.fs.length < maxLen) :
    Calls Try.prog 13 #[ptrV d, strV nm, v] w (ErrPost w d F (sAppend s nm b)) := by
  obtain ⟨fs, off, armed, left⟩ := s
  obtain ⟨mb, L, h1, h2, rfl⟩ := h
  simp only at h1 h2 hl hL
  subst h2
  cases nm with
  | nil =>
    refine (append_arg d v w).mono ?_
    rintro e w' ⟨rfl, rfl⟩
    exact ⟨by simp [sAppend], DiskStep.refl ⟨mb, L, by simpa [sAppend] using h1, by simp [sAppend], rfl⟩⟩
  | cons c0 nm0 =>
    generalize hq : c0 :: nm0 = nm at *
    have hne : nm ≠ [] := by rw [← hq]; simp
    have hn : nm.isEmpty = false := by rw [← hq]; rfl
    clear hq
    cases off with
    | true =>
      refine (append_off h1 nm hn v).mono ?_
      rintro e w' ⟨rfl, rfl⟩
      exact ⟨by simp [sAppend, hne], DiskStep.refl ⟨mb, L, by simpa [sAppend, hne] using h1, by simp [sAppend, hne], rfl⟩⟩
    | false =>
      rw [getF_absL] at hl
      cases hf : L.find? (fun r => r.nm == nm) with
      | some r =>
        have hr : r ∈ L := List.mem_of_find?_eq_some hf
        have hrn : r.nm = nm := by have := List.find?_some hf; simpa using this
        rw [hf] at hl
        refine (append_yes h1 nm hn hm r hf v b hb.now (by simpa using hl)).mono ?_
        rintro e w' ⟨rfl, r', a1, a2, a3, a4, a5, a6, a7⟩
        have e1 : sAppend ⟨absL L, false, armed, left⟩ nm b = (codeW armed left, ⟨absL (setR r' L), !wrB armed left, armed, wrL armed left⟩) := by
          rw [absL_setR h1 hr a1 a2, hrn, a3, a4]
          simp [sAppend, hne, getF_absL, hf, withFile, wrS, codeW]
        rw [ErrPost, e1]
        exact ⟨rfl, _, ⟨mb, _, a5, rfl, rfl⟩, a6, a7⟩
      | none =>
        rw [hf] at hl
        refine (append_new h1 nm hn hm hf v b hb (by simpa using hl) (by simpa [absL] using hL)).mono ?_
        rintro e w' ⟨rfl, r', a1, a3, a4, a5, a6, a7⟩
        have e1 : sAppend ⟨absL L, false, armed, left⟩ nm b = (codeW armed left, ⟨absL (insR r' L), !wrB armed left, armed, wrL armed left⟩) := by
          have hg : getF (absL L) nm = none := by rw [getF_absL, hf]; rfl
          rw [absL_insR, absR, a1, a3, a4]
          simp [sAppend, hne, hg, withFile, wrS, codeW, setF_insF]
        rw [ErrPost, e1]
        exact ⟨rfl, _, ⟨mb, _, a5, rfl, rfl⟩, a6, a7⟩

/-- change: what goes wrong, and what is left to the closure. -/
theorem change_spec (h : DiskAt w d s F) (nm : List UInt8) (hm : nm.length ≤ maxLen) (g : FuncId) (caps : Array Value) (gs : FS → FSt → FS)
    (hg : ∀ (fb : Nat) (W : World), (callFunc g (#[ptrV fb] ++ caps)).run Try.prog W = .ok (.enter g (#[ptrV fb] ++ caps)) W)
    (hdo : ∀ mb L (r : FRec) w1, DiskL w1 d mb false s.armed (wrL s.armed s.left) L → F = foot d mb L → s.fs = absL L → r ∈ L → r.nm = nm → Upd (fun k => k = d) w w1 →
      Calls Try.prog g (#[ptrV r.fb] ++ caps) w1 fun e w' => e = .returned (.tuple #[]) ∧ DiskStep w d ⟨gs s.fs ⟨r.c, r.dur⟩, false, s.armed, wrL s.armed s.left⟩ F w') :
    Calls Try.prog 40 #[ptrV d, strV nm, .func (.func g) #[] caps] w (ErrPost w d F (sChange s nm gs)) := by
  obtain ⟨fs, off, armed, left⟩ := s
  obtain ⟨mb, L, h1, h2, rfl⟩ := h
  simp only at h1 h2 hdo
  subst h2
  cases nm with
  | nil =>
    refine (change_arg d _ w).mono ?_
    rintro e w' ⟨rfl, rfl⟩
    exact ⟨by simp [sChange], DiskStep.refl ⟨mb, L, by simpa [sChange] using h1, by simp [sChange], rfl⟩⟩
  | cons c0 nm0 =>
    generalize hq : c0 :: nm0 = nm at *
    have hne : nm ≠ [] := by rw [← hq]; simp
    have hn : nm.isEmpty = false := by rw [← hq]; rfl
    clear hq
    cases off with
    | true =>
      refine (change_off h1 nm hn _).mono ?_
      rintro e w' ⟨rfl, rfl⟩
      exact ⟨by simp [sChange, hne], DiskStep.refl ⟨mb, L, by simpa [sChange, hne] using h1, by simp [sChange, hne], rfl⟩⟩
    | false =>
      cases hf : L.find? (fun r => r.nm == nm) with
      | none =>
        have hg : getF (absL L) nm = none := by rw [getF_absL, hf]; rfl
        refine (change_no h1 nm hn hm hf _).mono ?_
        rintro e w' ⟨rfl, rfl⟩
        exact ⟨by simp [sChange, hne, hg], DiskStep.refl ⟨mb, L, by simpa [sChange, hne, hg] using h1, by simp [sChange, hne, hg], rfl⟩⟩
      | some r =>
        have hr : r ∈ L := List.mem_of_find?_eq_some hf
        have hrn : r.nm = nm := by have := List.find?_some hf; simpa using this
        have hgf : getF (absL L) nm = some ⟨r.c, r.dur⟩ := by rw [getF_absL, hf]; rfl
        cases hwb : wrB armed left with
        | false =>
          refine (change_out h1 nm hn hm r hf _ hwb).mono ?_
          rintro e w' ⟨rfl, a1, a2⟩
          have e1 : sChange ⟨absL L, false, armed, left⟩ nm gs = (103, ⟨absL L, true, armed, wrL armed left⟩) := by simp [sChange, hne, hgf, hwb, wrS]
          rw [ErrPost, e1]
          exact ⟨rfl, _, ⟨mb, L, a1, rfl, rfl⟩, a2.mono (fun k _ e => .inl e), fun k hk => .inl hk⟩
        | true =>
          have e1 : sChange ⟨absL L, false, armed, left⟩ nm gs = (0, ⟨gs (absL L) ⟨r.c, r.dur⟩, false, armed, wrL armed left⟩) := by simp [sChange, hne, hgf, hwb, wrS]
          refine (change_yes h1 nm hn hm r hf hwb g caps (DiskStep w d ⟨gs (absL L) ⟨r.c, r.dur⟩, false, armed, wrL armed left⟩ (foot d mb L)) (hg r.fb) (fun w1 hd hu => hdo mb L r w1 hd rfl rfl hr hrn hu)).mono ?_
          rintro e w' ⟨rfl, hQ⟩
          rw [ErrPost, e1]
          exact ⟨rfl, hQ⟩
end
end Go.Proofs.Ytmapijpphnlcmaa
