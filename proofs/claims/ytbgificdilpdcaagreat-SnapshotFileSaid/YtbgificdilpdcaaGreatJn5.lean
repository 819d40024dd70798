/- The functions of package disk, each against its plain specification. Conditions: no name longer than memory, no file beyond 2^40 bytes. Sync, Truncate, Remove, Rename, Read, Arm, Off of package disk, each against its plain specification. Conditions: no name longer than memory. Files and the choices of package disk. Condition: fewer than 2^43 files. The crash, file by file. No condition. Crash of package disk: what one file comes to. No condition. -/
import Derived.Test.YtbgificdilpdcaaGreatJn4
import Derived.Lib.SliceRun
namespace Go.Proofs.YtbgificdilpdcaaGreat
section
open Go.RowKit Go.Maps

def absR (r : FRec) : List UInt8 × FSt := (r.nm, ⟨r.c, r.dur⟩)
def absL (L : List FRec) : FS := L.map absR

/-- The disk at block d is in the state s; its blocks are those of F. -/
def DiskAt (w : World) (d : Nat) (s : DSt) (F : Nat → Prop) : Prop := ∃ mb L, DiskL w d mb s.off s.armed s.left L ∧ s.fs = absL L ∧ F = foot d mb L

/-- The disk has gone over to the state s; nothing else that was there has turned. -/
def DiskStep (w : World) (d : Nat) (s : DSt) (F : Nat → Prop) (w' : World) : Prop := ∃ F', DiskAt w' d s F' ∧ Upd F w w' ∧ ∀ k, F' k → F k ∨ w.heap.size ≤ k

theorem getF_absL (L : List FRec) (nm : List UInt8) : getF (absL L) nm = (L.find? (fun r => r.nm == nm)).map (fun r => ⟨r.c, r.dur⟩) := by
  unfold getF absL
  rw [List.find?_map]
  simp only [Function.comp_def, absR, Option.map_map]

theorem absL_insR (r : FRec) (L : List FRec) : absL (insR r L) = insF (absR r) (absL L) := by
  induction L with
  | nil => rfl
  | cons y l ih =>
    simp only [absL, List.map_cons, insR, insF] at ih ⊢
    show List.map absR (if bytesBefore r.nm y.nm = true then r :: y :: l else y :: insR r l) = if bytesBefore r.nm y.nm = true then _ else _
    split
    · rfl
    · simp [ih]
theorem absL_delR (nm : List UInt8) (L : List FRec) : absL (delR nm L) = delF nm (absL L) := by
  unfold absL delR delF
  rw [List.filter_map]
  rfl
theorem absL_setR {w : World} {d mb : Nat} {off armed : Bool} {left : Nat} {L : List FRec} (h : DiskL w d mb off armed left L) {r r' : FRec} (hr : r ∈ L) (hnm : r'.nm = r.nm) (hfb : r'.fb = r.fb) :
    absL (setR r' L) = setF r.nm ⟨r'.c, r'.dur⟩ (absL L) := by
  unfold absL setR setF
  rw [List.map_map, List.map_map]
  refine List.map_congr_left (fun x hx => ?_)
  simp only [Function.comp]
  by_cases he : x.fb = r'.fb
  · have := h.same_of_fb hx hr (he.trans hfb)
    subst this
    rw [if_pos he]
    simp [absR, hnm]
  · have hne : x.nm ≠ r.nm := fun e => he ((h.same_of_nm hx hr e) ▸ hfb.symm)
    rw [if_neg he]
    simp [absR, hne]

theorem setF_insF (nm : List UInt8) (f g : FSt) (fs : FS) (h : getF fs nm = none) : setF nm g (insF (nm, f) fs) = insF (nm, g) fs := by
  have hne : ∀ p ∈ fs, (p.1 == nm) = false := by
    intro p hp
    unfold getF at h
    rw [Option.map_eq_none_iff, List.find?_eq_none] at h
    simpa using h p hp
  clear h
  have hs : ∀ l : FS, (∀ p ∈ l, (p.1 == nm) = false) → setF nm g l = l := by
    intro l hl
    induction l with
    | nil => rfl
    | cons y l ih =>
      have := ih (fun p hp => hl p (by simp [hp]))
      simp only [setF, List.map_cons] at this ⊢
      rw [this, hl y (by simp)]
      rfl
  induction fs with
  | nil => simp [insF, setF]
  | cons y l ih =>
    simp only [insF]
    split
    · have := hs (y :: l) hne
      simp only [setF, List.map_cons] at this ⊢
      rw [this]
      simp
    · have := ih (fun p hp => hne p (by simp [hp]))
      simp only [setF, List.map_cons] at this ⊢
      rw [this, hne y (by simp)]
      rfl

section
variable {w : World} {d : Nat} {s : DSt} {F : Nat → Prop}

theorem DiskAt.upd (h : DiskAt w d s F) {G : Nat → Prop} {w' : World} (hu : Upd G w w') (hF : ∀ k, F k → ¬ G k) : DiskAt w' d s F := by
  obtain ⟨mb, L, h1, h2, rfl⟩ := h
  exact ⟨mb, L, h1.upd hu hF, h2, rfl⟩
theorem DiskAt.lt (h : DiskAt w d s F) {k : Nat} (hk : F k) : k < w.heap.size := by
  obtain ⟨mb, L, h1, h2, rfl⟩ := h
  exact h1.foot_lt hk
theorem DiskStep.refl (h : DiskAt w d s F) : DiskStep w d s F w := ⟨F, h, Upd.refl _ _, fun _ h => .inl h⟩
theorem DiskStep.trans {w1 w2 : World} {s1 s2 : DSt} (h : DiskStep w d s1 F w1) (h2 : ∀ F1, DiskAt w1 d s1 F1 → DiskStep w1 d s2 F1 w2) : DiskStep w d s2 F w2 := by
  obtain ⟨F1, a, b, c⟩ := h
  obtain ⟨F2, a2, b2, c2⟩ := h2 F1 a
  refine ⟨F2, a2, b.trans b2 (fun k hk f => (c k f).resolve_right (by omega)), fun k hk => ?_⟩
  rcases c2 k hk with e | e
  · exact c k e
  · exact .inr (Nat.le_trans b.size e)

/-- What a function of the disk returns, a number of an error, and what it leaves. -/
def ErrPost (w : World) (d : Nat) (F : Nat → Prop) (r : Int × DSt) (e : Ending) (w' : World) : Prop := e = retE r.1 ∧ DiskStep w d r.2 F w'

theorem append_spec (h : DiskAt w d s F) (nm : List UInt8) (hm : nm.length ≤ maxLen) (v : Value) (b : List UInt8) (hb : RdB F w v b) (hl : ((getF s.fs nm).getD ⟨[], 0⟩).c.length + b.length ≤ 1099511627776) (hL : s.fs.length < maxLen) :
    Calls Tryz.prog 16 #[ptrV d, strV nm, v] w (ErrPost w d F (sAppend s nm b)) := by
  obtain ⟨fs, off, armed, left⟩ := s
  obtain ⟨mb, L, h1, h2, rfl⟩ := h
  simp only at h1 h2 hl hL
  subst h2
  cases nm with
  | nil =>
    refine (append_arg d v w).mono ?_
    rintro e w' ⟨rfl, rfl⟩
    exact ⟨by simp [sAppend], DiskStep.refl ⟨mb, L, by simpa [sAppend] using h1, by simp [sAppend], rfl⟩⟩
  | cons c0 nm0 =>
    generalize hq : c0 :: nm0 = nm at *
    have hne : nm ≠ [] := by rw [← hq]; simp
    have hn : nm.isEmpty = false := by rw [← hq]; rfl
    clear hq
    cases off with
    | true =>
      refine (append_off h1 nm hn v).mono ?_
      rintro e w' ⟨rfl, rfl⟩
      exact ⟨by simp [sAppend, hne], DiskStep.refl ⟨mb, L, by simpa [sAppend, hne] using h1, by simp [sAppend, hne], rfl⟩⟩
    | false =>
      rw [getF_absL] at hl
      cases hf : L.find? (fun r => r.nm == nm) with
      | some r =>
        have hr : r ∈ L := List.mem_of_find?_eq_some hf
        have hrn : r.nm = nm := by have := List.find?_some hf; simpa using this
        rw [hf] at hl
        refine (append_yes h1 nm hn hm r hf v b hb.now (by simpa using hl)).mono ?_
        rintro e w' ⟨rfl, r', a1, a2, a3, a4, a5, a6, a7⟩
        have e1 : sAppend ⟨absL L, false, armed, left⟩ nm b = (codeW armed left, ⟨absL (setR r' L), !wrB armed left, armed, wrL armed left⟩) := by
          rw [absL_setR h1 hr a1 a2, hrn, a3, a4]
          simp [sAppend, hne, getF_absL, hf, withFile, wrS, codeW]
        rw [ErrPost, e1]
        exact ⟨rfl, _, ⟨mb, _, a5, rfl, rfl⟩, a6, a7⟩
      | none =>
        rw [hf] at hl
        refine (append_new h1 nm hn hm hf v b hb (by simpa using hl) (by simpa [absL] using hL)).mono ?_
        rintro e w' ⟨rfl, r', a1, a3, a4, a5, a6, a7⟩
        have e1 : sAppend ⟨absL L, false, armed, left⟩ nm b = (codeW armed left, ⟨absL (insR r' L), !wrB armed left, armed, wrL armed left⟩) := by
          have hg : getF (absL L) nm = none := by rw [getF_absL, hf]; rfl
          rw [absL_insR, absR, a1, a3, a4]
          simp [sAppend, hne, hg, withFile, wrS, codeW, setF_insF]
        rw [ErrPost, e1]
        exact ⟨rfl, _, ⟨mb, _, a5, rfl, rfl⟩, a6, a7⟩

/-- change: what goes wrong, and what is left to the closure. -/
theorem change_spec (h : DiskAt w d s F) (nm : List UInt8) (hm : nm.length ≤ maxLen) (g : FuncId) (caps : Array Value) (gs : FS → FSt → FS)
    (hg : ∀ (fb : Nat) (W : World), (callFunc g (#[ptrV fb] ++ caps)).run Tryz.prog W = .ok (.enter g (#[ptrV fb] ++ caps)) W)
    (hdo : ∀ mb L (r : FRec) w1, DiskL w1 d mb false s.armed (wrL s.armed s.left) L → F = foot d mb L → s.fs = absL L → r ∈ L → r.nm = nm → Upd (fun k => k = d) w w1 →
      Calls Tryz.prog g (#[ptrV r.fb] ++ caps) w1 fun e w' => e = .returned (.tuple #[]) ∧ DiskStep w d ⟨gs s.fs ⟨r.c, r.dur⟩, false, s.armed, wrL s.armed s.left⟩ F w') :
    Calls Tryz.prog 87 #[ptrV d, strV nm, .func (.func g) #[] caps] w (ErrPost w d F (sChange s nm gs)) := by
  obtain ⟨fs, off, armed, left⟩ := s
  obtain ⟨mb, L, h1, h2, rfl⟩ := h
  simp only at h1 h2 hdo
  subst h2
  cases nm with
  | nil =>
    refine (change_arg d _ w).mono ?_
    rintro e w' ⟨rfl, rfl⟩
    exact ⟨by simp [sChange], DiskStep.refl ⟨mb, L, by simpa [sChange] using h1, by simp [sChange], rfl⟩⟩
  | cons c0 nm0 =>
    generalize hq : c0 :: nm0 = nm at *
    have hne : nm ≠ [] := by rw [← hq]; simp
    have hn : nm.isEmpty = false := by rw [← hq]; rfl
    clear hq
    cases off with
    | true =>
      refine (change_off h1 nm hn _).mono ?_
      rintro e w' ⟨rfl, rfl⟩
      exact ⟨by simp [sChange, hne], DiskStep.refl ⟨mb, L, by simpa [sChange, hne] using h1, by simp [sChange, hne], rfl⟩⟩
    | false =>
      cases hf : L.find? (fun r => r.nm == nm) with
      | none =>
        have hg : getF (absL L) nm = none := by rw [getF_absL, hf]; rfl
        refine (change_no h1 nm hn hm hf _).mono ?_
        rintro e w' ⟨rfl, rfl⟩
        exact ⟨by simp [sChange, hne, hg], DiskStep.refl ⟨mb, L, by simpa [sChange, hne, hg] using h1, by simp [sChange, hne, hg], rfl⟩⟩
      | some r =>
        have hr : r ∈ L := List.mem_of_find?_eq_some hf
        have hrn : r.nm = nm := by have := List.find?_some hf; simpa using this
        have hgf : getF (absL L) nm = some ⟨r.c, r.dur⟩ := by rw [getF_absL, hf]; rfl
        cases hwb : wrB armed left with
        | false =>
          refine (change_out h1 nm hn hm r hf _ hwb).mono ?_
          rintro e w' ⟨rfl, a1, a2⟩
          have e1 : sChange ⟨absL L, false, armed, left⟩ nm gs = (103, ⟨absL L, true, armed, wrL armed left⟩) := by simp [sChange, hne, hgf, hwb, wrS]
          rw [ErrPost, e1]
          exact ⟨rfl, _, ⟨mb, L, a1, rfl, rfl⟩, a2.mono (fun k _ e => .inl e), fun k hk => .inl hk⟩
        | true =>
          have e1 : sChange ⟨absL L, false, armed, left⟩ nm gs = (0, ⟨gs (absL L) ⟨r.c, r.dur⟩, false, armed, wrL armed left⟩) := by simp [sChange, hne, hgf, hwb, wrS]
          refine (change_yes h1 nm hn hm r hf hwb g caps (DiskStep w d ⟨gs (absL L) ⟨r.c, r.dur⟩, false, armed, wrL armed left⟩ (foot d mb L)) (hg r.fb) (fun w1 hd hu => hdo mb L r w1 hd rfl rfl hr hrn hu)).mono ?_
          rintro e w' ⟨rfl, hQ⟩
          rw [ErrPost, e1]
          exact ⟨rfl, hQ⟩
end
end

section
open Go.RowKit Go.Maps

theorem call_sync1 (fb : Nat) (W : World) : (callFunc 89 (#[ptrV fb] ++ #[])).run Tryz.prog W = .ok (.enter 89 (#[ptrV fb] ++ #[])) W := by kernel_rfl
theorem call_remove1 (a b fb : Nat) (W : World) : (callFunc 88 (#[ptrV fb] ++ #[ptrV a, ptrV b])).run Tryz.prog W = .ok (.enter 88 (#[ptrV fb] ++ #[ptrV a, ptrV b])) W := by kernel_rfl
theorem call_rename1 (a b c fb : Nat) (W : World) : (callFunc 90 (#[ptrV fb] ++ #[ptrV a, ptrV b, ptrV c])).run Tryz.prog W = .ok (.enter 90 (#[ptrV fb] ++ #[ptrV a, ptrV b, ptrV c])) W := by kernel_rfl

section
variable {w : World} {d mb : Nat} {s : DSt} {F : Nat → Prop} {L : List FRec} {off armed : Bool} {left : Nat}

theorem TurnPost.step {w0 w w' : World} {r : FRec} {c' : List UInt8} {dur' : Nat} (h : DiskL w d mb off armed left L) (hr : r ∈ L) (ht : TurnPost w d mb off armed left L r c' dur' w') (hu : Upd (fun k => k = d) w0 w) :
    DiskStep w0 d ⟨setF r.nm ⟨c', dur'⟩ (absL L), off, armed, left⟩ (foot d mb L) w' := by
  obtain ⟨r', h1, h2, h3, h4, h5, h6, h7⟩ := ht.after hu
  refine ⟨_, ⟨mb, _, h5, ?_, rfl⟩, h6, h7⟩
  rw [absL_setR h hr h1 h2, h3, h4]

theorem sync_spec (h : DiskAt w d s F) (nm : List UInt8) (hm : nm.length ≤ maxLen) : Calls Tryz.prog 50 #[ptrV d, strV nm] w (ErrPost w d F (sSync s nm)) := by
  have C : Calls Tryz.prog 87 #[ptrV d, strV nm, .func (.func 89) #[] #[]] w (ErrPost w d F (sSync s nm)) := by
    refine change_spec h nm hm 89 #[] _ call_sync1 ?_
    rintro mb L r w1 hd rfl hs hr rfl hu
    refine (sync_turn hd hr).mono ?_
    rintro e w' ⟨rfl, ht⟩
    rw [hs]
    exact ⟨rfl, ht.step hd hr hu⟩
  have H := Lib.hid C
  clear C h hm
  go_enter Tryz.func50, Tryz.ntmps50
  go_wp2_with (go_at_call 87; refine H.out.mono ?_; rintro e w' ⟨rfl, hs⟩)
  go_ret
  exact ⟨rfl, hs⟩

/-- A step of the disk behind a few new blocks. -/
theorem DiskStep.after {w0 w1 w' : World} (hu : Upd NoF w0 w1) (h : DiskStep w1 d s F w') : DiskStep w0 d s F w' := by
  obtain ⟨F', a, b, c⟩ := h
  refine ⟨F', a, (hu.mono (fun k _ e => e.elim)).trans b (fun _ _ h => h), fun k hk => ?_⟩
  rcases c k hk with e | e
  · exact .inl e
  · exact .inr (Nat.le_trans hu.size e)

theorem DiskAt.alloc (h : DiskAt w d s F) (o : Obj) : DiskAt (w.alloc o) d s F := h.upd ((Upd.refl NoF w).alloc o) (fun _ _ h => h)


theorem remove_spec (h : DiskAt w d s F) (nm : List UInt8) (hm : nm.length ≤ maxLen) : Calls Tryz.prog 49 #[ptrV d, strV nm] w (ErrPost w d F (sRemove s nm)) := by
  have hlt : ∀ {k}, F k → k < w.heap.size := fun hk => h.lt hk
  have C : Calls Tryz.prog 87 #[ptrV d, strV nm, .func (.func 88) #[] #[ptrV w.heap.size, ptrV (w.heap.size + 1)]] ((w.alloc (.cells #[ptrV d] 36)).alloc (.cells #[strV nm] 9))
      (ErrPost ((w.alloc (.cells #[ptrV d] 36)).alloc (.cells #[strV nm] 9)) d F (sRemove s nm)) := by
    refine change_spec ((h.alloc _).alloc _) nm hm 88 _ _ (call_remove1 _ _) ?_
    rintro mb L r w1 hd rfl hs hr rfl hu
    have hdl := hlt (.inl rfl : foot d mb L d)
    have hb : Blk w1 w.heap.size 36 #[ptrV d] := hu.blk ((Blk.new w _ _).alloc _) (fun e => by omega)
    have hb2 : Blk w1 (w.heap.size + 1) 9 #[strV r.nm] := hu.blk (by simpa using Blk.new (w.alloc (.cells #[ptrV d] 36)) 9 #[strV r.nm]) (fun e => by omega)
    refine (remove1 (ptrV r.fb) _ _ r.nm w1 hd hb hb2 hm).mono ?_
    rintro e w' ⟨rfl, ht, hu2⟩
    rw [hs]
    refine ⟨rfl, _, ⟨mb, _, hd.drop r.nm hu2 ht, (absL_delR _ _).symm, rfl⟩, ?_, fun k hk => .inl (foot_delR r.nm hk)⟩
    exact (hu.mono (fun k _ e => .inl e)).trans hu2 (fun k _ e => .inr (.inl e))
  have H := Lib.hid C
  clear C h hm hlt
  go_enter Tryz.func49, Tryz.ntmps49
  go_wp2_with (go_at_call 87; refine H.out.mono ?_; rintro e w' ⟨rfl, hs⟩)
  go_ret
  exact ⟨rfl, hs.after (((Upd.refl NoF w).alloc _).alloc _)⟩

theorem rename_spec (h : DiskAt w d s F) (nm to : List UInt8) (hm : nm.length ≤ maxLen) (hto : to.length ≤ maxLen) (hL : s.fs.length < maxLen) : Calls Tryz.prog 51 #[ptrV d, strV nm, strV to] w (ErrPost w d F (sRename s nm to)) := by
  have hlt : ∀ {k}, F k → k < w.heap.size := fun hk => h.lt hk
  cases hne : to.isEmpty with
  | true =>
    have ht : to = [] := by simpa using hne
    subst ht
    have D := Lib.hid h
    clear h hlt
    go_enter Tryz.func51, Tryz.ntmps51
    go_wp2
    go_ret
    exact ⟨rfl, (DiskStep.refl (((D.out.alloc _).alloc _).alloc _)).after ((((Upd.refl NoF w).alloc _).alloc _).alloc _)⟩
  | false =>
    have hto' : to ≠ [] := by intro e; rw [e] at hne; cases hne
    have C : Calls Tryz.prog 87 #[ptrV d, strV nm, .func (.func 90) #[] #[ptrV w.heap.size, ptrV (w.heap.size + 1), ptrV (w.heap.size + 1 + 1)]] (((w.alloc (.cells #[ptrV d] 36)).alloc (.cells #[strV nm] 9)).alloc (.cells #[strV to] 9))
        (ErrPost (((w.alloc (.cells #[ptrV d] 36)).alloc (.cells #[strV nm] 9)).alloc (.cells #[strV to] 9)) d F (sRename s nm to)) := by
      unfold sRename
      rw [if_neg hto']
      refine change_spec (((h.alloc _).alloc _).alloc _) nm hm 90 _ _ (call_rename1 _ _ _) ?_
      rintro mb L r w1 hd rfl hs hr rfl hu
      have hdl := hlt (.inl rfl : foot d mb L d)
      have hb : Blk w1 w.heap.size 36 #[ptrV d] := hu.blk (((Blk.new w _ _).alloc _).alloc _) (fun e => by omega)
      have hb2 : Blk w1 (w.heap.size + 1) 9 #[strV r.nm] := hu.blk (Blk.alloc (by simpa using Blk.new (w.alloc (.cells #[ptrV d] 36)) 9 #[strV r.nm]) _) (fun e => by omega)
      have hb3 : Blk w1 (w.heap.size + 1 + 1) 9 #[strV to] := hu.blk (by simpa using Blk.new ((w.alloc (.cells #[ptrV d] 36)).alloc (.cells #[strV r.nm] 9)) 9 #[strV to]) (fun e => by omega)
      refine (rename1 r _ _ _ r.nm to w1 hd hb hb2 hb3 hm hto (by rw [hs] at hL; simpa [absL] using hL)).mono ?_
      rintro e w' ⟨rfl, ht, hu2⟩
      rw [hs]
      refine ⟨rfl, _, ⟨mb, _, hd.move hr to hto hu2 ht, ?_, rfl⟩, ?_, fun k hk => .inl (foot_move hr to hk)⟩
      · rw [absL_insR, absL_delR, absL_delR]; rfl
      · exact (hu.mono (fun k _ e => .inl e)).trans hu2 (fun k _ e => .inr (.inl e))
    have H := Lib.hid C
    clear C h hm hlt hto' hto hL
    go_enter Tryz.func51, Tryz.ntmps51
    go_wp2_with (go_at_call 87; refine H.out.mono ?_; rintro e w' ⟨rfl, hs⟩)
    go_ret
    exact ⟨rfl, hs.after ((((Upd.refl NoF w).alloc _).alloc _).alloc _)⟩

theorem arm_spec (h : DiskAt w d s F) (n : Int) (h0 : -9223372036854775808 ≤ n) (h1 : n ≤ 9223372036854775807) :
    Calls Tryz.prog 19 #[ptrV d, .int .i64 n] w fun e w' => e = .returned (.tuple #[]) ∧ DiskStep w d (sArm s n) F w' := by
  obtain ⟨mb, L, hd, hs, rfl⟩ := h
  refine (arm_any hd n h0 h1).mono ?_
  rintro e w' ⟨rfl, h2, h3⟩
  exact ⟨rfl, _, ⟨mb, L, h2, hs, rfl⟩, h3.mono (fun k _ e => .inl e), fun k hk => .inl hk⟩

theorem new_spec (w : World) : Calls Tryz.prog 14 #[] w fun e w' => e = .returned (ptrV (w.heap.size + 1)) ∧ DiskStep w (w.heap.size + 1) sNew NoF w' := by
  refine (new_any w).mono ?_
  rintro e w' ⟨rfl, h1, h2⟩
  refine ⟨rfl, _, ⟨w.heap.size, [], h1, rfl, rfl⟩, h2, ?_⟩
  rintro k (rfl | rfl | ⟨r, hr, _⟩)
  · exact .inr (by omega)
  · exact .inr (Nat.le_refl _)
  · cases hr

/-- What Read returns: new memory. -/
def BytesErr (w : World) (r : List UInt8 × Int) (e : Ending) (w' : World) : Prop := ∃ A c, e = retPE (.slice A r.1.length c) r.2 ∧ NewB w r.1 (.slice A r.1.length c) w'

theorem NewB.nil (w : World) : NewB w [] (.slice none 0 0) w := ⟨Own.nil _ _ _, fun k hk => by simp [OwnB, Value.ownBlock] at hk, Upd.refl _ _⟩

theorem read_spec (h : DiskAt w d s F) (nm : List UInt8) (hm : nm.length ≤ maxLen) : Calls Tryz.prog 46 #[ptrV d, strV nm] w (BytesErr w (sRead s nm)) := by
  obtain ⟨fs, off, armed, left⟩ := s
  obtain ⟨mb, L, h1, h2, rfl⟩ := h
  simp only at h1 h2
  subst h2
  cases nm with
  | nil =>
    refine (read_arg d w).mono ?_
    rintro e w' ⟨rfl, rfl⟩
    exact ⟨none, 0, by simp [sRead], by simpa [sRead] using NewB.nil w⟩
  | cons c0 nm0 =>
    generalize hq : c0 :: nm0 = nm at *
    have hne : nm ≠ [] := by rw [← hq]; simp
    have hn : nm.isEmpty = false := by rw [← hq]; rfl
    clear hq
    cases off with
    | true =>
      refine (read_off h1 nm hn).mono ?_
      rintro e w' ⟨rfl, rfl⟩
      exact ⟨none, 0, by simp [sRead, hne], by simpa [sRead, hne] using NewB.nil w⟩
    | false =>
      cases hf : L.find? (fun r => r.nm == nm) with
      | none =>
        have hg : getF (absL L) nm = none := by rw [getF_absL, hf]; rfl
        refine (read_no h1 nm hn hm hf).mono ?_
        rintro e w' ⟨rfl, rfl⟩
        exact ⟨none, 0, by simp [sRead, hne, hg], by simpa [sRead, hne, hg] using NewB.nil w⟩
      | some r =>
        have hg : getF (absL L) nm = some ⟨r.c, r.dur⟩ := by rw [getF_absL, hf]; rfl
        refine (read_yes h1 nm hn hm r hf).mono ?_
        rintro e w' ⟨A, c, rfl, hnew⟩
        exact ⟨A, c, by simp [sRead, hne, hg], by simpa [sRead, hne, hg] using hnew⟩
end
end

section
open Go.RowKit Go.Maps

theorem le_of_before : ∀ (a b : List UInt8), bytesBefore a b = true → a ≤ b
  | [], _, _ => List.nil_le _
  | _ :: _, [], h => by simp [bytesBefore] at h
  | x :: a, y :: b, h => by
    simp only [bytesBefore, Bool.or_eq_true, Bool.and_eq_true, decide_eq_true_eq, beq_iff_eq] at h
    rcases h with h | ⟨rfl, h⟩
    · exact List.le_of_lt (List.Lex.rel h)
    · rw [List.cons_le_cons_iff]
      exact .inr ⟨rfl, le_of_before a b h⟩

theorem mergeSort_names {L : List FRec} (h : L.Pairwise (fun a b => bytesBefore a.nm b.nm = true)) : (L.map (·.nm)).mergeSort (fun x y => decide (x ≤ y)) = L.map (·.nm) := by
  refine List.mergeSort_of_pairwise ?_
  rw [List.pairwise_map]
  exact h.imp (fun {a b} hab => by simpa using le_of_before _ _ hab)

/-- A new slice of strings. -/
def NewS (w : World) (ss : List (List UInt8)) (v : Value) (w' : World) : Prop :=
  Own w' 9 1 v ss.length (ss.map strV) ∧ (∀ k, OwnB v k → w.heap.size ≤ k) ∧ Upd NoF w w'
def StrsPost (w : World) (ss : List (List UInt8)) (e : Ending) (w' : World) : Prop := ∃ A c, e = .returned (.slice A ss.length c) ∧ NewS w ss (.slice A ss.length c) w'

section
variable {w : World} {d mb : Nat} {s : DSt} {F : Nat → Prop} {L : List FRec} {off armed : Bool} {left : Nat}

theorem keys_any (mb : Nat) (W : World) : Calls Tryz.prog 95 #[.map (some mb)] W fun e w' => e = .returned (.func (.func 110) #[] #[.pointer (some ⟨W.heap.size, 0, none⟩)]) ∧ w' = W.alloc (.cells #[.map (some mb)] 77) :=
  callsIn_wide.1 (Tryz.maps_Keys_95 (some mb) W)

theorem sorted_any (h : DiskL w d mb off armed left L) (hL : L.length ≤ 8796093022208) :
    Calls Tryz.prog 94 #[.func (.func 110) #[] #[.pointer (some ⟨w.heap.size, 0, none⟩)]] (w.alloc (.cells #[.map (some mb)] 77)) (StrsPost w (L.map (·.nm))) := by
  have hsz : Maps.size (mapD L) = L.length := by simp [mapD, Maps.size]
  refine (callsIn_wide.1 (Tryz.slices_Sorted_keys_94_95 mb L.length (mapD L) fileR w h.files (by rw [hsz]; unfold maxLen; omega) (by rw [hsz]; omega))).mono ?_
  rintro e w' ⟨v, ss, rfl, hp, hrow, _, hb⟩
  have hk : strKeys (mapD L) = L.map (·.nm) := by simp [mapD, strKeys, entD, strOf, Function.comp_def]
  rw [hk] at hp
  have hs : ss.mergeSort (fun x y => decide (x ≤ y)) = L.map (·.nm) := (mergeSort_of_perm hp).trans (mergeSort_names h.sorted)
  have hlen : ss.length = (L.map (·.nm)).length := hp.length_eq
  rw [hs, hlen] at hrow
  obtain ⟨h1, h2⟩ := own_of_ownsRow hrow
  obtain ⟨A, c, rfl⟩ := h1.form
  refine ⟨A, c, rfl, h1, fun k hk => by have := h2 k hk; simp at this; omega, ?_⟩
  exact ((Upd.refl NoF w).alloc _).trans (Upd.of_below (F := NoF) hb (fun i hi h => by omega)) (fun _ _ h => h)

theorem files_any (h : DiskL w d mb off armed left L) (hL : L.length ≤ 8796093022208) : Calls Tryz.prog 57 #[ptrV d] w (StrsPost w (L.map (·.nm))) := by
  have c0 : w.cell? ⟨d, 0, none⟩ = some (.map (some mb)) := h.head.cell 0
  have S := Lib.hid (sorted_any h hL)
  clear h hL
  go_enter Tryz.func57, Tryz.ntmps57
  go_wp2_with (first
    | (go_at_call 95; refine (keys_any _ _).mono ?_; rintro e w' ⟨rfl, rfl⟩)
    | (go_at_call 94; refine S.out.mono ?_; rintro e w' ⟨A, c, rfl, hn⟩))
  go_ret
  exact ⟨A, c, by simp, hn⟩

/-- The next pick. -/
def PickPost (F : Nat → Prop) (w : World) (cb : Nat) (r : Nat × List Int) (e : Ending) (w' : World) : Prop :=
  e = .returned (.int .i64 (r.1 : Int)) ∧ ∃ v', Blk w' cb 90 #[v'] ∧ RdI F w' v' r.2 ∧ Upd (fun k => k = cb) w w'

theorem tmod_fix (p : Int) (n : Nat) (hn : 0 < n) : (if p.tmod n < 0 then p.tmod n + n else p.tmod n) = ((p % (n : Int)).toNat : Int) := by
  have h1 : 0 ≤ p % (n : Int) := Int.emod_nonneg _ (by omega)
  rw [Int.toNat_of_nonneg h1, Int.tmod_eq_emod]
  have h2 : p % (n : Int) < n := Int.emod_lt_of_pos _ (by omega)
  split <;> split <;> simp at * <;> omega

theorem RdI.cut {F : Nat → Prop} {w : World} {A : Option Addr} {c : Nat} {p : Int} {ps : List Int} (h : RdI F w (.slice A (ps.length + 1) c) (p :: ps)) {g o : Nat} (hA : A = some ⟨g, o, none⟩) (A' : Option Addr) (hA' : c ≠ 1 → A' = some ⟨g, o + 1, none⟩) :
    RdI F w (.slice A' ps.length (c - 1)) ps := by
  intro w' hu
  obtain ⟨A0, c0, he, hn, hc, hl, hx⟩ := h w' hu
  injection he with e1 e2 e3
  subst e1 e3
  refine ⟨A', c - 1, rfl, by simp at hn; omega, by omega, by simp, fun h0 => ?_⟩
  obtain ⟨g1, o1, e, hcell⟩ := hx (by simp)
  rw [hA] at e
  injection e with e
  injection e with e1 e2
  subst e1 e2
  refine ⟨g, o + 1, hA' (by simp at hn; omega), fun j u hu => ?_⟩
  have := hcell (j + 1) u (by simpa using hu)
  rw [show o + 1 + j = o + (j + 1) by omega]
  exact this

set_option maxRecDepth 100000 in
theorem below_any (cb : Nat) (v : Value) (picks : List Int) (n : Nat) (w : World) (hb : Blk w cb 90 #[v]) (hv : RdI F w v picks) (hF : F cb) (hn : 0 < n) (hn2 : n ≤ 4611686018427387904) (hp : ∀ z ∈ picks, -9223372036854775808 ≤ z ∧ z ≤ 9223372036854775807) :
    Calls Tryz.prog 58 #[ptrV cb, .int .i64 n] w (PickPost F w cb (below picks n)) := by
  cases picks with
  | nil =>
    obtain ⟨A, c, rfl, hnc, hc, _⟩ := hv.now
    have c0 : w.cell? ⟨cb, 0, none⟩ = some (.slice A 0 c) := hb.cell 0
    have H := Lib.hid hb
    have V := Lib.hid hv
    clear hb hv hp hnc hc
    go_enter Tryz.func58, Tryz.ntmps58
    go_wp2
    go_ret
    exact ⟨rfl, _, H.out, V.out, Upd.refl _ _⟩
  | cons p ps =>
    obtain ⟨A, c, rfl, hnc, hc, _, hx⟩ := hv.now
    obtain ⟨g, o, rfl, hcell⟩ := hx (by simp)
    have c0 : w.cell? ⟨cb, 0, none⟩ = some (.slice (some ⟨g, o, none⟩) (ps.length + 1) c) := hb.cell 0
    have f0 : w.frozen? ⟨cb, 0, none⟩ = false := hb.frozen 0
    have c1 : w.cell? ⟨g, o, none⟩ = some (.int .i64 p) := by simpa using hcell 0 _ rfl
    obtain ⟨hp1, hp2⟩ := hp p (by simp)
    have fin : ∀ A', (c ≠ 1 → A' = some ⟨g, o + 1, none⟩) → ∀ r : Int, r = (if p.tmod n < 0 then p.tmod n + n else p.tmod n) → PickPost F w cb (below (p :: ps) n) (.returned (.int .i64 r)) (w.setCell ⟨cb, 0, none⟩ (.slice A' ps.length (c - 1))) := by
      intro A' hA' r hr
      have hu : Upd (fun k => k = cb) w (w.setCell ⟨cb, 0, none⟩ (.slice A' ps.length (c - 1))) := (Upd.refl (fun k => k = cb) w).setCell (p := ⟨cb, 0, none⟩) (.inl rfl) _
      refine ⟨?_, _, hb.put 0 _, (RdI.cut hv rfl A' hA').upd (hu.mono (fun k _ e => e ▸ hF)), hu⟩
      rw [hr, tmod_fix p n hn]
      rfl
    have FIN := Lib.hid fin
    have hlo : -(n : Int) < p.tmod n := by
      have := Int.tmod_lt_of_pos (-p) (b := n) (by omega)
      rw [Int.neg_tmod] at this
      omega
    have hhi : p.tmod n < n := Int.tmod_lt_of_pos _ (by omega)
    simp at hnc
    unfold maxLen at hc
    have hne : ((n : Int) == 0) = false := by simp; omega
    clear hb hv hp hx hcell fin
    by_cases hc1 : c = 1
    · subst hc1
      have hps : ps.length = 0 := by omega
      have HP := Lib.hid hps
      clear hps
      by_cases hneg : p.tmod n < 0
      · go_enter Tryz.func58, Tryz.ntmps58
        go_wp2
        go_ret
        have := FIN.out (some ⟨g, o, none⟩) (fun h => absurd rfl h) (p.tmod n + n) (by rw [if_pos hneg])
        rw [HP.out] at this
        exact this
      · go_enter Tryz.func58, Tryz.ntmps58
        go_wp2
        go_ret
        have := FIN.out (some ⟨g, o, none⟩) (fun h => absurd rfl h) (p.tmod n) (by rw [if_neg (by omega)])
        rw [HP.out] at this
        exact this
    · by_cases hneg : p.tmod n < 0
      · go_enter Tryz.func58, Tryz.ntmps58
        go_wp2
        go_ret
        exact FIN.out (some ⟨g, o + 1, none⟩) (fun _ => rfl) (p.tmod n + n) (by rw [if_pos hneg])
      · go_enter Tryz.func58, Tryz.ntmps58
        go_wp2
        go_ret
        exact FIN.out (some ⟨g, o + 1, none⟩) (fun _ => rfl) (p.tmod n) (by rw [if_neg (by omega)])

theorem below_int (cb : Nat) (v : Value) (picks : List Int) (n : Int) (w : World) (hb : Blk w cb 90 #[v]) (hv : RdI F w v picks) (hF : F cb) (hn : 0 < n) (hn2 : n ≤ 4611686018427387904) (hp : ∀ z ∈ picks, -9223372036854775808 ≤ z ∧ z ≤ 9223372036854775807) :
    Calls Tryz.prog 58 #[ptrV cb, .int .i64 n] w (PickPost F w cb (below picks n.toNat)) := by
  obtain ⟨m, rfl⟩ := Int.eq_ofNat_of_zero_le (Int.le_of_lt hn)
  have := below_any cb v picks m w hb hv hF (by omega) (by omega) hp
  simpa using this
end
end

section
open Go

def crashRun : List Int → FS → Nat → FS × List Int
  | ps, fs, 0 => (fs, ps)
  | ps, [], _ + 1 => ([], ps)
  | ps, (nm, f) :: l, i + 1 => ((nm, (crashF ps f).1) :: (crashRun (crashF ps f).2 l i).1, (crashRun (crashF ps f).2 l i).2)

theorem crashRun_zero (ps : List Int) (fs : FS) : crashRun ps fs 0 = (fs, ps) := by cases fs <;> rfl

theorem crashRun_len : ∀ (i : Nat) (ps : List Int) (fs : FS), (crashRun ps fs i).1.length = fs.length
  | 0, ps, fs => by rw [crashRun_zero]
  | i + 1, ps, [] => rfl
  | i + 1, ps, (nm, f) :: l => by simp [crashRun, crashRun_len i]

theorem crashRun_at : ∀ (i : Nat) (ps : List Int) (fs : FS), (crashRun ps fs i).1[i]? = fs[i]?
  | 0, ps, fs => by rw [crashRun_zero]
  | i + 1, ps, [] => rfl
  | i + 1, ps, (nm, f) :: l => by simp [crashRun, crashRun_at i]

theorem crashRun_succ : ∀ (i : Nat) (ps : List Int) (fs : FS) (nm : List UInt8) (f : FSt), fs[i]? = some (nm, f) →
    crashRun ps fs (i + 1) = ((crashRun ps fs i).1.set i (nm, (crashF (crashRun ps fs i).2 f).1), (crashF (crashRun ps fs i).2 f).2)
  | 0, ps, [], nm, f, h => by cases h
  | 0, ps, (nm', f') :: l, nm, f, h => by
    simp at h
    obtain ⟨rfl, rfl⟩ := h
    simp [crashRun, crashRun_zero]
  | i + 1, ps, [], nm, f, h => by cases h
  | i + 1, ps, (nm', f') :: l, nm, f, h => by
    have := crashRun_succ i (crashF ps f').2 l nm f (by simpa using h)
    rw [show crashRun ps ((nm', f') :: l) (i + 1 + 1) = ((nm', (crashF ps f').1) :: (crashRun (crashF ps f').2 l (i + 1)).1, (crashRun (crashF ps f').2 l (i + 1)).2) from rfl, this]
    rfl

theorem crashRun_all : ∀ (fs : FS) (ps : List Int), (crashRun ps fs fs.length).1 = crashL ps fs
  | [], ps => rfl
  | (nm, f) :: l, ps => by simp [crashRun, crashL, crashRun_all l]

theorem setF_set {fs : FS} {i : Nat} {nm : List UInt8} {f0 f : FSt} (hp : fs.Pairwise (fun a b => a.1 ≠ b.1)) (h : fs[i]? = some (nm, f0)) : setF nm f fs = fs.set i (nm, f) := by
  induction fs generalizing i with
  | nil => rfl
  | cons y l ih =>
    rw [List.pairwise_cons] at hp
    cases i with
    | zero =>
      simp at h
      subst h
      simp only [setF, List.map_cons, List.set_cons_zero]
      congr 1
      · simp
      · have : ∀ p ∈ l, (if p.1 == nm then (p.1, f) else p) = p := fun p hp' => by
          have := hp.1 p hp'
          simp only at this
          simp [Ne.symm this]
        calc l.map (fun p => if p.1 == nm then (p.1, f) else p) = l.map id := List.map_congr_left this
          _ = l := by simp
    | succ i =>
      simp at h
      have hne : y.1 ≠ nm := hp.1 (nm, f0) (List.mem_of_getElem? h)
      simp only [setF, List.map_cons, List.set_cons_succ]
      have := ih hp.2 h
      simp only [setF] at this
      rw [this]
      simp [hne]

theorem below_lt (picks : List Int) (n : Nat) (h : 0 < n) : (below picks n).1 < n := by
  unfold below
  split
  · exact h
  · rename_i p _
    have h1 := Int.emod_nonneg p (b := n) (by omega)
    have h2 := Int.emod_lt_of_pos p (b := n) (by omega)
    simp only
    omega
theorem below_sub (picks : List Int) (n : Nat) : ∀ z ∈ (below picks n).2, z ∈ picks := by
  unfold below
  split
  · simp
  · intro z hz; simp at hz ⊢; exact .inr hz
theorem crashF_sub (picks : List Int) (f : FSt) : ∀ z ∈ (crashF picks f).2, z ∈ picks := by
  unfold crashF
  split
  · intro z hz; exact hz
  · intro z hz
    simp only at hz
    exact below_sub _ _ z (below_sub _ _ z hz)
theorem crashRun_sub : ∀ (i : Nat) (ps : List Int) (fs : FS), ∀ z ∈ (crashRun ps fs i).2, z ∈ ps
  | 0, ps, fs => by rw [crashRun_zero]; exact fun z hz => hz
  | i + 1, ps, [] => fun z hz => hz
  | i + 1, ps, (nm, f) :: l => fun z hz => crashF_sub ps f z (crashRun_sub i _ l z hz)
end

section
open Go.RowKit Go.Maps

section
variable {w : World} {d mb : Nat} {L : List FRec} {off armed : Bool} {left : Nat}

theorem DiskL.find (h : DiskL w d mb off armed left L) {r : FRec} (hr : r ∈ L) : L.find? (fun x => x.nm == r.nm) = some r := by
  cases hf : L.find? (fun x => x.nm == r.nm) with
  | none => exact absurd (List.find?_eq_none.1 hf r hr) (by simp)
  | some x => exact congrArg some (h.same_of_nm (List.mem_of_find?_eq_some hf) hr (by simpa using List.find?_some hf))

/-- A file has got the content c', all of it durable, in the memory that it has. -/
theorem crash_turn (h : DiskL w d mb off armed left L) {r : FRec} (hr : r ∈ L) {g cap : Nat} (hcv : r.cv = .slice (some ⟨g, 0, none⟩) r.c.length cap) {w' : World} {cur : Array Value} {c' : List UInt8}
    (hlen : c'.length ≤ r.c.length) (hu : Upd (fun k => k = r.fb ∨ k = g) w w') (hb : Blk w' r.fb 85 #[.slice (some ⟨g, 0, none⟩) c'.length c'.length, .int .i64 c'.length]) (hg : Blk w' g 5 cur)
    (hsz : c'.length ≤ cur.size) (hcur : cur.toList.take c'.length = c'.map byteV) :
    DiskL w' d mb off armed left (setR { r with cv := .slice (some ⟨g, 0, none⟩) c'.length c'.length, c := c', dur := c'.length } L) ∧
    ∀ k, foot d mb (setR { r with cv := .slice (some ⟨g, 0, none⟩) c'.length c'.length, c := c', dur := c'.length } L) k → foot d mb L k := by
  have hl := h.len r hr
  have hnew : ∀ k, OwnB (.slice (some ⟨g, 0, none⟩) c'.length c'.length) k → OwnB r.cv k := by
    intro k hk
    rw [hcv]
    simpa [OwnB, Value.ownBlock] using hk
  refine ⟨h.turn hr rfl rfl (Nat.le_refl _) (by simp only; omega) (hu.mono ?_) hb ⟨by simp, .inr ⟨g, _, cur, rfl, hg, Nat.le_refl _, by unfold maxLen; omega, by omega, by simpa using hcur⟩⟩ (fun k hk => .inl (hnew k hk)), ?_⟩
  · rintro k _ (rfl | rfl)
    · exact .inl rfl
    · exact .inr (by rw [hcv]; simp [OwnB, Value.ownBlock])
  · intro k hk
    rcases hk with rfl | rfl | ⟨x, hx, hk⟩
    · exact .inl rfl
    · exact .inr (.inl rfl)
    · rcases mem_setR hx with rfl | ⟨hx, _⟩
      · rcases hk with rfl | hk
        · exact .inr (.inr ⟨r, hr, .inl rfl⟩)
        · exact .inr (.inr ⟨r, hr, .inr (hnew k hk)⟩)
      · exact .inr (.inr ⟨x, hx, hk⟩)

theorem length_flipLast (c : List UInt8) : (flipLast c).length = c.length := by simp [flipLast]
theorem length_zeroLast (k : Nat) (c : List UInt8) (h : k ≤ c.length) : (zeroLast k c).length = c.length := by simp [zeroLast]; omega
/-- Memory behind the three kinds of damage: the file's cut slice, the content's bytes, the durable part. -/
theorem crash_none (h : DiskL w d mb off armed left L) {r : FRec} (hr : r ∈ L) {g cap : Nat} (hcv : r.cv = .slice (some ⟨g, 0, none⟩) r.c.length cap) {e : Nat} (he : e ≤ r.c.length) :
    DiskL ((w.setCell ⟨r.fb, 0, none⟩ (.slice (some ⟨g, 0, none⟩) e e)).setCell ⟨r.fb, 1, none⟩ (.int .i64 e)) d mb off armed left (setR { r with cv := .slice (some ⟨g, 0, none⟩) e e, c := r.c.take e, dur := e } L) ∧
    Upd (fun k => k = r.fb ∨ k = g) w ((w.setCell ⟨r.fb, 0, none⟩ (.slice (some ⟨g, 0, none⟩) e e)).setCell ⟨r.fb, 1, none⟩ (.int .i64 e)) ∧
    ∀ k, foot d mb (setR { r with cv := .slice (some ⟨g, 0, none⟩) e e, c := r.c.take e, dur := e } L) k → foot d mb L k := by
  have hf := h.file r hr
  have hw := h.own r hr
  rw [hcv] at hw
  rcases hw.2 with ⟨hv, _⟩ | ⟨g', cap', cur, hv, hb, hn, hcm, hcs, hx⟩
  · cases hv
  · injection hv with e1 e2 e3
    injection e1 with e1
    injection e1 with e1 _
    subst e1 e3
    have hu : Upd (fun k => k = r.fb ∨ k = g) w ((w.setCell ⟨r.fb, 0, none⟩ (.slice (some ⟨g, 0, none⟩) e e)).setCell ⟨r.fb, 1, none⟩ (.int .i64 e)) :=
      ((Upd.refl (fun k => k = r.fb ∨ k = g) w).setCell (p := ⟨r.fb, 0, none⟩) (.inl (.inl rfl)) _).setCell (p := ⟨r.fb, 1, none⟩) (.inl (.inl rfl)) _
    have hlt : (r.c.take e).length = e := by simp; omega
    have hgf : g ≠ r.fb := hb.unlike hf (by decide)
    have := crash_turn h hr (by rw [hcv]) (c' := r.c.take e) (cur := cur) (by omega) hu (by rw [hlt]; exact (hf.put 0 _).put 1 _) ((hb.far (p := ⟨r.fb, 0, none⟩) hgf _).far (p := ⟨r.fb, 1, none⟩) hgf _) (by omega)
      (by rw [hlt, List.map_take, ← hx, List.take_take]; congr 1; omega)
    simp only [hlt] at this
    exact ⟨this.1, hu, this.2⟩

theorem crash_flip (h : DiskL w d mb off armed left L) {r : FRec} (hr : r ∈ L) {g cap : Nat} (hcv : r.cv = .slice (some ⟨g, 0, none⟩) r.c.length cap) {e : Nat} (he : e ≤ r.c.length) (h0 : 0 < e) {b : UInt8} (hb0 : r.c[e - 1]? = some b) :
    DiskL (((w.setCell ⟨r.fb, 0, none⟩ (.slice (some ⟨g, 0, none⟩) e e)).setCell ⟨g, e - 1, none⟩ (byteV (b ^^^ 255))).setCell ⟨r.fb, 1, none⟩ (.int .i64 e)) d mb off armed left (setR { r with cv := .slice (some ⟨g, 0, none⟩) e e, c := flipLast (r.c.take e), dur := e } L) ∧
    Upd (fun k => k = r.fb ∨ k = g) w (((w.setCell ⟨r.fb, 0, none⟩ (.slice (some ⟨g, 0, none⟩) e e)).setCell ⟨g, e - 1, none⟩ (byteV (b ^^^ 255))).setCell ⟨r.fb, 1, none⟩ (.int .i64 e)) ∧
    (∀ k, foot d mb (setR { r with cv := .slice (some ⟨g, 0, none⟩) e e, c := flipLast (r.c.take e), dur := e } L) k → foot d mb L k) ∧
    w.cell? ⟨g, e - 1, none⟩ = some (byteV b) ∧ w.frozen? ⟨g, e - 1, none⟩ = false ∧ g ≠ r.fb := by
  have hf := h.file r hr
  have hw := h.own r hr
  rw [hcv] at hw
  rcases hw.2 with ⟨hv, _⟩ | ⟨g', cap', cur, hv, hb, hn, hcm, hcs, hx⟩
  · cases hv
  · injection hv with e1 e2 e3
    injection e1 with e1
    injection e1 with e1 _
    subst e1 e3
    have hu : Upd (fun k => k = r.fb ∨ k = g) w (((w.setCell ⟨r.fb, 0, none⟩ (.slice (some ⟨g, 0, none⟩) e e)).setCell ⟨g, e - 1, none⟩ (byteV (b ^^^ 255))).setCell ⟨r.fb, 1, none⟩ (.int .i64 e)) :=
      (((Upd.refl (fun k => k = r.fb ∨ k = g) w).setCell (p := ⟨r.fb, 0, none⟩) (.inl (.inl rfl)) _).setCell (p := ⟨g, e - 1, none⟩) (.inl (.inr rfl)) _).setCell (p := ⟨r.fb, 1, none⟩) (.inl (.inl rfl)) _
    have hlt : (flipLast (r.c.take e)).length = e := by rw [length_flipLast]; simp; omega
    have hgf : g ≠ r.fb := hb.unlike hf (by decide)
    have hcell : w.cell? ⟨g, e - 1, none⟩ = some (byteV b) := by
      rw [hb.cell]
      have h1 : (cur.toList.take (r.c.length * 1))[e - 1]? = some (byteV b) := by rw [hx]; simp [hb0]
      rw [List.getElem?_take, if_pos (by omega)] at h1
      simpa using h1
    have := crash_turn h hr (by rw [hcv]) (c' := flipLast (r.c.take e)) (cur := cur.setIfInBounds (e - 1) (byteV (b ^^^ 255))) (by omega) hu (by rw [hlt]; exact ((hf.put 0 _).far (p := ⟨g, e - 1, none⟩) hgf.symm _).put 1 _)
      (((hb.far (p := ⟨r.fb, 0, none⟩) hgf _).put _ _).far (p := ⟨r.fb, 1, none⟩) hgf _) (by simp; omega) ?_
    · simp only [hlt] at this
      exact ⟨this.1, hu, this.2, hcell, hb.frozen _, hgf⟩
    · rw [hlt, Array.toList_setIfInBounds, List.take_set]
      have h2 : cur.toList.take e = (r.c.take e).map byteV := by rw [List.map_take, ← hx, List.take_take]; congr 1; omega
      rw [h2]
      unfold flipLast
      have hl2 : (r.c.take e).length = e := by simp; omega
      rw [hl2]
      have hb1 : (r.c.take e)[e - 1]? = some b := by rw [List.getElem?_take, if_pos (by omega)]; exact hb0
      apply List.ext_getElem?
      intro i
      rw [List.getElem?_set, List.getElem?_map, List.getElem?_map, List.getElem?_modify]
      by_cases hi : e - 1 = i
      · subst hi
        rw [if_pos rfl, hb1, if_pos (by simp; omega)]
        simp
      · rw [if_neg hi]
        simp [hi]

theorem crash_zero (h : DiskL w d mb off armed left L) {r : FRec} (hr : r ∈ L) {g cap : Nat} (hcv : r.cv = .slice (some ⟨g, 0, none⟩) r.c.length cap) {e m : Nat} (he : e ≤ r.c.length) (h0 : 0 < m) (hm : m ≤ e) : ∃ cs,
    (∀ ty c, (Builtin.clear_ #[28] ty #[.slice (some ⟨g, e - m, none⟩) m c]).run Tryz.prog (w.setCell ⟨r.fb, 0, none⟩ (.slice (some ⟨g, 0, none⟩) e e)) = .ok (.tuple #[]) ((w.setCell ⟨r.fb, 0, none⟩ (.slice (some ⟨g, 0, none⟩) e e)).setRow g cs)) ∧
    DiskL (((w.setCell ⟨r.fb, 0, none⟩ (.slice (some ⟨g, 0, none⟩) e e)).setRow g cs).setCell ⟨r.fb, 1, none⟩ (.int .i64 e)) d mb off armed left (setR { r with cv := .slice (some ⟨g, 0, none⟩) e e, c := zeroLast m (r.c.take e), dur := e } L) ∧
    Upd (fun k => k = r.fb ∨ k = g) w (((w.setCell ⟨r.fb, 0, none⟩ (.slice (some ⟨g, 0, none⟩) e e)).setRow g cs).setCell ⟨r.fb, 1, none⟩ (.int .i64 e)) ∧
    (∀ k, foot d mb (setR { r with cv := .slice (some ⟨g, 0, none⟩) e e, c := zeroLast m (r.c.take e), dur := e } L) k → foot d mb L k) ∧
    ((w.setCell ⟨r.fb, 0, none⟩ (.slice (some ⟨g, 0, none⟩) e e)).setRow g cs).cell? ⟨r.fb, 1, none⟩ = some (.int .i64 r.dur) ∧
    ((w.setCell ⟨r.fb, 0, none⟩ (.slice (some ⟨g, 0, none⟩) e e)).setRow g cs).frozen? ⟨r.fb, 1, none⟩ = false := by
  have hf := h.file r hr
  have hw := h.own r hr
  rw [hcv] at hw
  rcases hw.2 with ⟨hv, _⟩ | ⟨g', cap', cur, hv, hb, hn, hcm, hcs, hx⟩
  · cases hv
  · injection hv with e1 e2 e3
    injection e1 with e1
    injection e1 with e1 _
    subst e1 e3
    have hgf : g ≠ r.fb := hb.unlike hf (by decide)
    have hb1 := hb.far (p := ⟨r.fb, 0, none⟩) hgf (.slice (some ⟨g, 0, none⟩) e e)
    refine ⟨_, fun ty c => run_clear _ 28 5 ty (.int .u8 0) Tryz.underlying28 (fun w => by kernel_rfl) rfl rfl g (e - m) m c h0 cur hb1 (by omega), ?_⟩
    generalize hcsq : (cur.toList.take (e - m) ++ List.replicate m (Value.int .u8 0) ++ cur.toList.drop (e - m + m)).toArray = cs
    have hu : Upd (fun k => k = r.fb ∨ k = g) w (((w.setCell ⟨r.fb, 0, none⟩ (.slice (some ⟨g, 0, none⟩) e e)).setRow g cs).setCell ⟨r.fb, 1, none⟩ (.int .i64 e)) :=
      (((Upd.refl (fun k => k = r.fb ∨ k = g) w).setCell (p := ⟨r.fb, 0, none⟩) (.inl (.inl rfl)) _).setRow (g := g) (.inl (.inr rfl)) _).setCell (p := ⟨r.fb, 1, none⟩) (.inl (.inl rfl)) _
    have hlt : (zeroLast m (r.c.take e)).length = e := by rw [length_zeroLast _ _ (by simp; omega)]; simp; omega
    have hfr := (hf.put 0 (.slice (some ⟨g, 0, none⟩) e e)).rowFar hgf.symm cs
    have := crash_turn h hr (by rw [hcv]) (c' := zeroLast m (r.c.take e)) (cur := cs) (by omega) hu (by rw [hlt]; exact hfr.put 1 _) ((hb1.row cs).far (p := ⟨r.fb, 1, none⟩) hgf _) (by rw [← hcsq]; simp; omega) ?_
    · simp only [hlt] at this
      exact ⟨this.1, hu, this.2, hfr.cell 1, hfr.frozen 1⟩
    · have h2 : cur.toList.take e = (r.c.take e).map byteV := by rw [List.map_take, ← hx, List.take_take]; congr 1; omega
      have hl2 : (r.c.take e).length = e := by simp; omega
      rw [hlt, ← hcsq]
      simp only []
      rw [List.take_append_of_le_length (by simp; omega), List.take_of_length_le (by simp; omega)]
      unfold zeroLast
      rw [hl2, List.map_append, List.map_replicate, List.map_take, ← h2, List.take_take]
      congr 2
      · omega
end
end
end Go.Proofs.YtbgificdilpdcaaGreat
