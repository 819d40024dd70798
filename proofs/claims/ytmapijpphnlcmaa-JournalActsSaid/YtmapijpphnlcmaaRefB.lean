/- The reference disk, each function against its plain specification. Conditions: names pairwise distinct, sizes. -/
import Derived.Test.YtmapijpphnlcmaaRef9
import Derived.Test.YtmapijpphnlcmaaRefA
namespace Go.Proofs.Ytmapijpphnlcmaa
open Go.RowKit Go.Maps

/-- The reference disk at block m is in the state s; its blocks are those of F. -/
def RefAt (w : World) (m : Nat) (s : DSt) (F : Nat → Prop) : Prop := ∃ lv R, RefL w m s.off s.armed s.left lv R ∧ s.fs = R.map absRR ∧ F = refFoot m lv R
def RefStep (w : World) (m : Nat) (s : DSt) (F : Nat → Prop) (w' : World) : Prop := ∃ F', RefAt w' m s F' ∧ Upd F w w' ∧ ∀ k, F' k → F k ∨ w.heap.size ≤ k
def RErr (w : World) (m : Nat) (F : Nat → Prop) (x : Int × DSt) (e : Ending) (w' : World) : Prop := e = retE x.1 ∧ RefStep w m x.2 F w'
abbrev PW (fs : FS) : Prop := fs.Pairwise (fun a b => a.1 ≠ b.1)

theorem RefStep.refl {w : World} {m : Nat} {s : DSt} {F : Nat → Prop} (h : RefAt w m s F) : RefStep w m s F w := ⟨F, h, Upd.refl _ _, fun _ h => .inl h⟩

theorem idx_cases (R : List RRec) (nm : List UInt8) : (idxR R nm = -1 ∧ getF (R.map absRR) nm = none ∧ ∀ x ∈ R, x.nm ≠ nm) ∨ ∃ (i : Nat) (r : RRec), idxR R nm = i ∧ R[i]? = some r ∧ r.nm = nm ∧ getF (R.map absRR) nm = some ⟨r.c, r.dur⟩ := by
  have hg : getF (R.map absRR) nm = (R.find? (fun r => r.nm == nm)).map (fun r => ⟨r.c, r.dur⟩) := by
    unfold getF
    rw [List.find?_map]
    simp only [Function.comp_def, absRR, Option.map_map]
  unfold idxR
  cases hf : R.findIdx? (fun r => r.nm == nm) with
  | none =>
    rw [List.findIdx?_eq_none_iff] at hf
    have h1 : ∀ x ∈ R, x.nm ≠ nm := fun x hx => by simpa using hf x hx
    refine .inl ⟨rfl, ?_, h1⟩
    rw [hg, List.find?_eq_none.2 (fun x hx => by simpa using h1 x hx)]
    rfl
  | some j =>
    obtain ⟨hj, h1, h2⟩ := List.findIdx?_eq_some_iff_getElem.1 hf
    refine .inr ⟨j, R[j], rfl, List.getElem?_eq_getElem hj, by simpa using h1, ?_⟩
    have : R.find? (fun r => r.nm == nm) = some R[j] := by
      rw [List.find?_eq_some_iff_getElem]
      exact ⟨h1, j, hj, rfl, fun k hk => by simpa using h2 k hk⟩
    rw [hg, this]
    rfl

theorem set_abs {R : List RRec} {nm : List UInt8} {i : Nat} {r : RRec} (hp : PW (R.map absRR)) (hr : R[i]? = some r) (hn : r.nm = nm) (f : FSt) : setF nm f (R.map absRR) = (R.map absRR).set i (nm, f) :=
  setF_set (f0 := ⟨r.c, r.dur⟩) hp (by rw [List.getElem?_map, hr]; simp [absRR, hn])

theorem del_none {nm : List UInt8} {fs : FS} (h : ∀ p ∈ fs, p.1 ≠ nm) : delF nm fs = fs := by
  unfold delF
  rw [List.filter_eq_self]
  intro p hp
  simpa using h p hp

theorem del_abs {R : List RRec} {nm : List UInt8} {i : Nat} {r : RRec} (hp : PW (R.map absRR)) (hr : R[i]? = some r) (hn : r.nm = nm) : delF nm (R.map absRR) = (R.take i ++ R.drop (i + 1)).map absRR := by
  induction R generalizing i with
  | nil => cases hr
  | cons y R ih =>
    rw [List.map_cons, PW, List.pairwise_cons] at hp
    cases i with
    | zero =>
      simp at hr
      subst hr
      have hne : ∀ p ∈ R.map absRR, p.1 ≠ nm := fun p hp' e => hp.1 p hp' (by rw [e]; exact hn)
      have h1 : delF nm ((y :: R).map absRR) = delF nm (R.map absRR) := by simp [delF, absRR, hn]
      rw [h1, del_none hne]
      simp
    | succ i =>
      have hr' : R[i]? = some r := by simpa using hr
      have hne : y.nm ≠ nm := by
        have := hp.1 (absRR r) (List.mem_map.2 ⟨r, List.mem_of_getElem? hr', rfl⟩)
        simpa [absRR, hn] using this
      have h1 : delF nm ((y :: R).map absRR) = absRR y :: delF nm (R.map absRR) := by simp [delF, absRR, hne]
      rw [h1, ih hp.2 hr']
      simp

theorem ins_abs (r : RRec) (R : List RRec) : (insRR r R).map absRR = insF (absRR r) (R.map absRR) := by
  induction R with
  | nil => rfl
  | cons y l ih =>
    simp only [List.map_cons, insRR, insF] at ih ⊢
    show List.map absRR (if bytesBefore r.nm y.nm = true then r :: y :: l else y :: insRR r l) = if bytesBefore r.nm y.nm = true then _ else _
    split
    · rfl
    · simp [ih]

theorem ins_idx (r : RRec) (R : List RRec) (h : ∀ x ∈ R, x.nm ≠ r.nm) : ∃ i : Nat, idxR (insRR r R) r.nm = i ∧ (insRR r R)[i]? = some r := by
  have hm : ∀ R : List RRec, r ∈ insRR r R := by
    intro R
    induction R with
    | nil => simp [insRR]
    | cons y l ih =>
      simp only [insRR]
      split
      · simp
      · exact List.mem_cons_of_mem _ ih
  rcases idx_cases (insRR r R) r.nm with ⟨_, _, h3⟩ | ⟨i, r', h1, h2, h3, _⟩
  · exact absurd rfl (h3 r (hm R))
  · refine ⟨i, h1, ?_⟩
    rcases insRR_mem (List.mem_of_getElem? h2) with rfl | hx
    · exact h2
    · exact absurd h3 (h r' hx)

section
variable {w : World} {m : Nat} {s : DSt} {F : Nat → Prop}

theorem RPost.step {lv : Value} {R R' : List RRec} {off armed : Bool} {left : Nat} {code : Int} {e : Ending} {w' : World} {s' : DSt} (h : RPost w m off armed left lv R R' code e w') (h1 : s'.fs = R'.map absRR) (h2 : s'.off = off) (h3 : s'.armed = armed) (h4 : s'.left = left) : RErr w m (refFoot m lv R) (code, s') e w' := by
  subst h2 h3 h4
  obtain ⟨rfl, lv', hd, hu, hf⟩ := h
  exact ⟨rfl, _, ⟨lv', R', hd, h1, rfl⟩, hu.mono (fun k _ e => .inl e), hf⟩
theorem RPostA.step {lv : Value} {R : List RRec} {fs' : FS} {off armed : Bool} {left : Nat} {code : Int} {e : Ending} {w' : World} {s' : DSt} (h : RPostA w m off armed left lv R fs' code e w') (h1 : s'.fs = fs') (h2 : s'.off = off) (h3 : s'.armed = armed) (h4 : s'.left = left) : RErr w m (refFoot m lv R) (code, s') e w' := by
  subst h2 h3 h4
  obtain ⟨rfl, lv', R', hd, he, hu, hf⟩ := h
  exact ⟨rfl, _, ⟨lv', R', hd, h1.trans he.symm, rfl⟩, hu.mono (fun k _ e => .inl e), hf⟩
theorem out_step {lv : Value} {R : List RRec} {off armed : Bool} {left : Nat} {code : Int} {e : Ending} {w' : World} {s' : DSt} (h : e = retE code ∧ RefL w' m off armed left lv R ∧ Upd (fun k => k = m) w w') (h1 : s'.fs = R.map absRR) (h2 : s'.off = off) (h3 : s'.armed = armed) (h4 : s'.left = left) : RErr w m (refFoot m lv R) (code, s') e w' := by
  subst h2 h3 h4
  obtain ⟨rfl, hd, hu⟩ := h
  exact ⟨rfl, _, ⟨lv, R, hd, h1, rfl⟩, hu.mono (fun k _ e => .inl e), fun k hk => .inl hk⟩
theorem same_step {code : Int} {e : Ending} {w' : World} (hd : RefAt w m s F) (h : e = retE code ∧ w = w') : RErr w m F (code, s) e w' := by
  obtain ⟨rfl, rfl⟩ := h
  exact ⟨rfl, RefStep.refl hd⟩

theorem rsync_spec (h : RefAt w m s F) (hp : PW s.fs) (nm : List UInt8) : Calls Try.prog 51 #[ptrV m, strV nm] w (RErr w m F (sSync s nm)) := by
  have H := h
  obtain ⟨fs, off, armed, left⟩ := s
  obtain ⟨lv, R, h1, h2, rfl⟩ := h
  simp only at h1 h2 hp
  subst h2
  cases nm with
  | nil => exact (rsync_arg m w).mono (fun e w' hh => same_step H hh)
  | cons c0 nm0 =>
    have hn : (c0 :: nm0).isEmpty = false := rfl
    generalize c0 :: nm0 = nm at hn ⊢
    have hne : nm ≠ [] := by rintro rfl; cases hn
    cases off with
    | true =>
      rw [show sSync ⟨R.map absRR, true, armed, left⟩ nm = (103, ⟨R.map absRR, true, armed, left⟩) by simp [sSync, sChange, hne]]
      exact (rsync_off h1 nm hn).mono (fun e w' hh => same_step H hh)
    | false =>
      rcases idx_cases R nm with ⟨i1, i2, i3⟩ | ⟨i, r, i1, i2, i3, i4⟩
      · rw [show sSync ⟨R.map absRR, false, armed, left⟩ nm = (6, ⟨R.map absRR, false, armed, left⟩) by simp [sSync, sChange, hne, i2]]
        exact (rsync_no h1 nm hn i1).mono (fun e w' hh => same_step H hh)
      · cases hwb : wrB armed left with
        | false =>
          rw [show sSync ⟨R.map absRR, false, armed, left⟩ nm = (103, ⟨R.map absRR, true, armed, wrL armed left⟩) by simp [sSync, sChange, hne, i4, hwb, wrS]]
          exact (rsync_out h1 nm hn i i1 hwb).mono (fun e w' hh => out_step hh rfl rfl rfl rfl)
        | true =>
          rw [show sSync ⟨R.map absRR, false, armed, left⟩ nm = (0, ⟨setF nm ⟨r.c, r.c.length⟩ (R.map absRR), false, armed, wrL armed left⟩) by simp [sSync, sChange, hne, i4, hwb, wrS]]
          refine (rsync_yes h1 nm hn i i1 r i2 hwb).mono (fun e w' hh => hh.step ?_ rfl rfl rfl)
          rw [set_abs hp i2 i3]
          simp [List.map_set, absRR, i3]

theorem rtruncate_spec (h : RefAt w m s F) (hp : PW s.fs) (nm : List UInt8) (z : Int) (hzl : -9223372036854775808 ≤ z) (hzh : z ≤ 9223372036854775807) : Calls Try.prog 50 #[ptrV m, strV nm, .int .i64 z] w (RErr w m F (sTruncate s nm z)) := by
  have H := h
  obtain ⟨fs, off, armed, left⟩ := s
  obtain ⟨lv, R, h1, h2, rfl⟩ := h
  simp only at h1 h2 hp
  subst h2
  cases nm with
  | nil => exact (rtruncate_arg m w z).mono (fun e w' hh => same_step H hh)
  | cons c0 nm0 =>
    have hn : (c0 :: nm0).isEmpty = false := rfl
    generalize c0 :: nm0 = nm at hn ⊢
    have hne : nm ≠ [] := by rintro rfl; cases hn
    cases off with
    | true =>
      rw [show sTruncate ⟨R.map absRR, true, armed, left⟩ nm z = (103, ⟨R.map absRR, true, armed, left⟩) by simp [sTruncate, sChange, hne]]
      exact (rtruncate_off h1 nm hn z).mono (fun e w' hh => same_step H hh)
    | false =>
      rcases idx_cases R nm with ⟨i1, i2, i3⟩ | ⟨i, r, i1, i2, i3, i4⟩
      · rw [show sTruncate ⟨R.map absRR, false, armed, left⟩ nm z = (6, ⟨R.map absRR, false, armed, left⟩) by simp [sTruncate, sChange, hne, i2]]
        exact (rtruncate_no h1 nm hn i1 z).mono (fun e w' hh => same_step H hh)
      · cases hwb : wrB armed left with
        | false =>
          rw [show sTruncate ⟨R.map absRR, false, armed, left⟩ nm z = (103, ⟨R.map absRR, true, armed, wrL armed left⟩) by simp [sTruncate, sChange, hne, i4, hwb, wrS]]
          exact (rtruncate_out h1 nm hn i i1 hwb z).mono (fun e w' hh => out_step hh rfl rfl rfl rfl)
        | true =>
          rw [show sTruncate ⟨R.map absRR, false, armed, left⟩ nm z = (0, ⟨setF nm ⟨r.c.take (cutAt z r.c.length), min r.dur (cutAt z r.c.length)⟩ (R.map absRR), false, armed, wrL armed left⟩) by simp [sTruncate, sChange, hne, i4, hwb, wrS]]
          refine (rtruncate_yes h1 nm hn i i1 r i2 hwb z hzl hzh).mono (fun e w' hh => hh.step ?_ rfl rfl rfl)
          rw [set_abs hp i2 i3, i3]

theorem rremove_spec (h : RefAt w m s F) (hp : PW s.fs) (nm : List UInt8) : Calls Try.prog 53 #[ptrV m, strV nm] w (RErr w m F (sRemove s nm)) := by
  have H := h
  obtain ⟨fs, off, armed, left⟩ := s
  obtain ⟨lv, R, h1, h2, rfl⟩ := h
  simp only at h1 h2 hp
  subst h2
  cases nm with
  | nil => exact (rremove_arg m w).mono (fun e w' hh => same_step H hh)
  | cons c0 nm0 =>
    have hn : (c0 :: nm0).isEmpty = false := rfl
    generalize c0 :: nm0 = nm at hn ⊢
    have hne : nm ≠ [] := by rintro rfl; cases hn
    cases off with
    | true =>
      rw [show sRemove ⟨R.map absRR, true, armed, left⟩ nm = (103, ⟨R.map absRR, true, armed, left⟩) by simp [sRemove, sChange, hne]]
      exact (rremove_off h1 nm hn).mono (fun e w' hh => same_step H hh)
    | false =>
      rcases idx_cases R nm with ⟨i1, i2, i3⟩ | ⟨i, r, i1, i2, i3, i4⟩
      · rw [show sRemove ⟨R.map absRR, false, armed, left⟩ nm = (6, ⟨R.map absRR, false, armed, left⟩) by simp [sRemove, sChange, hne, i2]]
        exact (rremove_no h1 nm hn i1).mono (fun e w' hh => same_step H hh)
      · cases hwb : wrB armed left with
        | false =>
          rw [show sRemove ⟨R.map absRR, false, armed, left⟩ nm = (103, ⟨R.map absRR, true, armed, wrL armed left⟩) by simp [sRemove, sChange, hne, i4, hwb, wrS]]
          exact (rremove_out h1 nm hn i i1 hwb).mono (fun e w' hh => out_step hh rfl rfl rfl rfl)
        | true =>
          rw [show sRemove ⟨R.map absRR, false, armed, left⟩ nm = (0, ⟨delF nm (R.map absRR), false, armed, wrL armed left⟩) by simp [sRemove, sChange, hne, i4, hwb, wrS]]
          exact (rremove_yes h1 nm hn i i1 (List.getElem?_eq_some_iff.1 i2).1 hwb).mono (fun e w' hh => hh.step (del_abs hp i2 i3) rfl rfl rfl)

set_option maxRecDepth 100000 in
theorem rrename_argto (m : Nat) (w : World) (nm : List UInt8) (hn : nm.isEmpty = false) : Calls Try.prog 52 #[ptrV m, strV nm, strV []] w fun e w' => e = retE 1 ∧ w = w' := by
  go_enter Try.func52, Try.ntmps52
  go_wp2
  go_ret
  exact ⟨rfl, rfl⟩

theorem cut_len {R : List RRec} {i : Nat} {r : RRec} (hr : R[i]? = some r) : (R.take i ++ R.drop (i + 1)).length + 1 = R.length := by
  have := (List.getElem?_eq_some_iff.1 hr).1
  simp
  omega
theorem cut_pw {R : List RRec} {i : Nat} (hp : PW (R.map absRR)) : PW ((R.take i ++ R.drop (i + 1)).map absRR) := by
  refine hp.sublist (List.Sublist.map _ ?_)
  calc R.take i ++ R.drop (i + 1) = R.eraseIdx i := by rw [List.eraseIdx_eq_take_drop_succ]
    List.Sublist _ R := List.eraseIdx_sublist R i
theorem cut_no {R : List RRec} {i : Nat} {r : RRec} (hp : PW (R.map absRR)) (hr : R[i]? = some r) {x : RRec} (hx : x ∈ R.take i ++ R.drop (i + 1)) : x.nm ≠ r.nm := by
  have h1 := del_abs hp hr rfl
  have h2 : absRR x ∈ delF r.nm (R.map absRR) := by rw [h1]; exact List.mem_map.2 ⟨x, hx, rfl⟩
  have := (List.mem_filter.1 h2).2
  simpa [absRR] using this

theorem rrename_spec (h : RefAt w m s F) (hp : PW s.fs) (nm to : List UInt8) : Calls Try.prog 52 #[ptrV m, strV nm, strV to] w (RErr w m F (sRename s nm to)) := by
  have H := h
  obtain ⟨fs, off, armed, left⟩ := s
  obtain ⟨lv, R, h1, h2, rfl⟩ := h
  simp only at h1 h2 hp
  subst h2
  cases nm with
  | nil =>
    rw [show sRename ⟨R.map absRR, off, armed, left⟩ [] to = (1, ⟨R.map absRR, off, armed, left⟩) by unfold sRename sChange; split <;> simp]
    exact (rrename_arg m w to).mono (fun e w' hh => same_step H hh)
  | cons c0 nm0 =>
    have hn : (c0 :: nm0).isEmpty = false := rfl
    generalize c0 :: nm0 = nm at hn ⊢
    have hne : nm ≠ [] := by rintro rfl; cases hn
    cases to with
    | nil =>
      rw [show sRename ⟨R.map absRR, off, armed, left⟩ nm [] = (1, ⟨R.map absRR, off, armed, left⟩) by simp [sRename]]
      exact (rrename_argto m w nm hn).mono (fun e w' hh => same_step H hh)
    | cons c1 to0 =>
      have ht : (c1 :: to0).isEmpty = false := rfl
      generalize c1 :: to0 = to at ht ⊢
      have hto : to ≠ [] := by rintro rfl; cases ht
      cases off with
      | true =>
        rw [show sRename ⟨R.map absRR, true, armed, left⟩ nm to = (103, ⟨R.map absRR, true, armed, left⟩) by simp [sRename, sChange, hne, hto]]
        exact (rrename_off h1 nm hn to ht).mono (fun e w' hh => same_step H hh)
      | false =>
        rcases idx_cases R nm with ⟨i1, i2, i3⟩ | ⟨i, r, i1, i2, i3, i4⟩
        · rw [show sRename ⟨R.map absRR, false, armed, left⟩ nm to = (6, ⟨R.map absRR, false, armed, left⟩) by simp [sRename, sChange, hne, hto, i2]]
          exact (rrename_no h1 nm hn i1 to ht).mono (fun e w' hh => same_step H hh)
        · cases hwb : wrB armed left with
          | false =>
            rw [show sRename ⟨R.map absRR, false, armed, left⟩ nm to = (103, ⟨R.map absRR, true, armed, wrL armed left⟩) by simp [sRename, sChange, hne, hto, i4, hwb, wrS]]
            exact (rrename_out h1 nm hn i i1 hwb to ht).mono (fun e w' hh => out_step hh rfl rfl rfl rfl)
          | true =>
            rw [show sRename ⟨R.map absRR, false, armed, left⟩ nm to = (0, ⟨insF (to, ⟨r.c, r.dur⟩) (delF to (delF nm (R.map absRR))), false, armed, wrL armed left⟩) by simp [sRename, sChange, hne, hto, i4, hwb, wrS]]
            have hd := del_abs hp i2 i3
            have hp2 : PW ((R.take i ++ R.drop (i + 1)).map absRR) := cut_pw hp
            rcases idx_cases (R.take i ++ R.drop (i + 1)) to with ⟨j1, j2, j3⟩ | ⟨k, q, j1, j2, j3, j4⟩
            · refine (rrename_fresh h1 nm to hn ht i i1 r i2 hwb j1 j3).mono (fun e w' hh => hh.step ?_ rfl rfl rfl)
              rw [ins_abs, hd, del_none]
              · rfl
              · intro p hp'
                obtain ⟨x, hx, rfl⟩ := List.mem_map.1 hp'
                exact j3 x hx
            · refine (rrename_old h1 nm to hn ht i i1 r i2 hwb k (List.getElem?_eq_some_iff.1 j2).1 j1 (fun x hx => by rw [← j3]; exact cut_no hp2 j2 hx)).mono (fun e w' hh => hh.step ?_ rfl rfl rfl)
              rw [ins_abs, hd, del_abs hp2 j2 j3]
              rfl

theorem ins_pw {r : RRec} : ∀ {R : List RRec}, PW (R.map absRR) → (∀ x ∈ R, x.nm ≠ r.nm) → PW ((insRR r R).map absRR)
  | [], _, _ => by simp [insRR, PW]
  | y :: R, hp, h => by
    simp only [insRR]
    split
    · rw [List.map_cons, PW, List.pairwise_cons]
      refine ⟨fun p hp' => ?_, hp⟩
      obtain ⟨x, hx, rfl⟩ := List.mem_map.1 hp'
      exact fun e => h x hx e.symm
    · rw [List.map_cons, PW, List.pairwise_cons] at hp ⊢
      refine ⟨fun p hp' => ?_, ins_pw hp.2 (fun x hx => h x (List.mem_cons_of_mem _ hx))⟩
      obtain ⟨x, hx, rfl⟩ := List.mem_map.1 hp'
      rcases insRR_mem hx with rfl | hx
      · exact h y (by simp)
      · exact hp.1 _ (List.mem_map.2 ⟨x, hx, rfl⟩)

theorem rappend_spec (h : RefAt w m s F) (hp : PW s.fs) (nm : List UInt8) (v : Value) (b : List UInt8) (hb : RdB (fun k => k = m) w v b) (hl : ((getF s.fs nm).getD ⟨[], 0⟩).c.length + b.length ≤ 1099511627776) (hL : s.fs.length + 1 ≤ 1099511627776) :
    Calls Try.prog 35 #[ptrV m, strV nm, v] w (RErr w m F (sAppend s nm b)) := by
  have H := h
  obtain ⟨fs, off, armed, left⟩ := s
  obtain ⟨lv, R, h1, h2, rfl⟩ := h
  simp only at h1 h2 hp hl hL
  subst h2
  rw [List.length_map] at hL
  cases nm with
  | nil => exact (rappend_arg m w v).mono (fun e w' hh => same_step H hh)
  | cons c0 nm0 =>
    have hn : (c0 :: nm0).isEmpty = false := rfl
    generalize c0 :: nm0 = nm at hn hl ⊢
    have hne : nm ≠ [] := by rintro rfl; cases hn
    cases off with
    | true =>
      rw [show sAppend ⟨R.map absRR, true, armed, left⟩ nm b = (103, ⟨R.map absRR, true, armed, left⟩) by simp [sAppend, hne]]
      exact (rappend_off h1 nm hn v).mono (fun e w' hh => same_step H hh)
    | false =>
      rcases idx_cases R nm with ⟨i1, i2, i3⟩ | ⟨i, r, i1, i2, i3, i4⟩
      · obtain ⟨i, j1, j2⟩ := ins_idx ⟨nm, .slice none 0 0, [], 0⟩ R i3
        have hpi : setF nm ⟨b, 0⟩ (insF (nm, ⟨[], 0⟩) (R.map absRR)) = ((insRR ⟨nm, .slice none 0 0, [], 0⟩ R).map absRR).set i (nm, ⟨b, 0⟩) := by
          have := set_abs (ins_pw (r := ⟨nm, .slice none 0 0, [], 0⟩) hp i3) j2 rfl ⟨b, 0⟩
          rw [← this, ins_abs]
          rfl
        rw [show sAppend ⟨R.map absRR, false, armed, left⟩ nm b = (if wrB armed left then 0 else 103, ⟨setF nm ⟨b, 0⟩ (insF (nm, ⟨[], 0⟩) (R.map absRR)), !wrB armed left, armed, wrL armed left⟩) by simp [sAppend, hne, i2, wrS, withFile]]
        exact (rappend_new h1 nm hn i1 i3 hL i j1 j2 v b hb (by omega)).mono (fun e w' hh => RPostA.step hh hpi rfl rfl rfl)
      · rw [show sAppend ⟨R.map absRR, false, armed, left⟩ nm b = (if wrB armed left then 0 else 103, ⟨setF nm ⟨r.c ++ b, r.dur⟩ (R.map absRR), !wrB armed left, armed, wrL armed left⟩) by simp [sAppend, hne, i4, wrS, withFile]]
        refine (rappend_yes h1 nm hn i i1 r i2 v b hb (by rw [i4] at hl; exact hl)).mono (fun e w' hh => RPostA.step hh ?_ rfl rfl rfl)
        rw [set_abs hp i2 i3, i3]

theorem rread_spec (h : RefAt w m s F) (nm : List UInt8) : Calls Try.prog 22 #[ptrV m, strV nm] w (BytesErr w (sRead s nm)) := by
  obtain ⟨fs, off, armed, left⟩ := s
  obtain ⟨lv, R, h1, h2, rfl⟩ := h
  simp only at h1 h2
  subst h2
  cases nm with
  | nil =>
    refine (rread_arg m w).mono ?_
    rintro e w' ⟨rfl, rfl⟩
    exact ⟨none, 0, rfl, NewB.nil w⟩
  | cons c0 nm0 =>
    have hn : (c0 :: nm0).isEmpty = false := rfl
    generalize c0 :: nm0 = nm at hn ⊢
    have hne : nm ≠ [] := by rintro rfl; cases hn
    cases off with
    | true =>
      rw [show sRead ⟨R.map absRR, true, armed, left⟩ nm = ([], 103) by simp [sRead, hne]]
      refine (rread_off h1 nm hn).mono ?_
      rintro e w' ⟨rfl, rfl⟩
      exact ⟨none, 0, rfl, NewB.nil w⟩
    | false =>
      rcases idx_cases R nm with ⟨i1, i2, i3⟩ | ⟨i, r, i1, i2, i3, i4⟩
      · rw [show sRead ⟨R.map absRR, false, armed, left⟩ nm = ([], 6) by simp [sRead, hne, i2]]
        refine (rread_no h1 nm hn i1).mono ?_
        rintro e w' ⟨rfl, rfl⟩
        exact ⟨none, 0, rfl, NewB.nil w⟩
      · rw [show sRead ⟨R.map absRR, false, armed, left⟩ nm = (r.c, 0) by simp [sRead, hne, i4]]
        exact rread_yes h1 nm hn i i1 r i2

theorem rarm_spec (h : RefAt w m s F) (n : Int) (h0 : -9223372036854775808 ≤ n) (h1 : n ≤ 9223372036854775807) :
    Calls Try.prog 34 #[ptrV m, .int .i64 n] w fun e w' => e = .returned (.tuple #[]) ∧ RefStep w m (sArm s n) F w' := by
  obtain ⟨lv, R, hd, hs, rfl⟩ := h
  refine (rarm_any hd n h0 h1).mono ?_
  rintro e w' ⟨rfl, h2, h3⟩
  exact ⟨rfl, _, ⟨lv, R, h2, hs, rfl⟩, h3.mono (fun k _ e => .inl e), fun k hk => .inl hk⟩
end
end Go.Proofs.Ytmapijpphnlcmaa
