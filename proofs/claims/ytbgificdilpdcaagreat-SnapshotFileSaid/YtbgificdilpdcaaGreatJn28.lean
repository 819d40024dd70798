/- WriteSnapshot of the reference computes what Write of package snapshot computes. Conditions: sizes, names pairwise distinct. SnapshotDamaged returns true. No condition. The snapshot's file on plain data: written twice, the second time with a power failure, a crash, and read. No condition but the sizes. -/
import Derived.Test.YtbgificdilpdcaaGreatJn27
import Derived.Test.YtbgificdilpdcaaGreatEnc2
import Derived.Test.YtbgificdilpdcaaGreatJn24
namespace Go.Proofs.YtbgificdilpdcaaGreat
section
open Go.RowKit

theorem pw_same32 {fs fs' : FS} (h : fs'.map (·.1) = fs.map (·.1)) (hp : PW fs) : PW fs' := by
  have h1 : (fs.map (·.1)).Pairwise (· ≠ ·) := List.pairwise_map.2 hp
  rw [← h] at h1
  exact List.pairwise_map.1 h1
theorem pw_set32 {fs : FS} (hp : PW fs) (nm : List UInt8) (f : FSt) : PW (setF nm f fs) := by
  refine pw_same32 ?_ hp
  unfold setF
  rw [List.map_map]
  refine List.map_congr_left (fun p _ => ?_)
  simp only [Function.comp]
  split <;> rfl
theorem pw_del32 {fs : FS} (hp : PW fs) (nm : List UInt8) : PW (delF nm fs) := hp.sublist List.filter_sublist
theorem mem_ins32 {x p : List UInt8 × FSt} {fs : FS} (h : p ∈ insF x fs) : p = x ∨ p ∈ fs := by
  induction fs with
  | nil => exact .inl (by simpa [insF] using h)
  | cons y l ih =>
    unfold insF at h
    split at h
    · simpa using h
    · rcases List.mem_cons.1 h with rfl | h
      · exact .inr (by simp)
      · rcases ih h with h | h
        · exact .inl h
        · exact .inr (by simp [h])
theorem pw_ins32 {x : List UInt8 × FSt} : ∀ {fs : FS}, PW fs → (∀ p ∈ fs, p.1 ≠ x.1) → PW (insF x fs)
  | [], _, _ => by simp [insF, PW]
  | y :: l, hp, hn => by
    have hp' := List.pairwise_cons.1 hp
    unfold insF
    split
    · exact List.pairwise_cons.2 ⟨fun p h => (hn p h).symm, hp⟩
    · refine List.pairwise_cons.2 ⟨fun p h => ?_, pw_ins32 hp'.2 (fun p h => hn p (by simp [h]))⟩
      rcases mem_ins32 h with rfl | h
      · exact hn y (by simp)
      · exact hp'.1 p h
theorem get_none32 {fs : FS} {nm : List UInt8} (h : getF fs nm = none) : ∀ p ∈ fs, p.1 ≠ nm := by
  unfold getF at h
  rw [Option.map_eq_none_iff, List.find?_eq_none] at h
  intro p hp
  simpa using h p hp
theorem pw_remove32 {s : DSt} (hp : PW s.fs) (nm : List UInt8) : PW (sRemove s nm).2.fs := by
  unfold sRemove sChange
  split
  · exact hp
  · split
    · exact hp
    · split
      · exact hp
      · split
        · exact pw_del32 hp _
        · exact hp
theorem pw_sync32 {s : DSt} (hp : PW s.fs) (nm : List UInt8) : PW (sSync s nm).2.fs := by
  unfold sSync sChange
  split
  · exact hp
  · split
    · exact hp
    · split
      · exact hp
      · split
        · exact pw_set32 hp _ _
        · exact hp
theorem pw_append32 {s : DSt} (hp : PW s.fs) (nm b : List UInt8) : PW (sAppend s nm b).2.fs := by
  unfold sAppend
  split
  · exact hp
  · split
    · exact hp
    · simp only [wrS]
      refine pw_set32 ?_ _ _
      unfold withFile
      split
      · rename_i h
        exact pw_ins32 hp (get_none32 h)
      · exact hp

theorem DiskAt.pw32 {w : World} {d : Nat} {s : DSt} {F : Nat → Prop} (h : DiskAt w d s F) : PW s.fs := by
  obtain ⟨mb, L, hd, hs, rfl⟩ := h
  rw [hs]
  exact absL_pairwise hd
theorem DiskAt.durs32 {w : World} {d : Nat} {s : DSt} {F : Nat → Prop} (h : DiskAt w d s F) : ∀ p ∈ s.fs, p.2.dur ≤ p.2.c.length := by
  obtain ⟨mb, L, hd, hs, rfl⟩ := h
  intro p hp
  rw [hs] at hp
  obtain ⟨r, hr, rfl⟩ := List.mem_map.1 hp
  exact hd.dur r hr

/-! ### the reference disk since the world w0, when its blocks were those of F0 -/
def Rk (w0 : World) (F0 : Nat → Prop) (m : Nat) (s : DSt) (w : World) : Prop := RefStep w0 m s F0 w
def ErrRk (w0 : World) (F0 : Nat → Prop) (m : Nat) (r : Int × DSt) (e : Ending) (w' : World) : Prop := e = retE r.1 ∧ Rk w0 F0 m r.2 w'
section
variable {w0 w w' : World} {F0 : Nat → Prop} {m : Nat} {s : DSt}
theorem RErr.rk {F : Nat → Prop} {r : Int × DSt} {e : Ending} (hF : ∀ k, F k → F0 k ∨ w0.heap.size ≤ k) (hb : Upd F0 w0 w) (h : RErr w m F r e w') : ErrRk w0 F0 m r e w' := by
  obtain ⟨he, F2, a2, b2, c2⟩ := h
  refine ⟨he, F2, a2, hb.trans b2 (fun k hk f => (hF k f).resolve_right (by omega)), fun k hk => ?_⟩
  rcases c2 k hk with e | e
  · exact hF k e
  · exact .inr (Nat.le_trans hb.size e)
theorem RefAt.rk {F : Nat → Prop} (h : RefAt w m s F) : Rk w F m s w := RefStep.refl h
theorem Rk.out (h : Rk w0 F0 m s w) : Upd F0 w0 w := by obtain ⟨F, a, b, c⟩ := h; exact b
theorem rremove_rk (h : Rk w0 F0 m s w) (hp : PW s.fs) (nm : List UInt8) : Calls Tryz.prog 53 #[ptrV m, strV nm] w (ErrRk w0 F0 m (sRemove s nm)) := by
  obtain ⟨F, a, b', c⟩ := h
  exact (rremove_spec a hp nm).mono fun e w' he => he.rk c b'
theorem rsync_rk (h : Rk w0 F0 m s w) (hp : PW s.fs) (nm : List UInt8) : Calls Tryz.prog 55 #[ptrV m, strV nm] w (ErrRk w0 F0 m (sSync s nm)) := by
  obtain ⟨F, a, b', c⟩ := h
  exact (rsync_spec a hp nm).mono fun e w' he => he.rk c b'
theorem rrename_rk (h : Rk w0 F0 m s w) (hp : PW s.fs) (nm to : List UInt8) : Calls Tryz.prog 56 #[ptrV m, strV nm, strV to] w (ErrRk w0 F0 m (sRename s nm to)) := by
  obtain ⟨F, a, b', c⟩ := h
  exact (rrename_spec a hp nm to).mono fun e w' he => he.rk c b'
theorem rappend_rk (h : Rk w0 F0 m s w) (hp : PW s.fs) (nm : List UInt8) (v : Value) (b : List UInt8) (hb : ∀ F : Nat → Prop, (∀ k, F k → (F0 k ∨ w0.heap.size ≤ k) ∧ k < w.heap.size) → RdB F w v b) (hl : ((getF s.fs nm).getD ⟨[], 0⟩).c.length + b.length ≤ 1099511627776) (hL : s.fs.length + 1 ≤ 1099511627776) :
    Calls Tryz.prog 54 #[ptrV m, strV nm, v] w (ErrRk w0 F0 m (sAppend s nm b)) := by
  obtain ⟨F, a, b', c⟩ := h
  exact (rappend_spec a hp nm v b ((hb F (fun k hk => ⟨c k hk, a.lt32 hk⟩)).mono (fun k _ e => by rw [e]; exact a.mem32)) hl hL).mono fun e w' he => he.rk c b'
theorem rk_from {w2 : World} {F : Nat → Prop} {r : Int × DSt} {e : Ending} (hu : Upd NoF w w2) (h : ErrRk w2 F m r e w') : RErr w m F r e w' := by
  obtain ⟨he, F', a, b, c⟩ := h
  refine ⟨he, F', a, (hu.mono (fun k _ e => e.elim)).trans b (fun _ _ h => h), fun k hk => ?_⟩
  rcases c k hk with e | e
  · exact .inl e
  · exact .inr (Nat.le_trans hu.size e)
end

/-- What Write does once the temporary file is gone. -/
def sTail (s : DSt) (nm b : List UInt8) : Int × DSt :=
  if (sAppend s (tmpN nm) b).1 ≠ 0 then sAppend s (tmpN nm) b else
  if (sSync (sAppend s (tmpN nm) b).2 (tmpN nm)).1 ≠ 0 then sSync (sAppend s (tmpN nm) b).2 (tmpN nm) else
  sRename (sSync (sAppend s (tmpN nm) b).2 (tmpN nm)).2 (tmpN nm) nm
theorem sTail_eq (s : DSt) (nm b : List UInt8) : sTail s nm b = if (sAppend s (tmpN nm) b).1 ≠ 0 then sAppend s (tmpN nm) b else
  if (sSync (sAppend s (tmpN nm) b).2 (tmpN nm)).1 ≠ 0 then sSync (sAppend s (tmpN nm) b).2 (tmpN nm) else
  sRename (sSync (sAppend s (tmpN nm) b).2 (tmpN nm)).2 (tmpN nm) nm := rfl
theorem tmp_ne (nm : List UInt8) : tmpN nm ≠ [] := by unfold tmpN; simp
theorem sWrite_bad {s : DSt} {nm : List UInt8} {V : ViewS} (h : (encodeS V).2 ≠ 0) : sWrite s nm V = ((encodeS V).2, s) := by unfold sWrite; rw [if_pos h]
theorem sWrite_none {s : DSt} {nm : List UInt8} {V : ViewS} (h : (encodeS V).2 = 0) (hg : getF s.fs (tmpN nm) = none) : sWrite s nm V = sTail s nm (encodeS V).1 := by
  unfold sWrite
  rw [if_neg (by simp [h])]
  cases ho : s.off with
  | true =>
    have e1 : sRemove s (tmpN nm) = (103, s) := by unfold sRemove sChange; rw [if_neg (tmp_ne nm), if_pos ho]
    have e2 : sAppend s (tmpN nm) (encodeS V).1 = (103, s) := by unfold sAppend; rw [if_neg (tmp_ne nm), if_pos ho]
    rw [e1, if_pos (by simp)]
    unfold sTail
    rw [e2, if_pos (by simp)]
  | false =>
    have e1 : sRemove s (tmpN nm) = (6, s) := by
      unfold sRemove sChange
      rw [if_neg (tmp_ne nm), if_neg (by simp [ho])]
      simp only [hg]
    rw [e1, if_neg (by simp)]
    rfl
theorem sWrite_some {s : DSt} {nm : List UInt8} {V : ViewS} {f : FSt} (h : (encodeS V).2 = 0) (hg : getF s.fs (tmpN nm) = some f) : sWrite s nm V = if (sRemove s (tmpN nm)).1 ≠ 0 then sRemove s (tmpN nm) else sTail (sRemove s (tmpN nm)).2 nm (encodeS V).1 := by
  unfold sWrite
  rw [if_neg (by simp [h])]
  have h6 : (sRemove s (tmpN nm)).1 ≠ 6 := by
    unfold sRemove sChange
    rw [if_neg (tmp_ne nm)]
    split
    · simp
    · simp only [hg]
      split <;> simp
  by_cases h0 : (sRemove s (tmpN nm)).1 = 0
  · rw [if_neg (show ¬ ((sRemove s (tmpN nm)).1 ≠ 0 ∧ (sRemove s (tmpN nm)).1 ≠ 6) from by simp [h0]), if_neg (show ¬ (sRemove s (tmpN nm)).1 ≠ 0 from by simp [h0])]
    rfl
  · rw [if_pos ⟨h0, h6⟩, if_pos h0]

set_option maxRecDepth 100000 in
set_option maxHeartbeats 8000000 in
theorem WriteSnapshot_any {w : World} {F : Nat → Prop} {m : Nat} {s : DSt} {a b : Value} {V : ViewS} (h : RefAt w m s F) (hp : PW s.fs) (hv : VwR w a b V) (nm : List UInt8) (hm : nm.length ≤ 1000000) (hs1 : V.votes.length ≤ 1000000) (hs2 : V.texts.length ≤ 1000000)
    (hl0 : ((getF s.fs (tmpN nm)).getD ⟨[], 0⟩).c.length + (encodeS V).1.length ≤ 1099511627776) (hl : ((getF (sRemove s (tmpN nm)).2.fs (tmpN nm)).getD ⟨[], 0⟩).c.length + (encodeS V).1.length ≤ 1099511627776) (hL0 : s.fs.length + 1 ≤ 1099511627776) (hL1 : (sRemove s (tmpN nm)).2.fs.length + 1 ≤ 1099511627776) :
    Calls Tryz.prog 18 #[ptrV m, strV nm, .agg #[a, b]] w (RErr w m F (sWrite s nm V)) := by
  have HV := Lib.hid hv
  obtain ⟨A, ca, hea, -, -⟩ := hv.1.form
  obtain ⟨B, cb, heb, -, -⟩ := hv.2.form
  have UW := Lib.hid ((Upd.refl NoF w).alloc (.cells #[a, b] 25))
  have BW := Lib.hid (Blk.new w 25 #[a, b])
  obtain ⟨W1, hW1⟩ : ∃ x, x = w.alloc (.cells #[a, b] 25) := ⟨_, rfl⟩
  rw [← hW1] at UW BW
  have CE := Lib.hid (EncodeView_any (hv.keep UW.out) hs1 hs2)
  have c0 : W1.cell? ⟨w.heap.size, 0, none⟩ = some a := BW.out.cell 0
  have c1 : W1.cell? ⟨w.heap.size, 1, none⟩ = some b := BW.out.cell 1
  rw [hW1] at c0 c1
  have HL0 := Lib.hid hl0
  have HL := Lib.hid hl
  have HLL0 := Lib.hid hL0
  have HL1 := Lib.hid hL1
  have hcat : (({ data := nm.toArray } : ByteArray) ++ { data := #[46, 110, 101, 119] }) = { data := (tmpN nm).toArray } := str_cat nm [46, 110, 101, 119]
  have hll : ¬ (9223372036854775807 < nm.length + 4) := by omega
  have HD := Lib.hid h
  have HP := Lib.hid hp
  clear hv h hl hL1 hp hl0 hL0
  subst hea heb
  go_enter Tryz.func18, Tryz.ntmps18
  go_wp2_with fail
  rw [← hW1]
  clear hW1
  refine CE.out.mono ?_
  rintro e w2 ⟨A2, c2, rfl, hn2⟩
  have E2 := Lib.hid hn2
  have UW2 := Lib.hid (UW.out.trans hn2.2.2 (fun _ _ f => f))
  have D2 := Lib.hid (HD.out.upd32 UW2.out (fun _ _ f => f))
  clear hn2
  by_cases h0 : (encodeS V).2 = 0
  rotate_left
  · have SW := Lib.hid (sWrite_bad (s := s) (nm := nm) h0)
    generalize (encodeS V).2 = ec at h0 SW ⊢
    have t0 : decide (ec = 0) = false := by simp [h0]
    have t0' : (ec == 0) = false := by simp [h0]
    go_wp2
    go_ret
    rw [SW.out]
    exact rk_from UW2.out ⟨rfl, D2.out.rk⟩
  have H0 := Lib.hid h0
  rw [h0]
  obtain ⟨lv, R, hR1, hR2, hR3⟩ := D2.out
  have FI := find_any hR1 (tmpN nm)
  have IC := idx_cases R (tmpN nm)
  rw [← hR2] at IC
  clear hR1 hR2 hR3 h0
  rcases IC with ⟨i1, i2, -⟩ | ⟨i, r, i1, -, -, i2⟩
  · rw [i1] at FI
    have SW := Lib.hid (sWrite_none (s := s) (nm := nm) H0.out i2)
    have CF := Lib.hid FI
    have N3 := Lib.hid D2.out.rk
    clear i1 i2 FI
    go_wp2_with (go_at_call 52; refine CF.out.mono ?_; rintro e w3 ⟨rfl, rfl⟩)
    refine (rappend_rk N3.out HP.out (tmpN nm) _ _ (fun G hG => ?_) HL0.out HLL0.out).mono ?_
    · have hne : ∀ k, OwnB (.slice A2 (encodeS V).1.length c2) k → ¬ F k := fun k hk f => by have h1 := HD.out.lt32 f; have h2 := E2.out.2.1 k hk; have h3 := UW.out.size; omega
      refine (E2.out.1.upd N3.out.out hne).rdF (fun k hk f => ?_)
      rcases (hG k f).1 with q | q
      · exact hne k hk q
      · have := E2.out.1.lt hk; omega
    rintro e w4 ⟨rfl, hd4⟩
    have HP4 := Lib.hid (pw_append32 HP.out (tmpN nm) (encodeS V).1)
    obtain ⟨⟨e2, s2⟩, hr2⟩ : ∃ x, sAppend s (tmpN nm) (encodeS V).1 = x := ⟨_, rfl⟩
    have ST := Lib.hid (sTail_eq s nm (encodeS V).1)
    rw [hr2] at hd4 HP4 ST ⊢
    have N4 := Lib.hid hd4
    clear hd4 hr2
    by_cases h2 : e2 = 0
    · subst h2
      rw [if_neg (by simp)] at ST
      go_wp2_with fail
      refine (rsync_rk N4.out HP4.out (tmpN nm)).mono ?_
      rintro e w5 ⟨rfl, hd5⟩
      have HP5 := Lib.hid (pw_sync32 HP4.out (tmpN nm))
      obtain ⟨⟨e3, s3⟩, hr3⟩ : ∃ x, sSync s2 (tmpN nm) = x := ⟨_, rfl⟩
      try simp only at ST
      try simp only at hd5
      try simp only at HP5
      rw [hr3] at ST hd5 HP5 ⊢
      have N5 := Lib.hid hd5
      clear hd5 hr3
      by_cases h3 : e3 = 0
      · subst h3
        rw [if_neg (by simp)] at ST
        go_wp2_with fail
        refine (rrename_rk N5.out HP5.out (tmpN nm) nm).mono ?_
        rintro e w6 ⟨rfl, hd6⟩
        have N6 := Lib.hid hd6
        clear hd6
        go_wp2
        go_ret
        rw [SW.out, ST.out]
        exact rk_from UW2.out ⟨rfl, N6.out⟩
      · have t3 : decide (e3 = 0) = false := by simp [h3]
        have t3' : (e3 == 0) = false := by simp [h3]
        rw [if_pos (by simpa using h3)] at ST
        go_wp2
        go_ret
        rw [SW.out, ST.out]
        exact rk_from UW2.out ⟨rfl, N5.out⟩
    · have t2 : decide (e2 = 0) = false := by simp [h2]
      have t2' : (e2 == 0) = false := by simp [h2]
      rw [if_pos (by simpa using h2)] at ST
      go_wp2
      go_ret
      rw [SW.out, ST.out]
      exact rk_from UW2.out ⟨rfl, N4.out⟩
  · rw [i1] at FI
    have SW := Lib.hid (sWrite_some (s := s) (nm := nm) H0.out i2)
    have CF := Lib.hid FI
    have N2 := Lib.hid D2.out.rk
    have q1 : (0 : Int) ≤ (i : Int) := by omega
    have q2 : decide ((0 : Int) ≤ (i : Int)) = true := by simp
    clear i1 i2 FI
    go_wp2_with (go_at_call 52; refine CF.out.mono ?_; rintro e w3 ⟨rfl, rfl⟩)
    refine (rremove_rk N2.out HP.out (tmpN nm)).mono ?_
    rintro e w3 ⟨rfl, hd3⟩
    have HP3 := Lib.hid (pw_remove32 HP.out (tmpN nm))
    obtain ⟨⟨e1, s1⟩, hr1⟩ : ∃ x, sRemove s (tmpN nm) = x := ⟨_, rfl⟩
    rw [hr1] at hd3 HL HL1 SW HP3 ⊢
    simp only at HL HL1 HP3 SW
    have N3 := Lib.hid hd3
    clear hd3 hr1
    by_cases h1 : e1 = 0
    · subst h1
      rw [if_neg (by simp)] at SW
      go_wp2_with fail
      refine (rappend_rk N3.out HP3.out (tmpN nm) _ _ (fun G hG => ?_) HL.out HL1.out).mono ?_
      · have hne : ∀ k, OwnB (.slice A2 (encodeS V).1.length c2) k → ¬ F k := fun k hk f => by have h1 := HD.out.lt32 f; have h2 := E2.out.2.1 k hk; have h3 := UW.out.size; omega
        refine (E2.out.1.upd N3.out.out hne).rdF (fun k hk f => ?_)
        rcases (hG k f).1 with q | q
        · exact hne k hk q
        · have := E2.out.1.lt hk; omega
      rintro e w4 ⟨rfl, hd4⟩
      have HP4 := Lib.hid (pw_append32 HP3.out (tmpN nm) (encodeS V).1)
      obtain ⟨⟨e2, s2⟩, hr2⟩ : ∃ x, sAppend s1 (tmpN nm) (encodeS V).1 = x := ⟨_, rfl⟩
      have ST := Lib.hid (sTail_eq s1 nm (encodeS V).1)
      rw [hr2] at hd4 HP4 ST ⊢
      have N4 := Lib.hid hd4
      clear hd4 hr2
      by_cases h2 : e2 = 0
      · subst h2
        rw [if_neg (by simp)] at ST
        go_wp2_with fail
        refine (rsync_rk N4.out HP4.out (tmpN nm)).mono ?_
        rintro e w5 ⟨rfl, hd5⟩
        have HP5 := Lib.hid (pw_sync32 HP4.out (tmpN nm))
        obtain ⟨⟨e3, s3⟩, hr3⟩ : ∃ x, sSync s2 (tmpN nm) = x := ⟨_, rfl⟩
        try simp only at ST
        try simp only at hd5
        try simp only at HP5
        rw [hr3] at ST hd5 HP5 ⊢
        have N5 := Lib.hid hd5
        clear hd5 hr3
        by_cases h3 : e3 = 0
        · subst h3
          rw [if_neg (by simp)] at ST
          go_wp2_with fail
          refine (rrename_rk N5.out HP5.out (tmpN nm) nm).mono ?_
          rintro e w6 ⟨rfl, hd6⟩
          have N6 := Lib.hid hd6
          clear hd6
          go_wp2
          go_ret
          rw [SW.out, ST.out]
          exact rk_from UW2.out ⟨rfl, N6.out⟩
        · have t3 : decide (e3 = 0) = false := by simp [h3]
          have t3' : (e3 == 0) = false := by simp [h3]
          rw [if_pos (by simpa using h3)] at ST
          go_wp2
          go_ret
          rw [SW.out, ST.out]
          exact rk_from UW2.out ⟨rfl, N5.out⟩
      · have t2 : decide (e2 = 0) = false := by simp [h2]
        have t2' : (e2 == 0) = false := by simp [h2]
        rw [if_pos (by simpa using h2)] at ST
        go_wp2
        go_ret
        rw [SW.out, ST.out]
        exact rk_from UW2.out ⟨rfl, N4.out⟩
    · have t1 : decide (e1 = 0) = false := by simp [h1]
      have t1' : (e1 == 0) = false := by simp [h1]
      rw [if_pos h1] at SW
      go_wp2
      go_ret
      rw [SW.out]
      exact rk_from UW2.out ⟨rfl, N3.out⟩
end

section
open Go.RowKit

abbrev damS (bs : List UInt8) : DSt := ⟨[([115], ⟨bs, 0⟩)], false, false, 0⟩
end

section
open Go.RowKit

abbrev fN : List UInt8 := [115]
abbrev fT : List UInt8 := [115, 46, 110, 101, 119]
def sF : Option (List UInt8) → FS
  | none => []
  | some b => [(fN, ⟨b, b.length⟩)]
theorem sF_len (x : Option (List UInt8)) : (sF x).length ≤ 1 := by cases x <;> simp [sF]
def oldS (x : Option (List UInt8)) : DSt := ⟨sF x, false, false, 0⟩
def armS (x : Option (List UInt8)) (k : Nat) : DSt := ⟨sF x, false, true, k⟩
theorem arm_old (x : Option (List UInt8)) (n : Int) : sArm (oldS x) n = armS x n.toNat := rfl
theorem tmp_fN : tmpN fN = fT := rfl
theorem get_fT (x : Option (List UInt8)) : getF (sF x) fT = none := by cases x <;> rfl

section
variable {armed : Bool} {k : Nat} {x : Option (List UInt8)} {b : List UInt8}
theorem f_remove : sRemove ⟨sF x, false, armed, k⟩ fT = (6, ⟨sF x, false, armed, k⟩) := by
  unfold sRemove sChange
  rw [if_neg (by decide), if_neg (by simp)]
  simp only [get_fT]
theorem ins_fT (f : FSt) : insF (fT, f) (sF x) = sF x ++ [(fT, f)] := by
  cases x with
  | none => rfl
  | some a => rfl
theorem set_fT (f g : FSt) : setF fT g (sF x ++ [(fT, f)]) = sF x ++ [(fT, g)] := by cases x <;> rfl
theorem get_fT2 (f : FSt) : getF (sF x ++ [(fT, f)]) fT = some f := by cases x <;> rfl
theorem del_fT (f : FSt) : delF fT (sF x ++ [(fT, f)]) = sF x := by cases x <;> rfl
theorem del_fN : delF fN (sF x) = [] := by cases x <;> rfl
theorem f_append : sAppend ⟨sF x, false, armed, k⟩ fT b = (if wrB armed k then 0 else 103, ⟨sF x ++ [(fT, ⟨b, 0⟩)], !wrB armed k, armed, wrL armed k⟩) := by
  unfold sAppend
  rw [if_neg (by decide), if_neg (by simp)]
  simp only [get_fT, withFile, ins_fT, set_fT, wrS, Bool.false_or, Option.getD_none, List.nil_append]
theorem f_sync {f : FSt} : sSync ⟨sF x ++ [(fT, f)], false, armed, k⟩ fT = if wrB armed k then (0, ⟨sF x ++ [(fT, ⟨f.c, f.c.length⟩)], false, armed, wrL armed k⟩) else (103, ⟨sF x ++ [(fT, f)], true, armed, wrL armed k⟩) := by
  unfold sSync sChange
  rw [if_neg (by decide), if_neg (by simp)]
  simp only [get_fT2, set_fT, wrS, Bool.false_or]
  split <;> simp_all
theorem f_rename {f : FSt} : sRename ⟨sF x ++ [(fT, f)], false, armed, k⟩ fT fN = if wrB armed k then (0, ⟨[(fN, f)], false, armed, wrL armed k⟩) else (103, ⟨sF x ++ [(fT, f)], true, armed, wrL armed k⟩) := by
  unfold sRename sChange
  rw [if_neg (by decide), if_neg (by decide), if_neg (by simp)]
  simp only [get_fT2, del_fT, del_fN, wrS, Bool.false_or]
  split <;> simp_all [insF]

def outS (x : Option (List UInt8)) (b : List UInt8) (k : Nat) : DSt :=
  if k < 2 then ⟨sF x ++ [(fT, ⟨b, 0⟩)], true, true, 0⟩ else if k = 2 then ⟨sF x ++ [(fT, ⟨b, b.length⟩)], true, true, 0⟩ else ⟨sF (some b), false, true, k - 3⟩

theorem f_write0 {V : ViewS} (h : encodeS V = (b, 0)) : sWrite (oldS x) fN V = (0, oldS (some b)) := by
  rw [sWrite_none (by rw [h]) (get_fT x), h]
  unfold sTail
  rw [tmp_fN]
  show (if (sAppend ⟨sF x, false, false, 0⟩ fT b).1 ≠ 0 then _ else _) = _
  have e1 : sAppend (oldS x) fT b = (0, ⟨sF x ++ [(fT, ⟨b, 0⟩)], false, false, 0⟩) := f_append
  have e2 : sSync ⟨sF x ++ [(fT, ⟨b, 0⟩)], false, false, 0⟩ fT = (0, ⟨sF x ++ [(fT, ⟨b, b.length⟩)], false, false, 0⟩) := f_sync
  have e3 : sRename ⟨sF x ++ [(fT, ⟨b, b.length⟩)], false, false, 0⟩ fT fN = (0, ⟨[(fN, ⟨b, b.length⟩)], false, false, 0⟩) := f_rename
  change (if (sAppend (oldS x) fT b).1 ≠ 0 then _ else _) = _
  rw [e1]
  simp only [ne_eq, not_true_eq_false, if_false, e2, e3]
  rfl
theorem f_write1 {V : ViewS} (h : encodeS V = (b, 0)) : sWrite (armS x k) fN V = (if k < 3 then 103 else 0, outS x b k) := by
  rw [sWrite_none (by rw [h]) (get_fT x), h]
  unfold sTail
  rw [tmp_fN]
  have e1 : sAppend (armS x k) fT b = _ := f_append
  match k, e1 with
  | 0, e1 =>
    rw [e1]
    rfl
  | 1, e1 =>
    have e2 : sSync ⟨sF x ++ [(fT, ⟨b, 0⟩)], false, true, 0⟩ fT = (103, ⟨sF x ++ [(fT, ⟨b, 0⟩)], true, true, 0⟩) := f_sync
    have e1' : sAppend (armS x 1) fT b = (0, ⟨sF x ++ [(fT, ⟨b, 0⟩)], false, true, 0⟩) := e1
    rw [e1']
    simp only [ne_eq, not_true_eq_false, if_false, e2]
    rfl
  | 2, e1 =>
    have e1' : sAppend (armS x 2) fT b = (0, ⟨sF x ++ [(fT, ⟨b, 0⟩)], false, true, 1⟩) := e1
    have e2 : sSync ⟨sF x ++ [(fT, ⟨b, 0⟩)], false, true, 1⟩ fT = (0, ⟨sF x ++ [(fT, ⟨b, b.length⟩)], false, true, 0⟩) := f_sync
    have e3 : sRename ⟨sF x ++ [(fT, ⟨b, b.length⟩)], false, true, 0⟩ fT fN = (103, ⟨sF x ++ [(fT, ⟨b, b.length⟩)], true, true, 0⟩) := f_rename
    rw [e1']
    simp only [ne_eq, not_true_eq_false, if_false, e2, e3]
    rfl
  | n + 3, e1 =>
    have e1' : sAppend (armS x (n + 3)) fT b = (0, ⟨sF x ++ [(fT, ⟨b, 0⟩)], false, true, n + 2⟩) := e1
    have e2 : sSync ⟨sF x ++ [(fT, ⟨b, 0⟩)], false, true, n + 2⟩ fT = (0, ⟨sF x ++ [(fT, ⟨b, b.length⟩)], false, true, n + 1⟩) := f_sync
    have e3 : sRename ⟨sF x ++ [(fT, ⟨b, b.length⟩)], false, true, n + 1⟩ fT fN = (0, ⟨[(fN, ⟨b, b.length⟩)], false, true, n⟩) := f_rename
    rw [e1']
    simp only [ne_eq, not_true_eq_false, if_false, e2, e3]
    rw [if_neg (by omega)]
    unfold outS
    rw [if_neg (by omega), if_neg (by omega)]
    rfl
theorem f_bad {s : DSt} {V : ViewS} {ec : Int} (hec : ec ≠ 0) (h : encodeS V = ([], ec)) : sWrite s fN V = (ec, s) := by
  rw [sWrite_bad (by rw [h]; exact hec), h]

theorem crash_full (ps : List Int) (b : List UInt8) : crashF ps ⟨b, b.length⟩ = (⟨b, b.length⟩, ps) := by simp [crashF]
def rdX : Option (List UInt8) → List UInt8 × Int
  | none => ([], 6)
  | some a => (a, 0)
theorem crash_sF (l : FS) (hl : ∀ p ∈ l, p.1 ≠ fN) (ps : List Int) (off arm : Bool) (k : Nat) : sRead (sCrash ⟨sF x ++ l, off, arm, k⟩ ps) fN = rdX x := by
  have hn : ∀ (l : FS) (ps : List Int), (∀ p ∈ l, p.1 ≠ fN) → getF (crashL ps l) fN = none := by
    intro l
    induction l with
    | nil => intro ps _; rfl
    | cons y l ih =>
      intro ps h
      obtain ⟨nm, f⟩ := y
      have h1 : nm ≠ fN := h (nm, f) (by simp)
      have h2 := ih (crashF ps f).2 (fun p hp => h p (by simp [hp]))
      unfold getF at h2 ⊢
      rw [crashL, List.find?_cons_of_neg (by simpa using h1)]
      exact h2
  cases x with
  | none =>
    show sRead ⟨crashL ps l, false, false, 0⟩ fN = _
    unfold sRead
    rw [if_neg (by decide), if_neg (by simp)]
    simp only [hn l ps hl]
    rfl
  | some a =>
    show sRead ⟨(fN, (crashF ps ⟨a, a.length⟩).1) :: crashL (crashF ps ⟨a, a.length⟩).2 l, false, false, 0⟩ fN = _
    rw [crash_full]
    unfold sRead
    rw [if_neg (by decide), if_neg (by simp)]
    rfl
theorem f_crash_arm (ps : List Int) : sRead (sCrash (armS x k) ps) fN = rdX x := by
  have := crash_sF (x := x) [] (by simp) ps false true k
  rw [List.append_nil] at this
  exact this
theorem f_crash_out (ps : List Int) : sRead (sCrash (outS x b k) ps) fN = if k < 3 then rdX x else (b, 0) := by
  unfold outS
  by_cases h2 : k < 2
  · rw [if_pos h2, if_pos (by omega)]
    exact crash_sF _ (by simp) ps _ _ _
  · rw [if_neg h2]
    by_cases h3 : k = 2
    · rw [if_pos h3, if_pos (by omega)]
      exact crash_sF _ (by simp) ps _ _ _
    · rw [if_neg h3, if_neg (by omega)]
      have := crash_sF (x := some b) [] (by simp) ps false true (k - 3)
      rw [List.append_nil] at this
      exact this
theorem out_len : (outS x b k).fs.length ≤ 2 := by
  unfold outS
  split
  · simp; have := sF_len x; omega
  · split
    · simp; have := sF_len x; omega
    · have := sF_len (some b); show (sF (some b)).length ≤ 2; omega

/-- The conditions of Write and of the reference's WriteSnapshot. -/
structure WrOk (s : DSt) (b : List UInt8) : Prop where
  l0 : ((getF s.fs (tmpN fN)).getD ⟨[], 0⟩).c.length + b.length ≤ 1099511627776
  l1 : ((getF (sRemove s (tmpN fN)).2.fs (tmpN fN)).getD ⟨[], 0⟩).c.length + b.length ≤ 1099511627776
  n0 : s.fs.length + 1 ≤ 1099511627776
  n1 : (sRemove s (tmpN fN)).2.fs.length + 1 ≤ 1099511627776
  n3 : (sSync (sAppend (sRemove s (tmpN fN)).2 (tmpN fN) b).2 (tmpN fN)).2.fs.length < maxLen
theorem wrOk (hb : b.length ≤ 100000000) : WrOk ⟨sF x, false, armed, k⟩ b := by
  have hl := sF_len x
  have e0 : sRemove ⟨sF x, false, armed, k⟩ (tmpN fN) = (6, ⟨sF x, false, armed, k⟩) := f_remove
  refine ⟨?_, ?_, ?_, ?_, ?_⟩
  · rw [tmp_fN, get_fT]; simp; omega
  · rw [e0, tmp_fN]; simp only; rw [get_fT]; simp; omega
  · show (sF x).length + 1 ≤ _; omega
  · rw [e0]; show (sF x).length + 1 ≤ _; omega
  · rw [e0, tmp_fN]
    simp only
    rw [f_append]
    cases hw : wrB armed k with
    | false =>
      have : sSync ⟨sF x ++ [(fT, ⟨b, 0⟩)], !false, armed, wrL armed k⟩ fT = (103, ⟨sF x ++ [(fT, ⟨b, 0⟩)], !false, armed, wrL armed k⟩) := by
        unfold sSync sChange
        rw [if_neg (by decide), if_pos (by simp)]
      simp only [this]
      simp [maxLen]
      omega
    | true =>
      have : sSync ⟨sF x ++ [(fT, ⟨b, 0⟩)], !true, armed, wrL armed k⟩ fT = _ := f_sync
      simp only [this]
      split <;> (simp [maxLen]; omega)
end
end
end Go.Proofs.YtbgificdilpdcaaGreat
