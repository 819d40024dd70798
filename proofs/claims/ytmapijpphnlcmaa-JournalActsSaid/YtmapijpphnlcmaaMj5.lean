/- The reference journal. Conditions: those that each theorem states. -/
import Derived.Test.YtmapijpphnlcmaaMj4
import Derived.Test.YtmapijpphnlcmaaRefF
namespace Go.Proofs.Ytmapijpphnlcmaa
section
open Go.RowKit

theorem pw_names {fs fs' : FS} (h : fs'.map (·.1) = fs.map (·.1)) (hp : PW fs) : PW fs' := by
  have h1 : (fs.map (·.1)).Pairwise (· ≠ ·) := List.pairwise_map.2 hp
  rw [← h] at h1
  exact List.pairwise_map.1 h1
theorem names_setF (nm : List UInt8) (f : FSt) (fs : FS) : (setF nm f fs).map (·.1) = fs.map (·.1) := by
  unfold setF
  rw [List.map_map]
  refine List.map_congr_left (fun p _ => ?_)
  simp only [Function.comp]
  split <;> rfl
theorem pw_truncate {s : DSt} (hp : PW s.fs) (nm : List UInt8) (n : Int) : PW (sTruncate s nm n).2.fs := by
  unfold sTruncate sChange
  split
  · exact hp
  · split
    · exact hp
    · split
      · exact hp
      · split
        · exact pw_names (names_setF _ _ _) hp
        · exact hp

theorem RefAt.upd {w w' : World} {m : Nat} {s : DSt} {F G : Nat → Prop} (h : RefAt w m s F) (hu : Upd G w w') (hG : ∀ k, F k → ¬ G k) : RefAt w' m s F := by
  obtain ⟨lv, R, a, b, rfl⟩ := h
  exact ⟨lv, R, a.upd hu hG, b, rfl⟩
theorem RefAt.lt {w : World} {m : Nat} {s : DSt} {F : Nat → Prop} (h : RefAt w m s F) {k : Nat} (hk : F k) : k < w.heap.size := by
  obtain ⟨lv, R, a, b, rfl⟩ := h
  exact a.foot_lt hk

def RJAt (w : World) (j d : Nat) (nm : List UInt8) (l : List (List UInt8)) (safe : Nat) (dead : Bool) (G : Nat → Prop) : Prop :=
  ∃ rv vs, Blk w j 65 #[ptrV d, strV nm, rv, .int .i64 safe, .bool dead] ∧ RecsV w rv l vs ∧ safe ≤ 1099511627776 ∧ l.length ≤ 1099511627776 ∧ (∀ b ∈ l, b.length ≤ 65536) ∧ G = fun k => k = j ∨ RecsF rv vs k
theorem RJAt.upd {w w' : World} {j d : Nat} {nm : List UInt8} {l : List (List UInt8)} {safe : Nat} {dead : Bool} {G H : Nat → Prop} (h : RJAt w j d nm l safe dead G) (hu : Upd H w w') (hH : ∀ k, G k → ¬ H k) : RJAt w' j d nm l safe dead G := by
  obtain ⟨rv, vs, h1, h2, h3, h4, h5, rfl⟩ := h
  obtain ⟨vs', h6, h7⟩ := RecsAt.upd ⟨vs, h2, rfl⟩ hu (fun k hk => hH k (.inr hk))
  exact ⟨rv, vs', hu.blk h1 (hH j (.inl rfl)), h6, h3, h4, h5, by rw [h7]⟩
theorem RJAt.lt {w : World} {j d : Nat} {nm : List UInt8} {l : List (List UInt8)} {safe : Nat} {dead : Bool} {G : Nat → Prop} (h : RJAt w j d nm l safe dead G) {k : Nat} (hk : G k) : k < w.heap.size := by
  obtain ⟨rv, vs, h1, h2, _, _, _, rfl⟩ := h
  rcases hk with rfl | hk
  · exact h1.lt
  · exact RecsAt.lt ⟨vs, h2, rfl⟩ hk

/-- Under way: the disk, and the records that have been read. -/
def ROpenMid (w : World) (F : Nat → Prop) (d : Nat) (s : DSt) (v : Value) (l : List (List UInt8)) (wi : World) : Prop :=
  ∃ Fi FR, RefAt wi d s Fi ∧ RecsAt wi v l FR ∧ (∀ k, Fi k → ¬ FR k) ∧ (∀ k, Fi k → F k ∨ w.heap.size ≤ k) ∧ (∀ k, FR k → w.heap.size ≤ k) ∧ Upd F w wi

section
variable {w wi : World} {F : Nat → Prop} {d : Nat} {s : DSt} {v : Value} {l : List (List UInt8)} {nm : List UInt8}

theorem ROpenMid.call {r : Int × DSt} {f : FuncId} {args : Array Value} (h : ROpenMid w F d s v l wi) (_hF : ∀ k, F k → k < w.heap.size) (hc : ∀ Fi, RefAt wi d s Fi → Calls Try.prog f args wi (RErr wi d Fi r)) : Calls Try.prog f args wi fun e w' => e = retE r.1 ∧ ROpenMid w F d r.2 v l w' := by
  obtain ⟨Fi, FR, h1, h2, h3, h4, h5, h6⟩ := h
  refine (hc Fi h1).mono ?_
  rintro e w' ⟨rfl, F', a1, a2, a3⟩
  refine ⟨rfl, F', FR, a1, h2.upd a2 (fun k hk e => h3 k e hk), fun k hk hr => ?_, fun k hk => ?_, h5, h6.trans a2 (fun k hk e => (h4 k e).resolve_right (by omega))⟩
  · rcases a3 k hk with e | e
    · exact h3 k e hr
    · have := h2.lt hr; omega
  · rcases a3 k hk with e | e
    · exact h4 k e
    · exact .inr (Nat.le_trans h6.size e)
theorem ROpenMid.step (h : ROpenMid w F d s v l wi) : RefStep w d s F wi := by
  obtain ⟨Fi, FR, h1, h2, h3, h4, h5, h6⟩ := h
  exact ⟨Fi, h1, h6, h4⟩

theorem RefStep.up {w w' : World} {d : Nat} {s : DSt} {F : Nat → Prop} (h : RefStep w d s F w') : w.heap.size ≤ w'.heap.size := by
  obtain ⟨F', a, b, c⟩ := h
  exact b.size
theorem RefStep.pre2 {w w' : World} {d : Nat} {s : DSt} {F : Nat → Prop} (h : RefAt w d s F) (hu : Upd NoF w w') : RefStep w d s F w' := ⟨F, h.upd hu (fun _ _ h => h), hu.mono (fun _ _ h => h.elim), fun _ hk => .inl hk⟩

def ROpenPost (w : World) (F : Nat → Prop) (d : Nat) (nm : List UInt8) (r : Int × DSt × List (List UInt8)) (e : Ending) (w' : World) : Prop :=
  (r.1 = 0 ∧ ∃ j F' G', e = .returned (.tuple #[ptrV j, .int .i64 0]) ∧ RefAt w' d r.2.1 F' ∧ RJAt w' j d nm r.2.2 r.2.2.length false G' ∧ (∀ k, F' k → ¬ G' k) ∧ (∀ k, F' k → F k ∨ w.heap.size ≤ k) ∧ (∀ k, G' k → w.heap.size ≤ k) ∧ Upd F w w') ∨
  (r.1 ≠ 0 ∧ e = .returned (.tuple #[.pointer none, .int .i64 r.1]) ∧ RefStep w d r.2.1 F w')

theorem ROpenMid.done (h : ROpenMid w F d s v l wi) (hl : ∀ b ∈ l, b.length ≤ 65536) (hn : l.length ≤ 1099511627776) (hw : w.heap.size ≤ wi.heap.size) : ROpenPost w F d nm (0, s, l) (.returned (.tuple #[ptrV wi.heap.size, .int .i64 0])) (wi.alloc (.cells #[ptrV d, strV nm, v, .int .i64 (l.length : Int), .bool false] 65)) := by
  obtain ⟨Fi, FR, h1, h2, h3, h4, h5, h6⟩ := h
  have hu : Upd NoF wi (wi.alloc (.cells #[ptrV d, strV nm, v, .int .i64 (l.length : Int), .bool false] 65)) := (Upd.refl NoF wi).alloc _
  obtain ⟨vs, e1, e2⟩ := h2.upd hu (fun _ _ h => h)
  refine .inl ⟨rfl, wi.heap.size, Fi, _, rfl, h1.upd hu (fun _ _ h => h), ⟨v, vs, Blk.new wi _ _, e1, hn, hn, hl, rfl⟩, fun k hk hg => ?_, h4, fun k hg => ?_, h6.trans hu (fun _ _ h => h.elim)⟩
  · rcases hg with rfl | hg
    · have := h1.lt hk; omega
    · exact h3 k hk (by rw [e2]; exact hg)
  · rcases hg with rfl | hg
    · exact hw
    · exact h5 k (by rw [e2]; exact hg)

set_option maxRecDepth 100000 in
set_option maxHeartbeats 8000000 in
theorem rOpenJ_any (h : RefAt w d s F) (nm : List UInt8) (hpw : PW s.fs) (hb : (sRead s nm).1.length ≤ 549755813888) : Calls Try.prog 29 #[ptrV d, strV nm] w (ROpenPost w F d nm (sOpen s nm)) := by
  have hFlt : ∀ k, F k → k < w.heap.size := fun k hk => h.lt hk
  have CR := Lib.hid (rread_spec h nm)
  have SX := Lib.hid (sRead_six s nm)
  have H := Lib.hid h
  obtain ⟨r, hr⟩ : ∃ r, sRead s nm = r := ⟨_, rfl⟩
  rw [hr] at CR SX hb
  obtain ⟨bs, code⟩ := r
  simp only at SX hb
  obtain ⟨p, hp⟩ : ∃ p, parseS bs = p := ⟨_, rfl⟩
  have hpr := parse_recs bs
  have MID := Lib.hid (show ∀ w1 w2 v F2, Upd NoF w w1 → RecsAt w2 v (parseS bs).1 F2 → (∀ k, F2 k → w1.heap.size ≤ k) → Upd NoF w1 w2 → ROpenMid w F d s v (parseS bs).1 w2 from fun w1 w2 v F2 u1 hr2 hf2 u2 => by
    have u12 : Upd NoF w w2 := u1.trans u2 (fun _ _ h => h)
    have hs1 := u1.size
    refine ⟨F, F2, h.upd u12 (fun _ _ h => h), hr2, fun k hk hk2 => ?_, fun k hk => .inl hk, fun k hk => ?_, u12.mono (fun _ _ h => h.elim)⟩
    · have := hFlt k hk; have := hf2 k hk2; omega
    · have := hf2 k hk; omega)
  rw [hp] at hpr MID
  obtain ⟨l, n⟩ := p
  simp only at hpr MID
  obtain ⟨hp1, hp2, hp3⟩ := hpr
  have CPP := Lib.hid (show ∀ w1 A c, Own w1 5 1 (.slice A bs.length c) bs.length (bs.map byteV) → Calls Try.prog 26 #[.slice A bs.length c] w1 (ParsePost w1 bs) from fun w1 A c ho => rParse_any ho.rd hb)
  have HL := Lib.hid hp1
  have HF := Lib.hid hFlt
  have HP := Lib.hid hp
  have hll : l.length ≤ 1099511627776 := by omega
  have HR := Lib.hid hr
  have HPW := Lib.hid hpw
  clear h hp hp1 hFlt hr hpw
  by_cases h0 : code = 0
  · subst h0
    by_cases hn : n < bs.length
    · have t1 : decide ((n : Int) < (bs.length : Int)) = true := by simpa using hn
      have EQ := Lib.hid (sOpen_cut HR.out HP.out hn)
      rw [EQ.out]
      obtain ⟨t, ht⟩ : ∃ t, sTruncate s nm n = t := ⟨_, rfl⟩
      rw [ht]
      obtain ⟨tc, ts⟩ := t
      have HPT := Lib.hid (show PW ts.fs from by have := pw_truncate HPW.out nm n; rw [ht] at this; exact this)
      by_cases htc : tc = 0
      · subst htc
        obtain ⟨u, hu⟩ : ∃ u, sSync ts nm = u := ⟨_, rfl⟩
        simp only [ne_eq, not_true_eq_false, if_false]
        rw [hu]
        obtain ⟨uc, us⟩ := u
        by_cases huc : uc = 0
        · subst huc
          simp only [not_true_eq_false, if_false]
          go_enter Try.func29, Try.ntmps29
          go_wp2_with fail
          refine CR.out.mono ?_
          rintro e w1 ⟨A1, c1, rfl, hO1, hn1, hU1⟩
          have U1 := Lib.hid hU1
          have O1 := Lib.hid hO1
          clear hO1 hn1 hU1
          go_wp2_with fail
          refine (CPP.out w1 A1 c1 O1.out).mono ?_
          rw [show ParsePost w1 bs = fun e w' => ∃ v F, e = .returned (.tuple #[v, .int .i64 ((parseS bs).2 : Int)]) ∧ RecsAt w' v (parseS bs).1 F ∧ (∀ k, F k → w1.heap.size ≤ k) ∧ Upd NoF w1 w' from rfl, HP.out]
          rintro e w2 ⟨v, F2, rfl, hr2, hf2, hu2⟩
          obtain ⟨A2, c2, hv2, hlc2, hcm2⟩ := hr2.form
          subst hv2
          have M2 := Lib.hid (MID.out w1 w2 _ F2 U1.out hr2 hf2 hu2)
          clear hr2 hf2 hu2
          simp only at M2
          go_wp2_with fail
          refine (ROpenMid.call M2.out HF.out (fun Fi hd => rtruncate_spec hd HPW.out nm (n : Int) (by omega) (by omega))).mono ?_
          rw [ht]
          rintro e w4 ⟨rfl, hm4⟩
          have MM := Lib.hid hm4
          clear hm4
          go_wp2_with fail
          refine (ROpenMid.call MM.out HF.out (fun Fi hd => rsync_spec hd HPT.out nm)).mono ?_
          rw [hu]
          rintro e w5 ⟨rfl, hm5⟩
          have M5 := Lib.hid hm5
          clear hm5
          simp only at M5
          go_wp2
          go_ret2
          exact ROpenMid.done M5.out HL.out hll M5.out.step.up
        · simp only [huc, not_false_eq_true, if_true]
          have t3 : (uc == 0) = false := by simpa using huc
          have t3' : (uc != 0) = true := by simpa using huc
          have HUC := Lib.hid huc
          clear huc
          go_enter Try.func29, Try.ntmps29
          go_wp2_with fail
          refine CR.out.mono ?_
          rintro e w1 ⟨A1, c1, rfl, hO1, hn1, hU1⟩
          have U1 := Lib.hid hU1
          have O1 := Lib.hid hO1
          clear hO1 hn1 hU1
          go_wp2_with fail
          refine (CPP.out w1 A1 c1 O1.out).mono ?_
          rw [show ParsePost w1 bs = fun e w' => ∃ v F, e = .returned (.tuple #[v, .int .i64 ((parseS bs).2 : Int)]) ∧ RecsAt w' v (parseS bs).1 F ∧ (∀ k, F k → w1.heap.size ≤ k) ∧ Upd NoF w1 w' from rfl, HP.out]
          rintro e w2 ⟨v, F2, rfl, hr2, hf2, hu2⟩
          obtain ⟨A2, c2, hv2, hlc2, hcm2⟩ := hr2.form
          subst hv2
          have M2 := Lib.hid (MID.out w1 w2 _ F2 U1.out hr2 hf2 hu2)
          clear hr2 hf2 hu2
          simp only at M2
          go_wp2_with fail
          refine (ROpenMid.call M2.out HF.out (fun Fi hd => rtruncate_spec hd HPW.out nm (n : Int) (by omega) (by omega))).mono ?_
          rw [ht]
          rintro e w4 ⟨rfl, hm4⟩
          have MM := Lib.hid hm4
          clear hm4
          go_wp2_with fail
          refine (ROpenMid.call MM.out HF.out (fun Fi hd => rsync_spec hd HPT.out nm)).mono ?_
          rw [hu]
          rintro e w5 ⟨rfl, hm5⟩
          have M5 := Lib.hid hm5
          clear hm5
          go_wp2
          go_ret2
          exact .inr ⟨HUC.out, rfl, M5.out.step⟩
      · simp only [ne_eq, htc, not_false_eq_true, if_true]
        have t2 : (tc == 0) = false := by simpa using htc
        have t2' : (tc != 0) = true := by simpa using htc
        have HTC := Lib.hid htc
        clear htc
        go_enter Try.func29, Try.ntmps29
        go_wp2_with fail
        refine CR.out.mono ?_
        rintro e w1 ⟨A1, c1, rfl, hO1, hn1, hU1⟩
        have U1 := Lib.hid hU1
        have O1 := Lib.hid hO1
        clear hO1 hn1 hU1
        go_wp2_with fail
        refine (CPP.out w1 A1 c1 O1.out).mono ?_
        rw [show ParsePost w1 bs = fun e w' => ∃ v F, e = .returned (.tuple #[v, .int .i64 ((parseS bs).2 : Int)]) ∧ RecsAt w' v (parseS bs).1 F ∧ (∀ k, F k → w1.heap.size ≤ k) ∧ Upd NoF w1 w' from rfl, HP.out]
        rintro e w2 ⟨v, F2, rfl, hr2, hf2, hu2⟩
        obtain ⟨A2, c2, hv2, hlc2, hcm2⟩ := hr2.form
        subst hv2
        have M2 := Lib.hid (MID.out w1 w2 _ F2 U1.out hr2 hf2 hu2)
        clear hr2 hf2 hu2
        simp only at M2
        go_wp2_with fail
        refine (ROpenMid.call M2.out HF.out (fun Fi hd => rtruncate_spec hd HPW.out nm (n : Int) (by omega) (by omega))).mono ?_
        rw [ht]
        rintro e w4 ⟨rfl, hm4⟩
        have M4 := Lib.hid hm4
        clear hm4
        go_wp2
        go_ret2
        exact .inr ⟨HTC.out, rfl, M4.out.step⟩
    · have t1 : decide ((n : Int) < (bs.length : Int)) = false := by simp; omega
      have EQ := Lib.hid (sOpen_whole HR.out HP.out hn)
      rw [EQ.out]
      obtain ⟨u, hu⟩ : ∃ u, sSync s nm = u := ⟨_, rfl⟩
      rw [hu]
      obtain ⟨uc, us⟩ := u
      by_cases huc : uc = 0
      · subst huc
        simp only [ne_eq, not_true_eq_false, if_false]
        go_enter Try.func29, Try.ntmps29
        go_wp2_with fail
        refine CR.out.mono ?_
        rintro e w1 ⟨A1, c1, rfl, hO1, hn1, hU1⟩
        have U1 := Lib.hid hU1
        have O1 := Lib.hid hO1
        clear hO1 hn1 hU1
        go_wp2_with fail
        refine (CPP.out w1 A1 c1 O1.out).mono ?_
        rw [show ParsePost w1 bs = fun e w' => ∃ v F, e = .returned (.tuple #[v, .int .i64 ((parseS bs).2 : Int)]) ∧ RecsAt w' v (parseS bs).1 F ∧ (∀ k, F k → w1.heap.size ≤ k) ∧ Upd NoF w1 w' from rfl, HP.out]
        rintro e w2 ⟨v, F2, rfl, hr2, hf2, hu2⟩
        obtain ⟨A2, c2, hv2, hlc2, hcm2⟩ := hr2.form
        subst hv2
        have M2 := Lib.hid (MID.out w1 w2 _ F2 U1.out hr2 hf2 hu2)
        clear hr2 hf2 hu2
        simp only at M2
        go_wp2_with fail
        refine (ROpenMid.call M2.out HF.out (fun Fi hd => rsync_spec hd HPW.out nm)).mono ?_
        rw [hu]
        rintro e w5 ⟨rfl, hm5⟩
        have M5 := Lib.hid hm5
        clear hm5
        simp only at M5
        go_wp2
        go_ret2
        exact ROpenMid.done M5.out HL.out hll M5.out.step.up
      · simp only [ne_eq, huc, not_false_eq_true, if_true]
        have t3 : (uc == 0) = false := by simpa using huc
        have t3' : (uc != 0) = true := by simpa using huc
        have HUC := Lib.hid huc
        clear huc
        go_enter Try.func29, Try.ntmps29
        go_wp2_with fail
        refine CR.out.mono ?_
        rintro e w1 ⟨A1, c1, rfl, hO1, hn1, hU1⟩
        have U1 := Lib.hid hU1
        have O1 := Lib.hid hO1
        clear hO1 hn1 hU1
        go_wp2_with fail
        refine (CPP.out w1 A1 c1 O1.out).mono ?_
        rw [show ParsePost w1 bs = fun e w' => ∃ v F, e = .returned (.tuple #[v, .int .i64 ((parseS bs).2 : Int)]) ∧ RecsAt w' v (parseS bs).1 F ∧ (∀ k, F k → w1.heap.size ≤ k) ∧ Upd NoF w1 w' from rfl, HP.out]
        rintro e w2 ⟨v, F2, rfl, hr2, hf2, hu2⟩
        obtain ⟨A2, c2, hv2, hlc2, hcm2⟩ := hr2.form
        subst hv2
        have M2 := Lib.hid (MID.out w1 w2 _ F2 U1.out hr2 hf2 hu2)
        clear hr2 hf2 hu2
        simp only at M2
        go_wp2_with fail
        refine (ROpenMid.call M2.out HF.out (fun Fi hd => rsync_spec hd HPW.out nm)).mono ?_
        rw [hu]
        rintro e w5 ⟨rfl, hm5⟩
        have M5 := Lib.hid hm5
        clear hm5
        go_wp2
        go_ret2
        exact .inr ⟨HUC.out, rfl, M5.out.step⟩
  · have t0 : (code == 0) = false := by simpa using h0
    have t0' : (code != 0) = true := by simpa using h0
    by_cases h6 : code = 6
    · subst h6
      obtain rfl := SX.out rfl
      rw [sOpen_none HR.out]
      obtain ⟨rfl, rfl⟩ : l = [] ∧ n = 0 := by have := HP.out; rw [parse_nil] at this; simpa using this.symm
      go_enter Try.func29, Try.ntmps29
      go_wp2_with fail
      refine CR.out.mono ?_
      rintro e w1 ⟨A1, c1, rfl, hO1, hn1, hU1⟩
      have U1 := Lib.hid hU1
      have O1 := Lib.hid hO1
      clear hO1 hn1 hU1
      go_wp2_with fail
      refine (CPP.out w1 A1 c1 O1.out).mono ?_
      rw [show ParsePost w1 [] = fun e w' => ∃ v F, e = .returned (.tuple #[v, .int .i64 ((parseS []).2 : Int)]) ∧ RecsAt w' v (parseS []).1 F ∧ (∀ k, F k → w1.heap.size ≤ k) ∧ Upd NoF w1 w' from rfl, HP.out]
      rintro e w2 ⟨v, F2, rfl, hr2, hf2, hu2⟩
      obtain ⟨A2, c2, hv2, hlc2, hcm2⟩ := hr2.form
      subst hv2
      have M2 := Lib.hid (MID.out w1 w2 _ F2 U1.out hr2 hf2 hu2)
      clear hr2 hf2 hu2
      simp only at M2
      simp only [List.length_nil] at *
      go_wp2
      go_ret2
      have := ROpenMid.done (nm := nm) M2.out HL.out hll M2.out.step.up
      exact this
    · have t6 : (code == 6) = false := by simpa using h6
      have t6' : (code != 6) = true := by simpa using h6
      rw [sOpen_err HR.out h0 h6]
      have H0 := Lib.hid h0
      clear h0 h6
      go_enter Try.func29, Try.ntmps29
      go_wp2_with fail
      refine CR.out.mono ?_
      rintro e w1 ⟨A1, c1, rfl, hO1, hn1, hU1⟩
      have U1 := Lib.hid hU1
      have O1 := Lib.hid hO1
      clear hO1 hn1 hU1
      go_wp2
      go_ret2
      exact .inr ⟨H0.out, rfl, RefStep.pre2 H.out U1.out⟩
end
end

section
open Go.RowKit

def RJ (w : World) (d : Nat) (s : DSt) (F : Nat → Prop) (j : Nat) (nm : List UInt8) (l : List (List UInt8)) (safe : Nat) (dead : Bool) (G : Nat → Prop) : Prop := RefAt w d s F ∧ RJAt w j d nm l safe dead G ∧ ∀ k, F k → ¬ G k
def RJStep (w : World) (F G : Nat → Prop) (d : Nat) (s : DSt) (j : Nat) (nm : List UInt8) (l : List (List UInt8)) (safe : Nat) (dead : Bool) (w' : World) : Prop :=
  ∃ F' G', RJ w' d s F' j nm l safe dead G' ∧ Upd (fun k => F k ∨ G k) w w' ∧ (∀ k, F' k → F k ∨ w.heap.size ≤ k) ∧ (∀ k, G' k → G k ∨ w.heap.size ≤ k)
def RJPost (w : World) (F G : Nat → Prop) (d j : Nat) (nm : List UInt8) (code : Int) (s : DSt) (l : List (List UInt8)) (safe : Nat) (dead : Bool) (e : Ending) (w' : World) : Prop := e = retE code ∧ RJStep w F G d s j nm l safe dead w'

theorem RefAt.mem {w : World} {m : Nat} {s : DSt} {F : Nat → Prop} (h : RefAt w m s F) : F m := by
  obtain ⟨lv, R, a, b, rfl⟩ := h
  exact .inl rfl

section
variable {w : World} {d : Nat} {s : DSt} {F : Nat → Prop} {j : Nat} {nm : List UInt8} {l : List (List UInt8)} {safe : Nat} {dead : Bool} {G : Nat → Prop}

theorem RJ.refl (h : RJ w d s F j nm l safe dead G) : RJStep w F G d s j nm l safe dead w := ⟨F, G, h, Upd.refl _ _, fun _ h => .inl h, fun _ h => .inl h⟩
theorem RJ.upd (h : RJ w d s F j nm l safe dead G) {w' : World} (hu : Upd NoF w w') : RJ w' d s F j nm l safe dead G := ⟨h.1.upd hu (fun _ _ h => h), h.2.1.upd hu (fun _ _ h => h), h.2.2⟩

set_option maxRecDepth 100000 in
theorem rJAppend_big (_h : RJ w d s F j nm l safe dead G) {v : Value} {b : List UInt8} (hb : RdB (fun k => F k ∨ G k) w v b) (hbig : 65536 < b.length) : Calls Try.prog 31 #[ptrV j, v] w fun e w' => e = retE 1 ∧ w = w' := by
  obtain ⟨A, c, rfl, _⟩ := hb.now
  have t1 : decide ((65536 : Int) < (b.length : Int)) = true := by simp; omega
  have t1' : decide (65536 < b.length) = true := by simp; omega
  clear _h hb
  go_enter Try.func31, Try.ntmps31
  go_wp2
  go_ret
  exact ⟨rfl, rfl⟩
set_option maxRecDepth 100000 in
theorem rJAppend_dead (h : RJ w d s F j nm l safe true G) {v : Value} {b : List UInt8} (hb : RdB (fun k => F k ∨ G k) w v b) (hbig : ¬ 65536 < b.length) : Calls Try.prog 31 #[ptrV j, v] w fun e w' => e = retE 103 ∧ w = w' := by
  obtain ⟨rv, vs, h1, _⟩ := h.2.1
  have c4 : w.cell? ⟨j, 4, none⟩ = some (.bool true) := h1.cell 4
  obtain ⟨A, c, rfl, _⟩ := hb.now
  have t1 : decide ((65536 : Int) < (b.length : Int)) = false := by simp; omega
  have t1' : decide (65536 < b.length) = false := by simp; omega
  clear h h1 hb
  go_enter Try.func31, Try.ntmps31
  go_wp2
  go_ret
  exact ⟨rfl, rfl⟩
set_option maxRecDepth 100000 in
theorem rJSync_dead (h : RJ w d s F j nm l safe true G) : Calls Try.prog 33 #[ptrV j] w fun e w' => e = retE 103 ∧ w = w' := by
  obtain ⟨rv, vs, h1, _⟩ := h.2.1
  have c4 : w.cell? ⟨j, 4, none⟩ = some (.bool true) := h1.cell 4
  clear h h1
  go_enter Try.func33, Try.ntmps33
  go_wp2
  go_ret
  exact ⟨rfl, rfl⟩
set_option maxRecDepth 100000 in
theorem rJSync_none (h : RJ w d s F j nm l safe false G) (hl : l.length = 0) : Calls Try.prog 33 #[ptrV j] w fun e w' => e = retE 0 ∧ w = w' := by
  obtain ⟨rv, vs, h1, h2, _⟩ := h.2.1
  obtain ⟨A0, c0', rfl, hlc, hcm⟩ := RecsAt.form ⟨vs, h2, rfl⟩
  have c2 : w.cell? ⟨j, 2, none⟩ = some (.slice A0 0 c0') := by rw [← hl]; exact h1.cell 2
  have c4 : w.cell? ⟨j, 4, none⟩ = some (.bool false) := h1.cell 4
  clear h h1 h2 hl
  go_enter Try.func33, Try.ntmps33
  go_wp2
  go_ret
  exact ⟨rfl, rfl⟩

/-- The disk has moved, and one cell of the journal may have been written. -/
theorem rjap_mid (h : RJ w d s F j nm l safe false G) {w1 w2 : World} {rv : Value} {vs : List Value} {s' : DSt} (hB : Blk w j 65 #[ptrV d, strV nm, rv, .int .i64 safe, .bool false]) (hV : RecsV w rv l vs) (hG : G = fun k => k = j ∨ RecsF rv vs k) (u1 : Upd NoF w w1) (h2 : RefStep w1 d s' F w2) :
    ∃ F', RefAt w2 d s' F' ∧ (∀ k, F' k → ¬ G k) ∧ Blk w2 j 65 #[ptrV d, strV nm, rv, .int .i64 safe, .bool false] ∧ RecsV w2 rv l vs ∧ Upd (fun k => F k ∨ G k) w w2 ∧ (∀ k, F' k → F k ∨ w.heap.size ≤ k) := by
  obtain ⟨hD, hJ, hdis⟩ := h
  obtain ⟨F', a1, a2, a3⟩ := h2
  have hGj : G j := by rw [hG]; exact .inl rfl
  have hno : ∀ k, RecsF rv vs k → G k := fun k hk => by rw [hG]; exact .inr hk
  have q1 : RecsV w1 rv l vs := ⟨hV.1.upd u1 (fun _ _ h => h), fun i b hb => by obtain ⟨u, x1, x2⟩ := hV.2 i b hb; exact ⟨u, x1, x2.upd u1 (fun _ _ h => h)⟩⟩
  have q2 : RecsV w2 rv l vs := ⟨q1.1.upd a2 (fun k hk e => hdis k e (hno k (.inl hk))), fun i b hb => by obtain ⟨u, x1, x2⟩ := q1.2 i b hb; exact ⟨u, x1, x2.upd a2 (fun k hk e => hdis k e (hno k (.inr ⟨u, List.mem_of_getElem? x1, hk⟩)))⟩⟩
  refine ⟨F', a1, fun k hk hg => ?_, a2.blk (u1.blk hB (fun h => h)) (fun e => hdis j e hGj), q2, (u1.mono (G := fun k => F k ∨ G k) (fun _ _ h => h.elim)).trans a2 (fun k _ e => .inl e), fun k hk => ?_⟩
  · rcases a3 k hk with e | e
    · exact hdis k e hg
    · have := hJ.lt hg; have := u1.size; omega
  · rcases a3 k hk with e | e
    · exact .inl e
    · exact .inr (Nat.le_trans u1.size e)
/-- One cell of the journal (the bool, or the number). -/
theorem rj_cell {w2 : World} {s' : DSt} {F' : Nat → Prop} {A0 : Option Addr} {c0 : Nat} {vs : List Value} {i : Nat} {u : Value} {safe' : Nat} {dead' : Bool} (hD : RefAt w2 d s' F') (hdis : ∀ k, F' k → ¬ G k) (hB : Blk w2 j 65 #[ptrV d, strV nm, .slice A0 l.length c0, .int .i64 safe, .bool false]) (hB' : Blk (w2.setCell ⟨j, i, none⟩ u) j 65 #[ptrV d, strV nm, .slice A0 l.length c0, .int .i64 safe', .bool dead']) (hV : RecsV w2 (.slice A0 l.length c0) l vs) (hG : G = fun k => k = j ∨ RecsF (.slice A0 l.length c0) vs k)
    (hU : Upd (fun k => F k ∨ G k) w w2) (hF : ∀ k, F' k → F k ∨ w.heap.size ≤ k) (hs : safe' ≤ 1099511627776) (hl : l.length ≤ 1099511627776) (hl2 : ∀ x ∈ l, x.length ≤ 65536) : RJStep w F G d s' j nm l safe' dead' (w2.setCell ⟨j, i, none⟩ u) := by
  have hGj : G j := by rw [hG]; exact .inl rfl
  have hu6 : Upd (fun k => k = j) w2 (w2.setCell ⟨j, i, none⟩ u) := (Upd.refl (fun k => k = j) w2).setCell (p := ⟨j, i, none⟩) (.inl rfl) _
  have hV6 : RecsV (w2.setCell ⟨j, i, none⟩ u) (.slice A0 l.length c0) l vs :=
    ⟨hV.1.upd hu6 (fun k hk e => hV.1.blk_ne hB (by decide) (by rw [← e]; exact hk)), fun i x hx => by obtain ⟨u, x1, x2⟩ := hV.2 i x hx; exact ⟨u, x1, x2.upd hu6 (fun k hk e => x2.blk_ne hB (by decide) (by rw [← e]; exact hk))⟩⟩
  exact ⟨F', G, ⟨hD.upd hu6 (fun k hk e => hdis k hk (by rw [e]; exact hGj)), ⟨_, vs, hB', hV6, hs, hl, hl2, hG⟩, hdis⟩, hU.trans hu6 (fun k _ e => .inr (by rw [e]; exact hGj)), hF, fun k hk => .inl hk⟩

set_option maxRecDepth 100000 in
set_option maxHeartbeats 8000000 in
theorem rJSync_live (h : RJ w d s F j nm l safe false G) (hp : PW s.fs) (hl0 : ¬ l.length = 0) :
    Calls Try.prog 33 #[ptrV j] w (RJPost w F G d j nm (sSync s nm).1 (sSync s nm).2 l (if (sSync s nm).1 = 0 then l.length else safe) (decide ((sSync s nm).1 ≠ 0))) := by
  obtain ⟨rv, vs, hB, hV, hsf, hln, hlb, hG⟩ := h.2.1
  obtain ⟨A0, c0, rfl, hlc, hcm⟩ := RecsAt.form ⟨vs, hV, rfl⟩
  have q0 : w.cell? ⟨j, 0, none⟩ = some (ptrV d) := hB.cell 0
  have q1 : w.cell? ⟨j, 1, none⟩ = some (strV nm) := hB.cell 1
  have q2 : w.cell? ⟨j, 2, none⟩ = some (.slice A0 l.length c0) := hB.cell 2
  have q4 : w.cell? ⟨j, 4, none⟩ = some (.bool false) := hB.cell 4
  have t1 : ((l.length : Int) == 0) = false := by simpa using hl0
  obtain ⟨r, hr⟩ : ∃ r, sSync s nm = r := ⟨_, rfl⟩
  rw [hr]
  have CA := Lib.hid (show Calls Try.prog 51 #[ptrV d, strV nm] w.drew (RErr w.drew d F r) from by
    rw [← hr]
    exact rsync_spec (h.1.upd ((Upd.refl NoF w).drew) (fun _ _ h => h)) hp nm)
  have MID := Lib.hid (show ∀ w2, RefStep w.drew d r.2 F w2 → _ from fun w2 h2 => rjap_mid h hB hV hG ((Upd.refl NoF w).drew) h2)
  have HG := Lib.hid hG
  have HLB := Lib.hid hlb
  clear h hB hV hlb hG hr hp
  obtain ⟨code, s'⟩ := r
  simp only at CA MID ⊢
  by_cases hc : code = 0
  · subst hc
    rw [if_pos rfl, show decide ((0 : Int) ≠ 0) = false from rfl]
    go_enter Try.func33, Try.ntmps33
    go_wp2
    go_region_held3 (fun w' => w'.cell? ⟨j, 0, none⟩ = some (ptrV d) ∧ w'.cell? ⟨j, 1, none⟩ = some (strV nm))
      (first | exact ⟨q0, q1⟩ | exact ⟨z0, z1⟩)
      ((go_at_call 51; refine CA.out.mono ?_; rintro e w2 ⟨rfl, hs2⟩; obtain ⟨F', g1, g2, g3, g4, g5, g6⟩ := MID.out w2 hs2; have z0 : w2.cell? ⟨j, 0, none⟩ = some (ptrV d) := g3.cell 0; have z1 : w2.cell? ⟨j, 1, none⟩ = some (strV nm) := g3.cell 1; have S2 := Lib.hid (And.intro g1 (And.intro g2 (And.intro g3 (And.intro g4 (And.intro g5 g6))))); clear g1 g2 g3 g4 g5 g6 hs2))
    clear q0 q1 q2 z0 z1 q4
    have p2 : w2.cell? ⟨j, 2, none⟩ = some (.slice A0 l.length c0) := S2.out.2.2.1.cell 2
    have p3 : w2.cell? ⟨j, 3, none⟩ = some (.int .i64 safe) := S2.out.2.2.1.cell 3
    have p3f : w2.frozen? ⟨j, 3, none⟩ = false := S2.out.2.2.1.frozen 3
    go_wp2
    go_ret
    exact ⟨rfl, rj_cell S2.out.1 S2.out.2.1 S2.out.2.2.1 (S2.out.2.2.1.put 3 _) S2.out.2.2.2.1 HG.out S2.out.2.2.2.2.1 S2.out.2.2.2.2.2 hln hln HLB.out⟩
  · have t2 : (code == 0) = false := by simpa using hc
    have t2' : (code != 0) = true := by simpa using hc
    rw [if_neg hc, show decide (code ≠ 0) = true by simpa using hc]
    clear hc
    go_enter Try.func33, Try.ntmps33
    go_wp2
    go_region_held3 (fun w' => w'.cell? ⟨j, 0, none⟩ = some (ptrV d) ∧ w'.cell? ⟨j, 1, none⟩ = some (strV nm))
      (first | exact ⟨q0, q1⟩ | exact ⟨z0, z1⟩)
      ((go_at_call 51; refine CA.out.mono ?_; rintro e w2 ⟨rfl, hs2⟩; obtain ⟨F', g1, g2, g3, g4, g5, g6⟩ := MID.out w2 hs2; have z0 : w2.cell? ⟨j, 0, none⟩ = some (ptrV d) := g3.cell 0; have z1 : w2.cell? ⟨j, 1, none⟩ = some (strV nm) := g3.cell 1; have S2 := Lib.hid (And.intro g1 (And.intro g2 (And.intro g3 (And.intro g4 (And.intro g5 g6))))); clear g1 g2 g3 g4 g5 g6 hs2))
    clear q0 q1 q2 z0 z1 q4
    have p4 : w2.cell? ⟨j, 4, none⟩ = some (.bool false) := S2.out.2.2.1.cell 4
    have p4f : w2.frozen? ⟨j, 4, none⟩ = false := S2.out.2.2.1.frozen 4
    go_wp2
    go_ret
    exact ⟨rfl, rj_cell S2.out.1 S2.out.2.1 S2.out.2.2.1 (S2.out.2.2.1.put 4 _) S2.out.2.2.2.1 HG.out S2.out.2.2.2.2.1 S2.out.2.2.2.2.2 hsf hln HLB.out⟩
end
end

section
open Go.RowKit

section
variable {w : World} {d : Nat} {s : DSt} {F : Nat → Prop} {j : Nat} {nm : List UInt8} {l : List (List UInt8)} {safe : Nat} {dead : Bool} {G : Nat → Prop}

/-- One more record in the reference journal, its list made anew. -/
theorem rjap_end {w2 w5 w6 w7 : World} {s' : DSt} {F' : Nat → Prop} {A0 A5 A6 A7 : Option Addr} {c0 c5 c6 c7 : Nat} {vs : List Value} {b : List UInt8} {o : Obj} (hD : RefAt w2 d s' F') (hdis : ∀ k, F' k → ¬ G k) (hB : Blk w2 j 65 #[ptrV d, strV nm, .slice A0 l.length c0, .int .i64 safe, .bool false]) (hV : RecsV w2 (.slice A0 l.length c0) l vs) (hG : G = fun k => k = j ∨ RecsF (.slice A0 l.length c0) vs k)
    (hU : Upd (fun k => F k ∨ G k) w w2) (hF : ∀ k, F' k → F k ∨ w.heap.size ≤ k) (h5 : Upd NoF w2 w5) (hO5 : Own w5 27 1 (.slice A5 l.length c5) l.length vs) (hn5 : ∀ k, OwnB (.slice A5 l.length c5) k → w2.heap.size ≤ k)
    (h6 : Upd NoF w5 w6) (hO6 : Own w6 5 1 (.slice A6 b.length c6) b.length (b.map byteV)) (hn6 : ∀ k, OwnB (.slice A6 b.length c6) k → w5.heap.size ≤ k)
    (hO7 : Own w7 27 1 (.slice A7 (l.length + 1) c7) (l.length + 1) (vs ++ [.slice A6 b.length c6])) (hU7 : Upd (OwnB (.slice A5 l.length c5)) (w6.alloc o) w7) (hN7 : ∀ k, OwnB (.slice A7 (l.length + 1) c7) k → OwnB (.slice A5 l.length c5) k ∨ (w6.alloc o).heap.size ≤ k)
    (hs : safe ≤ 1099511627776) (hl : l.length < 1099511627776) (hl2 : ∀ x ∈ l, x.length ≤ 65536) (hb : b.length ≤ 65536) : RJStep w F G d s' j nm (l ++ [b]) safe false (w7.setCell ⟨j, 2, none⟩ (.slice A7 (l.length + 1) c7)) := by
  have hGj : G j := by rw [hG]; exact .inl rfl
  have hGr : ∀ u ∈ vs, ∀ k, OwnB u k → G k := fun u hu k hk => by rw [hG]; exact .inr (.inr ⟨u, hu, hk⟩)
  have hV5 : RecsV w5 (.slice A5 l.length c5) l vs := ⟨hO5, fun i x hx => by obtain ⟨u, x1, x2⟩ := hV.2 i x hx; exact ⟨u, x1, x2.upd h5 (fun _ _ h => h)⟩⟩
  obtain ⟨g1, g2⟩ := RecsV.push hV5 (h6.alloc o) (hO6.upd ((Upd.refl NoF w6).alloc o) (fun _ _ h => h)) hO7 hU7 hN7
  have hz5 := h5.size
  have hz6 := h6.size
  have u7 : Upd NoF w2 w7 := ((h5.trans h6 (fun _ _ h => h)).alloc o).trans hU7 (fun k hk e => by have := hn5 k e; omega)
  have hB7 := u7.blk hB (fun h => h)
  have hu8 : Upd (fun k => k = j) w7 (w7.setCell ⟨j, 2, none⟩ (.slice A7 (l.length + 1) c7)) := (Upd.refl (fun k => k = j) w7).setCell (p := ⟨j, 2, none⟩) (.inl rfl) _
  have hV8 : RecsV (w7.setCell ⟨j, 2, none⟩ (.slice A7 (l.length + 1) c7)) (.slice A7 (l.length + 1) c7) (l ++ [b]) (vs ++ [.slice A6 b.length c6]) :=
    ⟨g1.1.upd hu8 (fun k hk e => g1.1.blk_ne hB7 (by decide) (by rw [← e]; exact hk)), fun i x hx => by obtain ⟨u, x1, x2⟩ := g1.2 i x hx; exact ⟨u, x1, x2.upd hu8 (fun k hk e => x2.blk_ne hB7 (by decide) (by rw [← e]; exact hk))⟩⟩
  have hsz : w.heap.size ≤ w2.heap.size := hU.size
  have hnew : ∀ k, RecsF (.slice A7 (l.length + 1) c7) (vs ++ [.slice A6 b.length c6]) k → G k ∨ w2.heap.size ≤ k := fun k hk => by
    rcases g2 k hk with (e | ⟨u, hu, e⟩) | e | e
    · exact .inr (hn5 k e)
    · exact .inl (hGr u hu k e)
    · exact .inr (by have := hn6 k e; omega)
    · simp at e; exact .inr (by omega)
  refine ⟨F', _, ⟨(hD.upd u7 (fun _ _ h => h)).upd hu8 (fun k hk e => hdis k hk (by rw [e]; exact hGj)), ⟨_, _, hB7.put 2 _, hV8, hs, by simp; omega, fun x hx => ?_, rfl⟩, fun k hk hg => ?_⟩, (hU.trans u7 (fun _ _ h => h.elim)).trans hu8 (fun k _ e => .inr (by rw [e]; exact hGj)), hF, fun k hg => ?_⟩
  · rcases List.mem_append.1 hx with e | e
    · exact hl2 x e
    · simp at e; subst e; exact hb
  · rcases hg with rfl | hg
    · exact hdis _ hk hGj
    · rcases hnew k hg with e | e
      · exact hdis k hk e
      · have := hD.lt hk; omega
  · rcases hg with rfl | hg
    · exact .inl hGj
    · rcases hnew k hg with e | e
      · exact .inl e
      · exact .inr (by omega)

set_option maxRecDepth 100000 in
set_option maxHeartbeats 8000000 in
theorem rJAppend_live (h : RJ w d s F j nm l safe false G) (hp : PW s.fs) {v : Value} {b : List UInt8} (hb : RdB (fun k => F k ∨ G k) w v b) (hbig : b.length ≤ 65536) (hl1 : ((getF s.fs nm).getD ⟨[], 0⟩).c.length ≤ 549755813888) (hL : s.fs.length ≤ 549755813888) (hll : l.length < 1099511627776) :
    Calls Try.prog 31 #[ptrV j, v] w (RJPost w F G d j nm (sAppend s nm (frameS l.length b)).1 (sAppend s nm (frameS l.length b)).2 (if (sAppend s nm (frameS l.length b)).1 = 0 then l ++ [b] else l) safe (decide ((sAppend s nm (frameS l.length b)).1 ≠ 0))) := by
  obtain ⟨i0, hi0, hz0, hz1, hz2⟩ := info_parts bytes_info
  obtain ⟨i1, hi1, hy0, hy1, hy2⟩ := info_parts byte_info
  obtain ⟨rv, vs, hB, hV, hsf, hln, hlb, hG⟩ := h.2.1
  obtain ⟨A0, c0, rfl, hlc, hcm⟩ := RecsAt.form ⟨vs, hV, rfl⟩
  have q0 : w.cell? ⟨j, 0, none⟩ = some (ptrV d) := hB.cell 0
  have q1 : w.cell? ⟨j, 1, none⟩ = some (strV nm) := hB.cell 1
  have q2 : w.cell? ⟨j, 2, none⟩ = some (.slice A0 l.length c0) := hB.cell 2
  have q4 : w.cell? ⟨j, 4, none⟩ = some (.bool false) := hB.cell 4
  obtain ⟨A, c, rfl, _⟩ := hb.now
  have t1 : decide ((65536 : Int) < (b.length : Int)) = false := by simp; omega
  have t1' : decide (65536 < b.length) = false := by simp; omega
  have hfl : (frameS l.length b).length = 12 + b.length := by simp [frameS, beB_len, jsumS_len]; omega
  obtain ⟨r, hr⟩ : ∃ r, sAppend s nm (frameS l.length b) = r := ⟨_, rfl⟩
  rw [hr]
  have CF := Lib.hid (rFrame_any (w := w.drew) (hb.now.keep ((Upd.refl NoF w).drew)) (by omega) l.length (by omega))
  have CA := Lib.hid (show ∀ w1 A1 c1, NewO w.drew (frameS l.length b) A1 c1 w1 → Calls Try.prog 35 #[ptrV d, strV nm, .slice A1 (frameS l.length b).length c1] w1 (RErr w1 d F r) from fun w1 A1 c1 h1 => by
    rw [← hr]
    have u1 : Upd NoF w w1 := ((Upd.refl NoF w).drew).trans h1.2.2 (fun _ _ h => h)
    have hdl := h.1.lt h.1.mem
    refine rappend_spec (h.1.upd u1 (fun _ _ h => h)) hp nm _ (frameS l.length b) ?_ (by omega) (by omega)
    exact h1.1.rdF (fun k hk hf => by have := h1.2.1 k hk; simp at this; omega))
  have K1 := Lib.hid (show ∀ w1 A1 c1, NewO w.drew (frameS l.length b) A1 c1 w1 → Blk w1 j 65 #[ptrV d, strV nm, .slice A0 l.length c0, .int .i64 safe, .bool false] ∧ Upd NoF w w1 from fun w1 A1 c1 h1 => ⟨h1.2.2.blk hB.drew (fun h => h), ((Upd.refl NoF w).drew).trans h1.2.2 (fun _ _ h => h)⟩)
  have MID := Lib.hid (show ∀ w1 w2, Upd NoF w w1 → RefStep w1 d r.2 F w2 → _ from fun w1 w2 h1 h2 => rjap_mid h hB hV hG h1 h2)
  have HBD := Lib.hid hb
  have HG := Lib.hid hG
  have HLB := Lib.hid hlb
  have HONE := Lib.hid hV.oneCell
  generalize frameS l.length b = fr at CF CA K1 hfl
  clear h hb hB hV hlb hG hr hfl hp
  obtain ⟨code, s'⟩ := r
  simp only at CA MID ⊢
  by_cases hc : code = 0
  · subst hc
    rw [if_pos rfl, show decide ((0 : Int) ≠ 0) = false from rfl]
    go_enter Try.func31, Try.ntmps31
    go_wp2
    go_region_held3 (fun w' => w'.cell? ⟨j, 0, none⟩ = some (ptrV d) ∧ w'.cell? ⟨j, 1, none⟩ = some (strV nm) ∧ w'.cell? ⟨j, 2, none⟩ = some (.slice A0 l.length c0))
      (first | exact ⟨q0, q1, q2⟩ | exact ⟨y0, y1, y2⟩ | exact ⟨z0, z1, z2⟩)
      (first
        | (go_at_call 63; refine CF.out.mono ?_; rintro e w1 ⟨A1, c1, rfl, hn1⟩; have y0 : w1.cell? ⟨j, 0, none⟩ = some (ptrV d) := (K1.out w1 A1 c1 hn1).1.cell 0; have y1 : w1.cell? ⟨j, 1, none⟩ = some (strV nm) := (K1.out w1 A1 c1 hn1).1.cell 1; have y2 : w1.cell? ⟨j, 2, none⟩ = some (.slice A0 l.length c0) := (K1.out w1 A1 c1 hn1).1.cell 2; have N1 := Lib.hid hn1; clear hn1)
        | (go_at_call 35; refine (CA.out w1 A1 c1 N1.out).mono ?_; rintro e w2 ⟨rfl, hs2⟩; obtain ⟨F', g1, g2, g3, g4, g5, g6⟩ := MID.out w1 w2 (K1.out w1 A1 c1 N1.out).2 hs2; have z0 : w2.cell? ⟨j, 0, none⟩ = some (ptrV d) := g3.cell 0; have z1 : w2.cell? ⟨j, 1, none⟩ = some (strV nm) := g3.cell 1; have z2 : w2.cell? ⟨j, 2, none⟩ = some (.slice A0 l.length c0) := g3.cell 2; have S2 := Lib.hid (And.intro g1 (And.intro g2 (And.intro g3 (And.intro g4 (And.intro g5 g6))))); clear g1 g2 g3 g4 g5 g6 hs2))
    clear q0 q1 q2 y0 y1 y2 z0 z1 q4
    have hjlt : j < w2.heap.size := S2.out.2.2.1.lt
    have p2f : w2.frozen? ⟨j, 2, none⟩ = false := S2.out.2.2.1.frozen 2
    have KB := Lib.hid (show ∀ w5, Upd NoF w2 w5 → Blk w5 j 65 #[ptrV d, strV nm, .slice A0 l.length c0, .int .i64 safe, .bool false] from fun w5 h5 => h5.blk S2.out.2.2.1 (fun h => h))
    have RB := Lib.hid (show ∀ w5, Upd NoF w2 w5 → Rd w5 1 (.slice A b.length c) b.length (b.map byteV) from fun w5 h5 => ((HBD.out.upd S2.out.2.2.2.2.1).now).keep h5)
    go_wp2_with (first
      | (at_builtin; refine wpList_append_new _ rfl (.tmp 36) (.tmp 40) 22 rfl 27 i0 _ 1 24 Try.underlying22 hi0 hz0 hz1 hz2 rfl (.slice (some ⟨w2.heap.size, 0, none⟩) 0 0) rfl (Own.fresh w2 _ _) (.slice A0 l.length c0) l.length vs rfl ((S2.out.2.2.2.1.1.upd ((Upd.refl NoF w2).alloc _) (fun _ _ h => h)).rd) HONE.out (by unfold maxLen; omega) (by omega) ?_; intro A5 c5 w5 hown5 hupd5 hnew5; have O5 := Lib.hid hown5; have U5 := Lib.hid (show Upd NoF w2 w5 from ((Upd.refl NoF w2).alloc _).trans hupd5 (fun k hk e => by simp [OwnB, Value.ownBlock] at e; omega)); have N5 := Lib.hid (show ∀ k, OwnB (.slice A5 l.length c5) k → w2.heap.size ≤ k from fun k hk => by rcases hnew5 k hk with e | e; (simp [OwnB, Value.ownBlock] at e; omega); (simp at e; omega)); have p5f : w5.frozen? ⟨j, 2, none⟩ = false := (KB.out w5 U5.out).frozen 2; have hj5 : j < w5.heap.size := Nat.lt_of_lt_of_le hjlt U5.out.size; clear hown5 hupd5 hnew5)
      | (at_builtin; refine wpList_append_new _ rfl (.tmp 42) (.tmp 43) 27 rfl 5 i1 _ 1 1 Try.underlying27 hi1 hy0 hy1 hy2 rfl (.slice (some ⟨w5.heap.size, 0, none⟩) 0 0) rfl (Own.fresh w5 _ _) (.slice A b.length c) b.length (b.map byteV) rfl (RB.out _ (U5.out.alloc _)) (bytes_oneCell _) (by unfold maxLen; omega) (by omega) ?_; intro A6 c6 w6 hown6 hupd6 hnew6; have O6 := Lib.hid hown6; have U6 := Lib.hid (show Upd NoF w5 w6 from ((Upd.refl NoF w5).alloc _).trans hupd6 (fun k hk e => by simp [OwnB, Value.ownBlock] at e; omega)); have N6 := Lib.hid (show ∀ k, OwnB (.slice A6 b.length c6) k → w5.heap.size ≤ k from fun k hk => by rcases hnew6 k hk with e | e; (simp [OwnB, Value.ownBlock] at e; omega); (simp at e; omega)); have hj6 : j < w6.heap.size := Nat.lt_of_lt_of_le hj5 U6.out.size; clear hown6 hupd6 hnew6)
      | (at_builtin; refine wpList_append_to _ rfl (.tmp 41) (.tmp 45) 22 rfl 27 i0 _ 1 24 Try.underlying22 hi0 hz0 hz1 hz2 rfl (.slice A5 l.length c5) l.length vs rfl (O5.out.upd (U6.out.alloc _) (fun _ _ h => h)) (.slice (some ⟨w6.heap.size, 0, none⟩) 1 1) 1 [.slice A6 b.length c6] rfl (Rd.of_blk (Blk.new w6 _ _) (by omega) (by unfold maxLen; omega) rfl (by intro i u hu; cases i with | zero => simpa using hu | succ i => simp at hu)) (by simp [Value.oneCell']) (by unfold maxLen; omega) (by omega) ?_; intro A7 c7 w7 hown7 hupd7 hnew7; have O7 := Lib.hid hown7; have U7 := Lib.hid hupd7; have N7 := Lib.hid hnew7; have hz25 := U5.out.size; have hz56 := U6.out.size; have hu27 : Upd NoF w2 w7 := ((U5.out.trans U6.out (fun _ _ h => h)).alloc _).trans hupd7 (fun k hk e => by have := N5.out k e; omega); have p7f : w7.frozen? ⟨j, 2, none⟩ = false := (KB.out w7 hu27).frozen 2; have p7 : w7.cell? ⟨j, 2, none⟩ = some (.slice A0 l.length c0) := (KB.out w7 hu27).cell 2; clear hown7 hupd7 hnew7 hu27))
    go_ret
    exact ⟨rfl, rjap_end S2.out.1 S2.out.2.1 S2.out.2.2.1 S2.out.2.2.2.1 HG.out S2.out.2.2.2.2.1 S2.out.2.2.2.2.2 U5.out O5.out N5.out U6.out O6.out N6.out O7.out U7.out N7.out hsf hll HLB.out hbig⟩
  · have t2 : (code == 0) = false := by simpa using hc
    have t2' : (code != 0) = true := by simpa using hc
    rw [if_neg hc, show decide (code ≠ 0) = true by simpa using hc]
    clear hc
    go_enter Try.func31, Try.ntmps31
    go_wp2
    go_region_held3 (fun w' => w'.cell? ⟨j, 0, none⟩ = some (ptrV d) ∧ w'.cell? ⟨j, 1, none⟩ = some (strV nm) ∧ w'.cell? ⟨j, 2, none⟩ = some (.slice A0 l.length c0))
      (first | exact ⟨q0, q1, q2⟩ | exact ⟨y0, y1, y2⟩ | exact ⟨z0, z1, z2⟩)
      (first
        | (go_at_call 63; refine CF.out.mono ?_; rintro e w1 ⟨A1, c1, rfl, hn1⟩; have y0 : w1.cell? ⟨j, 0, none⟩ = some (ptrV d) := (K1.out w1 A1 c1 hn1).1.cell 0; have y1 : w1.cell? ⟨j, 1, none⟩ = some (strV nm) := (K1.out w1 A1 c1 hn1).1.cell 1; have y2 : w1.cell? ⟨j, 2, none⟩ = some (.slice A0 l.length c0) := (K1.out w1 A1 c1 hn1).1.cell 2; have N1 := Lib.hid hn1; clear hn1)
        | (go_at_call 35; refine (CA.out w1 A1 c1 N1.out).mono ?_; rintro e w2 ⟨rfl, hs2⟩; obtain ⟨F', g1, g2, g3, g4, g5, g6⟩ := MID.out w1 w2 (K1.out w1 A1 c1 N1.out).2 hs2; have z0 : w2.cell? ⟨j, 0, none⟩ = some (ptrV d) := g3.cell 0; have z1 : w2.cell? ⟨j, 1, none⟩ = some (strV nm) := g3.cell 1; have z2 : w2.cell? ⟨j, 2, none⟩ = some (.slice A0 l.length c0) := g3.cell 2; have S2 := Lib.hid (And.intro g1 (And.intro g2 (And.intro g3 (And.intro g4 (And.intro g5 g6))))); clear g1 g2 g3 g4 g5 g6 hs2))
    clear q0 q1 q2 y0 y1 y2 z0 z1 z2 q4
    have p4 : w2.cell? ⟨j, 4, none⟩ = some (.bool false) := S2.out.2.2.1.cell 4
    have p4f : w2.frozen? ⟨j, 4, none⟩ = false := S2.out.2.2.1.frozen 4
    go_wp2
    go_ret
    exact ⟨rfl, rj_cell S2.out.1 S2.out.2.1 S2.out.2.2.1 (S2.out.2.2.1.put 4 _) S2.out.2.2.2.1 HG.out S2.out.2.2.2.2.1 S2.out.2.2.2.2.2 hsf hln HLB.out⟩
end
end
end Go.Proofs.Ytmapijpphnlcmaa
