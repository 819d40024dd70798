/- Package journal: Open. Conditions: sizes, a name that is not empty. -/
import Derived.Test.YtmapijpphnlcmaaJr6
namespace Go.Proofs.Ytmapijpphnlcmaa
open Go.RowKit

/-- What Open does: the error, the disk, the records. -/
def sOpen (s : DSt) (nm : List UInt8) : Int × DSt × List (List UInt8) :=
  let r := sRead s nm
  if r.2 ≠ 0 ∧ r.2 ≠ 6 then (r.2, s, []) else
  let p := parseS r.1
  let t := if p.2 < r.1.length then sTruncate s nm p.2 else (0, s)
  if t.1 ≠ 0 then (t.1, t.2, []) else
  let u := if r.2 = 0 then sSync t.2 nm else (0, t.2)
  if u.1 ≠ 0 then (u.1, u.2, []) else (0, u.2, p.1)

theorem sRead_six (s : DSt) (nm : List UInt8) (h : (sRead s nm).2 = 6) : (sRead s nm).1 = [] := by
  unfold sRead at h ⊢
  split at h
  · simp at h
  · split at h
    · simp at h
    · rename_i h1 h2
      rw [if_neg h1, if_neg h2]
      split at h
      · rfl
      · simp at h
theorem parse_nil : parseS [] = ([], 0) := by decide

theorem sOpen_err {s : DSt} {nm bs : List UInt8} {code : Int} (hr : sRead s nm = (bs, code)) (h0 : code ≠ 0) (h6 : code ≠ 6) : sOpen s nm = (code, s, []) := by simp [sOpen, hr, h0, h6]
theorem sOpen_none {s : DSt} {nm : List UInt8} (hr : sRead s nm = ([], 6)) : sOpen s nm = (0, s, []) := by simp [sOpen, hr, parse_nil]
theorem sOpen_cut {s : DSt} {nm bs : List UInt8} {l : List (List UInt8)} {n : Nat} (hr : sRead s nm = (bs, 0)) (hp : parseS bs = (l, n)) (hn : n < bs.length) : sOpen s nm = if (sTruncate s nm n).1 ≠ 0 then ((sTruncate s nm n).1, (sTruncate s nm n).2, []) else if (sSync (sTruncate s nm n).2 nm).1 ≠ 0 then ((sSync (sTruncate s nm n).2 nm).1, (sSync (sTruncate s nm n).2 nm).2, []) else (0, (sSync (sTruncate s nm n).2 nm).2, l) := by
  simp [sOpen, hr, hp, hn]
theorem sOpen_whole {s : DSt} {nm bs : List UInt8} {l : List (List UInt8)} {n : Nat} (hr : sRead s nm = (bs, 0)) (hp : parseS bs = (l, n)) (hn : ¬ n < bs.length) : sOpen s nm = if (sSync s nm).1 ≠ 0 then ((sSync s nm).1, (sSync s nm).2, []) else (0, (sSync s nm).2, l) := by
  simp [sOpen, hr, hp, hn]

theorem PAt.recs {bs : List UInt8} : ∀ (f : Nat) (l : List (List UInt8)) (a : Nat), (∀ b ∈ l, b.length ≤ 65536) → l.length * 12 ≤ a → a ≤ bs.length → (∀ b ∈ (parseF bs f l a).1, b.length ≤ 65536) ∧ (parseF bs f l a).1.length * 12 ≤ (parseF bs f l a).2 ∧ (parseF bs f l a).2 ≤ bs.length
  | 0, l, a, h1, h2, h3 => ⟨h1, h2, h3⟩
  | f + 1, l, a, h1, h2, h3 => by
    rw [parseF]
    cases hs : parseStep bs a l.length with
    | none => exact ⟨h1, h2, h3⟩
    | some x =>
      obtain ⟨r, a'⟩ := x
      obtain ⟨e1, e2, e3, e4⟩ := parseStep_le hs
      refine PAt.recs f (l ++ [r]) a' (fun b hb => ?_) (by simp; omega) e2
      rcases List.mem_append.1 hb with h | h
      · exact h1 b h
      · simp at h; subst h; exact e3
theorem parse_recs (bs : List UInt8) : (∀ b ∈ (parseS bs).1, b.length ≤ 65536) ∧ (parseS bs).1.length * 12 ≤ (parseS bs).2 ∧ (parseS bs).2 ≤ bs.length := PAt.recs _ [] 0 (by simp) (by simp) (by omega)

/-- Under way: the disk, and the records that have been read. -/
def OpenMid (w : World) (F : Nat → Prop) (d : Nat) (s : DSt) (v : Value) (l : List (List UInt8)) (wi : World) : Prop :=
  ∃ Fi FR, DiskAt wi d s Fi ∧ RecsAt wi v l FR ∧ (∀ k, Fi k → ¬ FR k) ∧ (∀ k, Fi k → F k ∨ w.heap.size ≤ k) ∧ (∀ k, FR k → w.heap.size ≤ k) ∧ Upd F w wi

section
variable {w wi : World} {F : Nat → Prop} {d : Nat} {s : DSt} {v : Value} {l : List (List UInt8)} {nm : List UInt8}

theorem OpenMid.call {r : Int × DSt} {f : FuncId} {args : Array Value} (h : OpenMid w F d s v l wi) (_hF : ∀ k, F k → k < w.heap.size) (hc : ∀ Fi, DiskAt wi d s Fi → Calls Try.prog f args wi (ErrPost wi d Fi r)) : Calls Try.prog f args wi fun e w' => e = retE r.1 ∧ OpenMid w F d r.2 v l w' := by
  obtain ⟨Fi, FR, h1, h2, h3, h4, h5, h6⟩ := h
  refine (hc Fi h1).mono ?_
  rintro e w' ⟨rfl, F', a1, a2, a3⟩
  refine ⟨rfl, F', FR, a1, h2.upd a2 (fun k hk e => h3 k e hk), fun k hk hr => ?_, fun k hk => ?_, h5, h6.trans a2 (fun k hk e => (h4 k e).resolve_right (by omega))⟩
  · rcases a3 k hk with e | e
    · exact h3 k e hr
    · have := h2.lt hr; omega
  · rcases a3 k hk with e | e
    · exact h4 k e
    · exact .inr (Nat.le_trans h6.size e)
theorem OpenMid.step (h : OpenMid w F d s v l wi) : DiskStep w d s F wi := by
  obtain ⟨Fi, FR, h1, h2, h3, h4, h5, h6⟩ := h
  exact ⟨Fi, h1, h6, h4⟩

theorem DiskStep.up {w w' : World} {d : Nat} {s : DSt} {F : Nat → Prop} (h : DiskStep w d s F w') : w.heap.size ≤ w'.heap.size := by
  obtain ⟨F', a, b, c⟩ := h
  exact b.size
theorem DiskStep.pre2 {w w' : World} {d : Nat} {s : DSt} {F : Nat → Prop} (h : DiskAt w d s F) (hu : Upd NoF w w') : DiskStep w d s F w' := ⟨F, h.upd hu (fun _ _ h => h), hu.mono (fun _ _ h => h.elim), fun _ hk => .inl hk⟩

def OpenPost (w : World) (F : Nat → Prop) (d : Nat) (nm : List UInt8) (r : Int × DSt × List (List UInt8)) (e : Ending) (w' : World) : Prop :=
  (r.1 = 0 ∧ ∃ j F' G', e = .returned (.tuple #[ptrV j, .int .i64 0]) ∧ DiskAt w' d r.2.1 F' ∧ JAt w' j d nm r.2.2 r.2.2.length false G' ∧ (∀ k, F' k → ¬ G' k) ∧ (∀ k, F' k → F k ∨ w.heap.size ≤ k) ∧ (∀ k, G' k → w.heap.size ≤ k) ∧ Upd F w w') ∨
  (r.1 ≠ 0 ∧ e = .returned (.tuple #[.pointer none, .int .i64 r.1]) ∧ DiskStep w d r.2.1 F w')

theorem OpenMid.done (h : OpenMid w F d s v l wi) (hl : ∀ b ∈ l, b.length ≤ 65536) (hn : l.length ≤ 1099511627776) (hw : w.heap.size ≤ wi.heap.size) : OpenPost w F d nm (0, s, l) (.returned (.tuple #[ptrV wi.heap.size, .int .i64 0])) (wi.alloc (.cells #[ptrV d, strV nm, v, .int .i64 (l.length : Int), .bool false] 99)) := by
  obtain ⟨Fi, FR, h1, h2, h3, h4, h5, h6⟩ := h
  have hu : Upd NoF wi (wi.alloc (.cells #[ptrV d, strV nm, v, .int .i64 (l.length : Int), .bool false] 99)) := (Upd.refl NoF wi).alloc _
  obtain ⟨vs, e1, e2⟩ := h2.upd hu (fun _ _ h => h)
  refine .inl ⟨rfl, wi.heap.size, Fi, _, rfl, h1.upd hu (fun _ _ h => h), ⟨v, vs, Blk.new wi _ _, e1, hn, hn, hl, rfl⟩, fun k hk hg => ?_, h4, fun k hg => ?_, h6.trans hu (fun _ _ h => h.elim)⟩
  · rcases hg with rfl | hg
    · have := h1.lt hk; omega
    · exact h3 k hk (by rw [e2]; exact hg)
  · rcases hg with rfl | hg
    · exact hw
    · exact h5 k (by rw [e2]; exact hg)

set_option maxRecDepth 100000 in
set_option maxHeartbeats 8000000 in
theorem jOpen_any (h : DiskAt w d s F) (nm : List UInt8) (hm : nm.length ≤ maxLen) (hb : (sRead s nm).1.length ≤ 549755813888) : Calls Try.prog 28 #[ptrV d, strV nm] w (OpenPost w F d nm (sOpen s nm)) := by
  have hFlt : ∀ k, F k → k < w.heap.size := fun k hk => h.lt hk
  have CR := Lib.hid (read_spec h nm hm)
  have SX := Lib.hid (sRead_six s nm)
  have H := Lib.hid h
  obtain ⟨r, hr⟩ : ∃ r, sRead s nm = r := ⟨_, rfl⟩
  rw [hr] at CR SX hb
  obtain ⟨bs, code⟩ := r
  simp only at SX hb
  obtain ⟨p, hp⟩ : ∃ p, parseS bs = p := ⟨_, rfl⟩
  have hpr := parse_recs bs
  have MID := Lib.hid (show ∀ w1 w2 v F2, Upd NoF w w1 → RecsAt w2 v (parseS bs).1 F2 → (∀ k, F2 k → w1.heap.size ≤ k) → Upd NoF w1 w2 → OpenMid w F d s v (parseS bs).1 w2 from fun w1 w2 v F2 u1 hr2 hf2 u2 => by
    have u12 : Upd NoF w w2 := u1.trans u2 (fun _ _ h => h)
    have hs1 := u1.size
    refine ⟨F, F2, h.upd u12 (fun _ _ h => h), hr2, fun k hk hk2 => ?_, fun k hk => .inl hk, fun k hk => ?_, u12.mono (fun _ _ h => h.elim)⟩
    · have := hFlt k hk; have := hf2 k hk2; omega
    · have := hf2 k hk; omega)
  rw [hp] at hpr MID
  obtain ⟨l, n⟩ := p
  simp only at hpr MID
  obtain ⟨hp1, hp2, hp3⟩ := hpr
  have CPP := Lib.hid (show ∀ w1 A c, Own w1 5 1 (.slice A bs.length c) bs.length (bs.map byteV) → Calls Try.prog 25 #[.slice A bs.length c] w1 (ParsePost w1 bs) from fun w1 A c ho => jParse_any ho.rd hb)
  have HL := Lib.hid hp1
  have HF := Lib.hid hFlt
  have HP := Lib.hid hp
  have hll : l.length ≤ 1099511627776 := by omega
  have HR := Lib.hid hr
  have HM := Lib.hid hm
  clear h hp hp1 hFlt hr hm
  by_cases h0 : code = 0
  · subst h0
    by_cases hn : n < bs.length
    · have t1 : decide ((n : Int) < (bs.length : Int)) = true := by simpa using hn
      have EQ := Lib.hid (sOpen_cut HR.out HP.out hn)
      rw [EQ.out]
      obtain ⟨t, ht⟩ : ∃ t, sTruncate s nm n = t := ⟨_, rfl⟩
      rw [ht]
      obtain ⟨tc, ts⟩ := t
      by_cases htc : tc = 0
      · subst htc
        obtain ⟨u, hu⟩ : ∃ u, sSync ts nm = u := ⟨_, rfl⟩
        simp only [ne_eq, not_true_eq_false, if_false]
        rw [hu]
        obtain ⟨uc, us⟩ := u
        by_cases huc : uc = 0
        · subst huc
          simp only [not_true_eq_false, if_false]
          go_enter Try.func28, Try.ntmps28
          go_wp2_with fail
          refine CR.out.mono ?_
          rintro e w1 ⟨A1, c1, rfl, hO1, hn1, hU1⟩
          have U1 := Lib.hid hU1
          have O1 := Lib.hid hO1
          clear hO1 hn1 hU1
          go_wp2_with fail
          refine (CPP.out w1 A1 c1 O1.out).mono ?_
          rw [show ParsePost w1 bs = fun e w' => ∃ v F, e = .returned (.tuple #[v, .int .i64 ((parseS bs).2 : Int)]) ∧ RecsAt w' v (parseS bs).1 F ∧ (∀ k, F k → w1.heap.size ≤ k) ∧ Upd NoF w1 w' from rfl, HP.out]
          rintro e w2 ⟨v, F2, rfl, hr2, hf2, hu2⟩
          obtain ⟨A2, c2, hv2, hlc2, hcm2⟩ := hr2.form
          subst hv2
          have M2 := Lib.hid (MID.out w1 w2 _ F2 U1.out hr2 hf2 hu2)
          clear hr2 hf2 hu2
          simp only at M2
          go_wp2_with fail
          refine (OpenMid.call M2.out HF.out (fun Fi hd => truncate_spec hd nm HM.out (n : Int) (by omega) (by omega))).mono ?_
          rw [ht]
          rintro e w4 ⟨rfl, hm4⟩
          have MM := Lib.hid hm4
          clear hm4
          go_wp2_with fail
          refine (OpenMid.call MM.out HF.out (fun Fi hd => sync_spec hd nm HM.out)).mono ?_
          rw [hu]
          rintro e w5 ⟨rfl, hm5⟩
          have M5 := Lib.hid hm5
          clear hm5
          simp only at M5
          go_wp2
          go_ret2
          exact OpenMid.done M5.out HL.out hll M5.out.step.up
        · simp only [huc, not_false_eq_true, if_true]
          have t3 : (uc == 0) = false := by simpa using huc
          have t3' : (uc != 0) = true := by simpa using huc
          have HUC := Lib.hid huc
          clear huc
          go_enter Try.func28, Try.ntmps28
          go_wp2_with fail
          refine CR.out.mono ?_
          rintro e w1 ⟨A1, c1, rfl, hO1, hn1, hU1⟩
          have U1 := Lib.hid hU1
          have O1 := Lib.hid hO1
          clear hO1 hn1 hU1
          go_wp2_with fail
          refine (CPP.out w1 A1 c1 O1.out).mono ?_
          rw [show ParsePost w1 bs = fun e w' => ∃ v F, e = .returned (.tuple #[v, .int .i64 ((parseS bs).2 : Int)]) ∧ RecsAt w' v (parseS bs).1 F ∧ (∀ k, F k → w1.heap.size ≤ k) ∧ Upd NoF w1 w' from rfl, HP.out]
          rintro e w2 ⟨v, F2, rfl, hr2, hf2, hu2⟩
          obtain ⟨A2, c2, hv2, hlc2, hcm2⟩ := hr2.form
          subst hv2
          have M2 := Lib.hid (MID.out w1 w2 _ F2 U1.out hr2 hf2 hu2)
          clear hr2 hf2 hu2
          simp only at M2
          go_wp2_with fail
          refine (OpenMid.call M2.out HF.out (fun Fi hd => truncate_spec hd nm HM.out (n : Int) (by omega) (by omega))).mono ?_
          rw [ht]
          rintro e w4 ⟨rfl, hm4⟩
          have MM := Lib.hid hm4
          clear hm4
          go_wp2_with fail
          refine (OpenMid.call MM.out HF.out (fun Fi hd => sync_spec hd nm HM.out)).mono ?_
          rw [hu]
          rintro e w5 ⟨rfl, hm5⟩
          have M5 := Lib.hid hm5
          clear hm5
          go_wp2
          go_ret2
          exact .inr ⟨HUC.out, rfl, M5.out.step⟩
      · simp only [ne_eq, htc, not_false_eq_true, if_true]
        have t2 : (tc == 0) = false := by simpa using htc
        have t2' : (tc != 0) = true := by simpa using htc
        have HTC := Lib.hid htc
        clear htc
        go_enter Try.func28, Try.ntmps28
        go_wp2_with fail
        refine CR.out.mono ?_
        rintro e w1 ⟨A1, c1, rfl, hO1, hn1, hU1⟩
        have U1 := Lib.hid hU1
        have O1 := Lib.hid hO1
        clear hO1 hn1 hU1
        go_wp2_with fail
        refine (CPP.out w1 A1 c1 O1.out).mono ?_
        rw [show ParsePost w1 bs = fun e w' => ∃ v F, e = .returned (.tuple #[v, .int .i64 ((parseS bs).2 : Int)]) ∧ RecsAt w' v (parseS bs).1 F ∧ (∀ k, F k → w1.heap.size ≤ k) ∧ Upd NoF w1 w' from rfl, HP.out]
        rintro e w2 ⟨v, F2, rfl, hr2, hf2, hu2⟩
        obtain ⟨A2, c2, hv2, hlc2, hcm2⟩ := hr2.form
        subst hv2
        have M2 := Lib.hid (MID.out w1 w2 _ F2 U1.out hr2 hf2 hu2)
        clear hr2 hf2 hu2
        simp only at M2
        go_wp2_with fail
        refine (OpenMid.call M2.out HF.out (fun Fi hd => truncate_spec hd nm HM.out (n : Int) (by omega) (by omega))).mono ?_
        rw [ht]
        rintro e w4 ⟨rfl, hm4⟩
        have M4 := Lib.hid hm4
        clear hm4
        go_wp2
        go_ret2
        exact .inr ⟨HTC.out, rfl, M4.out.step⟩
    · have t1 : decide ((n : Int) < (bs.length : Int)) = false := by simp; omega
      have EQ := Lib.hid (sOpen_whole HR.out HP.out hn)
      rw [EQ.out]
      obtain ⟨u, hu⟩ : ∃ u, sSync s nm = u := ⟨_, rfl⟩
      rw [hu]
      obtain ⟨uc, us⟩ := u
      by_cases huc : uc = 0
      · subst huc
        simp only [ne_eq, not_true_eq_false, if_false]
        go_enter Try.func28, Try.ntmps28
        go_wp2_with fail
        refine CR.out.mono ?_
        rintro e w1 ⟨A1, c1, rfl, hO1, hn1, hU1⟩
        have U1 := Lib.hid hU1
        have O1 := Lib.hid hO1
        clear hO1 hn1 hU1
        go_wp2_with fail
        refine (CPP.out w1 A1 c1 O1.out).mono ?_
        rw [show ParsePost w1 bs = fun e w' => ∃ v F, e = .returned (.tuple #[v, .int .i64 ((parseS bs).2 : Int)]) ∧ RecsAt w' v (parseS bs).1 F ∧ (∀ k, F k → w1.heap.size ≤ k) ∧ Upd NoF w1 w' from rfl, HP.out]
        rintro e w2 ⟨v, F2, rfl, hr2, hf2, hu2⟩
        obtain ⟨A2, c2, hv2, hlc2, hcm2⟩ := hr2.form
        subst hv2
        have M2 := Lib.hid (MID.out w1 w2 _ F2 U1.out hr2 hf2 hu2)
        clear hr2 hf2 hu2
        simp only at M2
        go_wp2_with fail
        refine (OpenMid.call M2.out HF.out (fun Fi hd => sync_spec hd nm HM.out)).mono ?_
        rw [hu]
        rintro e w5 ⟨rfl, hm5⟩
        have M5 := Lib.hid hm5
        clear hm5
        simp only at M5
        go_wp2
        go_ret2
        exact OpenMid.done M5.out HL.out hll M5.out.step.up
      · simp only [ne_eq, huc, not_false_eq_true, if_true]
        have t3 : (uc == 0) = false := by simpa using huc
        have t3' : (uc != 0) = true := by simpa using huc
        have HUC := Lib.hid huc
        clear huc
        go_enter Try.func28, Try.ntmps28
        go_wp2_with fail
        refine CR.out.mono ?_
        rintro e w1 ⟨A1, c1, rfl, hO1, hn1, hU1⟩
        have U1 := Lib.hid hU1
        have O1 := Lib.hid hO1
        clear hO1 hn1 hU1
        go_wp2_with fail
        refine (CPP.out w1 A1 c1 O1.out).mono ?_
        rw [show ParsePost w1 bs = fun e w' => ∃ v F, e = .returned (.tuple #[v, .int .i64 ((parseS bs).2 : Int)]) ∧ RecsAt w' v (parseS bs).1 F ∧ (∀ k, F k → w1.heap.size ≤ k) ∧ Upd NoF w1 w' from rfl, HP.out]
        rintro e w2 ⟨v, F2, rfl, hr2, hf2, hu2⟩
        obtain ⟨A2, c2, hv2, hlc2, hcm2⟩ := hr2.form
        subst hv2
        have M2 := Lib.hid (MID.out w1 w2 _ F2 U1.out hr2 hf2 hu2)
        clear hr2 hf2 hu2
        simp only at M2
        go_wp2_with fail
        refine (OpenMid.call M2.out HF.out (fun Fi hd => sync_spec hd nm HM.out)).mono ?_
        rw [hu]
        rintro e w5 ⟨rfl, hm5⟩
        have M5 := Lib.hid hm5
        clear hm5
        go_wp2
        go_ret2
        exact .inr ⟨HUC.out, rfl, M5.out.step⟩
  · have t0 : (code == 0) = false := by simpa using h0
    have t0' : (code != 0) = true := by simpa using h0
    by_cases h6 : code = 6
    · subst h6
      obtain rfl := SX.out rfl
      rw [sOpen_none HR.out]
      obtain ⟨rfl, rfl⟩ : l = [] ∧ n = 0 := by have := HP.out; rw [parse_nil] at this; simpa using this.symm
      go_enter Try.func28, Try.ntmps28
      go_wp2_with fail
      refine CR.out.mono ?_
      rintro e w1 ⟨A1, c1, rfl, hO1, hn1, hU1⟩
      have U1 := Lib.hid hU1
      have O1 := Lib.hid hO1
      clear hO1 hn1 hU1
      go_wp2_with fail
      refine (CPP.out w1 A1 c1 O1.out).mono ?_
      rw [show ParsePost w1 [] = fun e w' => ∃ v F, e = .returned (.tuple #[v, .int .i64 ((parseS []).2 : Int)]) ∧ RecsAt w' v (parseS []).1 F ∧ (∀ k, F k → w1.heap.size ≤ k) ∧ Upd NoF w1 w' from rfl, HP.out]
      rintro e w2 ⟨v, F2, rfl, hr2, hf2, hu2⟩
      obtain ⟨A2, c2, hv2, hlc2, hcm2⟩ := hr2.form
      subst hv2
      have M2 := Lib.hid (MID.out w1 w2 _ F2 U1.out hr2 hf2 hu2)
      clear hr2 hf2 hu2
      simp only at M2
      simp only [List.length_nil] at *
      go_wp2
      go_ret2
      have := OpenMid.done (nm := nm) M2.out HL.out hll M2.out.step.up
      exact this
    · have t6 : (code == 6) = false := by simpa using h6
      have t6' : (code != 6) = true := by simpa using h6
      rw [sOpen_err HR.out h0 h6]
      have H0 := Lib.hid h0
      clear h0 h6
      go_enter Try.func28, Try.ntmps28
      go_wp2_with fail
      refine CR.out.mono ?_
      rintro e w1 ⟨A1, c1, rfl, hO1, hn1, hU1⟩
      have U1 := Lib.hid hU1
      have O1 := Lib.hid hO1
      clear hO1 hn1 hU1
      go_wp2
      go_ret2
      exact .inr ⟨H0.out, rfl, DiskStep.pre2 H.out U1.out⟩
end
end Go.Proofs.Ytmapijpphnlcmaa
