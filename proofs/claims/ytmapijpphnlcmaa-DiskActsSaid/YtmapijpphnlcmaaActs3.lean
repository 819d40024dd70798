/- What one act of DiskActs does to the reference disk. Conditions: sizes, names pairwise distinct, durable parts within the files. -/
import Derived.Test.YtmapijpphnlcmaaActs1
import Derived.Test.YtmapijpphnlcmaaRefF
namespace Go.Proofs.Ytmapijpphnlcmaa
open Go.RowKit

theorem RefAt.upd {w w' : World} {m : Nat} {s : DSt} {F G : Nat → Prop} (h : RefAt w m s F) (hu : Upd G w w') (hG : ∀ k, F k → ¬ G k) : RefAt w' m s F := by
  obtain ⟨lv, R, a, b, rfl⟩ := h
  exact ⟨lv, R, a.upd hu hG, b, rfl⟩
theorem RefStep.pre {w w1 w' : World} {m : Nat} {s : DSt} {F : Nat → Prop} (hu : Upd NoF w w1) (h : RefStep w1 m s F w') : RefStep w m s F w' := by
  obtain ⟨F', a, b, c⟩ := h
  refine ⟨F', a, (hu.mono (G := F) (fun _ _ h => h.elim)).trans b (fun _ _ h => h), fun k hk => ?_⟩
  rcases c k hk with h | h
  · exact .inl h
  · exact .inr (Nat.le_trans hu.size h)
theorem RefAt.mem {w : World} {m : Nat} {s : DSt} {F : Nat → Prop} (h : RefAt w m s F) : F m := by
  obtain ⟨lv, R, a, b, rfl⟩ := h
  exact .inl rfl
theorem rcrash_spec {w : World} {m : Nat} {s : DSt} {F : Nat → Prop} (h : RefAt w m s F) (hq : ∀ p ∈ s.fs, p.2.dur ≤ p.2.c.length) (v : Value) (picks : List Int) (hv : RdI F w v picks) (hp : ∀ z ∈ picks, -9223372036854775808 ≤ z ∧ z ≤ 9223372036854775807) (hL : s.fs.length ≤ 4294967296) :
    Calls Try.prog 36 #[ptrV m, v] w fun e w' => e = .returned (.tuple #[]) ∧ RefStep w m (sCrash s picks) F w' := by
  obtain ⟨lv, R, a, b, rfl⟩ := h
  refine (rcrash_any a (fun r hr => ?_) v picks (hv.mono (fun k _ e => .inl e)) hp (by rw [b] at hL; simpa using hL)).mono ?_
  · exact hq (absRR r) (by rw [b]; exact List.mem_map.2 ⟨r, hr, rfl⟩)
  · rintro e w' ⟨rfl, lv', R', hd, he, hu, hf⟩
    exact ⟨rfl, _, ⟨lv', R', hd, by rw [he, ← b]; rfl, rfl⟩, hu.mono (fun k _ e => .inl e), hf⟩

set_option maxRecDepth 100000 in
set_option maxHeartbeats 4000000 in
theorem refdo_0 {w : World} {m : Nat} {s : DSt} {F : Nat → Prop} (h : RefAt w m s F) (kind : Int) (nm to : List UInt8) (dv : Value) (data : List UInt8) (n : Int) (pv : Value) (picks : List Int) (ha : ActOk F w ⟨kind, nm, to, dv, data, n, pv, picks⟩) (hl : ((getF s.fs nm).getD ⟨[], 0⟩).c.length + data.length ≤ 1099511627776) (hL : s.fs.length ≤ 4294967296) (hp : PW s.fs) (hq : ∀ p ∈ s.fs, p.2.dur ≤ p.2.c.length)
    (hk : kind = 0) : Calls Try.prog 21 #[ptrV m, aggA ⟨kind, nm, to, dv, data, n, pv, picks⟩] w (RErr w m F (sAppend s nm data)) := by
  subst hk
  have hL2 : s.fs.length < maxLen := by unfold maxLen; omega
  have hu : ∀ o, Upd NoF w (w.alloc o) := fun o => (Upd.refl NoF w).alloc o
  have HH := Lib.hid (show ∀ o, RefAt (w.alloc o) m s F from fun o => h.upd (hu o) (fun _ _ h => h))
  have HA := Lib.hid (show ∀ o, ActOk F (w.alloc o) _ from fun o => ha.upd ((Upd.refl F w).alloc o))
  have HU := Lib.hid hu
  have HL := Lib.hid hl
  have HL2 := Lib.hid hL2
  have HN := Lib.hid (show s.fs.length + 1 ≤ 1099511627776 by omega)
  have HM := Lib.hid h.mem
  have HP := Lib.hid hp
  have HQ := Lib.hid hq
  have T0 := Lib.hid ha.nl
  have T1 := Lib.hid ha.tl
  have T2 := Lib.hid ha.nb.1
  have T3 := Lib.hid ha.nb.2
  have H := Lib.hid h
  obtain ⟨A0, c0, e0, _⟩ := ha.data.now
  obtain ⟨A1, c1, e1, _⟩ := ha.picks.now
  simp only at e0 e1
  subst e0 e1
  clear h ha hu hl hL2 hp hq
  go_enter Try.func21, Try.ntmps21
  go_wp2_with (go_at_call 35; refine (rappend_spec (HH.out _) HP.out nm _ data ((HA.out _).data.mono (fun k _ e => by rw [e]; exact HM.out)) HL.out HN.out).mono ?_; rintro e w2 ⟨rfl, hs2⟩; have S2 := Lib.hid hs2; clear hs2)
  go_ret
  exact ⟨rfl, S2.out.pre (HU.out _)⟩
set_option maxRecDepth 100000 in
set_option maxHeartbeats 4000000 in
theorem refdo_1 {w : World} {m : Nat} {s : DSt} {F : Nat → Prop} (h : RefAt w m s F) (kind : Int) (nm to : List UInt8) (dv : Value) (data : List UInt8) (n : Int) (pv : Value) (picks : List Int) (ha : ActOk F w ⟨kind, nm, to, dv, data, n, pv, picks⟩) (hl : ((getF s.fs nm).getD ⟨[], 0⟩).c.length + data.length ≤ 1099511627776) (hL : s.fs.length ≤ 4294967296) (hp : PW s.fs) (hq : ∀ p ∈ s.fs, p.2.dur ≤ p.2.c.length)
    (hk : kind = 1) : Calls Try.prog 21 #[ptrV m, aggA ⟨kind, nm, to, dv, data, n, pv, picks⟩] w (RErr w m F (sTruncate s nm n)) := by
  subst hk
  have hL2 : s.fs.length < maxLen := by unfold maxLen; omega
  have hu : ∀ o, Upd NoF w (w.alloc o) := fun o => (Upd.refl NoF w).alloc o
  have HH := Lib.hid (show ∀ o, RefAt (w.alloc o) m s F from fun o => h.upd (hu o) (fun _ _ h => h))
  have HA := Lib.hid (show ∀ o, ActOk F (w.alloc o) _ from fun o => ha.upd ((Upd.refl F w).alloc o))
  have HU := Lib.hid hu
  have HL := Lib.hid hl
  have HL2 := Lib.hid hL2
  have HN := Lib.hid (show s.fs.length + 1 ≤ 1099511627776 by omega)
  have HM := Lib.hid h.mem
  have HP := Lib.hid hp
  have HQ := Lib.hid hq
  have T0 := Lib.hid ha.nl
  have T1 := Lib.hid ha.tl
  have T2 := Lib.hid ha.nb.1
  have T3 := Lib.hid ha.nb.2
  have H := Lib.hid h
  obtain ⟨A0, c0, e0, _⟩ := ha.data.now
  obtain ⟨A1, c1, e1, _⟩ := ha.picks.now
  simp only at e0 e1
  subst e0 e1
  clear h ha hu hl hL2 hp hq
  go_enter Try.func21, Try.ntmps21
  go_wp2_with (go_at_call 50; refine (rtruncate_spec (HH.out _) HP.out nm n T2.out T3.out).mono ?_; rintro e w2 ⟨rfl, hs2⟩; have S2 := Lib.hid hs2; clear hs2)
  go_ret
  exact ⟨rfl, S2.out.pre (HU.out _)⟩
set_option maxRecDepth 100000 in
set_option maxHeartbeats 4000000 in
theorem refdo_2 {w : World} {m : Nat} {s : DSt} {F : Nat → Prop} (h : RefAt w m s F) (kind : Int) (nm to : List UInt8) (dv : Value) (data : List UInt8) (n : Int) (pv : Value) (picks : List Int) (ha : ActOk F w ⟨kind, nm, to, dv, data, n, pv, picks⟩) (hl : ((getF s.fs nm).getD ⟨[], 0⟩).c.length + data.length ≤ 1099511627776) (hL : s.fs.length ≤ 4294967296) (hp : PW s.fs) (hq : ∀ p ∈ s.fs, p.2.dur ≤ p.2.c.length)
    (hk : kind = 2) : Calls Try.prog 21 #[ptrV m, aggA ⟨kind, nm, to, dv, data, n, pv, picks⟩] w (RErr w m F (sSync s nm)) := by
  subst hk
  have hL2 : s.fs.length < maxLen := by unfold maxLen; omega
  have hu : ∀ o, Upd NoF w (w.alloc o) := fun o => (Upd.refl NoF w).alloc o
  have HH := Lib.hid (show ∀ o, RefAt (w.alloc o) m s F from fun o => h.upd (hu o) (fun _ _ h => h))
  have HA := Lib.hid (show ∀ o, ActOk F (w.alloc o) _ from fun o => ha.upd ((Upd.refl F w).alloc o))
  have HU := Lib.hid hu
  have HL := Lib.hid hl
  have HL2 := Lib.hid hL2
  have HN := Lib.hid (show s.fs.length + 1 ≤ 1099511627776 by omega)
  have HM := Lib.hid h.mem
  have HP := Lib.hid hp
  have HQ := Lib.hid hq
  have T0 := Lib.hid ha.nl
  have T1 := Lib.hid ha.tl
  have T2 := Lib.hid ha.nb.1
  have T3 := Lib.hid ha.nb.2
  have H := Lib.hid h
  obtain ⟨A0, c0, e0, _⟩ := ha.data.now
  obtain ⟨A1, c1, e1, _⟩ := ha.picks.now
  simp only at e0 e1
  subst e0 e1
  clear h ha hu hl hL2 hp hq
  go_enter Try.func21, Try.ntmps21
  go_wp2_with (go_at_call 51; refine (rsync_spec (HH.out _) HP.out nm).mono ?_; rintro e w2 ⟨rfl, hs2⟩; have S2 := Lib.hid hs2; clear hs2)
  go_ret
  exact ⟨rfl, S2.out.pre (HU.out _)⟩
set_option maxRecDepth 100000 in
set_option maxHeartbeats 4000000 in
theorem refdo_3 {w : World} {m : Nat} {s : DSt} {F : Nat → Prop} (h : RefAt w m s F) (kind : Int) (nm to : List UInt8) (dv : Value) (data : List UInt8) (n : Int) (pv : Value) (picks : List Int) (ha : ActOk F w ⟨kind, nm, to, dv, data, n, pv, picks⟩) (hl : ((getF s.fs nm).getD ⟨[], 0⟩).c.length + data.length ≤ 1099511627776) (hL : s.fs.length ≤ 4294967296) (hp : PW s.fs) (hq : ∀ p ∈ s.fs, p.2.dur ≤ p.2.c.length)
    (hk : kind = 3) : Calls Try.prog 21 #[ptrV m, aggA ⟨kind, nm, to, dv, data, n, pv, picks⟩] w (RErr w m F (sRename s nm to)) := by
  subst hk
  have hL2 : s.fs.length < maxLen := by unfold maxLen; omega
  have hu : ∀ o, Upd NoF w (w.alloc o) := fun o => (Upd.refl NoF w).alloc o
  have HH := Lib.hid (show ∀ o, RefAt (w.alloc o) m s F from fun o => h.upd (hu o) (fun _ _ h => h))
  have HA := Lib.hid (show ∀ o, ActOk F (w.alloc o) _ from fun o => ha.upd ((Upd.refl F w).alloc o))
  have HU := Lib.hid hu
  have HL := Lib.hid hl
  have HL2 := Lib.hid hL2
  have HN := Lib.hid (show s.fs.length + 1 ≤ 1099511627776 by omega)
  have HM := Lib.hid h.mem
  have HP := Lib.hid hp
  have HQ := Lib.hid hq
  have T0 := Lib.hid ha.nl
  have T1 := Lib.hid ha.tl
  have T2 := Lib.hid ha.nb.1
  have T3 := Lib.hid ha.nb.2
  have H := Lib.hid h
  obtain ⟨A0, c0, e0, _⟩ := ha.data.now
  obtain ⟨A1, c1, e1, _⟩ := ha.picks.now
  simp only at e0 e1
  subst e0 e1
  clear h ha hu hl hL2 hp hq
  go_enter Try.func21, Try.ntmps21
  go_wp2_with (go_at_call 52; refine (rrename_spec (HH.out _) HP.out nm to).mono ?_; rintro e w2 ⟨rfl, hs2⟩; have S2 := Lib.hid hs2; clear hs2)
  go_ret
  exact ⟨rfl, S2.out.pre (HU.out _)⟩
set_option maxRecDepth 100000 in
set_option maxHeartbeats 4000000 in
theorem refdo_4 {w : World} {m : Nat} {s : DSt} {F : Nat → Prop} (h : RefAt w m s F) (kind : Int) (nm to : List UInt8) (dv : Value) (data : List UInt8) (n : Int) (pv : Value) (picks : List Int) (ha : ActOk F w ⟨kind, nm, to, dv, data, n, pv, picks⟩) (hl : ((getF s.fs nm).getD ⟨[], 0⟩).c.length + data.length ≤ 1099511627776) (hL : s.fs.length ≤ 4294967296) (hp : PW s.fs) (hq : ∀ p ∈ s.fs, p.2.dur ≤ p.2.c.length)
    (hk : kind = 4) : Calls Try.prog 21 #[ptrV m, aggA ⟨kind, nm, to, dv, data, n, pv, picks⟩] w (RErr w m F (sRemove s nm)) := by
  subst hk
  have hL2 : s.fs.length < maxLen := by unfold maxLen; omega
  have hu : ∀ o, Upd NoF w (w.alloc o) := fun o => (Upd.refl NoF w).alloc o
  have HH := Lib.hid (show ∀ o, RefAt (w.alloc o) m s F from fun o => h.upd (hu o) (fun _ _ h => h))
  have HA := Lib.hid (show ∀ o, ActOk F (w.alloc o) _ from fun o => ha.upd ((Upd.refl F w).alloc o))
  have HU := Lib.hid hu
  have HL := Lib.hid hl
  have HL2 := Lib.hid hL2
  have HN := Lib.hid (show s.fs.length + 1 ≤ 1099511627776 by omega)
  have HM := Lib.hid h.mem
  have HP := Lib.hid hp
  have HQ := Lib.hid hq
  have T0 := Lib.hid ha.nl
  have T1 := Lib.hid ha.tl
  have T2 := Lib.hid ha.nb.1
  have T3 := Lib.hid ha.nb.2
  have H := Lib.hid h
  obtain ⟨A0, c0, e0, _⟩ := ha.data.now
  obtain ⟨A1, c1, e1, _⟩ := ha.picks.now
  simp only at e0 e1
  subst e0 e1
  clear h ha hu hl hL2 hp hq
  go_enter Try.func21, Try.ntmps21
  go_wp2_with (go_at_call 53; refine (rremove_spec (HH.out _) HP.out nm).mono ?_; rintro e w2 ⟨rfl, hs2⟩; have S2 := Lib.hid hs2; clear hs2)
  go_ret
  exact ⟨rfl, S2.out.pre (HU.out _)⟩
set_option maxRecDepth 100000 in
set_option maxHeartbeats 4000000 in
theorem refdo_5 {w : World} {m : Nat} {s : DSt} {F : Nat → Prop} (h : RefAt w m s F) (kind : Int) (nm to : List UInt8) (dv : Value) (data : List UInt8) (n : Int) (pv : Value) (picks : List Int) (ha : ActOk F w ⟨kind, nm, to, dv, data, n, pv, picks⟩) (hl : ((getF s.fs nm).getD ⟨[], 0⟩).c.length + data.length ≤ 1099511627776) (hL : s.fs.length ≤ 4294967296) (hp : PW s.fs) (hq : ∀ p ∈ s.fs, p.2.dur ≤ p.2.c.length)
    (hk : kind = 5) : Calls Try.prog 21 #[ptrV m, aggA ⟨kind, nm, to, dv, data, n, pv, picks⟩] w (RErr w m F ((0, sArm s n))) := by
  subst hk
  have hL2 : s.fs.length < maxLen := by unfold maxLen; omega
  have hu : ∀ o, Upd NoF w (w.alloc o) := fun o => (Upd.refl NoF w).alloc o
  have HH := Lib.hid (show ∀ o, RefAt (w.alloc o) m s F from fun o => h.upd (hu o) (fun _ _ h => h))
  have HA := Lib.hid (show ∀ o, ActOk F (w.alloc o) _ from fun o => ha.upd ((Upd.refl F w).alloc o))
  have HU := Lib.hid hu
  have HL := Lib.hid hl
  have HL2 := Lib.hid hL2
  have HN := Lib.hid (show s.fs.length + 1 ≤ 1099511627776 by omega)
  have HM := Lib.hid h.mem
  have HP := Lib.hid hp
  have HQ := Lib.hid hq
  have T0 := Lib.hid ha.nl
  have T1 := Lib.hid ha.tl
  have T2 := Lib.hid ha.nb.1
  have T3 := Lib.hid ha.nb.2
  have H := Lib.hid h
  obtain ⟨A0, c0, e0, _⟩ := ha.data.now
  obtain ⟨A1, c1, e1, _⟩ := ha.picks.now
  simp only at e0 e1
  subst e0 e1
  clear h ha hu hl hL2 hp hq
  go_enter Try.func21, Try.ntmps21
  go_wp2_with (go_at_call 34; refine (rarm_spec (HH.out _) n T2.out T3.out).mono ?_; rintro e w2 ⟨rfl, hs2⟩; have S2 := Lib.hid hs2; clear hs2)
  go_ret
  exact ⟨rfl, S2.out.pre (HU.out _)⟩
set_option maxRecDepth 100000 in
set_option maxHeartbeats 4000000 in
theorem refdo_6 {w : World} {m : Nat} {s : DSt} {F : Nat → Prop} (h : RefAt w m s F) (kind : Int) (nm to : List UInt8) (dv : Value) (data : List UInt8) (n : Int) (pv : Value) (picks : List Int) (ha : ActOk F w ⟨kind, nm, to, dv, data, n, pv, picks⟩) (hl : ((getF s.fs nm).getD ⟨[], 0⟩).c.length + data.length ≤ 1099511627776) (hL : s.fs.length ≤ 4294967296) (hp : PW s.fs) (hq : ∀ p ∈ s.fs, p.2.dur ≤ p.2.c.length)
    (hk : kind = 6) : Calls Try.prog 21 #[ptrV m, aggA ⟨kind, nm, to, dv, data, n, pv, picks⟩] w (RErr w m F ((0, sCrash s picks))) := by
  subst hk
  have hL2 : s.fs.length < maxLen := by unfold maxLen; omega
  have hu : ∀ o, Upd NoF w (w.alloc o) := fun o => (Upd.refl NoF w).alloc o
  have HH := Lib.hid (show ∀ o, RefAt (w.alloc o) m s F from fun o => h.upd (hu o) (fun _ _ h => h))
  have HA := Lib.hid (show ∀ o, ActOk F (w.alloc o) _ from fun o => ha.upd ((Upd.refl F w).alloc o))
  have HU := Lib.hid hu
  have HL := Lib.hid hl
  have HL2 := Lib.hid hL2
  have HN := Lib.hid (show s.fs.length + 1 ≤ 1099511627776 by omega)
  have HM := Lib.hid h.mem
  have HP := Lib.hid hp
  have HQ := Lib.hid hq
  have T0 := Lib.hid ha.nl
  have T1 := Lib.hid ha.tl
  have T2 := Lib.hid ha.nb.1
  have T3 := Lib.hid ha.nb.2
  have H := Lib.hid h
  obtain ⟨A0, c0, e0, _⟩ := ha.data.now
  obtain ⟨A1, c1, e1, _⟩ := ha.picks.now
  simp only at e0 e1
  subst e0 e1
  clear h ha hu hl hL2 hp hq
  go_enter Try.func21, Try.ntmps21
  go_wp2_with (go_at_call 36; refine (rcrash_spec (HH.out _) HQ.out _ picks (HA.out _).picks (HA.out (.cells #[] 0)).pb hL).mono ?_; rintro e w2 ⟨rfl, hs2⟩; have S2 := Lib.hid hs2; clear hs2)
  go_ret
  exact ⟨rfl, S2.out.pre (HU.out _)⟩
set_option maxRecDepth 100000 in
set_option maxHeartbeats 4000000 in
theorem refdo_7 {w : World} {m : Nat} {s : DSt} {F : Nat → Prop} (h : RefAt w m s F) (kind : Int) (nm to : List UInt8) (dv : Value) (data : List UInt8) (n : Int) (pv : Value) (picks : List Int) (ha : ActOk F w ⟨kind, nm, to, dv, data, n, pv, picks⟩) (hl : ((getF s.fs nm).getD ⟨[], 0⟩).c.length + data.length ≤ 1099511627776) (hL : s.fs.length ≤ 4294967296) (hp : PW s.fs) (hq : ∀ p ∈ s.fs, p.2.dur ≤ p.2.c.length)
    (hk : (kind == 0) = false ∧ (kind == 1) = false ∧ (kind == 2) = false ∧ (kind == 3) = false ∧ (kind == 4) = false ∧ (kind == 5) = false ∧ (kind == 6) = false) : Calls Try.prog 21 #[ptrV m, aggA ⟨kind, nm, to, dv, data, n, pv, picks⟩] w (RErr w m F ((0, s))) := by
  obtain ⟨k0, k1, k2, k3, k4, k5, k6⟩ := hk
  have hL2 : s.fs.length < maxLen := by unfold maxLen; omega
  have hu : ∀ o, Upd NoF w (w.alloc o) := fun o => (Upd.refl NoF w).alloc o
  have HH := Lib.hid (show ∀ o, RefAt (w.alloc o) m s F from fun o => h.upd (hu o) (fun _ _ h => h))
  have HA := Lib.hid (show ∀ o, ActOk F (w.alloc o) _ from fun o => ha.upd ((Upd.refl F w).alloc o))
  have HU := Lib.hid hu
  have HL := Lib.hid hl
  have HL2 := Lib.hid hL2
  have HN := Lib.hid (show s.fs.length + 1 ≤ 1099511627776 by omega)
  have HM := Lib.hid h.mem
  have HP := Lib.hid hp
  have HQ := Lib.hid hq
  have T0 := Lib.hid ha.nl
  have T1 := Lib.hid ha.tl
  have T2 := Lib.hid ha.nb.1
  have T3 := Lib.hid ha.nb.2
  have H := Lib.hid h
  obtain ⟨A0, c0, e0, _⟩ := ha.data.now
  obtain ⟨A1, c1, e1, _⟩ := ha.picks.now
  simp only at e0 e1
  subst e0 e1
  clear h ha hu hl hL2 hp hq
  go_enter Try.func21, Try.ntmps21
  go_wp2
  go_ret
  exact ⟨rfl, (RefStep.refl (HH.out _)).pre (HU.out _)⟩
theorem refdo_spec {w : World} {m : Nat} {s : DSt} {F : Nat → Prop} (h : RefAt w m s F) (a : ActR) (ha : ActOk F w a) (hl : ((getF s.fs a.nm).getD ⟨[], 0⟩).c.length + a.data.length ≤ 1099511627776) (hL : s.fs.length ≤ 4294967296) (hp : PW s.fs) (hq : ∀ p ∈ s.fs, p.2.dur ≤ p.2.c.length) :
    Calls Try.prog 21 #[ptrV m, aggA a] w (RErr w m F (sDo s a)) := by
  obtain ⟨kind, nm, to, dv, data, n, pv, picks⟩ := a
  unfold sDo
  simp only at hl ⊢
  by_cases k0 : kind = 0
  · rw [if_pos k0]
    exact refdo_0 h kind nm to dv data n pv picks ha hl hL hp hq k0
  by_cases k1 : kind = 1
  · rw [if_neg k0, if_pos k1]
    exact refdo_1 h kind nm to dv data n pv picks ha hl hL hp hq k1
  by_cases k2 : kind = 2
  · rw [if_neg k0, if_neg k1, if_pos k2]
    exact refdo_2 h kind nm to dv data n pv picks ha hl hL hp hq k2
  by_cases k3 : kind = 3
  · rw [if_neg k0, if_neg k1, if_neg k2, if_pos k3]
    exact refdo_3 h kind nm to dv data n pv picks ha hl hL hp hq k3
  by_cases k4 : kind = 4
  · rw [if_neg k0, if_neg k1, if_neg k2, if_neg k3, if_pos k4]
    exact refdo_4 h kind nm to dv data n pv picks ha hl hL hp hq k4
  by_cases k5 : kind = 5
  · rw [if_neg k0, if_neg k1, if_neg k2, if_neg k3, if_neg k4, if_pos k5]
    exact refdo_5 h kind nm to dv data n pv picks ha hl hL hp hq k5
  by_cases k6 : kind = 6
  · rw [if_neg k0, if_neg k1, if_neg k2, if_neg k3, if_neg k4, if_neg k5, if_pos k6]
    exact refdo_6 h kind nm to dv data n pv picks ha hl hL hp hq k6
  rw [if_neg k0, if_neg k1, if_neg k2, if_neg k3, if_neg k4, if_neg k5, if_neg k6]
  exact refdo_7 h kind nm to dv data n pv picks ha hl hL hp hq ⟨by simpa using k0, by simpa using k1, by simpa using k2, by simpa using k3, by simpa using k4, by simpa using k5, by simpa using k6⟩
end Go.Proofs.Ytmapijpphnlcmaa
