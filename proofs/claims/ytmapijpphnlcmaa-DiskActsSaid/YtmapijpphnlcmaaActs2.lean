/- What one act of DiskActs does to the disk. Conditions: sizes. -/
import Derived.Test.YtmapijpphnlcmaaActs1
namespace Go.Proofs.Ytmapijpphnlcmaa
open Go.RowKit

set_option maxRecDepth 100000 in
set_option maxHeartbeats 4000000 in
theorem do_0 {w : World} {d : Nat} {s : DSt} {F : Nat → Prop} (h : DiskAt w d s F) (kind : Int) (nm to : List UInt8) (dv : Value) (data : List UInt8) (n : Int) (pv : Value) (picks : List Int) (ha : ActOk F w ⟨kind, nm, to, dv, data, n, pv, picks⟩) (hl : ((getF s.fs nm).getD ⟨[], 0⟩).c.length + data.length ≤ 1099511627776) (hL : s.fs.length ≤ 4294967296)
    (hk : kind = 0) : Calls Try.prog 20 #[ptrV d, aggA ⟨kind, nm, to, dv, data, n, pv, picks⟩] w (ErrPost w d F (sAppend s nm data)) := by
  subst hk
  have hL2 : s.fs.length < maxLen := by unfold maxLen; omega
  have hu : ∀ o, Upd NoF w (w.alloc o) := fun o => (Upd.refl NoF w).alloc o
  have HH := Lib.hid (show ∀ o, DiskAt (w.alloc o) d s F from fun o => h.upd (hu o) (fun _ _ h => h))
  have HA := Lib.hid (show ∀ o, ActOk F (w.alloc o) _ from fun o => ha.upd ((Upd.refl F w).alloc o))
  have HU := Lib.hid hu
  have HL := Lib.hid hl
  have HL2 := Lib.hid hL2
  have T0 := Lib.hid ha.nl
  have T1 := Lib.hid ha.tl
  have T2 := Lib.hid ha.nb.1
  have T3 := Lib.hid ha.nb.2
  have H := Lib.hid h
  obtain ⟨A0, c0, e0, _⟩ := ha.data.now
  obtain ⟨A1, c1, e1, _⟩ := ha.picks.now
  simp only at e0 e1
  subst e0 e1
  clear h ha hu hl hL2
  go_enter Try.func20, Try.ntmps20
  go_wp2_with (go_at_call 13; refine (append_spec (HH.out _) nm T0.out _ data (HA.out _).data HL.out HL2.out).mono ?_; rintro e w2 ⟨rfl, hs2⟩; have S2 := Lib.hid hs2; clear hs2)
  go_ret
  exact ⟨rfl, S2.out.pre (HU.out _)⟩
set_option maxRecDepth 100000 in
set_option maxHeartbeats 4000000 in
theorem do_1 {w : World} {d : Nat} {s : DSt} {F : Nat → Prop} (h : DiskAt w d s F) (kind : Int) (nm to : List UInt8) (dv : Value) (data : List UInt8) (n : Int) (pv : Value) (picks : List Int) (ha : ActOk F w ⟨kind, nm, to, dv, data, n, pv, picks⟩) (hl : ((getF s.fs nm).getD ⟨[], 0⟩).c.length + data.length ≤ 1099511627776) (hL : s.fs.length ≤ 4294967296)
    (hk : kind = 1) : Calls Try.prog 20 #[ptrV d, aggA ⟨kind, nm, to, dv, data, n, pv, picks⟩] w (ErrPost w d F (sTruncate s nm n)) := by
  subst hk
  have hL2 : s.fs.length < maxLen := by unfold maxLen; omega
  have hu : ∀ o, Upd NoF w (w.alloc o) := fun o => (Upd.refl NoF w).alloc o
  have HH := Lib.hid (show ∀ o, DiskAt (w.alloc o) d s F from fun o => h.upd (hu o) (fun _ _ h => h))
  have HA := Lib.hid (show ∀ o, ActOk F (w.alloc o) _ from fun o => ha.upd ((Upd.refl F w).alloc o))
  have HU := Lib.hid hu
  have HL := Lib.hid hl
  have HL2 := Lib.hid hL2
  have T0 := Lib.hid ha.nl
  have T1 := Lib.hid ha.tl
  have T2 := Lib.hid ha.nb.1
  have T3 := Lib.hid ha.nb.2
  have H := Lib.hid h
  obtain ⟨A0, c0, e0, _⟩ := ha.data.now
  obtain ⟨A1, c1, e1, _⟩ := ha.picks.now
  simp only at e0 e1
  subst e0 e1
  clear h ha hu hl hL2
  go_enter Try.func20, Try.ntmps20
  go_wp2_with (go_at_call 48; refine (truncate_spec (HH.out _) nm T0.out n T2.out T3.out).mono ?_; rintro e w2 ⟨rfl, hs2⟩; have S2 := Lib.hid hs2; clear hs2)
  go_ret
  exact ⟨rfl, S2.out.pre (HU.out _)⟩
set_option maxRecDepth 100000 in
set_option maxHeartbeats 4000000 in
theorem do_2 {w : World} {d : Nat} {s : DSt} {F : Nat → Prop} (h : DiskAt w d s F) (kind : Int) (nm to : List UInt8) (dv : Value) (data : List UInt8) (n : Int) (pv : Value) (picks : List Int) (ha : ActOk F w ⟨kind, nm, to, dv, data, n, pv, picks⟩) (hl : ((getF s.fs nm).getD ⟨[], 0⟩).c.length + data.length ≤ 1099511627776) (hL : s.fs.length ≤ 4294967296)
    (hk : kind = 2) : Calls Try.prog 20 #[ptrV d, aggA ⟨kind, nm, to, dv, data, n, pv, picks⟩] w (ErrPost w d F (sSync s nm)) := by
  subst hk
  have hL2 : s.fs.length < maxLen := by unfold maxLen; omega
  have hu : ∀ o, Upd NoF w (w.alloc o) := fun o => (Upd.refl NoF w).alloc o
  have HH := Lib.hid (show ∀ o, DiskAt (w.alloc o) d s F from fun o => h.upd (hu o) (fun _ _ h => h))
  have HA := Lib.hid (show ∀ o, ActOk F (w.alloc o) _ from fun o => ha.upd ((Upd.refl F w).alloc o))
  have HU := Lib.hid hu
  have HL := Lib.hid hl
  have HL2 := Lib.hid hL2
  have T0 := Lib.hid ha.nl
  have T1 := Lib.hid ha.tl
  have T2 := Lib.hid ha.nb.1
  have T3 := Lib.hid ha.nb.2
  have H := Lib.hid h
  obtain ⟨A0, c0, e0, _⟩ := ha.data.now
  obtain ⟨A1, c1, e1, _⟩ := ha.picks.now
  simp only at e0 e1
  subst e0 e1
  clear h ha hu hl hL2
  go_enter Try.func20, Try.ntmps20
  go_wp2_with (go_at_call 12; refine (sync_spec (HH.out _) nm T0.out).mono ?_; rintro e w2 ⟨rfl, hs2⟩; have S2 := Lib.hid hs2; clear hs2)
  go_ret
  exact ⟨rfl, S2.out.pre (HU.out _)⟩
set_option maxRecDepth 100000 in
set_option maxHeartbeats 4000000 in
theorem do_3 {w : World} {d : Nat} {s : DSt} {F : Nat → Prop} (h : DiskAt w d s F) (kind : Int) (nm to : List UInt8) (dv : Value) (data : List UInt8) (n : Int) (pv : Value) (picks : List Int) (ha : ActOk F w ⟨kind, nm, to, dv, data, n, pv, picks⟩) (hl : ((getF s.fs nm).getD ⟨[], 0⟩).c.length + data.length ≤ 1099511627776) (hL : s.fs.length ≤ 4294967296)
    (hk : kind = 3) : Calls Try.prog 20 #[ptrV d, aggA ⟨kind, nm, to, dv, data, n, pv, picks⟩] w (ErrPost w d F (sRename s nm to)) := by
  subst hk
  have hL2 : s.fs.length < maxLen := by unfold maxLen; omega
  have hu : ∀ o, Upd NoF w (w.alloc o) := fun o => (Upd.refl NoF w).alloc o
  have HH := Lib.hid (show ∀ o, DiskAt (w.alloc o) d s F from fun o => h.upd (hu o) (fun _ _ h => h))
  have HA := Lib.hid (show ∀ o, ActOk F (w.alloc o) _ from fun o => ha.upd ((Upd.refl F w).alloc o))
  have HU := Lib.hid hu
  have HL := Lib.hid hl
  have HL2 := Lib.hid hL2
  have T0 := Lib.hid ha.nl
  have T1 := Lib.hid ha.tl
  have T2 := Lib.hid ha.nb.1
  have T3 := Lib.hid ha.nb.2
  have H := Lib.hid h
  obtain ⟨A0, c0, e0, _⟩ := ha.data.now
  obtain ⟨A1, c1, e1, _⟩ := ha.picks.now
  simp only at e0 e1
  subst e0 e1
  clear h ha hu hl hL2
  go_enter Try.func20, Try.ntmps20
  go_wp2_with (go_at_call 49; refine (rename_spec (HH.out _) nm to T0.out T1.out HL2.out).mono ?_; rintro e w2 ⟨rfl, hs2⟩; have S2 := Lib.hid hs2; clear hs2)
  go_ret
  exact ⟨rfl, S2.out.pre (HU.out _)⟩
set_option maxRecDepth 100000 in
set_option maxHeartbeats 4000000 in
theorem do_4 {w : World} {d : Nat} {s : DSt} {F : Nat → Prop} (h : DiskAt w d s F) (kind : Int) (nm to : List UInt8) (dv : Value) (data : List UInt8) (n : Int) (pv : Value) (picks : List Int) (ha : ActOk F w ⟨kind, nm, to, dv, data, n, pv, picks⟩) (hl : ((getF s.fs nm).getD ⟨[], 0⟩).c.length + data.length ≤ 1099511627776) (hL : s.fs.length ≤ 4294967296)
    (hk : kind = 4) : Calls Try.prog 20 #[ptrV d, aggA ⟨kind, nm, to, dv, data, n, pv, picks⟩] w (ErrPost w d F (sRemove s nm)) := by
  subst hk
  have hL2 : s.fs.length < maxLen := by unfold maxLen; omega
  have hu : ∀ o, Upd NoF w (w.alloc o) := fun o => (Upd.refl NoF w).alloc o
  have HH := Lib.hid (show ∀ o, DiskAt (w.alloc o) d s F from fun o => h.upd (hu o) (fun _ _ h => h))
  have HA := Lib.hid (show ∀ o, ActOk F (w.alloc o) _ from fun o => ha.upd ((Upd.refl F w).alloc o))
  have HU := Lib.hid hu
  have HL := Lib.hid hl
  have HL2 := Lib.hid hL2
  have T0 := Lib.hid ha.nl
  have T1 := Lib.hid ha.tl
  have T2 := Lib.hid ha.nb.1
  have T3 := Lib.hid ha.nb.2
  have H := Lib.hid h
  obtain ⟨A0, c0, e0, _⟩ := ha.data.now
  obtain ⟨A1, c1, e1, _⟩ := ha.picks.now
  simp only at e0 e1
  subst e0 e1
  clear h ha hu hl hL2
  go_enter Try.func20, Try.ntmps20
  go_wp2_with (go_at_call 17; refine (remove_spec (HH.out _) nm T0.out).mono ?_; rintro e w2 ⟨rfl, hs2⟩; have S2 := Lib.hid hs2; clear hs2)
  go_ret
  exact ⟨rfl, S2.out.pre (HU.out _)⟩
set_option maxRecDepth 100000 in
set_option maxHeartbeats 4000000 in
theorem do_5 {w : World} {d : Nat} {s : DSt} {F : Nat → Prop} (h : DiskAt w d s F) (kind : Int) (nm to : List UInt8) (dv : Value) (data : List UInt8) (n : Int) (pv : Value) (picks : List Int) (ha : ActOk F w ⟨kind, nm, to, dv, data, n, pv, picks⟩) (hl : ((getF s.fs nm).getD ⟨[], 0⟩).c.length + data.length ≤ 1099511627776) (hL : s.fs.length ≤ 4294967296)
    (hk : kind = 5) : Calls Try.prog 20 #[ptrV d, aggA ⟨kind, nm, to, dv, data, n, pv, picks⟩] w (ErrPost w d F ((0, sArm s n))) := by
  subst hk
  have hL2 : s.fs.length < maxLen := by unfold maxLen; omega
  have hu : ∀ o, Upd NoF w (w.alloc o) := fun o => (Upd.refl NoF w).alloc o
  have HH := Lib.hid (show ∀ o, DiskAt (w.alloc o) d s F from fun o => h.upd (hu o) (fun _ _ h => h))
  have HA := Lib.hid (show ∀ o, ActOk F (w.alloc o) _ from fun o => ha.upd ((Upd.refl F w).alloc o))
  have HU := Lib.hid hu
  have HL := Lib.hid hl
  have HL2 := Lib.hid hL2
  have T0 := Lib.hid ha.nl
  have T1 := Lib.hid ha.tl
  have T2 := Lib.hid ha.nb.1
  have T3 := Lib.hid ha.nb.2
  have H := Lib.hid h
  obtain ⟨A0, c0, e0, _⟩ := ha.data.now
  obtain ⟨A1, c1, e1, _⟩ := ha.picks.now
  simp only at e0 e1
  subst e0 e1
  clear h ha hu hl hL2
  go_enter Try.func20, Try.ntmps20
  go_wp2_with (go_at_call 16; refine (arm_spec (HH.out _) n T2.out T3.out).mono ?_; rintro e w2 ⟨rfl, hs2⟩; have S2 := Lib.hid hs2; clear hs2)
  go_ret
  exact ⟨rfl, S2.out.pre (HU.out _)⟩
set_option maxRecDepth 100000 in
set_option maxHeartbeats 4000000 in
theorem do_6 {w : World} {d : Nat} {s : DSt} {F : Nat → Prop} (h : DiskAt w d s F) (kind : Int) (nm to : List UInt8) (dv : Value) (data : List UInt8) (n : Int) (pv : Value) (picks : List Int) (ha : ActOk F w ⟨kind, nm, to, dv, data, n, pv, picks⟩) (hl : ((getF s.fs nm).getD ⟨[], 0⟩).c.length + data.length ≤ 1099511627776) (hL : s.fs.length ≤ 4294967296)
    (hk : kind = 6) : Calls Try.prog 20 #[ptrV d, aggA ⟨kind, nm, to, dv, data, n, pv, picks⟩] w (ErrPost w d F ((0, sCrash s picks))) := by
  subst hk
  have hL2 : s.fs.length < maxLen := by unfold maxLen; omega
  have hu : ∀ o, Upd NoF w (w.alloc o) := fun o => (Upd.refl NoF w).alloc o
  have HH := Lib.hid (show ∀ o, DiskAt (w.alloc o) d s F from fun o => h.upd (hu o) (fun _ _ h => h))
  have HA := Lib.hid (show ∀ o, ActOk F (w.alloc o) _ from fun o => ha.upd ((Upd.refl F w).alloc o))
  have HU := Lib.hid hu
  have HL := Lib.hid hl
  have HL2 := Lib.hid hL2
  have T0 := Lib.hid ha.nl
  have T1 := Lib.hid ha.tl
  have T2 := Lib.hid ha.nb.1
  have T3 := Lib.hid ha.nb.2
  have H := Lib.hid h
  obtain ⟨A0, c0, e0, _⟩ := ha.data.now
  obtain ⟨A1, c1, e1, _⟩ := ha.picks.now
  simp only at e0 e1
  subst e0 e1
  clear h ha hu hl hL2
  go_enter Try.func20, Try.ntmps20
  go_wp2_with (go_at_call 14; refine (crash_spec (HH.out _) _ picks (HA.out _).picks (HA.out (.cells #[] 0)).pb (by omega)).mono ?_; rintro e w2 ⟨rfl, hs2⟩; have S2 := Lib.hid hs2; clear hs2)
  go_ret
  exact ⟨rfl, S2.out.pre (HU.out _)⟩
set_option maxRecDepth 100000 in
set_option maxHeartbeats 4000000 in
theorem do_7 {w : World} {d : Nat} {s : DSt} {F : Nat → Prop} (h : DiskAt w d s F) (kind : Int) (nm to : List UInt8) (dv : Value) (data : List UInt8) (n : Int) (pv : Value) (picks : List Int) (ha : ActOk F w ⟨kind, nm, to, dv, data, n, pv, picks⟩) (hl : ((getF s.fs nm).getD ⟨[], 0⟩).c.length + data.length ≤ 1099511627776) (hL : s.fs.length ≤ 4294967296)
    (hk : (kind == 0) = false ∧ (kind == 1) = false ∧ (kind == 2) = false ∧ (kind == 3) = false ∧ (kind == 4) = false ∧ (kind == 5) = false ∧ (kind == 6) = false) : Calls Try.prog 20 #[ptrV d, aggA ⟨kind, nm, to, dv, data, n, pv, picks⟩] w (ErrPost w d F ((0, s))) := by
  obtain ⟨k0, k1, k2, k3, k4, k5, k6⟩ := hk
  have hL2 : s.fs.length < maxLen := by unfold maxLen; omega
  have hu : ∀ o, Upd NoF w (w.alloc o) := fun o => (Upd.refl NoF w).alloc o
  have HH := Lib.hid (show ∀ o, DiskAt (w.alloc o) d s F from fun o => h.upd (hu o) (fun _ _ h => h))
  have HA := Lib.hid (show ∀ o, ActOk F (w.alloc o) _ from fun o => ha.upd ((Upd.refl F w).alloc o))
  have HU := Lib.hid hu
  have HL := Lib.hid hl
  have HL2 := Lib.hid hL2
  have T0 := Lib.hid ha.nl
  have T1 := Lib.hid ha.tl
  have T2 := Lib.hid ha.nb.1
  have T3 := Lib.hid ha.nb.2
  have H := Lib.hid h
  obtain ⟨A0, c0, e0, _⟩ := ha.data.now
  obtain ⟨A1, c1, e1, _⟩ := ha.picks.now
  simp only at e0 e1
  subst e0 e1
  clear h ha hu hl hL2
  go_enter Try.func20, Try.ntmps20
  go_wp2
  go_ret
  exact ⟨rfl, (DiskStep.refl (HH.out _)).pre (HU.out _)⟩
theorem do_spec {w : World} {d : Nat} {s : DSt} {F : Nat → Prop} (h : DiskAt w d s F) (a : ActR) (ha : ActOk F w a) (hl : ((getF s.fs a.nm).getD ⟨[], 0⟩).c.length + a.data.length ≤ 1099511627776) (hL : s.fs.length ≤ 4294967296) :
    Calls Try.prog 20 #[ptrV d, aggA a] w (ErrPost w d F (sDo s a)) := by
  obtain ⟨kind, nm, to, dv, data, n, pv, picks⟩ := a
  unfold sDo
  simp only at hl ⊢
  by_cases k0 : kind = 0
  · rw [if_pos k0]
    exact do_0 h kind nm to dv data n pv picks ha hl hL k0
  by_cases k1 : kind = 1
  · rw [if_neg k0, if_pos k1]
    exact do_1 h kind nm to dv data n pv picks ha hl hL k1
  by_cases k2 : kind = 2
  · rw [if_neg k0, if_neg k1, if_pos k2]
    exact do_2 h kind nm to dv data n pv picks ha hl hL k2
  by_cases k3 : kind = 3
  · rw [if_neg k0, if_neg k1, if_neg k2, if_pos k3]
    exact do_3 h kind nm to dv data n pv picks ha hl hL k3
  by_cases k4 : kind = 4
  · rw [if_neg k0, if_neg k1, if_neg k2, if_neg k3, if_pos k4]
    exact do_4 h kind nm to dv data n pv picks ha hl hL k4
  by_cases k5 : kind = 5
  · rw [if_neg k0, if_neg k1, if_neg k2, if_neg k3, if_neg k4, if_pos k5]
    exact do_5 h kind nm to dv data n pv picks ha hl hL k5
  by_cases k6 : kind = 6
  · rw [if_neg k0, if_neg k1, if_neg k2, if_neg k3, if_neg k4, if_neg k5, if_pos k6]
    exact do_6 h kind nm to dv data n pv picks ha hl hL k6
  rw [if_neg k0, if_neg k1, if_neg k2, if_neg k3, if_neg k4, if_neg k5, if_neg k6]
  exact do_7 h kind nm to dv data n pv picks ha hl hL ⟨by simpa using k0, by simpa using k1, by simpa using k2, by simpa using k3, by simpa using k4, by simpa using k5, by simpa using k6⟩
end Go.Proofs.Ytmapijpphnlcmaa
