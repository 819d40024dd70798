/- DiskPower: after the armed number of writes the power is off, every call returns ErrCrash until a crash, and afterwards the disk works again. No condition. -/
import Derived.Test.YtmapijpphnlcmaaLaw30a
namespace Go.Proofs.Ytmapijpphnlcmaa
open Go.RowKit Go.Maps

def OneF (fs : FS) (m : Nat) : Prop := fs = [] ∨ ∃ f, fs = [([97], f)] ∧ f.c.length ≤ m

theorem OneF.len {fs : FS} {m : Nat} (h : OneF fs m) : fs.length ≤ 1 := by
  rcases h with rfl | ⟨f, rfl, _⟩ <;> simp
theorem OneF.get {fs : FS} {m : Nat} (h : OneF fs m) : ((getF fs [97]).getD ⟨[], 0⟩).c.length ≤ m := by
  rcases h with rfl | ⟨f, rfl, hf⟩
  · simp [getF]
  · simpa [getF] using hf

theorem one_append {s : DSt} {m : Nat} (h : OneF s.fs m) (ho : s.off = false) (b : List UInt8) :
    (sAppend s [97] b).1 = (if wrB s.armed s.left then 0 else 103) ∧ OneF (sAppend s [97] b).2.fs (m + b.length) ∧ (sAppend s [97] b).2.off = !wrB s.armed s.left ∧ (sAppend s [97] b).2.armed = s.armed ∧ (sAppend s [97] b).2.left = wrL s.armed s.left ∧ ∃ f, (sAppend s [97] b).2.fs = [([97], f)] := by
  rcases h with h | ⟨f, h, hf⟩
  · simp [sAppend, ho, h, getF, withFile, setF, insF, wrS, OneF]
  · simp [sAppend, ho, h, getF, withFile, setF, wrS, OneF]
    exact hf

theorem one_dark {s : DSt} (ho : s.off = true) (b : List UInt8) : sAppend s [97] b = (103, s) ∧ sSync s [97] = (103, s) ∧ sRemove s [97] = (103, s) ∧ sRead s [97] = ([], 103) := by
  simp [sAppend, sSync, sRemove, sRead, sChange, ho]

theorem one_sync {s : DSt} {f : FSt} (h : s.fs = [([97], f)]) (ho : s.off = false) (ha : s.armed = false) : (sSync s [97]).1 = 0 := by
  simp [sSync, sChange, h, ho, ha, getF, wrB]

theorem one_crash {s : DSt} {m : Nat} (h : OneF s.fs m) : OneF (sCrash s []).fs m ∧ (sCrash s []).off = false ∧ (sCrash s []).armed = false := by
  refine ⟨?_, rfl, rfl⟩
  rcases h with h | ⟨f, h, hf⟩
  · exact .inl (by simp [sCrash, h, crashL])
  · refine .inr ⟨(crashF [] f).1, by simp [sCrash, h, crashL], ?_⟩
    unfold crashF
    split
    · exact hf
    · simp only [below]
      rw [length_damaged _ _ _ (by omega)]
      simp
      omega

def PowRel1 (w : World) (d n : Nat) (i : Value) (wr : World) : Prop :=
  ∃ (k : Nat) (s : DSt), k ≤ n ∧ i = .int .i64 k ∧ Dk w NoF d s wr ∧ s.off = false ∧ s.armed = true ∧ s.left = n - k ∧ OneF s.fs k
def PowRel2 (w : World) (d m : Nat) (i : Value) (wr : World) : Prop :=
  ∃ (k : Nat) (s : DSt), k ≤ m ∧ i = .int .i64 k ∧ Dk w NoF d s wr ∧ (k = 0 → s.off = false ∧ s.armed = true ∧ s.left = 0) ∧ (0 < k → s.off = true) ∧ OneF s.fs (51 + k)

theorem byteV_small (k : Nat) (h : k < 256) : Value.int .u8 (k : Int) = byteV (UInt8.ofNat k) := by
  have : (UInt8.ofNat k).toNat = k := by simp; omega
  simp [byteV, this]

theorem pow_dark {s : DSt} {k : Nat} (h0 : k = 0 → s.off = false ∧ s.armed = true ∧ s.left = 0) (h1 : 0 < k → s.off = true) (hf : OneF s.fs (51 + k)) :
    (sAppend s [97] [1]).1 = 103 ∧ (sAppend s [97] [1]).2.off = true ∧ OneF (sAppend s [97] [1]).2.fs (51 + (k + 1)) := by
  rcases Nat.eq_zero_or_pos k with h | h
  · obtain ⟨a, b, c⟩ := h0 h
    obtain ⟨p1, p2, p3, _⟩ := one_append hf a [1]
    rw [b, c] at p1 p3
    exact ⟨p1, p3, p2⟩
  · have := h1 h
    rw [(one_dark this [1]).1]
    refine ⟨rfl, this, ?_⟩
    rcases hf with h | ⟨f, h, hf⟩
    · exact .inl h
    · exact .inr ⟨f, h, by omega⟩

set_option maxRecDepth 100000 in
set_option maxHeartbeats 2000000 in
theorem power_in (n m : Nat) (hn : n ≤ 50) (hm1 : 1 ≤ m) (hm : m ≤ 20) (w : World) : Calls Try.prog 5 #[.int .i64 n, .int .i64 m] w fun e w' => e = .returned (.bool true) ∧ Upd NoF w w' := by
  have q1 : decide ((n : Int) < 0) = false := by simp
  have q2 : decide ((50 : Int) < (n : Int)) = false := by simp; omega
  have q3 : decide ((m : Int) < 1) = false := by simp; omega
  have q4 : decide ((20 : Int) < (m : Int)) = false := by simp; omega
  go_enter Try.func5, Try.ntmps5
  go_wp2_with fail
  refine (new_dk w).mono ?_
  rintro e w1 ⟨rfl, hd1⟩
  have D1 := Lib.hid hd1
  clear hd1
  go_wp2_with fail
  refine (arm_dk D1.out n (by omega) (by omega)).mono ?_
  rintro e w2 ⟨rfl, hd2⟩
  have D2 := Lib.hid hd2
  clear hd2
  go_wp2_with fail
  go_loopw [6] (fun i wr => PowRel1 w (w.heap.size + 1) n i wr) (fun i _ => n - (intOf i).toNat)
  case atStart => exact ⟨0, _, Nat.zero_le _, rfl, D2.out, rfl, rfl, by simp [sArm], .inl rfl⟩
  case round =>
    obtain ⟨k, s, hk, rfl, hd, ho, ha, hl, hf⟩ := hrel
    have D := Lib.hid hd
    have HO := Lib.hid ho
    have HA := Lib.hid ha
    have HL := Lib.hid hl
    have HF := Lib.hid hf
    clear hd ho ha hl hf
    by_cases hlt : k < n
    · have hw : wrB s.armed s.left = true := by rw [HA.out, HL.out]; simp [wrB]; omega
      obtain ⟨p1, p2, p3, p4, p5, _⟩ := one_append HF.out HO.out [UInt8.ofNat k]
      rw [hw] at p1 p3
      have P1 := Lib.hid p1
      have P2 := Lib.hid p2
      have P3 := Lib.hid p3
      have P4 := Lib.hid p4
      have P5 := Lib.hid p5
      clear p1 p2 p3 p4 p5 hw
      go_wp2_with fail
      refine (append_dk D.out ((Upd.refl NoF wr).alloc _) [97] (by decide) _ [UInt8.ofNat k] (lit_rd wr _ _ _ 1 rfl (by rw [byteV_small k (by omega)]; rfl) (by decide)) (by have := HF.out.get; simp; omega) (by have := HF.out.len; unfold maxLen; omega)).mono ?_
      rintro e w3 ⟨rfl, hd3⟩
      rw [P1.out]
      have D3 := Lib.hid hd3
      clear hd3
      go_wp2_with fail
      go_roundw
      case rel => exact ⟨k + 1, _, by omega, by go_num, D3.out, by rw [P3.out]; rfl, by rw [P4.out]; exact HA.out, by rw [P5.out, HA.out, HL.out]; simp [wrL]; omega, by simpa using P2.out⟩
      case measure => simp [intOf]; omega
    · have hkn : k = n := by omega
      have hl0 : s.left = 0 := by rw [HL.out]; omega
      have HL0 := Lib.hid hl0
      clear hl0 hkn
      go_wp2_with fail
      obtain ⟨wo, rfl⟩ : ∃ wo : World, wo = wr := ⟨_, rfl⟩
      go_loopw [7] (fun i wr => PowRel2 w (w.heap.size + 1) m i wr) (fun i _ => m - (intOf i).toNat)
      case atStart => exact ⟨0, s, Nat.zero_le _, rfl, D.out, fun _ => ⟨HO.out, HA.out, HL0.out⟩, fun h => absurd h (by omega), by rcases HF.out with h | ⟨f, h, hf⟩; exact .inl h; exact .inr ⟨f, h, by omega⟩⟩
      case round =>
        obtain ⟨k2, s2, hk2, rfl, hd2, ho2, hp2, hf2⟩ := hrel
        have DD := Lib.hid hd2
        have HO2 := Lib.hid ho2
        have HP2 := Lib.hid hp2
        have HF2 := Lib.hid hf2
        clear hd2 ho2 hp2 hf2
        by_cases hlt2 : k2 < m
        · obtain ⟨p1, p2, p3⟩ := pow_dark HO2.out HP2.out HF2.out
          obtain ⟨_, d2, d3, d4⟩ := one_dark p2 []
          have P1 := Lib.hid p1
          have P2 := Lib.hid p2
          have P3 := Lib.hid p3
          have E2 := Lib.hid d2
          have E3 := Lib.hid d3
          have E4 := Lib.hid d4
          clear p1 p2 p3 d2 d3 d4
          go_wp2_with fail
          refine (append_dk DD.out ((Upd.refl NoF wr).alloc _) [97] (by decide) _ [1] (lit_rd wr _ _ _ 1 rfl rfl (by decide)) (by have := HF2.out.get; simp; omega) (by have := HF2.out.len; unfold maxLen; omega)).mono ?_
          rintro e w3 ⟨rfl, hd3⟩
          rw [P1.out]
          have D3 := Lib.hid hd3
          clear hd3
          go_wp2_with fail
          refine (sync_dk D3.out [97] (by decide)).mono ?_
          rw [E2.out]
          rintro e w4 ⟨rfl, hd4⟩
          have D4 := Lib.hid hd4
          clear hd4
          go_wp2_with fail
          refine (remove_dk D4.out [97] (by decide)).mono ?_
          rw [E3.out]
          rintro e w5 ⟨rfl, hd5⟩
          have D5 := Lib.hid hd5
          clear hd5
          go_wp2_with fail
          refine (off_dk D5.out).mono ?_
          rw [P2.out]
          rintro e w' ⟨rfl, rfl⟩
          go_wp2_with fail
          refine (read_dk D5.out [97] (by decide)).mono ?_
          rw [E4.out]
          rintro e w6 ⟨A, c, rfl, hnew⟩
          have D6 := Lib.hid (D5.out.upd hnew.2.2)
          clear hnew
          go_wp2_with fail
          go_roundw
          case rel => exact ⟨k2 + 1, _, by omega, by go_num, D6.out, fun h => absurd h (by omega), fun _ => P2.out, P3.out⟩
          case measure => simp [intOf]; omega
        · have hkm : 0 < k2 := by omega
          obtain ⟨c1, c2, c3⟩ := one_crash HF2.out
          obtain ⟨p1, _, p3, p4, p5, f0, p6⟩ := one_append c1 c2 [2]
          rw [c3] at p1 p3 p4
          have p7 := one_sync p6 (by rw [p3]; rfl) p4
          have C1 := Lib.hid c1
          have C2 := Lib.hid c2
          have P1 := Lib.hid p1
          have P7 := Lib.hid p7
          clear c1 c2 c3 p1 p3 p4 p5 p6 p7
          go_wp2_with fail
          refine (crash_dk DD.out (Upd.refl NoF wr) (.slice none 0 0) [] (fun F _ => RdF.nil F wr 1) (by simp) (by have := HF2.out.len; omega)).mono ?_
          rintro e w3 ⟨rfl, hd3⟩
          have D3 := Lib.hid hd3
          clear hd3
          go_wp2_with fail
          refine (off_dk D3.out).mono ?_
          rw [C2.out]
          rintro e w' ⟨rfl, rfl⟩
          go_wp2_with fail
          refine (append_dk D3.out ((Upd.refl NoF w3).alloc _) [97] (by decide) _ [2] (lit_rd w3 _ _ _ 1 rfl rfl (by decide)) (by have := C1.out.get; simp; omega) (by have := C1.out.len; unfold maxLen; omega)).mono ?_
          rintro e w4 ⟨rfl, hd4⟩
          rw [P1.out]
          have D4 := Lib.hid hd4
          clear hd4
          go_wp2_with fail
          refine (sync_dk D4.out [97] (by decide)).mono ?_
          rintro e w5 ⟨rfl, hd5⟩
          rw [P7.out]
          have D5 := Lib.hid hd5
          clear hd5
          go_wp2_with fail
          refine (awake30 w5).mono ?_
          rintro e w6 ⟨rfl, hu6⟩
          have U6 := Lib.hid hu6
          clear hu6
          go_wp2_with fail
          go_ret
          exact ⟨rfl, D5.out.out.trans U6.out (fun _ _ h => h)⟩

set_option maxRecDepth 100000 in
theorem power_out (n m : Int) (h : n < 0 ∨ 50 < n ∨ m < 1 ∨ 20 < m) (w : World) : Calls Try.prog 5 #[.int .i64 n, .int .i64 m] w fun e w' => e = .returned (.bool true) ∧ Upd NoF w w' := by
  by_cases h1 : n < 0
  all_goals by_cases h2 : 50 < n
  all_goals by_cases h3 : m < 1
  all_goals by_cases h4 : 20 < m
  all_goals first
    | (exfalso; omega)
    | (clear h
       go_enter Try.func5, Try.ntmps5
       go_wp2_with fail
       refine (awake30 w).mono ?_
       rintro e w1 ⟨rfl, hu⟩
       have U := Lib.hid hu
       clear hu
       go_wp2_with fail
       go_ret
       exact ⟨rfl, U.out⟩)

theorem power_any (n m : Int) (w : World) : Calls Try.prog 5 #[.int .i64 n, .int .i64 m] w fun e w' => e = .returned (.bool true) ∧ Upd NoF w w' := by
  by_cases h : n < 0 ∨ 50 < n ∨ m < 1 ∨ 20 < m
  · exact power_out n m h w
  · obtain ⟨n', rfl⟩ := Int.eq_ofNat_of_zero_le (show 0 ≤ n by omega)
    obtain ⟨m', rfl⟩ := Int.eq_ofNat_of_zero_le (show 0 ≤ m by omega)
    exact power_in n' m' (by omega) (by omega) (by omega) w
end Go.Proofs.Ytmapijpphnlcmaa
