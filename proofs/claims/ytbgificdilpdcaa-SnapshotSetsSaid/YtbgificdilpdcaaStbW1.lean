/- Insertion sort of signed votes, the exchange of two ranges, and the rotation. Conditions: sizes. -/
import Derived.Test.YtbgificdilpdcaaJn19
import Derived.Sort.WalkB2
import Derived.Sort.WalkB12
import Derived.Deep.LoopGhost
namespace Go.Proofs.Ytbgificdilpdcaa
open Go.RowKit Go.Sort Go.Shelf

section
variable {M : Nat → Prop} {w0 W : World} {g S : Nat} {d : Array (VE M w0)}
theorem VS.ld (h : VS w0 g S d W) {i : Nat} (hi : i < d.size) (p : UpdBy W) : Sem.run Try.prog (loadCellsFrom ⟨g, i * 23, none⟩ 0 23 #[]) p.w' = .ok (encW d[i]!).toArray p.w' := (h.same p.h).load hi
theorem VS.cmp (h : VS w0 g S d W) (hM : M g) (x y : VE M w0) (p : UpdBy W) : Calls Try.prog 19 #[.agg (encW x).toArray, .agg (encW y).toArray] p.w' fun e w'' => e = .returned (.int .i64 (cmpSg x.1.1 y.1.1)) ∧ ∃ q : UpdBy W, w'' = q.w' := by
  have hu : Upd M w0 p.w' := (h.upd.mono (fun k _ e => by rw [show k = g from e]; exact hM)).trans p.h (fun _ _ f => f.elim)
  refine (compareVotes_any x.2.1 y.2.1 p.w' (x.2.2.upd hu).now (y.2.2.upd hu).now).mono ?_
  rintro e w'' ⟨rfl, h2⟩
  exact ⟨rfl, ⟨w'', p.h.trans h2 (fun _ _ f => f)⟩, rfl⟩

set_option maxHeartbeats 8000000 in
set_option maxRecDepth 1000000 in
theorem insS_any {n a b cap : Nat} {w : World} (h : VS w0 g S d w) (hM : M g) (hn : d.size = n) (hab : a ≤ b) (hb : b ≤ n) (hsz : n < 4611686018427387904) : Calls Try.prog 71 #[.slice (some ⟨g, 0, none⟩) n cap, .int .i64 a, .int .i64 b, .func (.func 19) #[] #[]] w fun e w' => e = .returned (.tuple #[]) ∧ VS w0 g S (Sort.insertionSort ltW d a b) w' := by
  have mixed : Try.prog.follows .mixedOrders = true := by kernel_rfl
  have aE : ∀ w, (isAgg 38).run Try.prog w = .ok true w := fun w => by kernel_rfl
  have zE : ∀ w, (Go.sizeOf 38).run Try.prog w = .ok 23 w := fun w => by kernel_rfl
  obtain ⟨kk, hkk⟩ : ∃ k, k = 23 := ⟨_, rfl⟩
  rw [← hkk] at zE
  have HK := Lib.hid hkk
  clear hkk
  have HM := Lib.hid hM
  have S0 := Lib.hid h
  have HDN := Lib.hid hn
  clear h
  go_enter Try.func71, Try.ntmps71
  go_wp2
  go_loopg [8] (b - a) (fun g1 vi wr => ∃ (i : Nat) (dk : Array (VE M w0)), vi = .int .i64 i ∧ a < i ∧ i ≤ b + 1 ∧ b + 1 - i ≤ g1 + 1 ∧ dk.size = n ∧ Hid (VS w0 g S dk wr) ∧ Hid (insOuter ltW a b i dk = insOuter ltW a b (a + 1) d))
  case atStart => exact ⟨a + 1, d, by go_num, by omega, by omega, by omega, hn, S0, Lib.hid rfl⟩
  case round =>
    obtain ⟨i, dk, rfl, hai, hib, hg1, hsk, S1, HO⟩ := hrel
    clear S0 hn HDN
    by_cases hlt : i < b
    · have hltz : (i : Int) < (b : Int) := by omega
      go_wp2
      go_loopg [9] i (fun g2 vj wr2 => ∃ (j : Nat) (dj : Array (VE M w0)), vj = .int .i64 j ∧ a ≤ j ∧ j ≤ i ∧ j ≤ g2 ∧ dj.size = n ∧ Hid (VS w0 g S dj wr2) ∧ Hid (insInner ltW a j dj = insInner ltW a i dk))
      case atStart => exact ⟨i, dk, rfl, by omega, Nat.le_refl _, Nat.le_refl _, hsk, S1, Lib.hid rfl⟩
      case round =>
        clear S1
        obtain ⟨j, dj, rfl, haj, hji, hg2, hsj, S2, HI⟩ := hrel
        have OUT := Lib.hid (show (j ≤ a ∨ ltW dj[j]! dj[j - 1]! = false) → insOuter ltW a b (i + 1) dj = insOuter ltW a b (a + 1) d from fun hs => by
          rw [← HO.out, insOuter_go _ _ _ _ _ hlt, ← HI.out, insInner_stop _ _ _ _ hs])
        by_cases hja : a < j
        · have hjaz : (a : Int) < (j : Int) := by omega
          obtain ⟨jp, rfl⟩ : ∃ jp, j = jp + 1 := ⟨j - 1, by omega⟩
          have hjaz' : (a : Int) < (jp : Int) + 1 := by omega
          have hjad : decide ((a : Int) < (jp : Int) + 1) = true := by simp; omega
          cases hL : ltW dj[jp + 1]! dj[jp]! with
          | true =>
            have ea1 : (((jp : Int) + 1)).toNat = jp + 1 := by omega
            have pa1 : (0 : Int) ≤ (jp : Int) + 1 := by omega
            have ba1 : (jp : Int) + 1 < (n : Int) := by omega
            have ra1 : IntKind.i64.wrap ((jp : Int) + 1) = (jp : Int) + 1 := by rw [IntKind.wrap_i64]; omega
            have ec1 : (((jp : Int))).toNat = jp := by omega
            have pc1 : (0 : Int) ≤ (jp : Int) := by omega
            have bc1 : (jp : Int) < (n : Int) := by omega
            have rc1 : IntKind.i64.wrap ((jp : Int)) = (jp : Int) := by rw [IntKind.wrap_i64]; omega
            obtain ⟨x1, hx1⟩ : ∃ x, x = dj[jp + 1]! := ⟨_, rfl⟩
            obtain ⟨y1, hy1⟩ : ∃ x, x = dj[jp]! := ⟨_, rfl⟩
            have l1a := fun p : UpdBy wr => S2.out.ld (i := jp + 1) (by omega) p
            have l1b := fun p : UpdBy wr => S2.out.ld (i := jp) (by omega) p
            rw [← hx1] at l1a
            rw [← hy1] at l1b
            have hc1 := fun p : UpdBy wr => S2.out.cmp HM.out x1 y1 p
            obtain ⟨v1, hv1⟩ : ∃ z, z = cmpSg x1.1.1 y1.1.1 := ⟨_, rfl⟩
            have hd1 : decide (v1 < 0) = true := by rw [hv1, cmpSg_lt, hx1, hy1]; exact hL
            have hi1 : v1 < 0 := of_decide_eq_true hd1
            rw [← hv1] at hc1
            obtain ⟨ex1, hex1⟩ : ∃ l, l = (encW x1).toArray := ⟨_, rfl⟩
            obtain ⟨ey1, hey1⟩ : ∃ l, l = (encW y1).toArray := ⟨_, rfl⟩
            rw [← hex1] at l1a hc1
            rw [← hey1] at l1b hc1
            clear hx1 hy1 hv1 hex1 hey1
            rw [← HK.out] at l1a l1b
            go_wp2_with fail
            refine wp_region_quiet_upd (by kernel_rfl) (by kernel_rfl) ?_
            repeat (quiet_step (exact hc1 _))
            refine wpQuiet_nil ?_
            intro w3 hw'
            have hq : Upd NoF wr w3 := by obtain ⟨p, rfl⟩ := hw'; exact p.h
            clear hw'
            have S3 := Lib.hid (S2.out.same hq)
            clear l1a l1b hc1 hq
            have ea2 : (((jp : Int) + 1)).toNat = jp + 1 := by omega
            have pa2 : (0 : Int) ≤ (jp : Int) + 1 := by omega
            have ba2 : (jp : Int) + 1 < (n : Int) := by omega
            have ra2 : IntKind.i64.wrap ((jp : Int) + 1) = (jp : Int) + 1 := by rw [IntKind.wrap_i64]; omega
            have ec2 : (((jp : Int))).toNat = jp := by omega
            have pc2 : (0 : Int) ≤ (jp : Int) := by omega
            have bc2 : (jp : Int) < (n : Int) := by omega
            have rc2 : IntKind.i64.wrap ((jp : Int)) = (jp : Int) := by rw [IntKind.wrap_i64]; omega
            have S4 := Lib.hid ((S3.out.same ((Upd.refl NoF w3).drew)).swapped (i := jp + 1) (j := jp) (by omega) (by omega))
            have l2a := (S3.out.same ((Upd.refl NoF w3).drew)).load (i := jp + 1) (by omega)
            have l2b := (S3.out.same ((Upd.refl NoF w3).drew)).load (i := jp) (by omega)
            have s2a := (S3.out.same ((Upd.refl NoF w3).drew)).st1 (i := jp + 1) (by omega) dj[jp]!
            have s2b := (S3.out.same ((Upd.refl NoF w3).drew)).st2 (i := jp + 1) (j := jp) (by omega) (by omega) dj[jp]! dj[jp + 1]!
            have n2a : (encW dj[jp + 1]!).length = 23 := encW_len _
            have n2b : (encW dj[jp]!).length = 23 := encW_len _
            generalize encW dj[jp + 1]! = cI2 at S4 l2a s2b n2a
            generalize encW dj[jp]! = cJ2 at S4 l2b s2a s2b n2b
            rw [← HK.out] at l2a l2b s2a s2b n2a n2b S4
            go_wp2_with fail
            go_big_region_o
            clear l2a l2b s2a s2b
            generalize (w3.drew.setCells g (jp + 1 * kk) cJ2).setCells g (jp * kk) cI2 = w4 at S4 ⊢
            go_wp2
            go_roundg jp
            case measure => omega
            case rel =>
              refine ⟨jp, swp dj (jp + 1) jp, by first | rfl | go_num | (congr 1; omega), by omega, by omega, Nat.le_refl _, by rw [size_swp]; exact hsj, S4, Lib.hid ?_⟩
              have := insInner_go ltW a (jp + 1) dj hja (by simp only [Nat.add_sub_cancel]; exact hL)
              simp only [Nat.add_sub_cancel] at this
              rw [← HI.out, this]
          | false =>
            have ea1 : (((jp : Int) + 1)).toNat = jp + 1 := by omega
            have pa1 : (0 : Int) ≤ (jp : Int) + 1 := by omega
            have ba1 : (jp : Int) + 1 < (n : Int) := by omega
            have ra1 : IntKind.i64.wrap ((jp : Int) + 1) = (jp : Int) + 1 := by rw [IntKind.wrap_i64]; omega
            have ec1 : (((jp : Int))).toNat = jp := by omega
            have pc1 : (0 : Int) ≤ (jp : Int) := by omega
            have bc1 : (jp : Int) < (n : Int) := by omega
            have rc1 : IntKind.i64.wrap ((jp : Int)) = (jp : Int) := by rw [IntKind.wrap_i64]; omega
            obtain ⟨x1, hx1⟩ : ∃ x, x = dj[jp + 1]! := ⟨_, rfl⟩
            obtain ⟨y1, hy1⟩ : ∃ x, x = dj[jp]! := ⟨_, rfl⟩
            have l1a := fun p : UpdBy wr => S2.out.ld (i := jp + 1) (by omega) p
            have l1b := fun p : UpdBy wr => S2.out.ld (i := jp) (by omega) p
            rw [← hx1] at l1a
            rw [← hy1] at l1b
            have hc1 := fun p : UpdBy wr => S2.out.cmp HM.out x1 y1 p
            obtain ⟨v1, hv1⟩ : ∃ z, z = cmpSg x1.1.1 y1.1.1 := ⟨_, rfl⟩
            have hd1 : decide (v1 < 0) = false := by rw [hv1, cmpSg_lt, hx1, hy1]; exact hL
            have hi1 : ¬ v1 < 0 := of_decide_eq_false hd1
            rw [← hv1] at hc1
            obtain ⟨ex1, hex1⟩ : ∃ l, l = (encW x1).toArray := ⟨_, rfl⟩
            obtain ⟨ey1, hey1⟩ : ∃ l, l = (encW y1).toArray := ⟨_, rfl⟩
            rw [← hex1] at l1a hc1
            rw [← hey1] at l1b hc1
            clear hx1 hy1 hv1 hex1 hey1
            rw [← HK.out] at l1a l1b
            go_wp2_with fail
            refine wp_region_quiet_upd (by kernel_rfl) (by kernel_rfl) ?_
            repeat (quiet_step (exact hc1 _))
            refine wpQuiet_nil ?_
            intro w3 hw'
            have hq : Upd NoF wr w3 := by obtain ⟨p, rfl⟩ := hw'; exact p.h
            clear hw'
            have S3 := Lib.hid (S2.out.same hq)
            clear l1a l1b hc1 hq
            go_wp2
            go_roundg (b - (i + 1))
            case measure => omega
            case rel => exact ⟨i + 1, dj, by go_num, by omega, by omega, by omega, hsj, S3, Lib.hid (OUT.out (Or.inr (by simp only [Nat.add_sub_cancel]; exact hL)))⟩
        · have hjaz : decide ((j : Int) > (a : Int)) = false := decide_eq_false (by omega)
          have hjaz' : ¬ (a : Int) < (j : Int) := by omega
          go_wp2_with fail
          have S3 := Lib.hid (S2.out.same ((Upd.refl NoF wr).drew))
          go_big_region_o
          all_goals go_wp2
          go_roundg (b - (i + 1))
          case measure => omega
          case rel => exact ⟨i + 1, dj, by go_num, by omega, by omega, by omega, hsj, S3, Lib.hid (OUT.out (Or.inl (by omega)))⟩
    · have hltz : ¬ (i : Int) < (b : Int) := by omega
      go_wp2
      go_end0
      refine ⟨rfl, ?_⟩
      unfold Sort.insertionSort
      rw [← HO.out, insOuter_stop _ _ _ _ _ hlt]
      exact S1.out

set_option maxHeartbeats 8000000 in
set_option maxRecDepth 1000000 in
theorem swpR_any {n xa ya k cap : Nat} {w : World} (h : VS w0 g S d w) (hM : M g) (hn : d.size = n) (hx : xa + k ≤ n) (hy : ya + k ≤ n) (hsz : n < 4611686018427387904) : Calls Try.prog 96 #[.slice (some ⟨g, 0, none⟩) n cap, .int .i64 xa, .int .i64 ya, .int .i64 k, .func (.func 19) #[] #[]] w fun e w' => e = .returned (.tuple #[]) ∧ VS w0 g S (swpR d xa ya k) w' := by
  have mixed : Try.prog.follows .mixedOrders = true := by kernel_rfl
  have aE : ∀ w, (isAgg 38).run Try.prog w = .ok true w := fun w => by kernel_rfl
  have zE : ∀ w, (Go.sizeOf 38).run Try.prog w = .ok 23 w := fun w => by kernel_rfl
  obtain ⟨kk, hkk⟩ : ∃ k, k = 23 := ⟨_, rfl⟩
  rw [← hkk] at zE
  have HK := Lib.hid hkk
  clear hkk
  have HM := Lib.hid hM
  have S0 := Lib.hid h
  have HDN := Lib.hid hn
  clear h
  go_enter Try.func96, Try.ntmps96
  go_wp2
  go_loopg [10] k (fun g1 vi wr => ∃ (i : Nat), vi = .int .i64 i ∧ i ≤ k ∧ k - i ≤ g1 ∧ Hid (VS w0 g S (swpR d xa ya i) wr))
  case atStart => exact ⟨0, rfl, by omega, by omega, S0⟩
  case round =>
    obtain ⟨i, rfl, hik, hg1, S1⟩ := hrel
    clear S0
    have hsk : (swpR d xa ya i).size = n := by rw [swpR_size]; exact hn
    have HE := Lib.hid (show swpR d xa ya (i + 1) = swp (swpR d xa ya i) (xa + i) (ya + i) from rfl)
    have HL := Lib.hid (fun (e : i = k) => show VS w0 g S (swpR d xa ya k) wr from by rw [← e]; exact S1.out)
    generalize swpR d xa ya i = dk at S1 hsk HE
    clear hn HDN
    by_cases hlt : i < k
    · have hltz : (i : Int) < (k : Int) := by omega
      go_wp2_with fail
      have ea2 : (((xa : Int) + (i : Int))).toNat = xa + i := by omega
      have pa2 : (0 : Int) ≤ (xa : Int) + (i : Int) := by omega
      have ba2 : (xa : Int) + (i : Int) < (n : Int) := by omega
      have ra2 : IntKind.i64.wrap ((xa : Int) + (i : Int)) = (xa : Int) + (i : Int) := by rw [IntKind.wrap_i64]; omega
      have ec2 : (((ya : Int) + (i : Int))).toNat = ya + i := by omega
      have pc2 : (0 : Int) ≤ (ya : Int) + (i : Int) := by omega
      have bc2 : (ya : Int) + (i : Int) < (n : Int) := by omega
      have rc2 : IntKind.i64.wrap ((ya : Int) + (i : Int)) = (ya : Int) + (i : Int) := by rw [IntKind.wrap_i64]; omega
      have S2 := Lib.hid ((S1.out.same ((Upd.refl NoF wr).drew)).swapped (i := xa + i) (j := ya + i) (by omega) (by omega))
      have l2a := (S1.out.same ((Upd.refl NoF wr).drew)).load (i := xa + i) (by omega)
      have l2b := (S1.out.same ((Upd.refl NoF wr).drew)).load (i := ya + i) (by omega)
      have s2a := (S1.out.same ((Upd.refl NoF wr).drew)).st1 (i := xa + i) (by omega) dk[ya + i]!
      have s2b := (S1.out.same ((Upd.refl NoF wr).drew)).st2 (i := xa + i) (j := ya + i) (by omega) (by omega) dk[ya + i]! dk[xa + i]!
      have n2a : (encW dk[xa + i]!).length = 23 := encW_len _
      have n2b : (encW dk[ya + i]!).length = 23 := encW_len _
      generalize encW dk[xa + i]! = cI2 at S2 l2a s2b n2a
      generalize encW dk[ya + i]! = cJ2 at S2 l2b s2a s2b n2b
      rw [← HK.out] at l2a l2b s2a s2b n2a n2b S2
      go_wp2_with fail
      go_big_region_o
      clear l2a l2b s2a s2b
      generalize (wr.drew.setCells g (xa + i * kk) cJ2).setCells g (ya + i * kk) cI2 = w2 at S2 ⊢
      go_wp2
      go_roundg (k - (i + 1))
      case measure => omega
      case rel => exact ⟨i + 1, by go_num, by omega, by omega, by rw [HE.out]; exact S2⟩
    · have hltz : ¬ (i : Int) < (k : Int) := by omega
      go_wp2
      go_end0
      exact ⟨rfl, HL.out (by omega)⟩

set_option maxHeartbeats 8000000 in
set_option maxRecDepth 1000000 in
theorem rotS_any {n a m b cap : Nat} {w : World} (h : VS w0 g S d w) (hM : M g) (hn : d.size = n) (ham : a < m) (hmb : m < b) (hb : b ≤ n) (hsz : n < 4611686018427387904) : Calls Try.prog 87 #[.slice (some ⟨g, 0, none⟩) n cap, .int .i64 a, .int .i64 m, .int .i64 b, .func (.func 19) #[] #[]] w fun e w' => e = .returned (.tuple #[]) ∧ ∃ d' : Array (VE M w0), VS w0 g S d' w' ∧ PermIn a b d d' ∧ ∀ t, d'[t]! = rotAt d a m b t := by
  have mixed : Try.prog.follows .mixedOrders = true := by kernel_rfl
  have aE : ∀ w, (isAgg 38).run Try.prog w = .ok true w := fun w => by kernel_rfl
  have zE : ∀ w, (Go.sizeOf 38).run Try.prog w = .ok 23 w := fun w => by kernel_rfl
  obtain ⟨kk, hkk⟩ : ∃ k, k = 23 := ⟨_, rfl⟩
  rw [← hkk] at zE
  have HK := Lib.hid hkk
  clear hkk
  have HM := Lib.hid hM
  have S0 := Lib.hid h
  have HDN := Lib.hid hn
  clear h
  go_enter Try.func87, Try.ntmps87
  go_wp2
  go_loopg [10, 11] (b - a) (fun g1 vi vj wr => ∃ (i j : Nat) (dk : Array (VE M w0)), vi = .int .i64 i ∧ vj = .int .i64 j ∧ 0 < i ∧ 0 < j ∧ a + i ≤ m ∧ m + j ≤ b ∧ i + j ≤ g1 ∧ Hid (VS w0 g S dk wr) ∧ Hid (PermIn a b d dk ∧ ∀ t, rotAt dk (m - i) m (m + j) t = rotAt d a m b t))
  case atStart => exact ⟨m - a, b - m, d, by go_num, by go_num, by omega, by omega, by omega, by omega, by omega, S0, Lib.hid ⟨permIn_refl d a b, fun t => by rw [show m - (m - a) = a by omega, show m + (b - m) = b by omega]⟩⟩
  case round =>
    obtain ⟨i, j, dk, rfl, rfl, hi0, hj0, hia, hjb, hg1, S1, HP⟩ := hrel
    clear S0
    have hsk : dk.size = n := by rw [HP.out.1.1]; exact hn
    by_cases hij : i = j
    · subst hij
      have CS := Lib.hid (swpR_any (xa := m - i) (ya := m) (k := i) (cap := cap) S1.out hM hsk (by omega) (by omega) hsz)
      rw [show ((m - i : Nat) : Int) = (m : Int) - (i : Int) by omega] at CS
      go_wp2_with fail
      refine CS.out.mono ?_
      rintro e w2 ⟨rfl, h2⟩
      have S2 := Lib.hid h2
      clear h2 CS
      go_wp2
      go_end0
      refine ⟨rfl, _, S2.out, permIn_trans _ _ _ _ _ HP.out.1 (swpR_perm dk (m - i) m a b i (by omega) (by omega) (by omega) (by omega) (by omega)), fun t => ?_⟩
      rw [rot_end (by omega) (by omega) t]
      exact HP.out.2 t
    · have hijz : ¬ (i : Int) = (j : Int) := by omega
      have hijd : decide ((i : Int) = (j : Int)) = false := by simp; omega
      have hijb : ((i : Int) == (j : Int)) = false := by simp; omega
      have hijn : (i == j) = false := by simp [hij]
      by_cases hlt : j < i
      · have hltz : (j : Int) < (i : Int) := by omega
        have CS := Lib.hid (swpR_any (xa := m - i) (ya := m) (k := j) (cap := cap) S1.out hM hsk (by omega) (by omega) hsz)
        rw [show ((m - i : Nat) : Int) = (m : Int) - (i : Int) by omega] at CS
        go_wp2_with fail
        refine CS.out.mono ?_
        rintro e w2 ⟨rfl, h2⟩
        have S2 := Lib.hid h2
        clear h2 CS
        go_wp2
        go_roundg (i - j + j)
        case measure => omega
        case rel => exact ⟨i - j, j, _, by go_num, rfl, by omega, hj0, by omega, hjb, by omega, S2, Lib.hid ⟨permIn_trans _ _ _ _ _ HP.out.1 (swpR_perm dk (m - i) m a b j (by omega) (by omega) (by omega) (by omega) (by omega)), fun t => by rw [rot_step1 (by omega) hlt (by omega) t]; exact HP.out.2 t⟩⟩
      · have hltz : ¬ (j : Int) < (i : Int) := by omega
        have CS := Lib.hid (swpR_any (xa := m - i) (ya := m + j - i) (k := i) (cap := cap) S1.out hM hsk (by omega) (by omega) hsz)
        rw [show ((m - i : Nat) : Int) = (m : Int) - (i : Int) by omega, show ((m + j - i : Nat) : Int) = (m : Int) + (j : Int) - (i : Int) by omega] at CS
        go_wp2_with fail
        refine CS.out.mono ?_
        rintro e w2 ⟨rfl, h2⟩
        have S2 := Lib.hid h2
        clear h2 CS
        go_wp2
        go_roundg (i + (j - i))
        case measure => omega
        case rel => exact ⟨i, j - i, _, rfl, by go_num, hi0, by omega, hia, by omega, by omega, S2, Lib.hid ⟨permIn_trans _ _ _ _ _ HP.out.1 (swpR_perm dk (m - i) (m + j - i) a b i (by omega) (by omega) (by omega) (by omega) (by omega)), fun t => by rw [rot_step2 (by omega) (by omega) (by omega) t]; exact HP.out.2 t⟩⟩
end
end Go.Proofs.Ytbgificdilpdcaa
