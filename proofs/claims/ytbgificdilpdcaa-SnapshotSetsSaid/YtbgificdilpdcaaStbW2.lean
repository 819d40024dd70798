/- The symmetric merge of signed votes. Conditions: sizes. -/
import Derived.Test.YtbgificdilpdcaaStbW1
import Derived.Test.YtbgificdilpdcaaJn20
namespace Go.Proofs.Ytbgificdilpdcaa
open Go.RowKit Go.Sort Go.Shelf
section
variable {M : Nat → Prop} {w0 W : World} {g S : Nat}
/-- What the symmetric merge leaves. -/
def SymPost (w0 : World) (g S a b : Nat) (d : Array (VE M w0)) (e : Ending) (w' : World) : Prop := e = .returned (.tuple #[]) ∧ ∃ d' : Array (VE M w0), VS w0 g S d' w' ∧ PermIn a b d d' ∧ SortedIn ltW a b d'

set_option maxHeartbeats 16000000 in
set_option maxRecDepth 1000000 in
theorem symS_any {n cap : Nat} (hM : M g) (hsz : n < 2305843009213693952) : ∀ (N a m b : Nat), b - a ≤ N → ∀ {d : Array (VE M w0)} {w : World}, VS w0 g S d w → d.size = n → a < m → m < b → b ≤ n → SortedIn ltW a m d → SortedIn ltW m b d → Calls Try.prog 72 #[.slice (some ⟨g, 0, none⟩) n cap, .int .i64 a, .int .i64 m, .int .i64 b, .func (.func 19) #[] #[]] w (SymPost w0 g S a b d) := by
  intro N
  induction N with
  | zero => intro a m b h1 d w h hn h2 h3; omega
  | succ N ih0 =>
    intro a m b hN d w h hn ham hmb hb hs1 hs2
    have ih : ∀ (a' m' b' : Nat), b' - a' < b - a → ∀ {d : Array (VE M w0)} {w : World}, VS w0 g S d w → d.size = n → a' < m' → m' < b' → b' ≤ n → SortedIn ltW a' m' d → SortedIn ltW m' b' d → Calls Try.prog 72 #[.slice (some ⟨g, 0, none⟩) n cap, .int .i64 a', .int .i64 m', .int .i64 b', .func (.func 19) #[] #[]] w (SymPost w0 g S a' b' d) := fun a' m' b' hh => ih0 a' m' b' (by omega)
    have IH := Lib.hid ih
    clear ih0 ih
    have H1 := Lib.hid hs1
    have H2 := Lib.hid hs2
    clear hs1 hs2
    have mixed : Try.prog.follows .mixedOrders = true := by kernel_rfl
    have aE : ∀ w, (isAgg 38).run Try.prog w = .ok true w := fun w => by kernel_rfl
    have zE : ∀ w, (Go.sizeOf 38).run Try.prog w = .ok 23 w := fun w => by kernel_rfl
    obtain ⟨kk, hkk⟩ : ∃ k, k = 23 := ⟨_, rfl⟩
    rw [← hkk] at zE
    have HK := Lib.hid hkk
    clear hkk
    have HM := Lib.hid hM
    have S0 := Lib.hid h
    have HDN := Lib.hid hn
    clear h
    by_cases c1 : m = a + 1
    · have c1z : (m : Int) - (a : Int) = 1 := by omega
      have C1 := Lib.hid c1
      clear c1
      go_enter Try.func72, Try.ntmps72
      go_wp2
      go_loopg [10, 11] (b - m) (fun kx s1 s2 wr => ∃ (i j : Nat), s1 = .int .i64 i ∧ s2 = .int .i64 j ∧ m ≤ i ∧ i ≤ j ∧ j ≤ b ∧ j - i ≤ kx ∧ Hid (VS w0 g S d wr) ∧ Hid ((i = m ∨ ltW d[i - 1]! d[a]! = true) ∧ (j = b ∨ ltW d[j]! d[a]! = false)))
      case atStart => exact ⟨m, b, by first | rfl | go_num, by first | rfl | go_num, by omega, by omega, by omega, by omega, S0, Lib.hid ⟨.inl rfl, .inl rfl⟩⟩
      case round =>
        clear S0
        obtain ⟨i, j, rfl, rfl, hli, hij, hjh, hkx, S1, HI⟩ := hrel
        by_cases hlt : i < j
        · have hltz : (i : Int) < (j : Int) := by omega
          skip
          cases hL : ltW d[(i + j) / 2]! d[a]! with
          | true =>
            have ea1 : ((((i : Int) + (j : Int)) / 2)).toNat = (i + j) / 2 := by omega
            have pa1 : (0 : Int) ≤ ((i : Int) + (j : Int)) / 2 := by omega
            have ba1 : ((i : Int) + (j : Int)) / 2 < (n : Int) := by omega
            have ra1 : IntKind.i64.wrap (((i : Int) + (j : Int)) / 2) = ((i : Int) + (j : Int)) / 2 := by rw [IntKind.wrap_i64]; omega
            have ec1 : (((a : Int))).toNat = a := by omega
            have pc1 : (0 : Int) ≤ (a : Int) := by omega
            have bc1 : (a : Int) < (n : Int) := by omega
            have rc1 : IntKind.i64.wrap ((a : Int)) = (a : Int) := by rw [IntKind.wrap_i64]; omega
            obtain ⟨x1, hx1⟩ : ∃ x, x = d[(i + j) / 2]! := ⟨_, rfl⟩
            obtain ⟨y1, hy1⟩ : ∃ x, x = d[a]! := ⟨_, rfl⟩
            have l1a := fun p : UpdBy wr => S1.out.ld (i := (i + j) / 2) (by omega) p
            have l1b := fun p : UpdBy wr => S1.out.ld (i := a) (by omega) p
            rw [← hx1] at l1a
            rw [← hy1] at l1b
            have hc1 := fun p : UpdBy wr => S1.out.cmp HM.out x1 y1 p
            obtain ⟨v1, hv1⟩ : ∃ z, z = cmpSg x1.1.1 y1.1.1 := ⟨_, rfl⟩
            have hd1 : decide (v1 < 0) = true := by rw [hv1, cmpSg_lt, hx1, hy1]; exact hL
            have hi1 : v1 < 0 := of_decide_eq_true hd1
            rw [← hv1] at hc1
            obtain ⟨ex1, hex1⟩ : ∃ l, l = (encW x1).toArray := ⟨_, rfl⟩
            obtain ⟨ey1, hey1⟩ : ∃ l, l = (encW y1).toArray := ⟨_, rfl⟩
            rw [← hex1] at l1a hc1
            rw [← hey1] at l1b hc1
            clear hx1 hy1 hv1 hex1 hey1
            rw [← HK.out] at l1a l1b
            go_wp2_with fail
            refine wp_region_quiet_upd (by kernel_rfl) (by kernel_rfl) ?_
            repeat (quiet_step (exact hc1 _))
            refine wpQuiet_nil ?_
            intro w3 hw'
            have hq : Upd NoF wr w3 := by obtain ⟨p, rfl⟩ := hw'; exact p.h
            clear hw'
            have S2 := Lib.hid (S1.out.same hq)
            clear l1a l1b hc1 hq
            go_wp2
            go_roundg (j - ((i + j) / 2 + 1))
            case measure => omega
            case rel => exact ⟨(i + j) / 2 + 1, j, by rw [show ((i : Int) + (j : Int)) / 2 + 1 = (((i + j) / 2 + 1 : Nat) : Int) by omega], rfl, by omega, by omega, by omega, by omega, S2, Lib.hid ⟨.inr (by rw [Nat.add_sub_cancel]; exact hL), HI.out.2⟩⟩
          | false =>
            have ea1 : ((((i : Int) + (j : Int)) / 2)).toNat = (i + j) / 2 := by omega
            have pa1 : (0 : Int) ≤ ((i : Int) + (j : Int)) / 2 := by omega
            have ba1 : ((i : Int) + (j : Int)) / 2 < (n : Int) := by omega
            have ra1 : IntKind.i64.wrap (((i : Int) + (j : Int)) / 2) = ((i : Int) + (j : Int)) / 2 := by rw [IntKind.wrap_i64]; omega
            have ec1 : (((a : Int))).toNat = a := by omega
            have pc1 : (0 : Int) ≤ (a : Int) := by omega
            have bc1 : (a : Int) < (n : Int) := by omega
            have rc1 : IntKind.i64.wrap ((a : Int)) = (a : Int) := by rw [IntKind.wrap_i64]; omega
            obtain ⟨x1, hx1⟩ : ∃ x, x = d[(i + j) / 2]! := ⟨_, rfl⟩
            obtain ⟨y1, hy1⟩ : ∃ x, x = d[a]! := ⟨_, rfl⟩
            have l1a := fun p : UpdBy wr => S1.out.ld (i := (i + j) / 2) (by omega) p
            have l1b := fun p : UpdBy wr => S1.out.ld (i := a) (by omega) p
            rw [← hx1] at l1a
            rw [← hy1] at l1b
            have hc1 := fun p : UpdBy wr => S1.out.cmp HM.out x1 y1 p
            obtain ⟨v1, hv1⟩ : ∃ z, z = cmpSg x1.1.1 y1.1.1 := ⟨_, rfl⟩
            have hd1 : decide (v1 < 0) = false := by rw [hv1, cmpSg_lt, hx1, hy1]; exact hL
            have hi1 : ¬ v1 < 0 := of_decide_eq_false hd1
            rw [← hv1] at hc1
            obtain ⟨ex1, hex1⟩ : ∃ l, l = (encW x1).toArray := ⟨_, rfl⟩
            obtain ⟨ey1, hey1⟩ : ∃ l, l = (encW y1).toArray := ⟨_, rfl⟩
            rw [← hex1] at l1a hc1
            rw [← hey1] at l1b hc1
            clear hx1 hy1 hv1 hex1 hey1
            rw [← HK.out] at l1a l1b
            go_wp2_with fail
            refine wp_region_quiet_upd (by kernel_rfl) (by kernel_rfl) ?_
            repeat (quiet_step (exact hc1 _))
            refine wpQuiet_nil ?_
            intro w3 hw'
            have hq : Upd NoF wr w3 := by obtain ⟨p, rfl⟩ := hw'; exact p.h
            clear hw'
            have S2 := Lib.hid (S1.out.same hq)
            clear l1a l1b hc1 hq
            go_wp2
            go_roundg ((i + j) / 2 - i)
            case measure => omega
            case rel => exact ⟨i, (i + j) / 2, rfl, by rw [show ((i : Int) + (j : Int)) / 2 = (((i + j) / 2 : Nat) : Int) by omega], by omega, by omega, by omega, by omega, S2, Lib.hid ⟨HI.out.1, .inr hL⟩⟩
        · have hltz : ¬ (i : Int) < (j : Int) := by omega
          have hji : j = i := by omega
          subst hji
          have hi0 : ¬ (9223372036854775807 < (j : Int) - 1) := by omega
          go_wp2
          go_loopg [13] (j - a) (fun kx s1 wr => ∃ (k : Nat) (dk : Array (VE M w0)), s1 = .int .i64 k ∧ a ≤ k ∧ k + 1 ≤ j ∧ j - k ≤ kx ∧ Hid (VS w0 g S dk wr) ∧ Hid (PermIn a b d dk ∧ ∀ t, dk[t]! = upAt d a k t))
          case atStart => exact ⟨a, d, rfl, by omega, by omega, by omega, S1, Lib.hid ⟨permIn_refl d a b, fun t => up_start d a t⟩⟩
          case round =>
            clear S1
            obtain ⟨k, dk, rfl, hak, hkj, hkx2, S3, HU⟩ := hrel
            have hsk : dk.size = n := by rw [HU.out.1.1]; exact hn
            by_cases hk : k + 1 < j
            · have hkz : (k : Int) < (j : Int) - 1 := by omega
              go_wp2_with fail
              have ea5 : (((k : Int))).toNat = k := by omega
              have pa5 : (0 : Int) ≤ (k : Int) := by omega
              have ba5 : (k : Int) < (n : Int) := by omega
              have ra5 : IntKind.i64.wrap ((k : Int)) = (k : Int) := by rw [IntKind.wrap_i64]; omega
              have ec5 : (((k : Int) + 1)).toNat = k + 1 := by omega
              have pc5 : (0 : Int) ≤ (k : Int) + 1 := by omega
              have bc5 : (k : Int) + 1 < (n : Int) := by omega
              have rc5 : IntKind.i64.wrap ((k : Int) + 1) = (k : Int) + 1 := by rw [IntKind.wrap_i64]; omega
              have S4 := Lib.hid ((S3.out.same ((Upd.refl NoF wr).drew)).swapped (i := k) (j := k + 1) (by omega) (by omega))
              have l5a := (S3.out.same ((Upd.refl NoF wr).drew)).load (i := k) (by omega)
              have l5b := (S3.out.same ((Upd.refl NoF wr).drew)).load (i := k + 1) (by omega)
              have s5a := (S3.out.same ((Upd.refl NoF wr).drew)).st1 (i := k) (by omega) dk[k + 1]!
              have s5b := (S3.out.same ((Upd.refl NoF wr).drew)).st2 (i := k) (j := k + 1) (by omega) (by omega) dk[k + 1]! dk[k]!
              have n5a : (encW dk[k]!).length = 23 := encW_len _
              have n5b : (encW dk[k + 1]!).length = 23 := encW_len _
              generalize encW dk[k]! = cI5 at S4 l5a s5b n5a
              generalize encW dk[k + 1]! = cJ5 at S4 l5b s5a s5b n5b
              rw [← HK.out] at l5a l5b s5a s5b n5a n5b S4
              go_wp2_with fail
              go_big_region_o
              clear l5a l5b s5a s5b
              generalize (wr.drew.setCells g (k * kk) cJ5).setCells g (k + 1 * kk) cI5 = w4 at S4 ⊢
              go_wp2
              go_roundg (j - (k + 1))
              case measure => omega
              case rel => exact ⟨k + 1, _, by go_num, by omega, by omega, by omega, S4, Lib.hid ⟨permIn_trans _ _ _ _ _ HU.out.1 (swp_permIn dk a b k (k + 1) hak (by omega) (by omega) (by omega) (by omega)), up_step hak (by omega) HU.out.2⟩⟩
            · have hkz : ¬ (k : Int) < (j : Int) - 1 := by omega
              go_wp2
              go_end0
              refine ⟨rfl, dk, S3.out, HU.out.1, ?_⟩
              have hkj' : k = j - 1 := by omega
              subst hkj'
              have hm1 : m = a + 1 := C1.out
              have q1 := HI.out.1
              have q2 := H2.out
              rw [hm1] at q1 q2
              exact up_sorted swoW q2 (by omega) (by omega) q1 HI.out.2 HU.out.2
    · have c1z : ¬ (m : Int) - (a : Int) = 1 := by omega
      have c1d : ((m : Int) - (a : Int) == 1) = false := by simp; omega
      by_cases c2 : b = m + 1
      · have c2z : (b : Int) - (m : Int) = 1 := by omega
        have C2 := Lib.hid c2
        clear c2
        go_enter Try.func72, Try.ntmps72
        go_wp2
        go_loopg [14, 15] (m - a) (fun kx s1 s2 wr => ∃ (i j : Nat), s1 = .int .i64 i ∧ s2 = .int .i64 j ∧ a ≤ i ∧ i ≤ j ∧ j ≤ m ∧ j - i ≤ kx ∧ Hid (VS w0 g S d wr) ∧ Hid ((i = a ∨ ltW d[m]! d[i - 1]! = false) ∧ (j = m ∨ ltW d[m]! d[j]! = true)))
        case atStart => exact ⟨a, m, by first | rfl | go_num, by first | rfl | go_num, by omega, by omega, by omega, by omega, S0, Lib.hid ⟨.inl rfl, .inl rfl⟩⟩
        case round =>
          clear S0
          obtain ⟨i, j, rfl, rfl, hli, hij, hjh, hkx, S1, HI⟩ := hrel
          by_cases hlt : i < j
          · have hltz : (i : Int) < (j : Int) := by omega
            skip
            cases hL : ltW d[m]! d[(i + j) / 2]! with
            | true =>
              have ea2 : (((m : Int))).toNat = m := by omega
              have pa2 : (0 : Int) ≤ (m : Int) := by omega
              have ba2 : (m : Int) < (n : Int) := by omega
              have ra2 : IntKind.i64.wrap ((m : Int)) = (m : Int) := by rw [IntKind.wrap_i64]; omega
              have ec2 : ((((i : Int) + (j : Int)) / 2)).toNat = (i + j) / 2 := by omega
              have pc2 : (0 : Int) ≤ ((i : Int) + (j : Int)) / 2 := by omega
              have bc2 : ((i : Int) + (j : Int)) / 2 < (n : Int) := by omega
              have rc2 : IntKind.i64.wrap (((i : Int) + (j : Int)) / 2) = ((i : Int) + (j : Int)) / 2 := by rw [IntKind.wrap_i64]; omega
              obtain ⟨x2, hx2⟩ : ∃ x, x = d[m]! := ⟨_, rfl⟩
              obtain ⟨y2, hy2⟩ : ∃ x, x = d[(i + j) / 2]! := ⟨_, rfl⟩
              have l2a := fun p : UpdBy wr => S1.out.ld (i := m) (by omega) p
              have l2b := fun p : UpdBy wr => S1.out.ld (i := (i + j) / 2) (by omega) p
              rw [← hx2] at l2a
              rw [← hy2] at l2b
              have hc2 := fun p : UpdBy wr => S1.out.cmp HM.out x2 y2 p
              obtain ⟨v2, hv2⟩ : ∃ z, z = cmpSg x2.1.1 y2.1.1 := ⟨_, rfl⟩
              have hd2 : decide (v2 < 0) = true := by rw [hv2, cmpSg_lt, hx2, hy2]; exact hL
              have hi2 : v2 < 0 := of_decide_eq_true hd2
              rw [← hv2] at hc2
              obtain ⟨ex2, hex2⟩ : ∃ l, l = (encW x2).toArray := ⟨_, rfl⟩
              obtain ⟨ey2, hey2⟩ : ∃ l, l = (encW y2).toArray := ⟨_, rfl⟩
              rw [← hex2] at l2a hc2
              rw [← hey2] at l2b hc2
              clear hx2 hy2 hv2 hex2 hey2
              rw [← HK.out] at l2a l2b
              go_wp2_with fail
              refine wp_region_quiet_upd (by kernel_rfl) (by kernel_rfl) ?_
              repeat (quiet_step (exact hc2 _))
              refine wpQuiet_nil ?_
              intro w3 hw'
              have hq : Upd NoF wr w3 := by obtain ⟨p, rfl⟩ := hw'; exact p.h
              clear hw'
              have S2 := Lib.hid (S1.out.same hq)
              clear l2a l2b hc2 hq
              go_wp2
              go_roundg ((i + j) / 2 - i)
              case measure => omega
              case rel => exact ⟨i, (i + j) / 2, rfl, by rw [show ((i : Int) + (j : Int)) / 2 = (((i + j) / 2 : Nat) : Int) by omega], by omega, by omega, by omega, by omega, S2, Lib.hid ⟨HI.out.1, .inr hL⟩⟩
            | false =>
              have ea2 : (((m : Int))).toNat = m := by omega
              have pa2 : (0 : Int) ≤ (m : Int) := by omega
              have ba2 : (m : Int) < (n : Int) := by omega
              have ra2 : IntKind.i64.wrap ((m : Int)) = (m : Int) := by rw [IntKind.wrap_i64]; omega
              have ec2 : ((((i : Int) + (j : Int)) / 2)).toNat = (i + j) / 2 := by omega
              have pc2 : (0 : Int) ≤ ((i : Int) + (j : Int)) / 2 := by omega
              have bc2 : ((i : Int) + (j : Int)) / 2 < (n : Int) := by omega
              have rc2 : IntKind.i64.wrap (((i : Int) + (j : Int)) / 2) = ((i : Int) + (j : Int)) / 2 := by rw [IntKind.wrap_i64]; omega
              obtain ⟨x2, hx2⟩ : ∃ x, x = d[m]! := ⟨_, rfl⟩
              obtain ⟨y2, hy2⟩ : ∃ x, x = d[(i + j) / 2]! := ⟨_, rfl⟩
              have l2a := fun p : UpdBy wr => S1.out.ld (i := m) (by omega) p
              have l2b := fun p : UpdBy wr => S1.out.ld (i := (i + j) / 2) (by omega) p
              rw [← hx2] at l2a
              rw [← hy2] at l2b
              have hc2 := fun p : UpdBy wr => S1.out.cmp HM.out x2 y2 p
              obtain ⟨v2, hv2⟩ : ∃ z, z = cmpSg x2.1.1 y2.1.1 := ⟨_, rfl⟩
              have hd2 : decide (v2 < 0) = false := by rw [hv2, cmpSg_lt, hx2, hy2]; exact hL
              have hi2 : ¬ v2 < 0 := of_decide_eq_false hd2
              rw [← hv2] at hc2
              obtain ⟨ex2, hex2⟩ : ∃ l, l = (encW x2).toArray := ⟨_, rfl⟩
              obtain ⟨ey2, hey2⟩ : ∃ l, l = (encW y2).toArray := ⟨_, rfl⟩
              rw [← hex2] at l2a hc2
              rw [← hey2] at l2b hc2
              clear hx2 hy2 hv2 hex2 hey2
              rw [← HK.out] at l2a l2b
              go_wp2_with fail
              refine wp_region_quiet_upd (by kernel_rfl) (by kernel_rfl) ?_
              repeat (quiet_step (exact hc2 _))
              refine wpQuiet_nil ?_
              intro w3 hw'
              have hq : Upd NoF wr w3 := by obtain ⟨p, rfl⟩ := hw'; exact p.h
              clear hw'
              have S2 := Lib.hid (S1.out.same hq)
              clear l2a l2b hc2 hq
              go_wp2
              go_roundg (j - ((i + j) / 2 + 1))
              case measure => omega
              case rel => exact ⟨(i + j) / 2 + 1, j, by rw [show ((i : Int) + (j : Int)) / 2 + 1 = (((i + j) / 2 + 1 : Nat) : Int) by omega], rfl, by omega, by omega, by omega, by omega, S2, Lib.hid ⟨.inr (by rw [Nat.add_sub_cancel]; exact hL), HI.out.2⟩⟩
          · have hltz : ¬ (i : Int) < (j : Int) := by omega
            have hji : j = i := by omega
            subst hji
            go_wp2
            go_loopg [17] (m - j) (fun kx s1 wr => ∃ (k : Nat) (dk : Array (VE M w0)), s1 = .int .i64 k ∧ j ≤ k ∧ k ≤ m ∧ k - j ≤ kx ∧ Hid (VS w0 g S dk wr) ∧ Hid (PermIn a b d dk ∧ ∀ t, dk[t]! = downAt d m k t))
            case atStart => exact ⟨m, d, rfl, by omega, by omega, by omega, S1, Lib.hid ⟨permIn_refl d a b, fun t => down_start d m t⟩⟩
            case round =>
              clear S1
              obtain ⟨k, dk, rfl, hak, hkj, hkx2, S3, HU⟩ := hrel
              have hsk : dk.size = n := by rw [HU.out.1.1]; exact hn
              by_cases hk : j < k
              · obtain ⟨kp, rfl⟩ : ∃ kp, k = kp + 1 := ⟨k - 1, by omega⟩
                have hkz : (j : Int) < (kp : Int) + 1 := by omega
                go_wp2_with fail
                have ea5 : (((kp : Int) + 1)).toNat = kp + 1 := by omega
                have pa5 : (0 : Int) ≤ (kp : Int) + 1 := by omega
                have ba5 : (kp : Int) + 1 < (n : Int) := by omega
                have ra5 : IntKind.i64.wrap ((kp : Int) + 1) = (kp : Int) + 1 := by rw [IntKind.wrap_i64]; omega
                have ec5 : (((kp : Int))).toNat = kp := by omega
                have pc5 : (0 : Int) ≤ (kp : Int) := by omega
                have bc5 : (kp : Int) < (n : Int) := by omega
                have rc5 : IntKind.i64.wrap ((kp : Int)) = (kp : Int) := by rw [IntKind.wrap_i64]; omega
                have S4 := Lib.hid ((S3.out.same ((Upd.refl NoF wr).drew)).swapped (i := kp + 1) (j := kp) (by omega) (by omega))
                have l5a := (S3.out.same ((Upd.refl NoF wr).drew)).load (i := kp + 1) (by omega)
                have l5b := (S3.out.same ((Upd.refl NoF wr).drew)).load (i := kp) (by omega)
                have s5a := (S3.out.same ((Upd.refl NoF wr).drew)).st1 (i := kp + 1) (by omega) dk[kp]!
                have s5b := (S3.out.same ((Upd.refl NoF wr).drew)).st2 (i := kp + 1) (j := kp) (by omega) (by omega) dk[kp]! dk[kp + 1]!
                have n5a : (encW dk[kp + 1]!).length = 23 := encW_len _
                have n5b : (encW dk[kp]!).length = 23 := encW_len _
                generalize encW dk[kp + 1]! = cI5 at S4 l5a s5b n5a
                generalize encW dk[kp]! = cJ5 at S4 l5b s5a s5b n5b
                rw [← HK.out] at l5a l5b s5a s5b n5a n5b S4
                go_wp2_with fail
                go_big_region_o
                clear l5a l5b s5a s5b
                generalize (wr.drew.setCells g (kp + 1 * kk) cJ5).setCells g (kp * kk) cI5 = w4 at S4 ⊢
                go_wp2
                go_roundg (kp - j)
                case measure => omega
                case rel => exact ⟨kp, _, by first | rfl | go_num, by omega, by omega, by omega, S4, Lib.hid ⟨permIn_trans _ _ _ _ _ HU.out.1 (swp_permIn dk a b (kp + 1) kp (by omega) (by omega) (by omega) (by omega) (by omega)), down_step (by omega) (by omega) HU.out.2⟩⟩
              · have hkz : ¬ (j : Int) < (k : Int) := by omega
                go_wp2
                go_end0
                refine ⟨rfl, dk, S3.out, HU.out.1, ?_⟩
                have hkj' : k = j := by omega
                subst hkj'
                have hb1 : b = m + 1 := C2.out
                subst hb1
                exact down_sorted swoW H1.out (by omega) (by omega) HI.out.1 HI.out.2 HU.out.2
      · have c2z : ¬ (b : Int) - (m : Int) = 1 := by omega
        have c2d : ((b : Int) - (m : Int) == 1) = false := by simp; omega
        obtain ⟨mid, hmid⟩ : ∃ x : Nat, x = (a + b) / 2 := ⟨_, rfl⟩
        have HMID := Lib.hid (show ((a : Int) + (b : Int)) / 2 = (mid : Int) by omega)
        have hmid1 : 2 * mid ≤ a + b := by omega
        have hmid2 : a + b ≤ 2 * mid + 1 := by omega
        clear hmid
        by_cases c3 : mid < m
        · have c3z : ((a : Int) + (b : Int)) / 2 < (m : Int) := by rw [HMID.out]; omega
          go_enter Try.func72, Try.ntmps72
          go_wp2
          rw [HMID.out]
          have ih := IH.out
          obtain ⟨lo0, hlo0⟩ : ∃ x, x = mid + m - b := ⟨_, rfl⟩
          rw [show (mid : Int) + (m : Int) - (b : Int) = (lo0 : Int) by omega]
          have hlo1 : lo0 + b ≤ mid + m := by omega
          have hlo2 : mid + m ≤ lo0 + b := by omega
          clear hlo0
          obtain ⟨pp, hpp⟩ : ∃ x : Nat, (mid : Int) + (m : Int) - 1 = (x : Int) := ⟨mid + m - 1, by omega⟩
          rw [hpp]
          have hp1 : pp + 1 ≤ mid + m := by omega
          have hp2 : mid + m ≤ pp + 1 := by omega
          clear hpp
          go_loopg [20, 21] (mid - lo0) (fun kx s1 s2 wr => ∃ (i j : Nat), s1 = .int .i64 i ∧ s2 = .int .i64 j ∧ lo0 ≤ i ∧ i ≤ j ∧ j ≤ mid ∧ j - i ≤ kx ∧ Hid (VS w0 g S d wr) ∧ Hid ((i = lo0 ∨ ltW d[pp + 1 - i]! d[i - 1]! = false) ∧ (j = mid ∨ ltW d[pp - j]! d[j]! = true)))
          case atStart => exact ⟨lo0, mid, by first | rfl | go_num, by first | rfl | go_num, by omega, by omega, by omega, by omega, S0, Lib.hid ⟨.inl rfl, .inl rfl⟩⟩
          case round =>
            clear S0
            obtain ⟨i, j, rfl, rfl, hli, hij, hjh, hkx, S1, HI⟩ := hrel
            by_cases hlt : i < j
            · have hltz : (i : Int) < (j : Int) := by omega
              obtain ⟨c, hcc⟩ : ∃ x : Nat, ((i : Int) + (j : Int)) / 2 = (x : Int) := ⟨(i + j) / 2, by omega⟩
              have HC := Lib.hid hcc
              have hc1 : i ≤ c := by omega
              have hc2 : c < j := by omega
              have hcp : c ≤ pp := by omega
              clear hcc
              go_wp2_with fail
              rw [HC.out]
              cases hL : ltW d[pp - c]! d[c]! with
              | true =>
                have ea4 : (((pp : Int) - (c : Int))).toNat = pp - c := by omega
                have pa4 : (0 : Int) ≤ (pp : Int) - (c : Int) := by omega
                have ba4 : (pp : Int) - (c : Int) < (n : Int) := by omega
                have ra4 : IntKind.i64.wrap ((pp : Int) - (c : Int)) = (pp : Int) - (c : Int) := by rw [IntKind.wrap_i64]; omega
                have ec4 : (((c : Int))).toNat = c := by omega
                have pc4 : (0 : Int) ≤ (c : Int) := by omega
                have bc4 : (c : Int) < (n : Int) := by omega
                have rc4 : IntKind.i64.wrap ((c : Int)) = (c : Int) := by rw [IntKind.wrap_i64]; omega
                obtain ⟨x4, hx4⟩ : ∃ x, x = d[pp - c]! := ⟨_, rfl⟩
                obtain ⟨y4, hy4⟩ : ∃ x, x = d[c]! := ⟨_, rfl⟩
                have l4a := fun p : UpdBy wr => S1.out.ld (i := pp - c) (by omega) p
                have l4b := fun p : UpdBy wr => S1.out.ld (i := c) (by omega) p
                rw [← hx4] at l4a
                rw [← hy4] at l4b
                have hc4 := fun p : UpdBy wr => S1.out.cmp HM.out x4 y4 p
                obtain ⟨v4, hv4⟩ : ∃ z, z = cmpSg x4.1.1 y4.1.1 := ⟨_, rfl⟩
                have hd4 : decide (v4 < 0) = true := by rw [hv4, cmpSg_lt, hx4, hy4]; exact hL
                have hi4 : v4 < 0 := of_decide_eq_true hd4
                rw [← hv4] at hc4
                obtain ⟨ex4, hex4⟩ : ∃ l, l = (encW x4).toArray := ⟨_, rfl⟩
                obtain ⟨ey4, hey4⟩ : ∃ l, l = (encW y4).toArray := ⟨_, rfl⟩
                rw [← hex4] at l4a hc4
                rw [← hey4] at l4b hc4
                clear hx4 hy4 hv4 hex4 hey4
                rw [← HK.out] at l4a l4b
                go_wp2_with fail
                refine wp_region_quiet_upd (by kernel_rfl) (by kernel_rfl) ?_
                repeat (quiet_step (exact hc4 _))
                refine wpQuiet_nil ?_
                intro w3 hw'
                have hq : Upd NoF wr w3 := by obtain ⟨p, rfl⟩ := hw'; exact p.h
                clear hw'
                have S2 := Lib.hid (S1.out.same hq)
                clear l4a l4b hc4 hq
                go_wp2
                go_roundg (c - i)
                case measure => omega
                case rel => exact ⟨i, c, rfl, rfl, by omega, by omega, by omega, by omega, S2, Lib.hid ⟨HI.out.1, .inr hL⟩⟩
              | false =>
                have ea4 : (((pp : Int) - (c : Int))).toNat = pp - c := by omega
                have pa4 : (0 : Int) ≤ (pp : Int) - (c : Int) := by omega
                have ba4 : (pp : Int) - (c : Int) < (n : Int) := by omega
                have ra4 : IntKind.i64.wrap ((pp : Int) - (c : Int)) = (pp : Int) - (c : Int) := by rw [IntKind.wrap_i64]; omega
                have ec4 : (((c : Int))).toNat = c := by omega
                have pc4 : (0 : Int) ≤ (c : Int) := by omega
                have bc4 : (c : Int) < (n : Int) := by omega
                have rc4 : IntKind.i64.wrap ((c : Int)) = (c : Int) := by rw [IntKind.wrap_i64]; omega
                obtain ⟨x4, hx4⟩ : ∃ x, x = d[pp - c]! := ⟨_, rfl⟩
                obtain ⟨y4, hy4⟩ : ∃ x, x = d[c]! := ⟨_, rfl⟩
                have l4a := fun p : UpdBy wr => S1.out.ld (i := pp - c) (by omega) p
                have l4b := fun p : UpdBy wr => S1.out.ld (i := c) (by omega) p
                rw [← hx4] at l4a
                rw [← hy4] at l4b
                have hc4 := fun p : UpdBy wr => S1.out.cmp HM.out x4 y4 p
                obtain ⟨v4, hv4⟩ : ∃ z, z = cmpSg x4.1.1 y4.1.1 := ⟨_, rfl⟩
                have hd4 : decide (v4 < 0) = false := by rw [hv4, cmpSg_lt, hx4, hy4]; exact hL
                have hi4 : ¬ v4 < 0 := of_decide_eq_false hd4
                rw [← hv4] at hc4
                obtain ⟨ex4, hex4⟩ : ∃ l, l = (encW x4).toArray := ⟨_, rfl⟩
                obtain ⟨ey4, hey4⟩ : ∃ l, l = (encW y4).toArray := ⟨_, rfl⟩
                rw [← hex4] at l4a hc4
                rw [← hey4] at l4b hc4
                clear hx4 hy4 hv4 hex4 hey4
                rw [← HK.out] at l4a l4b
                go_wp2_with fail
                refine wp_region_quiet_upd (by kernel_rfl) (by kernel_rfl) ?_
                repeat (quiet_step (exact hc4 _))
                refine wpQuiet_nil ?_
                intro w3 hw'
                have hq : Upd NoF wr w3 := by obtain ⟨p, rfl⟩ := hw'; exact p.h
                clear hw'
                have S2 := Lib.hid (S1.out.same hq)
                clear l4a l4b hc4 hq
                go_wp2
                go_roundg (j - (c + 1))
                case measure => omega
                case rel => exact ⟨c + 1, j, by first | rfl | go_num, rfl, by omega, by omega, by omega, by omega, S2, Lib.hid ⟨.inr (by rw [show pp + 1 - (c + 1) = pp - c by omega, Nat.add_sub_cancel]; exact hL), HI.out.2⟩⟩
            · have hltz : ¬ (i : Int) < (j : Int) := by omega
              have hji : j = i := by omega
              subst hji
              obtain ⟨st, hst⟩ : ∃ x, x = j := ⟨_, rfl⟩
              rw [← hst] at HI hli hjh ⊢
              clear hst
              obtain ⟨en, hen⟩ : ∃ x : Nat, (mid : Int) + (m : Int) - (st : Int) = (x : Int) := ⟨mid + m - st, by omega⟩
              have HEN := Lib.hid hen
              have hen1 : st + en ≤ mid + m := by omega
              have hen2 : mid + m ≤ st + en := by omega
              clear hen
              by_cases hr : st < m ∧ m < en
              · first
                  | (exfalso; omega)
                  | (skip
                     have x1 : (st : Int) < (m : Int) := by omega
                     have x2 : (m : Int) < (en : Int) := by omega
                     have CS := Lib.hid (rotS_any (cap := cap) S1.out hM hn hr.1 hr.2 (by omega) (by omega))
                     go_wp2_with fail
                     try rw [HEN.out]
                     refine CS.out.mono ?_
                     rintro e w7 ⟨rfl, d1, h1, hp1, hr1⟩
                     clear CS
                     clear S1
                     have S1 := Lib.hid h1
                     have HP0 := Lib.hid (show PermIn a b d d1 from permIn_mono d d1 st en a b (by omega) (by omega) (by omega) hp1)
                     have HH := Lib.hid (halves swoW (mid := mid) (st := st) (en := en) H1.out H2.out (by omega) (by omega) (by omega) (by omega) (by omega) (by
                       have q := HI.out.1
                       rcases q with q | q
                       · omega
                       · rw [show pp + 1 - st = en by omega] at q
                         exact .inr (.inr q)) (by
                       have q := HI.out.2
                       rcases q with q | q
                       · omega
                       · rw [show pp - st = en - 1 by omega] at q
                         exact .inr (.inr (swoW.asymmA q))) hr1)
                     clear h1 hp1 hr1
                     by_cases hc1 : a < st ∧ st < mid
                     · first
                         | (exfalso; omega)
                         | (skip
                            have y1 : (a : Int) < (st : Int) := by omega
                            have y2 : (st : Int) < (mid : Int) := by omega
                            have CS := Lib.hid (ih a st mid (by omega) S1.out (by rw [HP0.out.1]; exact hn) hc1.1 hc1.2 (by omega) HH.out.s1 HH.out.s2)
                            go_wp2_with fail
                            try rw [HEN.out]
                            refine CS.out.mono ?_
                            rintro e w8 ⟨rfl, d2, h2, hp2, hs2⟩
                            clear CS
                            have S2 := Lib.hid h2
                            have HP1 := Lib.hid (show PermIn a mid d1 d2 ∧ SortedIn ltW a mid d2 from ⟨hp2, hs2⟩)
                            clear h2 hp2 hs2 S1
                            by_cases hc2 : mid < en ∧ en < b
                            · first
                                | (exfalso; omega)
                                | (skip
                                   have z1 : (mid : Int) < (en : Int) := by omega
                                   have z2 : (en : Int) < (b : Int) := by omega
                                   have z1' : (mid : Int) < (mid : Int) + (m : Int) - (st : Int) := by omega
                                   have z2' : (mid : Int) + (m : Int) - (st : Int) < (b : Int) := by omega
                                   have z3' : decide ((mid : Int) < (mid : Int) + (m : Int) - (st : Int)) = true := by simp; omega
                                   have z4' : decide ((mid : Int) + (m : Int) - (st : Int) < (b : Int)) = true := by simp; omega
                                   have CS := Lib.hid (ih mid en b (by omega) S2.out (by rw [HP1.out.1.1, HP0.out.1]; exact hn) hc2.1 hc2.2 hb (sorted_perm_out HH.out.s3 HP1.out.1 (.inr (Nat.le_refl _))) (sorted_perm_out HH.out.s4 HP1.out.1 (.inr (by omega))))
                                   go_wp2_with fail
                                   try rw [HEN.out]
                                   refine CS.out.mono ?_
                                   rintro e w9 ⟨rfl, d3, h3, hp3, hs3⟩
                                   clear CS
                                   have S3 := Lib.hid h3
                                   clear h3
                                   go_wp2
                                   go_end0
                                   have HF := Halves.done swoW HH.out (by rw [HP0.out.1]; omega) (by omega) (by omega) HP1.out.1 HP1.out.2 hp3 hs3
                                   exact ⟨rfl, d3, S3.out, permIn_trans _ _ _ _ _ HP0.out HF.1, HF.2⟩)
                            · by_cases z1 : mid < en
                              · first
                                  | (exfalso; omega)
                                  | (skip
                                     have HN2 := Lib.hid (show SortedIn ltW mid b d2 from by
                                       rcases (show en = mid ∨ en = b by omega) with e | e
                                       · have := sorted_perm_out HH.out.s4 HP1.out.1 (.inr (by omega))
                                         rw [e] at this
                                         exact this
                                       · have := sorted_perm_out HH.out.s3 HP1.out.1 (.inr (Nat.le_refl _))
                                         rw [e] at this
                                         exact this)
                                     have z1z : (mid : Int) < (en : Int) := by omega
                                     have z2z : ¬ (en : Int) < (b : Int) := by omega
                                     go_wp2
                                     go_end0
                                     have HF := Halves.done swoW HH.out (by rw [HP0.out.1]; omega) (by omega) (by omega) HP1.out.1 HP1.out.2 (permIn_refl _ _ _) HN2.out
                                     exact ⟨rfl, d2, S2.out, permIn_trans _ _ _ _ _ HP0.out HF.1, HF.2⟩)
                              · first
                                  | (exfalso; omega)
                                  | (skip
                                     have HN2 := Lib.hid (show SortedIn ltW mid b d2 from by
                                       rcases (show en = mid ∨ en = b by omega) with e | e
                                       · have := sorted_perm_out HH.out.s4 HP1.out.1 (.inr (by omega))
                                         rw [e] at this
                                         exact this
                                       · have := sorted_perm_out HH.out.s3 HP1.out.1 (.inr (Nat.le_refl _))
                                         rw [e] at this
                                         exact this)
                                     have z1z : ¬ (mid : Int) < (en : Int) := by omega
                                     go_wp2
                                     go_end0
                                     have HF := Halves.done swoW HH.out (by rw [HP0.out.1]; omega) (by omega) (by omega) HP1.out.1 HP1.out.2 (permIn_refl _ _ _) HN2.out
                                     exact ⟨rfl, d2, S2.out, permIn_trans _ _ _ _ _ HP0.out HF.1, HF.2⟩))
                     · by_cases y1 : a < st
                       · first
                           | (exfalso; omega)
                           | (skip
                              have y1z : (a : Int) < (st : Int) := by omega
                              have y2z : ¬ (st : Int) < (mid : Int) := by omega
                              have HP1 := Lib.hid (show PermIn a mid d1 d1 ∧ SortedIn ltW a mid d1 from ⟨permIn_refl _ _ _, by
                                rcases (show st = a ∨ st = mid by omega) with e | e
                                · have := HH.out.s2
                                  rw [e] at this
                                  exact this
                                · have := HH.out.s1
                                  rw [e] at this
                                  exact this⟩)
                              obtain ⟨d2, hd2⟩ : ∃ x, x = d1 := ⟨_, rfl⟩
                              have HP1 := Lib.hid (show PermIn a mid d1 d2 ∧ SortedIn ltW a mid d2 from by rw [hd2]; exact HP1.out)
                              have S2 := Lib.hid (show VS w0 g S d2 _ from by rw [hd2]; exact S1.out)
                              clear S1 hd2
                              by_cases hc2 : mid < en ∧ en < b
                              · first
                                  | (exfalso; omega)
                                  | (skip
                                     have z1 : (mid : Int) < (en : Int) := by omega
                                     have z2 : (en : Int) < (b : Int) := by omega
                                     have z1' : (mid : Int) < (mid : Int) + (m : Int) - (st : Int) := by omega
                                     have z2' : (mid : Int) + (m : Int) - (st : Int) < (b : Int) := by omega
                                     have z3' : decide ((mid : Int) < (mid : Int) + (m : Int) - (st : Int)) = true := by simp; omega
                                     have z4' : decide ((mid : Int) + (m : Int) - (st : Int) < (b : Int)) = true := by simp; omega
                                     have CS := Lib.hid (ih mid en b (by omega) S2.out (by rw [HP1.out.1.1, HP0.out.1]; exact hn) hc2.1 hc2.2 hb (sorted_perm_out HH.out.s3 HP1.out.1 (.inr (Nat.le_refl _))) (sorted_perm_out HH.out.s4 HP1.out.1 (.inr (by omega))))
                                     go_wp2_with fail
                                     try rw [HEN.out]
                                     refine CS.out.mono ?_
                                     rintro e w9 ⟨rfl, d3, h3, hp3, hs3⟩
                                     clear CS
                                     have S3 := Lib.hid h3
                                     clear h3
                                     go_wp2
                                     go_end0
                                     have HF := Halves.done swoW HH.out (by rw [HP0.out.1]; omega) (by omega) (by omega) HP1.out.1 HP1.out.2 hp3 hs3
                                     exact ⟨rfl, d3, S3.out, permIn_trans _ _ _ _ _ HP0.out HF.1, HF.2⟩)
                              · by_cases z1 : mid < en
                                · first
                                    | (exfalso; omega)
                                    | (skip
                                       have HN2 := Lib.hid (show SortedIn ltW mid b d2 from by
                                         rcases (show en = mid ∨ en = b by omega) with e | e
                                         · have := sorted_perm_out HH.out.s4 HP1.out.1 (.inr (by omega))
                                           rw [e] at this
                                           exact this
                                         · have := sorted_perm_out HH.out.s3 HP1.out.1 (.inr (Nat.le_refl _))
                                           rw [e] at this
                                           exact this)
                                       have z1z : (mid : Int) < (en : Int) := by omega
                                       have z2z : ¬ (en : Int) < (b : Int) := by omega
                                       go_wp2
                                       go_end0
                                       have HF := Halves.done swoW HH.out (by rw [HP0.out.1]; omega) (by omega) (by omega) HP1.out.1 HP1.out.2 (permIn_refl _ _ _) HN2.out
                                       exact ⟨rfl, d2, S2.out, permIn_trans _ _ _ _ _ HP0.out HF.1, HF.2⟩)
                                · first
                                    | (exfalso; omega)
                                    | (skip
                                       have HN2 := Lib.hid (show SortedIn ltW mid b d2 from by
                                         rcases (show en = mid ∨ en = b by omega) with e | e
                                         · have := sorted_perm_out HH.out.s4 HP1.out.1 (.inr (by omega))
                                           rw [e] at this
                                           exact this
                                         · have := sorted_perm_out HH.out.s3 HP1.out.1 (.inr (Nat.le_refl _))
                                           rw [e] at this
                                           exact this)
                                       have z1z : ¬ (mid : Int) < (en : Int) := by omega
                                       go_wp2
                                       go_end0
                                       have HF := Halves.done swoW HH.out (by rw [HP0.out.1]; omega) (by omega) (by omega) HP1.out.1 HP1.out.2 (permIn_refl _ _ _) HN2.out
                                       exact ⟨rfl, d2, S2.out, permIn_trans _ _ _ _ _ HP0.out HF.1, HF.2⟩))
                       · first
                           | (exfalso; omega)
                           | (skip
                              have y1z : ¬ (a : Int) < (st : Int) := by omega
                              have HP1 := Lib.hid (show PermIn a mid d1 d1 ∧ SortedIn ltW a mid d1 from ⟨permIn_refl _ _ _, by
                                rcases (show st = a ∨ st = mid by omega) with e | e
                                · have := HH.out.s2
                                  rw [e] at this
                                  exact this
                                · have := HH.out.s1
                                  rw [e] at this
                                  exact this⟩)
                              obtain ⟨d2, hd2⟩ : ∃ x, x = d1 := ⟨_, rfl⟩
                              have HP1 := Lib.hid (show PermIn a mid d1 d2 ∧ SortedIn ltW a mid d2 from by rw [hd2]; exact HP1.out)
                              have S2 := Lib.hid (show VS w0 g S d2 _ from by rw [hd2]; exact S1.out)
                              clear S1 hd2
                              by_cases hc2 : mid < en ∧ en < b
                              · first
                                  | (exfalso; omega)
                                  | (skip
                                     have z1 : (mid : Int) < (en : Int) := by omega
                                     have z2 : (en : Int) < (b : Int) := by omega
                                     have z1' : (mid : Int) < (mid : Int) + (m : Int) - (st : Int) := by omega
                                     have z2' : (mid : Int) + (m : Int) - (st : Int) < (b : Int) := by omega
                                     have z3' : decide ((mid : Int) < (mid : Int) + (m : Int) - (st : Int)) = true := by simp; omega
                                     have z4' : decide ((mid : Int) + (m : Int) - (st : Int) < (b : Int)) = true := by simp; omega
                                     have CS := Lib.hid (ih mid en b (by omega) S2.out (by rw [HP1.out.1.1, HP0.out.1]; exact hn) hc2.1 hc2.2 hb (sorted_perm_out HH.out.s3 HP1.out.1 (.inr (Nat.le_refl _))) (sorted_perm_out HH.out.s4 HP1.out.1 (.inr (by omega))))
                                     go_wp2_with fail
                                     try rw [HEN.out]
                                     refine CS.out.mono ?_
                                     rintro e w9 ⟨rfl, d3, h3, hp3, hs3⟩
                                     clear CS
                                     have S3 := Lib.hid h3
                                     clear h3
                                     go_wp2
                                     go_end0
                                     have HF := Halves.done swoW HH.out (by rw [HP0.out.1]; omega) (by omega) (by omega) HP1.out.1 HP1.out.2 hp3 hs3
                                     exact ⟨rfl, d3, S3.out, permIn_trans _ _ _ _ _ HP0.out HF.1, HF.2⟩)
                              · by_cases z1 : mid < en
                                · first
                                    | (exfalso; omega)
                                    | (skip
                                       have HN2 := Lib.hid (show SortedIn ltW mid b d2 from by
                                         rcases (show en = mid ∨ en = b by omega) with e | e
                                         · have := sorted_perm_out HH.out.s4 HP1.out.1 (.inr (by omega))
                                           rw [e] at this
                                           exact this
                                         · have := sorted_perm_out HH.out.s3 HP1.out.1 (.inr (Nat.le_refl _))
                                           rw [e] at this
                                           exact this)
                                       have z1z : (mid : Int) < (en : Int) := by omega
                                       have z2z : ¬ (en : Int) < (b : Int) := by omega
                                       go_wp2
                                       go_end0
                                       have HF := Halves.done swoW HH.out (by rw [HP0.out.1]; omega) (by omega) (by omega) HP1.out.1 HP1.out.2 (permIn_refl _ _ _) HN2.out
                                       exact ⟨rfl, d2, S2.out, permIn_trans _ _ _ _ _ HP0.out HF.1, HF.2⟩)
                                · first
                                    | (exfalso; omega)
                                    | (skip
                                       have HN2 := Lib.hid (show SortedIn ltW mid b d2 from by
                                         rcases (show en = mid ∨ en = b by omega) with e | e
                                         · have := sorted_perm_out HH.out.s4 HP1.out.1 (.inr (by omega))
                                           rw [e] at this
                                           exact this
                                         · have := sorted_perm_out HH.out.s3 HP1.out.1 (.inr (Nat.le_refl _))
                                           rw [e] at this
                                           exact this)
                                       have z1z : ¬ (mid : Int) < (en : Int) := by omega
                                       go_wp2
                                       go_end0
                                       have HF := Halves.done swoW HH.out (by rw [HP0.out.1]; omega) (by omega) (by omega) HP1.out.1 HP1.out.2 (permIn_refl _ _ _) HN2.out
                                       exact ⟨rfl, d2, S2.out, permIn_trans _ _ _ _ _ HP0.out HF.1, HF.2⟩)))
              · by_cases x1 : st < m
                · first
                    | (exfalso; omega)
                    | (skip
                       have x1z : (st : Int) < (m : Int) := by omega
                       have x2z : ¬ (m : Int) < (en : Int) := by omega
                       have HP0 := Lib.hid (permIn_refl d a b)
                       have HH := Lib.hid (halves swoW (mid := mid) (st := st) (en := en) H1.out H2.out (by omega) (by omega) (by omega) (by omega) (by omega) (by
                         have q := HI.out.1
                         rcases q with q | q
                         · omega
                         · rw [show pp + 1 - st = en by omega] at q
                           exact .inr (.inr q)) (by
                         have q := HI.out.2
                         rcases q with q | q
                         · omega
                         · rw [show pp - st = en - 1 by omega] at q
                           exact .inr (.inr (swoW.asymmA q))) (fun t => (rot_none (d := d) (lo := st) (m := m) (hi := en) (by omega) (by omega) (by omega) t).symm))
                       obtain ⟨d1, hd1⟩ : ∃ x, x = d := ⟨_, rfl⟩
                       rw [← hd1] at HH
                       have HP0 := Lib.hid (show PermIn a b d d1 from by rw [hd1]; exact HP0.out)
                       have S1 := Lib.hid (show VS w0 g S d1 _ from by rw [hd1]; exact S1.out)
                       clear hd1
                       by_cases hc1 : a < st ∧ st < mid
                       · first
                           | (exfalso; omega)
                           | (skip
                              have y1 : (a : Int) < (st : Int) := by omega
                              have y2 : (st : Int) < (mid : Int) := by omega
                              have CS := Lib.hid (ih a st mid (by omega) S1.out (by rw [HP0.out.1]; exact hn) hc1.1 hc1.2 (by omega) HH.out.s1 HH.out.s2)
                              go_wp2_with fail
                              try rw [HEN.out]
                              refine CS.out.mono ?_
                              rintro e w8 ⟨rfl, d2, h2, hp2, hs2⟩
                              clear CS
                              have S2 := Lib.hid h2
                              have HP1 := Lib.hid (show PermIn a mid d1 d2 ∧ SortedIn ltW a mid d2 from ⟨hp2, hs2⟩)
                              clear h2 hp2 hs2 S1
                              by_cases hc2 : mid < en ∧ en < b
                              · first
                                  | (exfalso; omega)
                                  | (skip
                                     have z1 : (mid : Int) < (en : Int) := by omega
                                     have z2 : (en : Int) < (b : Int) := by omega
                                     have z1' : (mid : Int) < (mid : Int) + (m : Int) - (st : Int) := by omega
                                     have z2' : (mid : Int) + (m : Int) - (st : Int) < (b : Int) := by omega
                                     have z3' : decide ((mid : Int) < (mid : Int) + (m : Int) - (st : Int)) = true := by simp; omega
                                     have z4' : decide ((mid : Int) + (m : Int) - (st : Int) < (b : Int)) = true := by simp; omega
                                     have CS := Lib.hid (ih mid en b (by omega) S2.out (by rw [HP1.out.1.1, HP0.out.1]; exact hn) hc2.1 hc2.2 hb (sorted_perm_out HH.out.s3 HP1.out.1 (.inr (Nat.le_refl _))) (sorted_perm_out HH.out.s4 HP1.out.1 (.inr (by omega))))
                                     go_wp2_with fail
                                     try rw [HEN.out]
                                     refine CS.out.mono ?_
                                     rintro e w9 ⟨rfl, d3, h3, hp3, hs3⟩
                                     clear CS
                                     have S3 := Lib.hid h3
                                     clear h3
                                     go_wp2
                                     go_end0
                                     have HF := Halves.done swoW HH.out (by rw [HP0.out.1]; omega) (by omega) (by omega) HP1.out.1 HP1.out.2 hp3 hs3
                                     exact ⟨rfl, d3, S3.out, permIn_trans _ _ _ _ _ HP0.out HF.1, HF.2⟩)
                              · by_cases z1 : mid < en
                                · first
                                    | (exfalso; omega)
                                    | (skip
                                       have HN2 := Lib.hid (show SortedIn ltW mid b d2 from by
                                         rcases (show en = mid ∨ en = b by omega) with e | e
                                         · have := sorted_perm_out HH.out.s4 HP1.out.1 (.inr (by omega))
                                           rw [e] at this
                                           exact this
                                         · have := sorted_perm_out HH.out.s3 HP1.out.1 (.inr (Nat.le_refl _))
                                           rw [e] at this
                                           exact this)
                                       have z1z : (mid : Int) < (en : Int) := by omega
                                       have z2z : ¬ (en : Int) < (b : Int) := by omega
                                       go_wp2
                                       go_end0
                                       have HF := Halves.done swoW HH.out (by rw [HP0.out.1]; omega) (by omega) (by omega) HP1.out.1 HP1.out.2 (permIn_refl _ _ _) HN2.out
                                       exact ⟨rfl, d2, S2.out, permIn_trans _ _ _ _ _ HP0.out HF.1, HF.2⟩)
                                · first
                                    | (exfalso; omega)
                                    | (skip
                                       have HN2 := Lib.hid (show SortedIn ltW mid b d2 from by
                                         rcases (show en = mid ∨ en = b by omega) with e | e
                                         · have := sorted_perm_out HH.out.s4 HP1.out.1 (.inr (by omega))
                                           rw [e] at this
                                           exact this
                                         · have := sorted_perm_out HH.out.s3 HP1.out.1 (.inr (Nat.le_refl _))
                                           rw [e] at this
                                           exact this)
                                       have z1z : ¬ (mid : Int) < (en : Int) := by omega
                                       go_wp2
                                       go_end0
                                       have HF := Halves.done swoW HH.out (by rw [HP0.out.1]; omega) (by omega) (by omega) HP1.out.1 HP1.out.2 (permIn_refl _ _ _) HN2.out
                                       exact ⟨rfl, d2, S2.out, permIn_trans _ _ _ _ _ HP0.out HF.1, HF.2⟩))
                       · by_cases y1 : a < st
                         · first
                             | (exfalso; omega)
                             | (skip
                                have y1z : (a : Int) < (st : Int) := by omega
                                have y2z : ¬ (st : Int) < (mid : Int) := by omega
                                have HP1 := Lib.hid (show PermIn a mid d1 d1 ∧ SortedIn ltW a mid d1 from ⟨permIn_refl _ _ _, by
                                  rcases (show st = a ∨ st = mid by omega) with e | e
                                  · have := HH.out.s2
                                    rw [e] at this
                                    exact this
                                  · have := HH.out.s1
                                    rw [e] at this
                                    exact this⟩)
                                obtain ⟨d2, hd2⟩ : ∃ x, x = d1 := ⟨_, rfl⟩
                                have HP1 := Lib.hid (show PermIn a mid d1 d2 ∧ SortedIn ltW a mid d2 from by rw [hd2]; exact HP1.out)
                                have S2 := Lib.hid (show VS w0 g S d2 _ from by rw [hd2]; exact S1.out)
                                clear S1 hd2
                                by_cases hc2 : mid < en ∧ en < b
                                · first
                                    | (exfalso; omega)
                                    | (skip
                                       have z1 : (mid : Int) < (en : Int) := by omega
                                       have z2 : (en : Int) < (b : Int) := by omega
                                       have z1' : (mid : Int) < (mid : Int) + (m : Int) - (st : Int) := by omega
                                       have z2' : (mid : Int) + (m : Int) - (st : Int) < (b : Int) := by omega
                                       have z3' : decide ((mid : Int) < (mid : Int) + (m : Int) - (st : Int)) = true := by simp; omega
                                       have z4' : decide ((mid : Int) + (m : Int) - (st : Int) < (b : Int)) = true := by simp; omega
                                       have CS := Lib.hid (ih mid en b (by omega) S2.out (by rw [HP1.out.1.1, HP0.out.1]; exact hn) hc2.1 hc2.2 hb (sorted_perm_out HH.out.s3 HP1.out.1 (.inr (Nat.le_refl _))) (sorted_perm_out HH.out.s4 HP1.out.1 (.inr (by omega))))
                                       go_wp2_with fail
                                       try rw [HEN.out]
                                       refine CS.out.mono ?_
                                       rintro e w9 ⟨rfl, d3, h3, hp3, hs3⟩
                                       clear CS
                                       have S3 := Lib.hid h3
                                       clear h3
                                       go_wp2
                                       go_end0
                                       have HF := Halves.done swoW HH.out (by rw [HP0.out.1]; omega) (by omega) (by omega) HP1.out.1 HP1.out.2 hp3 hs3
                                       exact ⟨rfl, d3, S3.out, permIn_trans _ _ _ _ _ HP0.out HF.1, HF.2⟩)
                                · by_cases z1 : mid < en
                                  · first
                                      | (exfalso; omega)
                                      | (skip
                                         have HN2 := Lib.hid (show SortedIn ltW mid b d2 from by
                                           rcases (show en = mid ∨ en = b by omega) with e | e
                                           · have := sorted_perm_out HH.out.s4 HP1.out.1 (.inr (by omega))
                                             rw [e] at this
                                             exact this
                                           · have := sorted_perm_out HH.out.s3 HP1.out.1 (.inr (Nat.le_refl _))
                                             rw [e] at this
                                             exact this)
                                         have z1z : (mid : Int) < (en : Int) := by omega
                                         have z2z : ¬ (en : Int) < (b : Int) := by omega
                                         go_wp2
                                         go_end0
                                         have HF := Halves.done swoW HH.out (by rw [HP0.out.1]; omega) (by omega) (by omega) HP1.out.1 HP1.out.2 (permIn_refl _ _ _) HN2.out
                                         exact ⟨rfl, d2, S2.out, permIn_trans _ _ _ _ _ HP0.out HF.1, HF.2⟩)
                                  · first
                                      | (exfalso; omega)
                                      | (skip
                                         have HN2 := Lib.hid (show SortedIn ltW mid b d2 from by
                                           rcases (show en = mid ∨ en = b by omega) with e | e
                                           · have := sorted_perm_out HH.out.s4 HP1.out.1 (.inr (by omega))
                                             rw [e] at this
                                             exact this
                                           · have := sorted_perm_out HH.out.s3 HP1.out.1 (.inr (Nat.le_refl _))
                                             rw [e] at this
                                             exact this)
                                         have z1z : ¬ (mid : Int) < (en : Int) := by omega
                                         go_wp2
                                         go_end0
                                         have HF := Halves.done swoW HH.out (by rw [HP0.out.1]; omega) (by omega) (by omega) HP1.out.1 HP1.out.2 (permIn_refl _ _ _) HN2.out
                                         exact ⟨rfl, d2, S2.out, permIn_trans _ _ _ _ _ HP0.out HF.1, HF.2⟩))
                         · first
                             | (exfalso; omega)
                             | (skip
                                have y1z : ¬ (a : Int) < (st : Int) := by omega
                                have HP1 := Lib.hid (show PermIn a mid d1 d1 ∧ SortedIn ltW a mid d1 from ⟨permIn_refl _ _ _, by
                                  rcases (show st = a ∨ st = mid by omega) with e | e
                                  · have := HH.out.s2
                                    rw [e] at this
                                    exact this
                                  · have := HH.out.s1
                                    rw [e] at this
                                    exact this⟩)
                                obtain ⟨d2, hd2⟩ : ∃ x, x = d1 := ⟨_, rfl⟩
                                have HP1 := Lib.hid (show PermIn a mid d1 d2 ∧ SortedIn ltW a mid d2 from by rw [hd2]; exact HP1.out)
                                have S2 := Lib.hid (show VS w0 g S d2 _ from by rw [hd2]; exact S1.out)
                                clear S1 hd2
                                by_cases hc2 : mid < en ∧ en < b
                                · first
                                    | (exfalso; omega)
                                    | (skip
                                       have z1 : (mid : Int) < (en : Int) := by omega
                                       have z2 : (en : Int) < (b : Int) := by omega
                                       have z1' : (mid : Int) < (mid : Int) + (m : Int) - (st : Int) := by omega
                                       have z2' : (mid : Int) + (m : Int) - (st : Int) < (b : Int) := by omega
                                       have z3' : decide ((mid : Int) < (mid : Int) + (m : Int) - (st : Int)) = true := by simp; omega
                                       have z4' : decide ((mid : Int) + (m : Int) - (st : Int) < (b : Int)) = true := by simp; omega
                                       have CS := Lib.hid (ih mid en b (by omega) S2.out (by rw [HP1.out.1.1, HP0.out.1]; exact hn) hc2.1 hc2.2 hb (sorted_perm_out HH.out.s3 HP1.out.1 (.inr (Nat.le_refl _))) (sorted_perm_out HH.out.s4 HP1.out.1 (.inr (by omega))))
                                       go_wp2_with fail
                                       try rw [HEN.out]
                                       refine CS.out.mono ?_
                                       rintro e w9 ⟨rfl, d3, h3, hp3, hs3⟩
                                       clear CS
                                       have S3 := Lib.hid h3
                                       clear h3
                                       go_wp2
                                       go_end0
                                       have HF := Halves.done swoW HH.out (by rw [HP0.out.1]; omega) (by omega) (by omega) HP1.out.1 HP1.out.2 hp3 hs3
                                       exact ⟨rfl, d3, S3.out, permIn_trans _ _ _ _ _ HP0.out HF.1, HF.2⟩)
                                · by_cases z1 : mid < en
                                  · first
                                      | (exfalso; omega)
                                      | (skip
                                         have HN2 := Lib.hid (show SortedIn ltW mid b d2 from by
                                           rcases (show en = mid ∨ en = b by omega) with e | e
                                           · have := sorted_perm_out HH.out.s4 HP1.out.1 (.inr (by omega))
                                             rw [e] at this
                                             exact this
                                           · have := sorted_perm_out HH.out.s3 HP1.out.1 (.inr (Nat.le_refl _))
                                             rw [e] at this
                                             exact this)
                                         have z1z : (mid : Int) < (en : Int) := by omega
                                         have z2z : ¬ (en : Int) < (b : Int) := by omega
                                         go_wp2
                                         go_end0
                                         have HF := Halves.done swoW HH.out (by rw [HP0.out.1]; omega) (by omega) (by omega) HP1.out.1 HP1.out.2 (permIn_refl _ _ _) HN2.out
                                         exact ⟨rfl, d2, S2.out, permIn_trans _ _ _ _ _ HP0.out HF.1, HF.2⟩)
                                  · first
                                      | (exfalso; omega)
                                      | (skip
                                         have HN2 := Lib.hid (show SortedIn ltW mid b d2 from by
                                           rcases (show en = mid ∨ en = b by omega) with e | e
                                           · have := sorted_perm_out HH.out.s4 HP1.out.1 (.inr (by omega))
                                             rw [e] at this
                                             exact this
                                           · have := sorted_perm_out HH.out.s3 HP1.out.1 (.inr (Nat.le_refl _))
                                             rw [e] at this
                                             exact this)
                                         have z1z : ¬ (mid : Int) < (en : Int) := by omega
                                         go_wp2
                                         go_end0
                                         have HF := Halves.done swoW HH.out (by rw [HP0.out.1]; omega) (by omega) (by omega) HP1.out.1 HP1.out.2 (permIn_refl _ _ _) HN2.out
                                         exact ⟨rfl, d2, S2.out, permIn_trans _ _ _ _ _ HP0.out HF.1, HF.2⟩)))
                · first
                    | (exfalso; omega)
                    | (skip
                       have x1z : ¬ (st : Int) < (m : Int) := by omega
                       have HP0 := Lib.hid (permIn_refl d a b)
                       have HH := Lib.hid (halves swoW (mid := mid) (st := st) (en := en) H1.out H2.out (by omega) (by omega) (by omega) (by omega) (by omega) (by
                         have q := HI.out.1
                         rcases q with q | q
                         · omega
                         · rw [show pp + 1 - st = en by omega] at q
                           exact .inr (.inr q)) (by
                         have q := HI.out.2
                         rcases q with q | q
                         · omega
                         · rw [show pp - st = en - 1 by omega] at q
                           exact .inr (.inr (swoW.asymmA q))) (fun t => (rot_none (d := d) (lo := st) (m := m) (hi := en) (by omega) (by omega) (by omega) t).symm))
                       obtain ⟨d1, hd1⟩ : ∃ x, x = d := ⟨_, rfl⟩
                       rw [← hd1] at HH
                       have HP0 := Lib.hid (show PermIn a b d d1 from by rw [hd1]; exact HP0.out)
                       have S1 := Lib.hid (show VS w0 g S d1 _ from by rw [hd1]; exact S1.out)
                       clear hd1
                       by_cases hc1 : a < st ∧ st < mid
                       · first
                           | (exfalso; omega)
                           | (skip
                              have y1 : (a : Int) < (st : Int) := by omega
                              have y2 : (st : Int) < (mid : Int) := by omega
                              have CS := Lib.hid (ih a st mid (by omega) S1.out (by rw [HP0.out.1]; exact hn) hc1.1 hc1.2 (by omega) HH.out.s1 HH.out.s2)
                              go_wp2_with fail
                              try rw [HEN.out]
                              refine CS.out.mono ?_
                              rintro e w8 ⟨rfl, d2, h2, hp2, hs2⟩
                              clear CS
                              have S2 := Lib.hid h2
                              have HP1 := Lib.hid (show PermIn a mid d1 d2 ∧ SortedIn ltW a mid d2 from ⟨hp2, hs2⟩)
                              clear h2 hp2 hs2 S1
                              by_cases hc2 : mid < en ∧ en < b
                              · first
                                  | (exfalso; omega)
                                  | (skip
                                     have z1 : (mid : Int) < (en : Int) := by omega
                                     have z2 : (en : Int) < (b : Int) := by omega
                                     have z1' : (mid : Int) < (mid : Int) + (m : Int) - (st : Int) := by omega
                                     have z2' : (mid : Int) + (m : Int) - (st : Int) < (b : Int) := by omega
                                     have z3' : decide ((mid : Int) < (mid : Int) + (m : Int) - (st : Int)) = true := by simp; omega
                                     have z4' : decide ((mid : Int) + (m : Int) - (st : Int) < (b : Int)) = true := by simp; omega
                                     have CS := Lib.hid (ih mid en b (by omega) S2.out (by rw [HP1.out.1.1, HP0.out.1]; exact hn) hc2.1 hc2.2 hb (sorted_perm_out HH.out.s3 HP1.out.1 (.inr (Nat.le_refl _))) (sorted_perm_out HH.out.s4 HP1.out.1 (.inr (by omega))))
                                     go_wp2_with fail
                                     try rw [HEN.out]
                                     refine CS.out.mono ?_
                                     rintro e w9 ⟨rfl, d3, h3, hp3, hs3⟩
                                     clear CS
                                     have S3 := Lib.hid h3
                                     clear h3
                                     go_wp2
                                     go_end0
                                     have HF := Halves.done swoW HH.out (by rw [HP0.out.1]; omega) (by omega) (by omega) HP1.out.1 HP1.out.2 hp3 hs3
                                     exact ⟨rfl, d3, S3.out, permIn_trans _ _ _ _ _ HP0.out HF.1, HF.2⟩)
                              · by_cases z1 : mid < en
                                · first
                                    | (exfalso; omega)
                                    | (skip
                                       have HN2 := Lib.hid (show SortedIn ltW mid b d2 from by
                                         rcases (show en = mid ∨ en = b by omega) with e | e
                                         · have := sorted_perm_out HH.out.s4 HP1.out.1 (.inr (by omega))
                                           rw [e] at this
                                           exact this
                                         · have := sorted_perm_out HH.out.s3 HP1.out.1 (.inr (Nat.le_refl _))
                                           rw [e] at this
                                           exact this)
                                       have z1z : (mid : Int) < (en : Int) := by omega
                                       have z2z : ¬ (en : Int) < (b : Int) := by omega
                                       go_wp2
                                       go_end0
                                       have HF := Halves.done swoW HH.out (by rw [HP0.out.1]; omega) (by omega) (by omega) HP1.out.1 HP1.out.2 (permIn_refl _ _ _) HN2.out
                                       exact ⟨rfl, d2, S2.out, permIn_trans _ _ _ _ _ HP0.out HF.1, HF.2⟩)
                                · first
                                    | (exfalso; omega)
                                    | (skip
                                       have HN2 := Lib.hid (show SortedIn ltW mid b d2 from by
                                         rcases (show en = mid ∨ en = b by omega) with e | e
                                         · have := sorted_perm_out HH.out.s4 HP1.out.1 (.inr (by omega))
                                           rw [e] at this
                                           exact this
                                         · have := sorted_perm_out HH.out.s3 HP1.out.1 (.inr (Nat.le_refl _))
                                           rw [e] at this
                                           exact this)
                                       have z1z : ¬ (mid : Int) < (en : Int) := by omega
                                       go_wp2
                                       go_end0
                                       have HF := Halves.done swoW HH.out (by rw [HP0.out.1]; omega) (by omega) (by omega) HP1.out.1 HP1.out.2 (permIn_refl _ _ _) HN2.out
                                       exact ⟨rfl, d2, S2.out, permIn_trans _ _ _ _ _ HP0.out HF.1, HF.2⟩))
                       · by_cases y1 : a < st
                         · first
                             | (exfalso; omega)
                             | (skip
                                have y1z : (a : Int) < (st : Int) := by omega
                                have y2z : ¬ (st : Int) < (mid : Int) := by omega
                                have HP1 := Lib.hid (show PermIn a mid d1 d1 ∧ SortedIn ltW a mid d1 from ⟨permIn_refl _ _ _, by
                                  rcases (show st = a ∨ st = mid by omega) with e | e
                                  · have := HH.out.s2
                                    rw [e] at this
                                    exact this
                                  · have := HH.out.s1
                                    rw [e] at this
                                    exact this⟩)
                                obtain ⟨d2, hd2⟩ : ∃ x, x = d1 := ⟨_, rfl⟩
                                have HP1 := Lib.hid (show PermIn a mid d1 d2 ∧ SortedIn ltW a mid d2 from by rw [hd2]; exact HP1.out)
                                have S2 := Lib.hid (show VS w0 g S d2 _ from by rw [hd2]; exact S1.out)
                                clear S1 hd2
                                by_cases hc2 : mid < en ∧ en < b
                                · first
                                    | (exfalso; omega)
                                    | (skip
                                       have z1 : (mid : Int) < (en : Int) := by omega
                                       have z2 : (en : Int) < (b : Int) := by omega
                                       have z1' : (mid : Int) < (mid : Int) + (m : Int) - (st : Int) := by omega
                                       have z2' : (mid : Int) + (m : Int) - (st : Int) < (b : Int) := by omega
                                       have z3' : decide ((mid : Int) < (mid : Int) + (m : Int) - (st : Int)) = true := by simp; omega
                                       have z4' : decide ((mid : Int) + (m : Int) - (st : Int) < (b : Int)) = true := by simp; omega
                                       have CS := Lib.hid (ih mid en b (by omega) S2.out (by rw [HP1.out.1.1, HP0.out.1]; exact hn) hc2.1 hc2.2 hb (sorted_perm_out HH.out.s3 HP1.out.1 (.inr (Nat.le_refl _))) (sorted_perm_out HH.out.s4 HP1.out.1 (.inr (by omega))))
                                       go_wp2_with fail
                                       try rw [HEN.out]
                                       refine CS.out.mono ?_
                                       rintro e w9 ⟨rfl, d3, h3, hp3, hs3⟩
                                       clear CS
                                       have S3 := Lib.hid h3
                                       clear h3
                                       go_wp2
                                       go_end0
                                       have HF := Halves.done swoW HH.out (by rw [HP0.out.1]; omega) (by omega) (by omega) HP1.out.1 HP1.out.2 hp3 hs3
                                       exact ⟨rfl, d3, S3.out, permIn_trans _ _ _ _ _ HP0.out HF.1, HF.2⟩)
                                · by_cases z1 : mid < en
                                  · first
                                      | (exfalso; omega)
                                      | (skip
                                         have HN2 := Lib.hid (show SortedIn ltW mid b d2 from by
                                           rcases (show en = mid ∨ en = b by omega) with e | e
                                           · have := sorted_perm_out HH.out.s4 HP1.out.1 (.inr (by omega))
                                             rw [e] at this
                                             exact this
                                           · have := sorted_perm_out HH.out.s3 HP1.out.1 (.inr (Nat.le_refl _))
                                             rw [e] at this
                                             exact this)
                                         have z1z : (mid : Int) < (en : Int) := by omega
                                         have z2z : ¬ (en : Int) < (b : Int) := by omega
                                         go_wp2
                                         go_end0
                                         have HF := Halves.done swoW HH.out (by rw [HP0.out.1]; omega) (by omega) (by omega) HP1.out.1 HP1.out.2 (permIn_refl _ _ _) HN2.out
                                         exact ⟨rfl, d2, S2.out, permIn_trans _ _ _ _ _ HP0.out HF.1, HF.2⟩)
                                  · first
                                      | (exfalso; omega)
                                      | (skip
                                         have HN2 := Lib.hid (show SortedIn ltW mid b d2 from by
                                           rcases (show en = mid ∨ en = b by omega) with e | e
                                           · have := sorted_perm_out HH.out.s4 HP1.out.1 (.inr (by omega))
                                             rw [e] at this
                                             exact this
                                           · have := sorted_perm_out HH.out.s3 HP1.out.1 (.inr (Nat.le_refl _))
                                             rw [e] at this
                                             exact this)
                                         have z1z : ¬ (mid : Int) < (en : Int) := by omega
                                         go_wp2
                                         go_end0
                                         have HF := Halves.done swoW HH.out (by rw [HP0.out.1]; omega) (by omega) (by omega) HP1.out.1 HP1.out.2 (permIn_refl _ _ _) HN2.out
                                         exact ⟨rfl, d2, S2.out, permIn_trans _ _ _ _ _ HP0.out HF.1, HF.2⟩))
                         · first
                             | (exfalso; omega)
                             | (skip
                                have y1z : ¬ (a : Int) < (st : Int) := by omega
                                have HP1 := Lib.hid (show PermIn a mid d1 d1 ∧ SortedIn ltW a mid d1 from ⟨permIn_refl _ _ _, by
                                  rcases (show st = a ∨ st = mid by omega) with e | e
                                  · have := HH.out.s2
                                    rw [e] at this
                                    exact this
                                  · have := HH.out.s1
                                    rw [e] at this
                                    exact this⟩)
                                obtain ⟨d2, hd2⟩ : ∃ x, x = d1 := ⟨_, rfl⟩
                                have HP1 := Lib.hid (show PermIn a mid d1 d2 ∧ SortedIn ltW a mid d2 from by rw [hd2]; exact HP1.out)
                                have S2 := Lib.hid (show VS w0 g S d2 _ from by rw [hd2]; exact S1.out)
                                clear S1 hd2
                                by_cases hc2 : mid < en ∧ en < b
                                · first
                                    | (exfalso; omega)
                                    | (skip
                                       have z1 : (mid : Int) < (en : Int) := by omega
                                       have z2 : (en : Int) < (b : Int) := by omega
                                       have z1' : (mid : Int) < (mid : Int) + (m : Int) - (st : Int) := by omega
                                       have z2' : (mid : Int) + (m : Int) - (st : Int) < (b : Int) := by omega
                                       have z3' : decide ((mid : Int) < (mid : Int) + (m : Int) - (st : Int)) = true := by simp; omega
                                       have z4' : decide ((mid : Int) + (m : Int) - (st : Int) < (b : Int)) = true := by simp; omega
                                       have CS := Lib.hid (ih mid en b (by omega) S2.out (by rw [HP1.out.1.1, HP0.out.1]; exact hn) hc2.1 hc2.2 hb (sorted_perm_out HH.out.s3 HP1.out.1 (.inr (Nat.le_refl _))) (sorted_perm_out HH.out.s4 HP1.out.1 (.inr (by omega))))
                                       go_wp2_with fail
                                       try rw [HEN.out]
                                       refine CS.out.mono ?_
                                       rintro e w9 ⟨rfl, d3, h3, hp3, hs3⟩
                                       clear CS
                                       have S3 := Lib.hid h3
                                       clear h3
                                       go_wp2
                                       go_end0
                                       have HF := Halves.done swoW HH.out (by rw [HP0.out.1]; omega) (by omega) (by omega) HP1.out.1 HP1.out.2 hp3 hs3
                                       exact ⟨rfl, d3, S3.out, permIn_trans _ _ _ _ _ HP0.out HF.1, HF.2⟩)
                                · by_cases z1 : mid < en
                                  · first
                                      | (exfalso; omega)
                                      | (skip
                                         have HN2 := Lib.hid (show SortedIn ltW mid b d2 from by
                                           rcases (show en = mid ∨ en = b by omega) with e | e
                                           · have := sorted_perm_out HH.out.s4 HP1.out.1 (.inr (by omega))
                                             rw [e] at this
                                             exact this
                                           · have := sorted_perm_out HH.out.s3 HP1.out.1 (.inr (Nat.le_refl _))
                                             rw [e] at this
                                             exact this)
                                         have z1z : (mid : Int) < (en : Int) := by omega
                                         have z2z : ¬ (en : Int) < (b : Int) := by omega
                                         go_wp2
                                         go_end0
                                         have HF := Halves.done swoW HH.out (by rw [HP0.out.1]; omega) (by omega) (by omega) HP1.out.1 HP1.out.2 (permIn_refl _ _ _) HN2.out
                                         exact ⟨rfl, d2, S2.out, permIn_trans _ _ _ _ _ HP0.out HF.1, HF.2⟩)
                                  · first
                                      | (exfalso; omega)
                                      | (skip
                                         have HN2 := Lib.hid (show SortedIn ltW mid b d2 from by
                                           rcases (show en = mid ∨ en = b by omega) with e | e
                                           · have := sorted_perm_out HH.out.s4 HP1.out.1 (.inr (by omega))
                                             rw [e] at this
                                             exact this
                                           · have := sorted_perm_out HH.out.s3 HP1.out.1 (.inr (Nat.le_refl _))
                                             rw [e] at this
                                             exact this)
                                         have z1z : ¬ (mid : Int) < (en : Int) := by omega
                                         go_wp2
                                         go_end0
                                         have HF := Halves.done swoW HH.out (by rw [HP0.out.1]; omega) (by omega) (by omega) HP1.out.1 HP1.out.2 (permIn_refl _ _ _) HN2.out
                                         exact ⟨rfl, d2, S2.out, permIn_trans _ _ _ _ _ HP0.out HF.1, HF.2⟩)))
        · have c3z : ¬ ((a : Int) + (b : Int)) / 2 < (m : Int) := by rw [HMID.out]; omega
          go_enter Try.func72, Try.ntmps72
          go_wp2
          rw [HMID.out]
          have ih := IH.out
          obtain ⟨pp, hpp⟩ : ∃ x : Nat, (mid : Int) + (m : Int) - 1 = (x : Int) := ⟨mid + m - 1, by omega⟩
          rw [hpp]
          have hp1 : pp + 1 ≤ mid + m := by omega
          have hp2 : mid + m ≤ pp + 1 := by omega
          clear hpp
          go_loopg [20, 21] (m - a) (fun kx s1 s2 wr => ∃ (i j : Nat), s1 = .int .i64 i ∧ s2 = .int .i64 j ∧ a ≤ i ∧ i ≤ j ∧ j ≤ m ∧ j - i ≤ kx ∧ Hid (VS w0 g S d wr) ∧ Hid ((i = a ∨ ltW d[pp + 1 - i]! d[i - 1]! = false) ∧ (j = m ∨ ltW d[pp - j]! d[j]! = true)))
          case atStart => exact ⟨a, m, by first | rfl | go_num, by first | rfl | go_num, by omega, by omega, by omega, by omega, S0, Lib.hid ⟨.inl rfl, .inl rfl⟩⟩
          case round =>
            clear S0
            obtain ⟨i, j, rfl, rfl, hli, hij, hjh, hkx, S1, HI⟩ := hrel
            by_cases hlt : i < j
            · have hltz : (i : Int) < (j : Int) := by omega
              obtain ⟨c, hcc⟩ : ∃ x : Nat, ((i : Int) + (j : Int)) / 2 = (x : Int) := ⟨(i + j) / 2, by omega⟩
              have HC := Lib.hid hcc
              have hc1 : i ≤ c := by omega
              have hc2 : c < j := by omega
              have hcp : c ≤ pp := by omega
              clear hcc
              go_wp2_with fail
              rw [HC.out]
              cases hL : ltW d[pp - c]! d[c]! with
              | true =>
                have ea4 : (((pp : Int) - (c : Int))).toNat = pp - c := by omega
                have pa4 : (0 : Int) ≤ (pp : Int) - (c : Int) := by omega
                have ba4 : (pp : Int) - (c : Int) < (n : Int) := by omega
                have ra4 : IntKind.i64.wrap ((pp : Int) - (c : Int)) = (pp : Int) - (c : Int) := by rw [IntKind.wrap_i64]; omega
                have ec4 : (((c : Int))).toNat = c := by omega
                have pc4 : (0 : Int) ≤ (c : Int) := by omega
                have bc4 : (c : Int) < (n : Int) := by omega
                have rc4 : IntKind.i64.wrap ((c : Int)) = (c : Int) := by rw [IntKind.wrap_i64]; omega
                obtain ⟨x4, hx4⟩ : ∃ x, x = d[pp - c]! := ⟨_, rfl⟩
                obtain ⟨y4, hy4⟩ : ∃ x, x = d[c]! := ⟨_, rfl⟩
                have l4a := fun p : UpdBy wr => S1.out.ld (i := pp - c) (by omega) p
                have l4b := fun p : UpdBy wr => S1.out.ld (i := c) (by omega) p
                rw [← hx4] at l4a
                rw [← hy4] at l4b
                have hc4 := fun p : UpdBy wr => S1.out.cmp HM.out x4 y4 p
                obtain ⟨v4, hv4⟩ : ∃ z, z = cmpSg x4.1.1 y4.1.1 := ⟨_, rfl⟩
                have hd4 : decide (v4 < 0) = true := by rw [hv4, cmpSg_lt, hx4, hy4]; exact hL
                have hi4 : v4 < 0 := of_decide_eq_true hd4
                rw [← hv4] at hc4
                obtain ⟨ex4, hex4⟩ : ∃ l, l = (encW x4).toArray := ⟨_, rfl⟩
                obtain ⟨ey4, hey4⟩ : ∃ l, l = (encW y4).toArray := ⟨_, rfl⟩
                rw [← hex4] at l4a hc4
                rw [← hey4] at l4b hc4
                clear hx4 hy4 hv4 hex4 hey4
                rw [← HK.out] at l4a l4b
                go_wp2_with fail
                refine wp_region_quiet_upd (by kernel_rfl) (by kernel_rfl) ?_
                repeat (quiet_step (exact hc4 _))
                refine wpQuiet_nil ?_
                intro w3 hw'
                have hq : Upd NoF wr w3 := by obtain ⟨p, rfl⟩ := hw'; exact p.h
                clear hw'
                have S2 := Lib.hid (S1.out.same hq)
                clear l4a l4b hc4 hq
                go_wp2
                go_roundg (c - i)
                case measure => omega
                case rel => exact ⟨i, c, rfl, rfl, by omega, by omega, by omega, by omega, S2, Lib.hid ⟨HI.out.1, .inr hL⟩⟩
              | false =>
                have ea4 : (((pp : Int) - (c : Int))).toNat = pp - c := by omega
                have pa4 : (0 : Int) ≤ (pp : Int) - (c : Int) := by omega
                have ba4 : (pp : Int) - (c : Int) < (n : Int) := by omega
                have ra4 : IntKind.i64.wrap ((pp : Int) - (c : Int)) = (pp : Int) - (c : Int) := by rw [IntKind.wrap_i64]; omega
                have ec4 : (((c : Int))).toNat = c := by omega
                have pc4 : (0 : Int) ≤ (c : Int) := by omega
                have bc4 : (c : Int) < (n : Int) := by omega
                have rc4 : IntKind.i64.wrap ((c : Int)) = (c : Int) := by rw [IntKind.wrap_i64]; omega
                obtain ⟨x4, hx4⟩ : ∃ x, x = d[pp - c]! := ⟨_, rfl⟩
                obtain ⟨y4, hy4⟩ : ∃ x, x = d[c]! := ⟨_, rfl⟩
                have l4a := fun p : UpdBy wr => S1.out.ld (i := pp - c) (by omega) p
                have l4b := fun p : UpdBy wr => S1.out.ld (i := c) (by omega) p
                rw [← hx4] at l4a
                rw [← hy4] at l4b
                have hc4 := fun p : UpdBy wr => S1.out.cmp HM.out x4 y4 p
                obtain ⟨v4, hv4⟩ : ∃ z, z = cmpSg x4.1.1 y4.1.1 := ⟨_, rfl⟩
                have hd4 : decide (v4 < 0) = false := by rw [hv4, cmpSg_lt, hx4, hy4]; exact hL
                have hi4 : ¬ v4 < 0 := of_decide_eq_false hd4
                rw [← hv4] at hc4
                obtain ⟨ex4, hex4⟩ : ∃ l, l = (encW x4).toArray := ⟨_, rfl⟩
                obtain ⟨ey4, hey4⟩ : ∃ l, l = (encW y4).toArray := ⟨_, rfl⟩
                rw [← hex4] at l4a hc4
                rw [← hey4] at l4b hc4
                clear hx4 hy4 hv4 hex4 hey4
                rw [← HK.out] at l4a l4b
                go_wp2_with fail
                refine wp_region_quiet_upd (by kernel_rfl) (by kernel_rfl) ?_
                repeat (quiet_step (exact hc4 _))
                refine wpQuiet_nil ?_
                intro w3 hw'
                have hq : Upd NoF wr w3 := by obtain ⟨p, rfl⟩ := hw'; exact p.h
                clear hw'
                have S2 := Lib.hid (S1.out.same hq)
                clear l4a l4b hc4 hq
                go_wp2
                go_roundg (j - (c + 1))
                case measure => omega
                case rel => exact ⟨c + 1, j, by first | rfl | go_num, rfl, by omega, by omega, by omega, by omega, S2, Lib.hid ⟨.inr (by rw [show pp + 1 - (c + 1) = pp - c by omega, Nat.add_sub_cancel]; exact hL), HI.out.2⟩⟩
            · have hltz : ¬ (i : Int) < (j : Int) := by omega
              have hji : j = i := by omega
              subst hji
              obtain ⟨st, hst⟩ : ∃ x, x = j := ⟨_, rfl⟩
              rw [← hst] at HI hli hjh ⊢
              clear hst
              obtain ⟨en, hen⟩ : ∃ x : Nat, (mid : Int) + (m : Int) - (st : Int) = (x : Int) := ⟨mid + m - st, by omega⟩
              have HEN := Lib.hid hen
              have hen1 : st + en ≤ mid + m := by omega
              have hen2 : mid + m ≤ st + en := by omega
              clear hen
              by_cases hr : st < m ∧ m < en
              · first
                  | (exfalso; omega)
                  | (skip
                     have x1 : (st : Int) < (m : Int) := by omega
                     have x2 : (m : Int) < (en : Int) := by omega
                     have CS := Lib.hid (rotS_any (cap := cap) S1.out hM hn hr.1 hr.2 (by omega) (by omega))
                     go_wp2_with fail
                     try rw [HEN.out]
                     refine CS.out.mono ?_
                     rintro e w7 ⟨rfl, d1, h1, hp1, hr1⟩
                     clear CS
                     clear S1
                     have S1 := Lib.hid h1
                     have HP0 := Lib.hid (show PermIn a b d d1 from permIn_mono d d1 st en a b (by omega) (by omega) (by omega) hp1)
                     have HH := Lib.hid (halves swoW (mid := mid) (st := st) (en := en) H1.out H2.out (by omega) (by omega) (by omega) (by omega) (by omega) (by
                       have q := HI.out.1
                       rcases q with q | q
                       · omega
                       · rw [show pp + 1 - st = en by omega] at q
                         exact .inr (.inr q)) (by
                       have q := HI.out.2
                       rcases q with q | q
                       · omega
                       · rw [show pp - st = en - 1 by omega] at q
                         exact .inr (.inr (swoW.asymmA q))) hr1)
                     clear h1 hp1 hr1
                     by_cases hc1 : a < st ∧ st < mid
                     · first
                         | (exfalso; omega)
                         | (skip
                            have y1 : (a : Int) < (st : Int) := by omega
                            have y2 : (st : Int) < (mid : Int) := by omega
                            have CS := Lib.hid (ih a st mid (by omega) S1.out (by rw [HP0.out.1]; exact hn) hc1.1 hc1.2 (by omega) HH.out.s1 HH.out.s2)
                            go_wp2_with fail
                            try rw [HEN.out]
                            refine CS.out.mono ?_
                            rintro e w8 ⟨rfl, d2, h2, hp2, hs2⟩
                            clear CS
                            have S2 := Lib.hid h2
                            have HP1 := Lib.hid (show PermIn a mid d1 d2 ∧ SortedIn ltW a mid d2 from ⟨hp2, hs2⟩)
                            clear h2 hp2 hs2 S1
                            by_cases hc2 : mid < en ∧ en < b
                            · first
                                | (exfalso; omega)
                                | (skip
                                   have z1 : (mid : Int) < (en : Int) := by omega
                                   have z2 : (en : Int) < (b : Int) := by omega
                                   have z1' : (mid : Int) < (mid : Int) + (m : Int) - (st : Int) := by omega
                                   have z2' : (mid : Int) + (m : Int) - (st : Int) < (b : Int) := by omega
                                   have z3' : decide ((mid : Int) < (mid : Int) + (m : Int) - (st : Int)) = true := by simp; omega
                                   have z4' : decide ((mid : Int) + (m : Int) - (st : Int) < (b : Int)) = true := by simp; omega
                                   have CS := Lib.hid (ih mid en b (by omega) S2.out (by rw [HP1.out.1.1, HP0.out.1]; exact hn) hc2.1 hc2.2 hb (sorted_perm_out HH.out.s3 HP1.out.1 (.inr (Nat.le_refl _))) (sorted_perm_out HH.out.s4 HP1.out.1 (.inr (by omega))))
                                   go_wp2_with fail
                                   try rw [HEN.out]
                                   refine CS.out.mono ?_
                                   rintro e w9 ⟨rfl, d3, h3, hp3, hs3⟩
                                   clear CS
                                   have S3 := Lib.hid h3
                                   clear h3
                                   go_wp2
                                   go_end0
                                   have HF := Halves.done swoW HH.out (by rw [HP0.out.1]; omega) (by omega) (by omega) HP1.out.1 HP1.out.2 hp3 hs3
                                   exact ⟨rfl, d3, S3.out, permIn_trans _ _ _ _ _ HP0.out HF.1, HF.2⟩)
                            · by_cases z1 : mid < en
                              · first
                                  | (exfalso; omega)
                                  | (skip
                                     have HN2 := Lib.hid (show SortedIn ltW mid b d2 from by
                                       rcases (show en = mid ∨ en = b by omega) with e | e
                                       · have := sorted_perm_out HH.out.s4 HP1.out.1 (.inr (by omega))
                                         rw [e] at this
                                         exact this
                                       · have := sorted_perm_out HH.out.s3 HP1.out.1 (.inr (Nat.le_refl _))
                                         rw [e] at this
                                         exact this)
                                     have z1z : (mid : Int) < (en : Int) := by omega
                                     have z2z : ¬ (en : Int) < (b : Int) := by omega
                                     go_wp2
                                     go_end0
                                     have HF := Halves.done swoW HH.out (by rw [HP0.out.1]; omega) (by omega) (by omega) HP1.out.1 HP1.out.2 (permIn_refl _ _ _) HN2.out
                                     exact ⟨rfl, d2, S2.out, permIn_trans _ _ _ _ _ HP0.out HF.1, HF.2⟩)
                              · first
                                  | (exfalso; omega)
                                  | (skip
                                     have HN2 := Lib.hid (show SortedIn ltW mid b d2 from by
                                       rcases (show en = mid ∨ en = b by omega) with e | e
                                       · have := sorted_perm_out HH.out.s4 HP1.out.1 (.inr (by omega))
                                         rw [e] at this
                                         exact this
                                       · have := sorted_perm_out HH.out.s3 HP1.out.1 (.inr (Nat.le_refl _))
                                         rw [e] at this
                                         exact this)
                                     have z1z : ¬ (mid : Int) < (en : Int) := by omega
                                     go_wp2
                                     go_end0
                                     have HF := Halves.done swoW HH.out (by rw [HP0.out.1]; omega) (by omega) (by omega) HP1.out.1 HP1.out.2 (permIn_refl _ _ _) HN2.out
                                     exact ⟨rfl, d2, S2.out, permIn_trans _ _ _ _ _ HP0.out HF.1, HF.2⟩))
                     · by_cases y1 : a < st
                       · first
                           | (exfalso; omega)
                           | (skip
                              have y1z : (a : Int) < (st : Int) := by omega
                              have y2z : ¬ (st : Int) < (mid : Int) := by omega
                              have HP1 := Lib.hid (show PermIn a mid d1 d1 ∧ SortedIn ltW a mid d1 from ⟨permIn_refl _ _ _, by
                                rcases (show st = a ∨ st = mid by omega) with e | e
                                · have := HH.out.s2
                                  rw [e] at this
                                  exact this
                                · have := HH.out.s1
                                  rw [e] at this
                                  exact this⟩)
                              obtain ⟨d2, hd2⟩ : ∃ x, x = d1 := ⟨_, rfl⟩
                              have HP1 := Lib.hid (show PermIn a mid d1 d2 ∧ SortedIn ltW a mid d2 from by rw [hd2]; exact HP1.out)
                              have S2 := Lib.hid (show VS w0 g S d2 _ from by rw [hd2]; exact S1.out)
                              clear S1 hd2
                              by_cases hc2 : mid < en ∧ en < b
                              · first
                                  | (exfalso; omega)
                                  | (skip
                                     have z1 : (mid : Int) < (en : Int) := by omega
                                     have z2 : (en : Int) < (b : Int) := by omega
                                     have z1' : (mid : Int) < (mid : Int) + (m : Int) - (st : Int) := by omega
                                     have z2' : (mid : Int) + (m : Int) - (st : Int) < (b : Int) := by omega
                                     have z3' : decide ((mid : Int) < (mid : Int) + (m : Int) - (st : Int)) = true := by simp; omega
                                     have z4' : decide ((mid : Int) + (m : Int) - (st : Int) < (b : Int)) = true := by simp; omega
                                     have CS := Lib.hid (ih mid en b (by omega) S2.out (by rw [HP1.out.1.1, HP0.out.1]; exact hn) hc2.1 hc2.2 hb (sorted_perm_out HH.out.s3 HP1.out.1 (.inr (Nat.le_refl _))) (sorted_perm_out HH.out.s4 HP1.out.1 (.inr (by omega))))
                                     go_wp2_with fail
                                     try rw [HEN.out]
                                     refine CS.out.mono ?_
                                     rintro e w9 ⟨rfl, d3, h3, hp3, hs3⟩
                                     clear CS
                                     have S3 := Lib.hid h3
                                     clear h3
                                     go_wp2
                                     go_end0
                                     have HF := Halves.done swoW HH.out (by rw [HP0.out.1]; omega) (by omega) (by omega) HP1.out.1 HP1.out.2 hp3 hs3
                                     exact ⟨rfl, d3, S3.out, permIn_trans _ _ _ _ _ HP0.out HF.1, HF.2⟩)
                              · by_cases z1 : mid < en
                                · first
                                    | (exfalso; omega)
                                    | (skip
                                       have HN2 := Lib.hid (show SortedIn ltW mid b d2 from by
                                         rcases (show en = mid ∨ en = b by omega) with e | e
                                         · have := sorted_perm_out HH.out.s4 HP1.out.1 (.inr (by omega))
                                           rw [e] at this
                                           exact this
                                         · have := sorted_perm_out HH.out.s3 HP1.out.1 (.inr (Nat.le_refl _))
                                           rw [e] at this
                                           exact this)
                                       have z1z : (mid : Int) < (en : Int) := by omega
                                       have z2z : ¬ (en : Int) < (b : Int) := by omega
                                       go_wp2
                                       go_end0
                                       have HF := Halves.done swoW HH.out (by rw [HP0.out.1]; omega) (by omega) (by omega) HP1.out.1 HP1.out.2 (permIn_refl _ _ _) HN2.out
                                       exact ⟨rfl, d2, S2.out, permIn_trans _ _ _ _ _ HP0.out HF.1, HF.2⟩)
                                · first
                                    | (exfalso; omega)
                                    | (skip
                                       have HN2 := Lib.hid (show SortedIn ltW mid b d2 from by
                                         rcases (show en = mid ∨ en = b by omega) with e | e
                                         · have := sorted_perm_out HH.out.s4 HP1.out.1 (.inr (by omega))
                                           rw [e] at this
                                           exact this
                                         · have := sorted_perm_out HH.out.s3 HP1.out.1 (.inr (Nat.le_refl _))
                                           rw [e] at this
                                           exact this)
                                       have z1z : ¬ (mid : Int) < (en : Int) := by omega
                                       go_wp2
                                       go_end0
                                       have HF := Halves.done swoW HH.out (by rw [HP0.out.1]; omega) (by omega) (by omega) HP1.out.1 HP1.out.2 (permIn_refl _ _ _) HN2.out
                                       exact ⟨rfl, d2, S2.out, permIn_trans _ _ _ _ _ HP0.out HF.1, HF.2⟩))
                       · first
                           | (exfalso; omega)
                           | (skip
                              have y1z : ¬ (a : Int) < (st : Int) := by omega
                              have HP1 := Lib.hid (show PermIn a mid d1 d1 ∧ SortedIn ltW a mid d1 from ⟨permIn_refl _ _ _, by
                                rcases (show st = a ∨ st = mid by omega) with e | e
                                · have := HH.out.s2
                                  rw [e] at this
                                  exact this
                                · have := HH.out.s1
                                  rw [e] at this
                                  exact this⟩)
                              obtain ⟨d2, hd2⟩ : ∃ x, x = d1 := ⟨_, rfl⟩
                              have HP1 := Lib.hid (show PermIn a mid d1 d2 ∧ SortedIn ltW a mid d2 from by rw [hd2]; exact HP1.out)
                              have S2 := Lib.hid (show VS w0 g S d2 _ from by rw [hd2]; exact S1.out)
                              clear S1 hd2
                              by_cases hc2 : mid < en ∧ en < b
                              · first
                                  | (exfalso; omega)
                                  | (skip
                                     have z1 : (mid : Int) < (en : Int) := by omega
                                     have z2 : (en : Int) < (b : Int) := by omega
                                     have z1' : (mid : Int) < (mid : Int) + (m : Int) - (st : Int) := by omega
                                     have z2' : (mid : Int) + (m : Int) - (st : Int) < (b : Int) := by omega
                                     have z3' : decide ((mid : Int) < (mid : Int) + (m : Int) - (st : Int)) = true := by simp; omega
                                     have z4' : decide ((mid : Int) + (m : Int) - (st : Int) < (b : Int)) = true := by simp; omega
                                     have CS := Lib.hid (ih mid en b (by omega) S2.out (by rw [HP1.out.1.1, HP0.out.1]; exact hn) hc2.1 hc2.2 hb (sorted_perm_out HH.out.s3 HP1.out.1 (.inr (Nat.le_refl _))) (sorted_perm_out HH.out.s4 HP1.out.1 (.inr (by omega))))
                                     go_wp2_with fail
                                     try rw [HEN.out]
                                     refine CS.out.mono ?_
                                     rintro e w9 ⟨rfl, d3, h3, hp3, hs3⟩
                                     clear CS
                                     have S3 := Lib.hid h3
                                     clear h3
                                     go_wp2
                                     go_end0
                                     have HF := Halves.done swoW HH.out (by rw [HP0.out.1]; omega) (by omega) (by omega) HP1.out.1 HP1.out.2 hp3 hs3
                                     exact ⟨rfl, d3, S3.out, permIn_trans _ _ _ _ _ HP0.out HF.1, HF.2⟩)
                              · by_cases z1 : mid < en
                                · first
                                    | (exfalso; omega)
                                    | (skip
                                       have HN2 := Lib.hid (show SortedIn ltW mid b d2 from by
                                         rcases (show en = mid ∨ en = b by omega) with e | e
                                         · have := sorted_perm_out HH.out.s4 HP1.out.1 (.inr (by omega))
                                           rw [e] at this
                                           exact this
                                         · have := sorted_perm_out HH.out.s3 HP1.out.1 (.inr (Nat.le_refl _))
                                           rw [e] at this
                                           exact this)
                                       have z1z : (mid : Int) < (en : Int) := by omega
                                       have z2z : ¬ (en : Int) < (b : Int) := by omega
                                       go_wp2
                                       go_end0
                                       have HF := Halves.done swoW HH.out (by rw [HP0.out.1]; omega) (by omega) (by omega) HP1.out.1 HP1.out.2 (permIn_refl _ _ _) HN2.out
                                       exact ⟨rfl, d2, S2.out, permIn_trans _ _ _ _ _ HP0.out HF.1, HF.2⟩)
                                · first
                                    | (exfalso; omega)
                                    | (skip
                                       have HN2 := Lib.hid (show SortedIn ltW mid b d2 from by
                                         rcases (show en = mid ∨ en = b by omega) with e | e
                                         · have := sorted_perm_out HH.out.s4 HP1.out.1 (.inr (by omega))
                                           rw [e] at this
                                           exact this
                                         · have := sorted_perm_out HH.out.s3 HP1.out.1 (.inr (Nat.le_refl _))
                                           rw [e] at this
                                           exact this)
                                       have z1z : ¬ (mid : Int) < (en : Int) := by omega
                                       go_wp2
                                       go_end0
                                       have HF := Halves.done swoW HH.out (by rw [HP0.out.1]; omega) (by omega) (by omega) HP1.out.1 HP1.out.2 (permIn_refl _ _ _) HN2.out
                                       exact ⟨rfl, d2, S2.out, permIn_trans _ _ _ _ _ HP0.out HF.1, HF.2⟩)))
              · by_cases x1 : st < m
                · first
                    | (exfalso; omega)
                    | (skip
                       have x1z : (st : Int) < (m : Int) := by omega
                       have x2z : ¬ (m : Int) < (en : Int) := by omega
                       have HP0 := Lib.hid (permIn_refl d a b)
                       have HH := Lib.hid (halves swoW (mid := mid) (st := st) (en := en) H1.out H2.out (by omega) (by omega) (by omega) (by omega) (by omega) (by
                         have q := HI.out.1
                         rcases q with q | q
                         · omega
                         · rw [show pp + 1 - st = en by omega] at q
                           exact .inr (.inr q)) (by
                         have q := HI.out.2
                         rcases q with q | q
                         · omega
                         · rw [show pp - st = en - 1 by omega] at q
                           exact .inr (.inr (swoW.asymmA q))) (fun t => (rot_none (d := d) (lo := st) (m := m) (hi := en) (by omega) (by omega) (by omega) t).symm))
                       obtain ⟨d1, hd1⟩ : ∃ x, x = d := ⟨_, rfl⟩
                       rw [← hd1] at HH
                       have HP0 := Lib.hid (show PermIn a b d d1 from by rw [hd1]; exact HP0.out)
                       have S1 := Lib.hid (show VS w0 g S d1 _ from by rw [hd1]; exact S1.out)
                       clear hd1
                       by_cases hc1 : a < st ∧ st < mid
                       · first
                           | (exfalso; omega)
                           | (skip
                              have y1 : (a : Int) < (st : Int) := by omega
                              have y2 : (st : Int) < (mid : Int) := by omega
                              have CS := Lib.hid (ih a st mid (by omega) S1.out (by rw [HP0.out.1]; exact hn) hc1.1 hc1.2 (by omega) HH.out.s1 HH.out.s2)
                              go_wp2_with fail
                              try rw [HEN.out]
                              refine CS.out.mono ?_
                              rintro e w8 ⟨rfl, d2, h2, hp2, hs2⟩
                              clear CS
                              have S2 := Lib.hid h2
                              have HP1 := Lib.hid (show PermIn a mid d1 d2 ∧ SortedIn ltW a mid d2 from ⟨hp2, hs2⟩)
                              clear h2 hp2 hs2 S1
                              by_cases hc2 : mid < en ∧ en < b
                              · first
                                  | (exfalso; omega)
                                  | (skip
                                     have z1 : (mid : Int) < (en : Int) := by omega
                                     have z2 : (en : Int) < (b : Int) := by omega
                                     have z1' : (mid : Int) < (mid : Int) + (m : Int) - (st : Int) := by omega
                                     have z2' : (mid : Int) + (m : Int) - (st : Int) < (b : Int) := by omega
                                     have z3' : decide ((mid : Int) < (mid : Int) + (m : Int) - (st : Int)) = true := by simp; omega
                                     have z4' : decide ((mid : Int) + (m : Int) - (st : Int) < (b : Int)) = true := by simp; omega
                                     have CS := Lib.hid (ih mid en b (by omega) S2.out (by rw [HP1.out.1.1, HP0.out.1]; exact hn) hc2.1 hc2.2 hb (sorted_perm_out HH.out.s3 HP1.out.1 (.inr (Nat.le_refl _))) (sorted_perm_out HH.out.s4 HP1.out.1 (.inr (by omega))))
                                     go_wp2_with fail
                                     try rw [HEN.out]
                                     refine CS.out.mono ?_
                                     rintro e w9 ⟨rfl, d3, h3, hp3, hs3⟩
                                     clear CS
                                     have S3 := Lib.hid h3
                                     clear h3
                                     go_wp2
                                     go_end0
                                     have HF := Halves.done swoW HH.out (by rw [HP0.out.1]; omega) (by omega) (by omega) HP1.out.1 HP1.out.2 hp3 hs3
                                     exact ⟨rfl, d3, S3.out, permIn_trans _ _ _ _ _ HP0.out HF.1, HF.2⟩)
                              · by_cases z1 : mid < en
                                · first
                                    | (exfalso; omega)
                                    | (skip
                                       have HN2 := Lib.hid (show SortedIn ltW mid b d2 from by
                                         rcases (show en = mid ∨ en = b by omega) with e | e
                                         · have := sorted_perm_out HH.out.s4 HP1.out.1 (.inr (by omega))
                                           rw [e] at this
                                           exact this
                                         · have := sorted_perm_out HH.out.s3 HP1.out.1 (.inr (Nat.le_refl _))
                                           rw [e] at this
                                           exact this)
                                       have z1z : (mid : Int) < (en : Int) := by omega
                                       have z2z : ¬ (en : Int) < (b : Int) := by omega
                                       go_wp2
                                       go_end0
                                       have HF := Halves.done swoW HH.out (by rw [HP0.out.1]; omega) (by omega) (by omega) HP1.out.1 HP1.out.2 (permIn_refl _ _ _) HN2.out
                                       exact ⟨rfl, d2, S2.out, permIn_trans _ _ _ _ _ HP0.out HF.1, HF.2⟩)
                                · first
                                    | (exfalso; omega)
                                    | (skip
                                       have HN2 := Lib.hid (show SortedIn ltW mid b d2 from by
                                         rcases (show en = mid ∨ en = b by omega) with e | e
                                         · have := sorted_perm_out HH.out.s4 HP1.out.1 (.inr (by omega))
                                           rw [e] at this
                                           exact this
                                         · have := sorted_perm_out HH.out.s3 HP1.out.1 (.inr (Nat.le_refl _))
                                           rw [e] at this
                                           exact this)
                                       have z1z : ¬ (mid : Int) < (en : Int) := by omega
                                       go_wp2
                                       go_end0
                                       have HF := Halves.done swoW HH.out (by rw [HP0.out.1]; omega) (by omega) (by omega) HP1.out.1 HP1.out.2 (permIn_refl _ _ _) HN2.out
                                       exact ⟨rfl, d2, S2.out, permIn_trans _ _ _ _ _ HP0.out HF.1, HF.2⟩))
                       · by_cases y1 : a < st
                         · first
                             | (exfalso; omega)
                             | (skip
                                have y1z : (a : Int) < (st : Int) := by omega
                                have y2z : ¬ (st : Int) < (mid : Int) := by omega
                                have HP1 := Lib.hid (show PermIn a mid d1 d1 ∧ SortedIn ltW a mid d1 from ⟨permIn_refl _ _ _, by
                                  rcases (show st = a ∨ st = mid by omega) with e | e
                                  · have := HH.out.s2
                                    rw [e] at this
                                    exact this
                                  · have := HH.out.s1
                                    rw [e] at this
                                    exact this⟩)
                                obtain ⟨d2, hd2⟩ : ∃ x, x = d1 := ⟨_, rfl⟩
                                have HP1 := Lib.hid (show PermIn a mid d1 d2 ∧ SortedIn ltW a mid d2 from by rw [hd2]; exact HP1.out)
                                have S2 := Lib.hid (show VS w0 g S d2 _ from by rw [hd2]; exact S1.out)
                                clear S1 hd2
                                by_cases hc2 : mid < en ∧ en < b
                                · first
                                    | (exfalso; omega)
                                    | (skip
                                       have z1 : (mid : Int) < (en : Int) := by omega
                                       have z2 : (en : Int) < (b : Int) := by omega
                                       have z1' : (mid : Int) < (mid : Int) + (m : Int) - (st : Int) := by omega
                                       have z2' : (mid : Int) + (m : Int) - (st : Int) < (b : Int) := by omega
                                       have z3' : decide ((mid : Int) < (mid : Int) + (m : Int) - (st : Int)) = true := by simp; omega
                                       have z4' : decide ((mid : Int) + (m : Int) - (st : Int) < (b : Int)) = true := by simp; omega
                                       have CS := Lib.hid (ih mid en b (by omega) S2.out (by rw [HP1.out.1.1, HP0.out.1]; exact hn) hc2.1 hc2.2 hb (sorted_perm_out HH.out.s3 HP1.out.1 (.inr (Nat.le_refl _))) (sorted_perm_out HH.out.s4 HP1.out.1 (.inr (by omega))))
                                       go_wp2_with fail
                                       try rw [HEN.out]
                                       refine CS.out.mono ?_
                                       rintro e w9 ⟨rfl, d3, h3, hp3, hs3⟩
                                       clear CS
                                       have S3 := Lib.hid h3
                                       clear h3
                                       go_wp2
                                       go_end0
                                       have HF := Halves.done swoW HH.out (by rw [HP0.out.1]; omega) (by omega) (by omega) HP1.out.1 HP1.out.2 hp3 hs3
                                       exact ⟨rfl, d3, S3.out, permIn_trans _ _ _ _ _ HP0.out HF.1, HF.2⟩)
                                · by_cases z1 : mid < en
                                  · first
                                      | (exfalso; omega)
                                      | (skip
                                         have HN2 := Lib.hid (show SortedIn ltW mid b d2 from by
                                           rcases (show en = mid ∨ en = b by omega) with e | e
                                           · have := sorted_perm_out HH.out.s4 HP1.out.1 (.inr (by omega))
                                             rw [e] at this
                                             exact this
                                           · have := sorted_perm_out HH.out.s3 HP1.out.1 (.inr (Nat.le_refl _))
                                             rw [e] at this
                                             exact this)
                                         have z1z : (mid : Int) < (en : Int) := by omega
                                         have z2z : ¬ (en : Int) < (b : Int) := by omega
                                         go_wp2
                                         go_end0
                                         have HF := Halves.done swoW HH.out (by rw [HP0.out.1]; omega) (by omega) (by omega) HP1.out.1 HP1.out.2 (permIn_refl _ _ _) HN2.out
                                         exact ⟨rfl, d2, S2.out, permIn_trans _ _ _ _ _ HP0.out HF.1, HF.2⟩)
                                  · first
                                      | (exfalso; omega)
                                      | (skip
                                         have HN2 := Lib.hid (show SortedIn ltW mid b d2 from by
                                           rcases (show en = mid ∨ en = b by omega) with e | e
                                           · have := sorted_perm_out HH.out.s4 HP1.out.1 (.inr (by omega))
                                             rw [e] at this
                                             exact this
                                           · have := sorted_perm_out HH.out.s3 HP1.out.1 (.inr (Nat.le_refl _))
                                             rw [e] at this
                                             exact this)
                                         have z1z : ¬ (mid : Int) < (en : Int) := by omega
                                         go_wp2
                                         go_end0
                                         have HF := Halves.done swoW HH.out (by rw [HP0.out.1]; omega) (by omega) (by omega) HP1.out.1 HP1.out.2 (permIn_refl _ _ _) HN2.out
                                         exact ⟨rfl, d2, S2.out, permIn_trans _ _ _ _ _ HP0.out HF.1, HF.2⟩))
                         · first
                             | (exfalso; omega)
                             | (skip
                                have y1z : ¬ (a : Int) < (st : Int) := by omega
                                have HP1 := Lib.hid (show PermIn a mid d1 d1 ∧ SortedIn ltW a mid d1 from ⟨permIn_refl _ _ _, by
                                  rcases (show st = a ∨ st = mid by omega) with e | e
                                  · have := HH.out.s2
                                    rw [e] at this
                                    exact this
                                  · have := HH.out.s1
                                    rw [e] at this
                                    exact this⟩)
                                obtain ⟨d2, hd2⟩ : ∃ x, x = d1 := ⟨_, rfl⟩
                                have HP1 := Lib.hid (show PermIn a mid d1 d2 ∧ SortedIn ltW a mid d2 from by rw [hd2]; exact HP1.out)
                                have S2 := Lib.hid (show VS w0 g S d2 _ from by rw [hd2]; exact S1.out)
                                clear S1 hd2
                                by_cases hc2 : mid < en ∧ en < b
                                · first
                                    | (exfalso; omega)
                                    | (skip
                                       have z1 : (mid : Int) < (en : Int) := by omega
                                       have z2 : (en : Int) < (b : Int) := by omega
                                       have z1' : (mid : Int) < (mid : Int) + (m : Int) - (st : Int) := by omega
                                       have z2' : (mid : Int) + (m : Int) - (st : Int) < (b : Int) := by omega
                                       have z3' : decide ((mid : Int) < (mid : Int) + (m : Int) - (st : Int)) = true := by simp; omega
                                       have z4' : decide ((mid : Int) + (m : Int) - (st : Int) < (b : Int)) = true := by simp; omega
                                       have CS := Lib.hid (ih mid en b (by omega) S2.out (by rw [HP1.out.1.1, HP0.out.1]; exact hn) hc2.1 hc2.2 hb (sorted_perm_out HH.out.s3 HP1.out.1 (.inr (Nat.le_refl _))) (sorted_perm_out HH.out.s4 HP1.out.1 (.inr (by omega))))
                                       go_wp2_with fail
                                       try rw [HEN.out]
                                       refine CS.out.mono ?_
                                       rintro e w9 ⟨rfl, d3, h3, hp3, hs3⟩
                                       clear CS
                                       have S3 := Lib.hid h3
                                       clear h3
                                       go_wp2
                                       go_end0
                                       have HF := Halves.done swoW HH.out (by rw [HP0.out.1]; omega) (by omega) (by omega) HP1.out.1 HP1.out.2 hp3 hs3
                                       exact ⟨rfl, d3, S3.out, permIn_trans _ _ _ _ _ HP0.out HF.1, HF.2⟩)
                                · by_cases z1 : mid < en
                                  · first
                                      | (exfalso; omega)
                                      | (skip
                                         have HN2 := Lib.hid (show SortedIn ltW mid b d2 from by
                                           rcases (show en = mid ∨ en = b by omega) with e | e
                                           · have := sorted_perm_out HH.out.s4 HP1.out.1 (.inr (by omega))
                                             rw [e] at this
                                             exact this
                                           · have := sorted_perm_out HH.out.s3 HP1.out.1 (.inr (Nat.le_refl _))
                                             rw [e] at this
                                             exact this)
                                         have z1z : (mid : Int) < (en : Int) := by omega
                                         have z2z : ¬ (en : Int) < (b : Int) := by omega
                                         go_wp2
                                         go_end0
                                         have HF := Halves.done swoW HH.out (by rw [HP0.out.1]; omega) (by omega) (by omega) HP1.out.1 HP1.out.2 (permIn_refl _ _ _) HN2.out
                                         exact ⟨rfl, d2, S2.out, permIn_trans _ _ _ _ _ HP0.out HF.1, HF.2⟩)
                                  · first
                                      | (exfalso; omega)
                                      | (skip
                                         have HN2 := Lib.hid (show SortedIn ltW mid b d2 from by
                                           rcases (show en = mid ∨ en = b by omega) with e | e
                                           · have := sorted_perm_out HH.out.s4 HP1.out.1 (.inr (by omega))
                                             rw [e] at this
                                             exact this
                                           · have := sorted_perm_out HH.out.s3 HP1.out.1 (.inr (Nat.le_refl _))
                                             rw [e] at this
                                             exact this)
                                         have z1z : ¬ (mid : Int) < (en : Int) := by omega
                                         go_wp2
                                         go_end0
                                         have HF := Halves.done swoW HH.out (by rw [HP0.out.1]; omega) (by omega) (by omega) HP1.out.1 HP1.out.2 (permIn_refl _ _ _) HN2.out
                                         exact ⟨rfl, d2, S2.out, permIn_trans _ _ _ _ _ HP0.out HF.1, HF.2⟩)))
                · first
                    | (exfalso; omega)
                    | (skip
                       have x1z : ¬ (st : Int) < (m : Int) := by omega
                       have HP0 := Lib.hid (permIn_refl d a b)
                       have HH := Lib.hid (halves swoW (mid := mid) (st := st) (en := en) H1.out H2.out (by omega) (by omega) (by omega) (by omega) (by omega) (by
                         have q := HI.out.1
                         rcases q with q | q
                         · omega
                         · rw [show pp + 1 - st = en by omega] at q
                           exact .inr (.inr q)) (by
                         have q := HI.out.2
                         rcases q with q | q
                         · omega
                         · rw [show pp - st = en - 1 by omega] at q
                           exact .inr (.inr (swoW.asymmA q))) (fun t => (rot_none (d := d) (lo := st) (m := m) (hi := en) (by omega) (by omega) (by omega) t).symm))
                       obtain ⟨d1, hd1⟩ : ∃ x, x = d := ⟨_, rfl⟩
                       rw [← hd1] at HH
                       have HP0 := Lib.hid (show PermIn a b d d1 from by rw [hd1]; exact HP0.out)
                       have S1 := Lib.hid (show VS w0 g S d1 _ from by rw [hd1]; exact S1.out)
                       clear hd1
                       by_cases hc1 : a < st ∧ st < mid
                       · first
                           | (exfalso; omega)
                           | (skip
                              have y1 : (a : Int) < (st : Int) := by omega
                              have y2 : (st : Int) < (mid : Int) := by omega
                              have CS := Lib.hid (ih a st mid (by omega) S1.out (by rw [HP0.out.1]; exact hn) hc1.1 hc1.2 (by omega) HH.out.s1 HH.out.s2)
                              go_wp2_with fail
                              try rw [HEN.out]
                              refine CS.out.mono ?_
                              rintro e w8 ⟨rfl, d2, h2, hp2, hs2⟩
                              clear CS
                              have S2 := Lib.hid h2
                              have HP1 := Lib.hid (show PermIn a mid d1 d2 ∧ SortedIn ltW a mid d2 from ⟨hp2, hs2⟩)
                              clear h2 hp2 hs2 S1
                              by_cases hc2 : mid < en ∧ en < b
                              · first
                                  | (exfalso; omega)
                                  | (skip
                                     have z1 : (mid : Int) < (en : Int) := by omega
                                     have z2 : (en : Int) < (b : Int) := by omega
                                     have z1' : (mid : Int) < (mid : Int) + (m : Int) - (st : Int) := by omega
                                     have z2' : (mid : Int) + (m : Int) - (st : Int) < (b : Int) := by omega
                                     have z3' : decide ((mid : Int) < (mid : Int) + (m : Int) - (st : Int)) = true := by simp; omega
                                     have z4' : decide ((mid : Int) + (m : Int) - (st : Int) < (b : Int)) = true := by simp; omega
                                     have CS := Lib.hid (ih mid en b (by omega) S2.out (by rw [HP1.out.1.1, HP0.out.1]; exact hn) hc2.1 hc2.2 hb (sorted_perm_out HH.out.s3 HP1.out.1 (.inr (Nat.le_refl _))) (sorted_perm_out HH.out.s4 HP1.out.1 (.inr (by omega))))
                                     go_wp2_with fail
                                     try rw [HEN.out]
                                     refine CS.out.mono ?_
                                     rintro e w9 ⟨rfl, d3, h3, hp3, hs3⟩
                                     clear CS
                                     have S3 := Lib.hid h3
                                     clear h3
                                     go_wp2
                                     go_end0
                                     have HF := Halves.done swoW HH.out (by rw [HP0.out.1]; omega) (by omega) (by omega) HP1.out.1 HP1.out.2 hp3 hs3
                                     exact ⟨rfl, d3, S3.out, permIn_trans _ _ _ _ _ HP0.out HF.1, HF.2⟩)
                              · by_cases z1 : mid < en
                                · first
                                    | (exfalso; omega)
                                    | (skip
                                       have HN2 := Lib.hid (show SortedIn ltW mid b d2 from by
                                         rcases (show en = mid ∨ en = b by omega) with e | e
                                         · have := sorted_perm_out HH.out.s4 HP1.out.1 (.inr (by omega))
                                           rw [e] at this
                                           exact this
                                         · have := sorted_perm_out HH.out.s3 HP1.out.1 (.inr (Nat.le_refl _))
                                           rw [e] at this
                                           exact this)
                                       have z1z : (mid : Int) < (en : Int) := by omega
                                       have z2z : ¬ (en : Int) < (b : Int) := by omega
                                       go_wp2
                                       go_end0
                                       have HF := Halves.done swoW HH.out (by rw [HP0.out.1]; omega) (by omega) (by omega) HP1.out.1 HP1.out.2 (permIn_refl _ _ _) HN2.out
                                       exact ⟨rfl, d2, S2.out, permIn_trans _ _ _ _ _ HP0.out HF.1, HF.2⟩)
                                · first
                                    | (exfalso; omega)
                                    | (skip
                                       have HN2 := Lib.hid (show SortedIn ltW mid b d2 from by
                                         rcases (show en = mid ∨ en = b by omega) with e | e
                                         · have := sorted_perm_out HH.out.s4 HP1.out.1 (.inr (by omega))
                                           rw [e] at this
                                           exact this
                                         · have := sorted_perm_out HH.out.s3 HP1.out.1 (.inr (Nat.le_refl _))
                                           rw [e] at this
                                           exact this)
                                       have z1z : ¬ (mid : Int) < (en : Int) := by omega
                                       go_wp2
                                       go_end0
                                       have HF := Halves.done swoW HH.out (by rw [HP0.out.1]; omega) (by omega) (by omega) HP1.out.1 HP1.out.2 (permIn_refl _ _ _) HN2.out
                                       exact ⟨rfl, d2, S2.out, permIn_trans _ _ _ _ _ HP0.out HF.1, HF.2⟩))
                       · by_cases y1 : a < st
                         · first
                             | (exfalso; omega)
                             | (skip
                                have y1z : (a : Int) < (st : Int) := by omega
                                have y2z : ¬ (st : Int) < (mid : Int) := by omega
                                have HP1 := Lib.hid (show PermIn a mid d1 d1 ∧ SortedIn ltW a mid d1 from ⟨permIn_refl _ _ _, by
                                  rcases (show st = a ∨ st = mid by omega) with e | e
                                  · have := HH.out.s2
                                    rw [e] at this
                                    exact this
                                  · have := HH.out.s1
                                    rw [e] at this
                                    exact this⟩)
                                obtain ⟨d2, hd2⟩ : ∃ x, x = d1 := ⟨_, rfl⟩
                                have HP1 := Lib.hid (show PermIn a mid d1 d2 ∧ SortedIn ltW a mid d2 from by rw [hd2]; exact HP1.out)
                                have S2 := Lib.hid (show VS w0 g S d2 _ from by rw [hd2]; exact S1.out)
                                clear S1 hd2
                                by_cases hc2 : mid < en ∧ en < b
                                · first
                                    | (exfalso; omega)
                                    | (skip
                                       have z1 : (mid : Int) < (en : Int) := by omega
                                       have z2 : (en : Int) < (b : Int) := by omega
                                       have z1' : (mid : Int) < (mid : Int) + (m : Int) - (st : Int) := by omega
                                       have z2' : (mid : Int) + (m : Int) - (st : Int) < (b : Int) := by omega
                                       have z3' : decide ((mid : Int) < (mid : Int) + (m : Int) - (st : Int)) = true := by simp; omega
                                       have z4' : decide ((mid : Int) + (m : Int) - (st : Int) < (b : Int)) = true := by simp; omega
                                       have CS := Lib.hid (ih mid en b (by omega) S2.out (by rw [HP1.out.1.1, HP0.out.1]; exact hn) hc2.1 hc2.2 hb (sorted_perm_out HH.out.s3 HP1.out.1 (.inr (Nat.le_refl _))) (sorted_perm_out HH.out.s4 HP1.out.1 (.inr (by omega))))
                                       go_wp2_with fail
                                       try rw [HEN.out]
                                       refine CS.out.mono ?_
                                       rintro e w9 ⟨rfl, d3, h3, hp3, hs3⟩
                                       clear CS
                                       have S3 := Lib.hid h3
                                       clear h3
                                       go_wp2
                                       go_end0
                                       have HF := Halves.done swoW HH.out (by rw [HP0.out.1]; omega) (by omega) (by omega) HP1.out.1 HP1.out.2 hp3 hs3
                                       exact ⟨rfl, d3, S3.out, permIn_trans _ _ _ _ _ HP0.out HF.1, HF.2⟩)
                                · by_cases z1 : mid < en
                                  · first
                                      | (exfalso; omega)
                                      | (skip
                                         have HN2 := Lib.hid (show SortedIn ltW mid b d2 from by
                                           rcases (show en = mid ∨ en = b by omega) with e | e
                                           · have := sorted_perm_out HH.out.s4 HP1.out.1 (.inr (by omega))
                                             rw [e] at this
                                             exact this
                                           · have := sorted_perm_out HH.out.s3 HP1.out.1 (.inr (Nat.le_refl _))
                                             rw [e] at this
                                             exact this)
                                         have z1z : (mid : Int) < (en : Int) := by omega
                                         have z2z : ¬ (en : Int) < (b : Int) := by omega
                                         go_wp2
                                         go_end0
                                         have HF := Halves.done swoW HH.out (by rw [HP0.out.1]; omega) (by omega) (by omega) HP1.out.1 HP1.out.2 (permIn_refl _ _ _) HN2.out
                                         exact ⟨rfl, d2, S2.out, permIn_trans _ _ _ _ _ HP0.out HF.1, HF.2⟩)
                                  · first
                                      | (exfalso; omega)
                                      | (skip
                                         have HN2 := Lib.hid (show SortedIn ltW mid b d2 from by
                                           rcases (show en = mid ∨ en = b by omega) with e | e
                                           · have := sorted_perm_out HH.out.s4 HP1.out.1 (.inr (by omega))
                                             rw [e] at this
                                             exact this
                                           · have := sorted_perm_out HH.out.s3 HP1.out.1 (.inr (Nat.le_refl _))
                                             rw [e] at this
                                             exact this)
                                         have z1z : ¬ (mid : Int) < (en : Int) := by omega
                                         go_wp2
                                         go_end0
                                         have HF := Halves.done swoW HH.out (by rw [HP0.out.1]; omega) (by omega) (by omega) HP1.out.1 HP1.out.2 (permIn_refl _ _ _) HN2.out
                                         exact ⟨rfl, d2, S2.out, permIn_trans _ _ _ _ _ HP0.out HF.1, HF.2⟩))
                         · first
                             | (exfalso; omega)
                             | (skip
                                have y1z : ¬ (a : Int) < (st : Int) := by omega
                                have HP1 := Lib.hid (show PermIn a mid d1 d1 ∧ SortedIn ltW a mid d1 from ⟨permIn_refl _ _ _, by
                                  rcases (show st = a ∨ st = mid by omega) with e | e
                                  · have := HH.out.s2
                                    rw [e] at this
                                    exact this
                                  · have := HH.out.s1
                                    rw [e] at this
                                    exact this⟩)
                                obtain ⟨d2, hd2⟩ : ∃ x, x = d1 := ⟨_, rfl⟩
                                have HP1 := Lib.hid (show PermIn a mid d1 d2 ∧ SortedIn ltW a mid d2 from by rw [hd2]; exact HP1.out)
                                have S2 := Lib.hid (show VS w0 g S d2 _ from by rw [hd2]; exact S1.out)
                                clear S1 hd2
                                by_cases hc2 : mid < en ∧ en < b
                                · first
                                    | (exfalso; omega)
                                    | (skip
                                       have z1 : (mid : Int) < (en : Int) := by omega
                                       have z2 : (en : Int) < (b : Int) := by omega
                                       have z1' : (mid : Int) < (mid : Int) + (m : Int) - (st : Int) := by omega
                                       have z2' : (mid : Int) + (m : Int) - (st : Int) < (b : Int) := by omega
                                       have z3' : decide ((mid : Int) < (mid : Int) + (m : Int) - (st : Int)) = true := by simp; omega
                                       have z4' : decide ((mid : Int) + (m : Int) - (st : Int) < (b : Int)) = true := by simp; omega
                                       have CS := Lib.hid (ih mid en b (by omega) S2.out (by rw [HP1.out.1.1, HP0.out.1]; exact hn) hc2.1 hc2.2 hb (sorted_perm_out HH.out.s3 HP1.out.1 (.inr (Nat.le_refl _))) (sorted_perm_out HH.out.s4 HP1.out.1 (.inr (by omega))))
                                       go_wp2_with fail
                                       try rw [HEN.out]
                                       refine CS.out.mono ?_
                                       rintro e w9 ⟨rfl, d3, h3, hp3, hs3⟩
                                       clear CS
                                       have S3 := Lib.hid h3
                                       clear h3
                                       go_wp2
                                       go_end0
                                       have HF := Halves.done swoW HH.out (by rw [HP0.out.1]; omega) (by omega) (by omega) HP1.out.1 HP1.out.2 hp3 hs3
                                       exact ⟨rfl, d3, S3.out, permIn_trans _ _ _ _ _ HP0.out HF.1, HF.2⟩)
                                · by_cases z1 : mid < en
                                  · first
                                      | (exfalso; omega)
                                      | (skip
                                         have HN2 := Lib.hid (show SortedIn ltW mid b d2 from by
                                           rcases (show en = mid ∨ en = b by omega) with e | e
                                           · have := sorted_perm_out HH.out.s4 HP1.out.1 (.inr (by omega))
                                             rw [e] at this
                                             exact this
                                           · have := sorted_perm_out HH.out.s3 HP1.out.1 (.inr (Nat.le_refl _))
                                             rw [e] at this
                                             exact this)
                                         have z1z : (mid : Int) < (en : Int) := by omega
                                         have z2z : ¬ (en : Int) < (b : Int) := by omega
                                         go_wp2
                                         go_end0
                                         have HF := Halves.done swoW HH.out (by rw [HP0.out.1]; omega) (by omega) (by omega) HP1.out.1 HP1.out.2 (permIn_refl _ _ _) HN2.out
                                         exact ⟨rfl, d2, S2.out, permIn_trans _ _ _ _ _ HP0.out HF.1, HF.2⟩)
                                  · first
                                      | (exfalso; omega)
                                      | (skip
                                         have HN2 := Lib.hid (show SortedIn ltW mid b d2 from by
                                           rcases (show en = mid ∨ en = b by omega) with e | e
                                           · have := sorted_perm_out HH.out.s4 HP1.out.1 (.inr (by omega))
                                             rw [e] at this
                                             exact this
                                           · have := sorted_perm_out HH.out.s3 HP1.out.1 (.inr (Nat.le_refl _))
                                             rw [e] at this
                                             exact this)
                                         have z1z : ¬ (mid : Int) < (en : Int) := by omega
                                         go_wp2
                                         go_end0
                                         have HF := Halves.done swoW HH.out (by rw [HP0.out.1]; omega) (by omega) (by omega) HP1.out.1 HP1.out.2 (permIn_refl _ _ _) HN2.out
                                         exact ⟨rfl, d2, S2.out, permIn_trans _ _ _ _ _ HP0.out HF.1, HF.2⟩)))
end
end Go.Proofs.Ytbgificdilpdcaa
