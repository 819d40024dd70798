/- JournalParse returns true. No condition. -/
import Derived.Test.YtmapijpphnlcmaaJrC
import Derived.Test.YtmapijpphnlcmaaOpen
namespace Go.Proofs.Ytmapijpphnlcmaa
open Go.RowKit

theorem parseF_ge (bs : List UInt8) : ∀ (f : Nat) (l : List (List UInt8)) (a : Nat), a ≤ (parseF bs f l a).2
  | 0, l, a => Nat.le_refl _
  | f + 1, l, a => by
    rw [parseF]
    cases hs : parseStep bs a l.length with
    | none => exact Nat.le_refl _
    | some x =>
      obtain ⟨r, a'⟩ := x
      have := (parseStep_le hs).1
      have := parseF_ge bs f (l ++ [r]) a'
      simp only
      omega

theorem drop_take_part (bs : List UInt8) (n a k : Nat) (h : a + k ≤ n) : ((bs.take n).drop a).take k = (bs.drop a).take k := by
  rw [List.drop_take, List.take_take]
  congr 1
  omega

theorem parseStep_cut {bs : List UInt8} {n a i : Nat} {r : List UInt8} {a' : Nat} (h : parseStep bs a i = some (r, a')) (h1 : a' ≤ n) (h2 : n ≤ bs.length) : parseStep (bs.take n) a i = some (r, a') := by
  obtain ⟨e1, e2, e3, e4⟩ := parseStep_le h
  have hl : (bs.take n).length = n := by simp; omega
  unfold parseStep at h ⊢
  rw [hl]
  have d1 : ((bs.take n).drop a).take 4 = (bs.drop a).take 4 := drop_take_part bs n a 4 (by omega)
  rw [d1, drop_take_part bs n (a + 4) 8 (by omega)]
  by_cases c1 : a + 12 ≤ bs.length
  · rw [if_pos c1] at h
    rw [if_pos (by omega)]
    by_cases c2 : be ((bs.drop a).take 4) ≤ 65536 ∧ a + 12 + be ((bs.drop a).take 4) ≤ bs.length
    · rw [if_pos c2] at h
      by_cases c3 : (bs.drop (a + 4)).take 8 = jsumS i ((bs.drop (a + 12)).take (be ((bs.drop a).take 4)))
      · rw [if_pos c3] at h
        have h' := Option.some.inj h
        have hr : (bs.drop (a + 12)).take (be ((bs.drop a).take 4)) = r := (Prod.mk.inj h').1
        have ha : a + 12 + be ((bs.drop a).take 4) = a' := (Prod.mk.inj h').2
        rw [if_pos ⟨c2.1, by omega⟩, drop_take_part bs n (a + 12) _ (by omega), if_pos c3]
        exact h
      · rw [if_neg c3] at h; cases h
    · rw [if_neg c2] at h; cases h
  · rw [if_neg c1] at h; cases h

theorem parse_cut_go (bs : List UInt8) (L : List (List UInt8)) (n : Nat) (hn : n ≤ bs.length) : ∀ (f : Nat) (l : List (List UInt8)) (a : Nat), PAt (bs.take n) l a → parseF bs f l a = (L, n) → a ≤ bs.length → bs.length < f + a → parseS (bs.take n) = (L, n)
  | 0, l, a, _, _, h1, h2 => by omega
  | f + 1, l, a, hP, h, h1, h2 => by
    rw [parseF] at h
    cases hs : parseStep bs a l.length with
    | none =>
      rw [hs] at h
      obtain ⟨rfl, rfl⟩ := Prod.mk.inj h
      exact hP.stop (ps_short (by simp; omega))
    | some x =>
      obtain ⟨r, a'⟩ := x
      rw [hs] at h
      simp only at h
      obtain ⟨e1, e2, _⟩ := parseStep_le hs
      have hge := parseF_ge bs f (l ++ [r]) a'
      rw [h] at hge
      exact parse_cut_go bs L n hn f (l ++ [r]) a' (hP.next (parseStep_cut hs hge hn)) h e2 (by omega)
/-- The accepted part reads the same. -/
theorem parse_cut (bs : List UInt8) : parseS (bs.take (parseS bs).2) = parseS bs := by
  have h := (parse_recs bs).2.2
  exact parse_cut_go bs (parseS bs).1 (parseS bs).2 h (bs.length + 1) [] 0 (PAt.start _) rfl (by omega) (by omega)

set_option maxRecDepth 100000 in
set_option maxHeartbeats 4000000 in
theorem jparse_law {w : World} {v : Value} {bs : List UInt8} (h : RdB (Ab w) w v bs) : Calls Try.prog 7 #[v] w fun e w' => e = .returned (.bool true) ∧ Upd NoF w w' := by
  obtain ⟨A, c, rfl, hlc, hcm, _⟩ := h.now
  unfold maxLen at hcm
  by_cases hbig : 5000 < bs.length
  · have t1 : decide ((5000 : Int) < (bs.length : Int)) = true := by simp; omega
    have t1' : decide (5000 < bs.length) = true := by simp; omega
    clear h
    go_enter Try.func7, Try.ntmps7
    go_wp2_with fail
    refine (awake31 w).mono ?_
    rintro e w1 ⟨rfl, hu1⟩
    go_wp2
    go_ret
    exact ⟨rfl, hu1⟩
  · have t1 : decide ((5000 : Int) < (bs.length : Int)) = false := by simp; omega
    have t1' : decide (5000 < bs.length) = false := by simp; omega
    have HR := Lib.hid (show ∀ w', Upd NoF w w' → Rd w' 1 (.slice A bs.length c) bs.length (bs.map byteV) from fun w' hu => h.now.keep hu)
    obtain ⟨p, hp⟩ : ∃ p, parseS bs = p := ⟨_, rfl⟩
    have hpc := parse_cut bs
    have hpr := (parse_recs bs).2.2
    rw [hp] at hpc hpr
    obtain ⟨l, n⟩ := p
    simp only at hpc hpr
    have HP := Lib.hid hp
    have HC := Lib.hid hpc
    have C1 := Lib.hid (show ∀ w', Upd NoF w w' → Calls Try.prog 25 #[.slice A bs.length c] w' (ParsePost w' bs) from fun w' hu => jParse_any (HR.out w' hu) (by omega))
    have C2 := Lib.hid (show ∀ w', Upd NoF w w' → Calls Try.prog 26 #[.slice A bs.length c] w' (ParsePost w' bs) from fun w' hu => rParse_any (HR.out w' hu) (by omega))
    have C3 := Lib.hid (show ∀ w', Upd NoF w w' → Calls Try.prog 25 #[.slice A n c] w' (ParsePost w' (bs.take n)) from fun w' hu => by
      have hl : (bs.take n).length = n := by simp; omega
      have h1 := (HR.out w' hu).upto (k := n) hpr
      have h2 : Rd w' 1 (.slice A n c) (bs.take n).length ((bs.take n).map byteV) := by
        rw [hl, List.map_take]
        simpa using h1
      exact jParse_any h2 (by omega))
    have PPX := Lib.hid (show ∀ w' bs', parseS bs' = (l, n) → ParsePost w' bs' = fun e w'' => ∃ v F, e = .returned (.tuple #[v, .int .i64 (n : Int)]) ∧ RecsAt w'' v l F ∧ (∀ k, F k → w'.heap.size ≤ k) ∧ Upd NoF w' w'' from fun w' bs' hb => by
      unfold ParsePost
      rw [hb])
    have s1 : decide ((n : Int) < 0) = false := by simp
    have s2 : decide ((bs.length : Int) < (n : Int)) = false := by simp; omega
    have s2' : decide (bs.length < n) = false := by simp; omega
    have s3 : (0 : Int) ≤ n := by omega
    have s4 : (n : Int) ≤ c := by omega
    have hl1 : (l == l) = true := by simp
    clear h hp hpc
    go_enter Try.func7, Try.ntmps7
    go_wp2_with fail
    refine (C1.out w (Upd.refl _ _)).mono ?_
    rw [PPX.out w bs HP.out]
    rintro e w1 ⟨v1, F1, rfl, hr1, -, hu1⟩
    have R1 := Lib.hid hr1.rows
    have U1 := Lib.hid hu1
    clear hr1 hu1
    go_wp2_with fail
    refine (C2.out w1 U1.out).mono ?_
    rw [PPX.out w1 bs HP.out]
    rintro e w2 ⟨v2, F2, rfl, hr2, -, hu2⟩
    have R2 := Lib.hid hr2.rows
    have U2 := Lib.hid (U1.out.trans hu2 (fun _ _ h => h))
    have R1' := Lib.hid (R1.out.keep hu2)
    clear hr2 hu2
    go_wp2_with fail
    refine (rows_any R1'.out R2.out).mono ?_
    rw [hl1]
    rintro e w3 ⟨rfl, hu3⟩
    have U3 := Lib.hid (U2.out.trans hu3 (fun _ _ h => h))
    have R13 := Lib.hid (R1'.out.keep hu3)
    clear hu3
    go_wp2_with fail
    refine (C3.out w3 U3.out).mono ?_
    rw [PPX.out w3 (bs.take n) HC.out]
    rintro e w4 ⟨v4, F4, rfl, hr4, -, hu4⟩
    have R4 := Lib.hid hr4.rows
    have U4 := Lib.hid (U3.out.trans hu4 (fun _ _ h => h))
    have R14 := Lib.hid (R13.out.keep hu4)
    clear hr4 hu4
    go_wp2_with fail
    refine (rows_any R4.out R14.out).mono ?_
    rw [hl1]
    rintro e w5 ⟨rfl, hu5⟩
    have U5 := Lib.hid (U4.out.trans hu5 (fun _ _ h => h))
    clear hu5
    go_wp2_with fail
    refine (awake31 w5).mono ?_
    rintro e w6 ⟨rfl, hu6⟩
    have U6 := Lib.hid (U5.out.trans hu6 (fun _ _ h => h))
    clear hu6
    go_wp2
    go_ret
    exact ⟨rfl, U6.out⟩
end Go.Proofs.Ytmapijpphnlcmaa
