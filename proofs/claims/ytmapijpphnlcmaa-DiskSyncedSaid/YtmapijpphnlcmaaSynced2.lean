/- DiskSynced: what was synced survives every crash, as long as the file is only appended to. No condition. -/
import Derived.Test.YtmapijpphnlcmaaOpen
import Derived.Test.YtmapijpphnlcmaaSynced
namespace Go.Proofs.Ytmapijpphnlcmaa
open Go.RowKit Go.Maps

theorem RdBB.at_ {F : Nat → Prop} {w : World} {v : Value} {l : List (List UInt8)} (h : RdBB F w v l) : ∃ A c, v = .slice A l.length c ∧ l.length ≤ c ∧ c ≤ maxLen := by
  obtain ⟨vs, _, h1, _⟩ := h
  obtain ⟨A, c, rfl, h2, h3, _⟩ := h1.now
  exact ⟨A, c, rfl, h2, h3⟩

set_option maxRecDepth 100000 in
theorem synced_out {w : World} {nm : List UInt8} {v1 v3 : Value} {l : List (List UInt8)} {a : Int} {picks : List Int} (h1 : RdBB (Ab w) w v1 l) (h3 : RdI (Ab w) w v3 picks)
    (h : nm = [] ∨ 100 < nm.length ∨ 30 < l.length ∨ a < 0 ∨ (l.length : Int) < a ∨ 100 < picks.length) :
    Calls Try.prog 3 #[strV nm, v1, .int .i64 a, v3] w fun e w' => e = .returned (.bool true) ∧ Upd (Ab w) w w' := by
  obtain ⟨A1, c1, rfl, hl1, hm1⟩ := h1.at_
  obtain ⟨A3, c3, rfl, hl3, hm3, _⟩ := h3.now
  clear h1 h3
  have fin : ∀ w1 : World, Upd NoF w w1 → Upd (Ab w) w w1 := fun w1 hu => hu.mono (fun _ _ h => h.elim)
  have FIN := Lib.hid fin
  clear fin
  generalize l.length = n at *
  generalize picks.length = m at *
  unfold maxLen at hm1 hm3
  by_cases q1 : nm = []
  · subst q1
    clear h
    go_enter Try.func3, Try.ntmps3
    go_wp2_with (go_at_call 10; refine (awake30 _).mono ?_; rintro e w1 ⟨rfl, hu⟩; have U := Lib.hid hu; clear hu)
    go_ret
    exact ⟨rfl, FIN.out _ U.out⟩
  have q1' : nm.isEmpty = false := by simpa using q1
  clear q1
  by_cases q2 : 100 < nm.length
  · clear h
    go_enter Try.func3, Try.ntmps3
    go_wp2_with (go_at_call 10; refine (awake30 _).mono ?_; rintro e w1 ⟨rfl, hu⟩; have U := Lib.hid hu; clear hu)
    go_ret
    exact ⟨rfl, FIN.out _ U.out⟩
  by_cases q3 : 30 < n
  · clear h
    go_enter Try.func3, Try.ntmps3
    go_wp2_with (go_at_call 10; refine (awake30 _).mono ?_; rintro e w1 ⟨rfl, hu⟩; have U := Lib.hid hu; clear hu)
    go_ret
    exact ⟨rfl, FIN.out _ U.out⟩
  by_cases q4 : a < 0
  · clear h
    go_enter Try.func3, Try.ntmps3
    go_wp2_with (go_at_call 10; refine (awake30 _).mono ?_; rintro e w1 ⟨rfl, hu⟩; have U := Lib.hid hu; clear hu)
    go_ret
    exact ⟨rfl, FIN.out _ U.out⟩
  by_cases q5 : (n : Int) < a
  · clear h
    go_enter Try.func3, Try.ntmps3
    go_wp2_with (go_at_call 10; refine (awake30 _).mono ?_; rintro e w1 ⟨rfl, hu⟩; have U := Lib.hid hu; clear hu)
    go_ret
    exact ⟨rfl, FIN.out _ U.out⟩
  by_cases q6 : 100 < m
  · clear h
    go_enter Try.func3, Try.ntmps3
    go_wp2_with (go_at_call 10; refine (awake30 _).mono ?_; rintro e w1 ⟨rfl, hu⟩; have U := Lib.hid hu; clear hu)
    go_ret
    exact ⟨rfl, FIN.out _ U.out⟩
  exfalso
  rcases h with h | h | h | h | h | h
  · subst h; cases q1'
  all_goals omega

theorem strV_append (x y : List UInt8) : Value.string ({ data := x.toArray } ++ { data := y.toArray }) = strV (x ++ y) := by
  have : (({ data := x.toArray } : ByteArray) ++ { data := y.toArray }) = ⟨(x ++ y).toArray⟩ := by
    apply ByteArray.ext
    rw [ByteArray.data_append]
    simp
  rw [this]

theorem Rd.take {w : World} {A : Option Addr} {n c m : Nat} {xs : List Value} (h : Rd w 1 (.slice A n c) n xs) (hm : m ≤ n) : Rd w 1 (.slice A m c) m (xs.take m) := by
  obtain ⟨A', c', e, hn, hc, hl, hx⟩ := h
  injection e with e1 _ e3
  subst e1 e3
  refine ⟨A, c, rfl, by omega, hc, by simp; omega, fun h0 => ?_⟩
  obtain ⟨g, o, rfl, hx'⟩ := hx (by omega)
  refine ⟨g, o, rfl, fun j u hu => hx' j u ?_⟩
  rw [List.getElem?_take] at hu
  split at hu
  · exact hu
  · cases hu

def SynRel (w : World) (nm : List UInt8) (l : List (List UInt8)) (a : Nat) (safe all i : Value) (wr : World) : Prop :=
  ∃ k : Nat, k ≤ l.length ∧ i = .int .i64 k ∧ safe = strV (synSafe l a k) ∧ all = strV (flat l k) ∧ Dk w NoF (w.heap.size + 1) (synS nm l a k) wr ∧ (flat l k).length ≤ 200 * k

set_option maxRecDepth 100000 in
set_option maxHeartbeats 4000000 in
theorem synced_in {w : World} {nm : List UInt8} {v1 v3 : Value} {l : List (List UInt8)} {a : Nat} {picks : List Int} (h1 : RdBB (Ab w) w v1 l) (h3 : RdI (Ab w) w v3 picks) (hp : ∀ z ∈ picks, -9223372036854775808 ≤ z ∧ z ≤ 9223372036854775807)
    (hn : nm ≠ []) (hnl : nm.length ≤ 100) (hll : l.length ≤ 30) (hal : a ≤ l.length) (hpl : picks.length ≤ 100) :
    Calls Try.prog 3 #[strV nm, v1, .int .i64 a, v3] w fun e w' => e = .returned (.bool true) ∧ Upd (Ab w) w w' := by
  obtain ⟨vs, hvl, hr1, hvs⟩ := h1
  obtain ⟨A1, c1, rfl, hl1, hm1, _, hx1⟩ := hr1.now
  obtain ⟨A3, c3, rfl, hl3, hm3, _⟩ := h3.now
  have hn' : nm.isEmpty = false := by simpa using hn
  have e2 : decide ((100 : Int) < (nm.length : Int)) = false := by simp; omega
  have e3 : decide ((30 : Int) < (l.length : Int)) = false := by simp; omega
  have e4 : decide ((a : Int) < 0) = false := by simp
  have e5 : decide ((l.length : Int) < (a : Int)) = false := by simp; omega
  have e6 : decide ((100 : Int) < (picks.length : Int)) = false := by simp; omega
  have e5' : decide (l.length < a) = false := by simp; omega
  have R1 := Lib.hid hr1
  have X1 := Lib.hid hx1
  have VS := Lib.hid hvs
  have VL := Lib.hid hvl
  have R3 := Lib.hid h3
  have HP := Lib.hid hp
  have HN := Lib.hid hn
  unfold maxLen at hm1 hm3
  have hml := Lib.hid (show nm.length ≤ maxLen by unfold maxLen; omega)
  clear hr1 hx1 hvs hvl h3 hp hn
  go_enter Try.func3, Try.ntmps3
  go_wp2_with fail
  refine (new_dk w).mono ?_
  rintro e w1 ⟨rfl, hd1⟩
  have D1 := Lib.hid hd1
  clear hd1
  go_wp2_with fail
  go_loopw [10, 11, 12] (fun safe all i wr => SynRel w nm l a safe all i wr) (fun _ _ i _ => l.length - (intOf i).toNat)
  case atStart => exact ⟨0, Nat.zero_le _, rfl, rfl, rfl, D1.out, by simp [flat_zero]⟩
  case round =>
    obtain ⟨k, hk, rfl, rfl, rfl, hd, hfl⟩ := hrel
    have D := Lib.hid hd
    have HFL := Lib.hid hfl
    clear hd hfl
    by_cases hlt : k < l.length
    · obtain ⟨b, hb⟩ : ∃ b, l[k]? = some b := ⟨_, List.getElem?_eq_getElem hlt⟩
      obtain ⟨u, hu, hub⟩ := VS.out k b hb
      have hA := X1.out (by omega)
      obtain ⟨g, o, rfl, hcell⟩ := hA
      have hUr : Upd (Ab w) w wr := D.out.out.mono (fun _ _ h => h.elim)
      have hc1 : wr.cell? ⟨g, o + k, none⟩ = some u := by
        obtain ⟨A', c', e1, _, _, _, hx⟩ := R1.out wr hUr
        obtain ⟨g', o', e2, hx⟩ := hx (by omega)
        injection e1 with e1
        rw [← e1] at e2
        injection e2 with e2
        injection e2 with e2 e3
        subst e2 e3
        exact hx k u hu
      obtain ⟨Au, cu, rfl, hlu, hmu, _⟩ := hub.now
      unfold maxLen at hmu
      have HUB := Lib.hid hub
      have HB := Lib.hid hb
      have HUr := Lib.hid hUr
      clear hub hb hu hcell hUr
      by_cases hbig : 200 < b.length
      · have q1 : decide ((200 : Int) < (b.length : Int)) = true := by simp; omega
        go_wp2_with (go_at_call 10; refine (awake30 _).mono ?_; rintro e w2 ⟨rfl, hu⟩; have U := Lib.hid hu; clear hu)
        go_ret
        exact ⟨rfl, HUr.out.ab U.out (fun k h => h.elim)⟩
      · have q1 : decide ((200 : Int) < (b.length : Int)) = false := by simp; omega
        have hsafe : ∀ k, synSafe l a (k + 1) = if k = a then flat l k else synSafe l a k := by
          intro k
          unfold synSafe
          by_cases h : k = a
          · subst h; simp
          · rw [if_neg h]
            by_cases h2 : a < k
            · rw [if_pos h2, if_pos (by omega)]
            · rw [if_neg h2, if_neg (by omega)]
        have HSF := Lib.hid hsafe
        have hfl : flat l (k + 1) = flat l k ++ b := flat_succ l k b HB.out
        have HF1 := Lib.hid hfl
        clear hsafe hfl
        have hstr : ∀ w2, Upd (Ab w) w w2 → (convert 27 9 (.slice Au b.length cu)).run Try.prog w2 = .ok (strV b) w2 := fun w2 hu => run_str (HUB.out w2 hu)
        have HS := Lib.hid hstr
        have hcl : ∀ w2, Upd (Ab w) w w2 → w2.cell? ⟨g, o + k, none⟩ = some (.slice Au b.length cu) := by
          intro w2 hu2
          obtain ⟨A', c', e1, _, _, _, hx⟩ := R1.out w2 hu2
          obtain ⟨g', o', e2, hx⟩ := hx (by omega)
          injection e1 with e1
          rw [← e1] at e2
          injection e2 with e2
          injection e2 with e2 e3
          subst e2 e3
          obtain ⟨u', hu', hub'⟩ := VS.out k b HB.out
          have h1 := hx k u' hu'
          obtain ⟨A'', c'', e1, _, _, _, hx''⟩ := R1.out wr HUr.out
          obtain ⟨g'', o'', e2, hx''⟩ := hx'' (by omega)
          injection e1 with e1
          rw [← e1] at e2
          injection e2 with e2
          injection e2 with e2 e3
          subst e2 e3
          have h2 := hx'' k u' hu'
          rw [hc1] at h2
          injection h2 with h2
          rw [h1, h2]
        have HCL := Lib.hid hcl
        clear hstr hcl
        have hfb : (flat l k).length ≤ 6000 := by have := HFL.out; omega
        by_cases hka : k = a
        · subst hka
          have q2 : ((k : Int) == (k : Int)) = true := beq_self_eq_true _
          obtain ⟨hsy, hap⟩ := syn_sync nm HN.out l k b HB.out
          have HSY := Lib.hid hsy
          have HAP := Lib.hid hap
          have hl2 := Lib.hid (syn_len2 nm HN.out l k)
          clear hsy hap
          by_cases hk0 : k = 0
          · have q3 : decide ((0 : Int) < (k : Int)) = false := by simp; omega
            have q3' : decide (0 < k) = false := by simp; omega
            have HK0 := Lib.hid hk0
            clear hk0
            go_wp2_with fail
            refine (sync_dk D.out nm hml.out).mono ?_
            rintro e ws ⟨rfl, hds⟩
            rw [HSY.out, if_pos HK0.out]
            have DS := Lib.hid hds
            have hUs : Upd (Ab w) w ws := hds.out.mono (fun _ _ h => h.elim)
            have hcs := HCL.out ws hUs
            have HUs := Lib.hid hUs
            clear hds hUs
            go_wp2_with fail
            refine (append_dk DS.out (Upd.refl NoF ws) nm hml.out _ b (fun F hF => RdF.upd' HUB.out HUs.out (fun i hi h => by simp only [Ab]; exact (hF i h).1.resolve_left (fun h => h))) (by have := hl2.out.1; omega) (by have := hl2.out.2; unfold maxLen; omega)).mono ?_
            rw [HAP.out]
            rintro e w2 ⟨rfl, hd2⟩
            have D2 := Lib.hid hd2
            have hU2 : Upd (Ab w) w w2 := hd2.out.mono (fun _ _ h => h.elim)
            have hc2 := HCL.out w2 hU2
            have hs2 := HS.out w2 hU2
            clear hd2 hU2
            go_wp2_with fail
            go_roundw
            case rel => exact ⟨k + 1, by omega, by go_num, by rw [HSF.out, if_pos rfl], by rw [HF1.out, strV_append], D2.out, by rw [HF1.out]; simp; have := HFL.out; omega⟩
            case measure => simp [intOf]; omega
          · have q3 : decide ((0 : Int) < (k : Int)) = true := by simp; omega
            have q3' : decide (0 < k) = true := by simp; omega
            have HK0 := Lib.hid hk0
            clear hk0
            go_wp2_with fail
            refine (sync_dk D.out nm hml.out).mono ?_
            rintro e ws ⟨rfl, hds⟩
            rw [HSY.out, if_neg HK0.out]
            have DS := Lib.hid hds
            have hUs : Upd (Ab w) w ws := hds.out.mono (fun _ _ h => h.elim)
            have hcs := HCL.out ws hUs
            have HUs := Lib.hid hUs
            clear hds hUs
            go_wp2_with fail
            refine (append_dk DS.out (Upd.refl NoF ws) nm hml.out _ b (fun F hF => RdF.upd' HUB.out HUs.out (fun i hi h => by simp only [Ab]; exact (hF i h).1.resolve_left (fun h => h))) (by have := hl2.out.1; omega) (by have := hl2.out.2; unfold maxLen; omega)).mono ?_
            rw [HAP.out]
            rintro e w2 ⟨rfl, hd2⟩
            have D2 := Lib.hid hd2
            have hU2 : Upd (Ab w) w w2 := hd2.out.mono (fun _ _ h => h.elim)
            have hc2 := HCL.out w2 hU2
            have hs2 := HS.out w2 hU2
            clear hd2 hU2
            go_wp2_with fail
            go_roundw
            case rel => exact ⟨k + 1, by omega, by go_num, by rw [HSF.out, if_pos rfl], by rw [HF1.out, strV_append], D2.out, by rw [HF1.out]; simp; have := HFL.out; omega⟩
            case measure => simp [intOf]; omega
        · have q2 : ((k : Int) == (a : Int)) = false := beq_eq_false_iff_ne.2 (by omega)
          have hap := syn_append nm HN.out l a k b HB.out hka
          have HAP := Lib.hid hap
          have HKA := Lib.hid hka
          have hl1 := Lib.hid (syn_len nm l a k)
          clear hap hka
          go_wp2_with fail
          refine (append_dk D.out (Upd.refl NoF wr) nm hml.out _ b (fun F hF => RdF.upd' HUB.out HUr.out (fun i hi h => by simp only [Ab]; exact (hF i h).1.resolve_left (fun h => h))) (by have := hl1.out.1; omega) (by have := hl1.out.2; unfold maxLen; omega)).mono ?_
          rw [HAP.out]
          rintro e w2 ⟨rfl, hd2⟩
          have D2 := Lib.hid hd2
          have hU2 : Upd (Ab w) w w2 := hd2.out.mono (fun _ _ h => h.elim)
          have hc2 := HCL.out w2 hU2
          have hs2 := HS.out w2 hU2
          clear hd2 hU2
          go_wp2_with fail
          go_roundw
          case rel => exact ⟨k + 1, by omega, by go_num, by rw [HSF.out, if_neg HKA.out], by rw [HF1.out, strV_append], D2.out, by rw [HF1.out]; simp; have := HFL.out; omega⟩
          case measure => simp [intOf]; omega
    · have hkn : k = l.length := by omega
      subst hkn
      have hcl := syn_crash_len nm l a l.length
      have HC := Lib.hid hcl
      have hfb : (flat l l.length).length ≤ 6000 := by have := HFL.out; omega
      clear hcl
      have hU0 : Upd (Ab w) w wr := D.out.out.mono (fun _ _ h => h.elim)
      have HU0 := Lib.hid hU0
      clear hU0
      go_wp2_with fail
      refine (crash_dk D.out (Upd.refl NoF wr) _ picks (fun F hF => RdF.upd' R3.out HU0.out (fun i hi h => by simp only [Ab]; exact (hF i h).1.resolve_left (fun h => h))) HP.out (by have := HC.out; omega)).mono ?_
      rintro e w2 ⟨rfl, hd2⟩
      have D2 := Lib.hid hd2
      clear hd2
      by_cases hl0 : l.length = 0
      · have q4 : ((l.length : Int) == 0) = true := by simp [List.length_eq_zero_iff.1 hl0]
        have hre := syn_end0 nm HN.out l a hl0 picks
        have HRE := Lib.hid hre
        clear hre hl0
        go_wp2_with fail
        refine (read_dk D2.out nm hml.out).mono ?_
        rw [HRE.out]
        rintro e w3 ⟨A, c, rfl, hnew⟩
        have D3 := Lib.hid (D2.out.upd hnew.2.2)
        clear hnew
        go_wp2_with fail
        refine (awake30 w3).mono ?_
        rintro e w4 ⟨rfl, hu4⟩
        have U4 := Lib.hid hu4
        clear hu4
        go_wp2_with fail
        go_ret
        exact ⟨rfl, (D3.out.out.mono (fun _ _ h => h.elim)).ab U4.out (fun _ h => h.elim)⟩
      · have q4 : ((l.length : Int) == 0) = false := beq_eq_false_iff_ne.2 (by omega)
        obtain ⟨c, hre, hr1, hr2, hr3⟩ := syn_end nm HN.out l a (by omega) picks
        have HRE := Lib.hid hre
        have HR3 := Lib.hid hr3
        clear hre hr3 hl0
        go_wp2_with fail
        refine (read_dk D2.out nm hml.out).mono ?_
        rw [HRE.out]
        rintro e w3 ⟨A, cc, rfl, hnew⟩
        have D3 := Lib.hid (D2.out.upd hnew.2.2)
        have hs3 : (convert 27 9 (.slice A (synSafe l a l.length).length cc)).run Try.prog w3 = .ok (strV (synSafe l a l.length)) w3 := by
          have h1 := hnew.1.rd.take hr1
          rw [← List.map_take, HR3.out] at h1
          exact run_str h1
        have hform : A = none ∧ c.length = 0 ∧ cc = 0 ∨ ∃ g, A = some ⟨g, 0, none⟩ ∧ c.length ≤ cc ∧ cc ≤ 9223372036854775807 := by
          rcases hnew.1.2 with ⟨e, h0⟩ | ⟨g, cap, cur, e, _, h1, h2, _⟩
          · injection e with e1 _ e3
            exact .inl ⟨e1, h0, e3⟩
          · injection e with e1 _ e3
            have h1' : c.length ≤ cap := h1
            unfold maxLen at h2
            exact .inr ⟨g, e1, by omega, by omega⟩
        clear hnew
        rcases hform with ⟨rfl, h0, rfl⟩ | ⟨g, rfl, hcc, hcm⟩
        · have hsf : synSafe l a l.length = [] := List.eq_nil_of_length_eq_zero (by omega)
          have hc0 : c = [] := List.eq_nil_of_length_eq_zero h0
          subst hc0
          have hs4 : (convert 27 9 (.slice none 0 0)).run Try.prog w3 = .ok (.string ⟨#[]⟩) w3 := by
            rw [hsf] at hs3
            exact hs3
          clear hs3 hr1 hr2 h0
          go_wp2_with fail
          refine (awake30 w3).mono ?_
          rintro e w4 ⟨rfl, hu4⟩
          have U4 := Lib.hid hu4
          clear hu4
          go_wp2_with fail
          go_ret
          exact ⟨rfl, (D3.out.out.mono (fun _ _ h => h.elim)).ab U4.out (fun _ h => h.elim)⟩
        · go_wp2_with fail
          refine (awake30 w3).mono ?_
          rintro e w4 ⟨rfl, hu4⟩
          have U4 := Lib.hid hu4
          clear hu4
          go_wp2_with fail
          go_ret
          exact ⟨rfl, (D3.out.out.mono (fun _ _ h => h.elim)).ab U4.out (fun _ h => h.elim)⟩

theorem synced_any {w : World} {nm : List UInt8} {v1 v3 : Value} {l : List (List UInt8)} {a : Int} {picks : List Int} (h1 : RdBB (Ab w) w v1 l) (h3 : RdI (Ab w) w v3 picks) (hp : ∀ z ∈ picks, -9223372036854775808 ≤ z ∧ z ≤ 9223372036854775807) :
    Calls Try.prog 3 #[strV nm, v1, .int .i64 a, v3] w fun e w' => e = .returned (.bool true) ∧ Upd (Ab w) w w' := by
  by_cases h : nm = [] ∨ 100 < nm.length ∨ 30 < l.length ∨ a < 0 ∨ (l.length : Int) < a ∨ 100 < picks.length
  · exact synced_out h1 h3 h
  · simp only [not_or] at h
    obtain ⟨g1, g2, g3, g4, g5, g6⟩ := h
    obtain ⟨m, rfl⟩ := Int.eq_ofNat_of_zero_le (show 0 ≤ a by omega)
    exact synced_in h1 h3 hp g1 (by omega) (by omega) (by omega) (by omega)
end Go.Proofs.Ytmapijpphnlcmaa
