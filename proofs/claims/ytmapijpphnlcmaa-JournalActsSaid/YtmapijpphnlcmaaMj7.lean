/- JournalActs, the walk. Conditions: those that each theorem states. -/
import Derived.Test.YtmapijpphnlcmaaMj6
namespace Go.Proofs.Ytmapijpphnlcmaa
section
open Go.RowKit

def JaRel (w : World) (d m : Nat) (n : Nat) (j k i : Value) (wr : World) : Prop :=
  ∃ (q : Nat) (s : DSt) (L : List (List UInt8)) (safe : Nat) (dead : Bool) (jn kn : Nat), q ≤ n ∧ j = ptrV jn ∧ k = ptrV kn ∧ i = .int .i64 q ∧ QJ w d m s jn kn [106] L safe dead wr ∧ Bnd s (4 * q) ∧ L.length ≤ 12001 * q

section
variable {w0 w : World} {d m : Nat} {s : DSt} {j k : Nat} {nm : List UInt8} {l : List (List UInt8)} {safe : Nat} {dead : Bool}
theorem QJ.look (h : QJ w0 d m s j k nm l safe dead w) : ∃ A c, w.cell? ⟨k, 2, none⟩ = some (.slice A l.length c) ∧ w.cell? ⟨k, 3, none⟩ = some (.int .i64 safe) ∧ RowsRd w (.slice A l.length c) l := by
  obtain ⟨F, G, F2, G2, h1, h2, _⟩ := h
  obtain ⟨rv, vs, a1, a2, _⟩ := h2.2.1
  obtain ⟨A, c, rfl, _⟩ := RecsAt.form ⟨vs, a2, rfl⟩
  exact ⟨A, c, a1.cell 2, a1.cell 3, RecsAt.rows ⟨vs, a2, rfl⟩⟩
theorem QJ.records (h : QJ w0 d m s j k nm l safe dead w) : Calls Try.prog 37 #[ptrV j] w (RecsPost w l) := by
  obtain ⟨F, G, F2, G2, h1, _⟩ := h
  exact jRecords_any h1.2.1
theorem QJ.synced (h : QJ w0 d m s j k nm l safe dead w) : Calls Try.prog 38 #[ptrV j] w fun e w' => e = .returned (.int .i64 (safe : Int)) ∧ w = w' := by
  obtain ⟨F, G, F2, G2, h1, _⟩ := h
  exact jSynced_any h1.2.1
theorem rows_same {l : List (List UInt8)} {v2 : Value} : ∀ w6 v6, RowsRd w6 v6 l → RowsRd w6 v2 l → Calls Try.prog 27 #[v6, v2] w6 fun e w' => e = .returned (.bool true) ∧ Upd NoF w6 w' := fun w6 v6 h1 h2 => by
  have := rows_any h1 h2
  rw [show (l == l) = true by simp] at this
  exact this
end

set_option maxRecDepth 100000 in
set_option maxHeartbeats 16000000 in
theorem jacts_law {w : World} {v : Value} {l : List ActJ} (h : RdActsJ w v l) : Calls Try.prog 8 #[v] w fun e w' => e = .returned (.bool true) ∧ Upd NoF w w' := by
  obtain ⟨A, c, rfl, hn, hc, hx⟩ := h.form
  unfold maxLen at hc
  have HX := Lib.hid hx
  have HA := Lib.hid h.2
  clear h hx
  by_cases hbig : 80 < l.length
  · have t1 : decide ((80 : Int) < (l.length : Int)) = true := by simp; omega
    have t1' : decide (80 < l.length) = true := by simp; omega
    go_enter Try.func8, Try.ntmps8
    go_wp2_with fail
    refine (awake31 w).mono ?_
    rintro e w1 ⟨rfl, hu1⟩
    go_wp2
    go_ret
    exact ⟨rfl, hu1⟩
  · have t1 : decide ((80 : Int) < (l.length : Int)) = false := by simp; omega
    have t1' : decide (80 < l.length) = false := by simp; omega
    go_enter Try.func8, Try.ntmps8
    go_wp2_with fail
    refine (new_dk w).mono ?_
    rintro e w1 ⟨rfl, hd1⟩
    have QN := Lib.hid (qd_new hd1)
    clear hd1
    generalize w.heap.size + 1 = d at QN ⊢
    obtain ⟨m, hm⟩ : ∃ m, w1.heap.size = m := ⟨_, rfl⟩
    rw [hm] at QN
    have CO := Lib.hid (QN.out.open_ok (nm' := [106]) (by decide) (by decide) aw_open0)
    go_wp2_with fail

    clear hm
    refine CO.out.mono ?_
    rintro e w2 ⟨j0, rfl, hu2, hc2⟩
    have C2 := Lib.hid hc2
    clear hu2 hc2
    go_wp2_with fail
    refine C2.out.mono ?_
    rintro e w3 ⟨k0, rfl, hq3⟩
    have Q3 := Lib.hid hq3
    clear hq3
    go_wp2
    go_loopw [5, 7, 9] (fun j k i wr => JaRel w d m l.length j k i wr) (fun _ _ i _ => l.length - (intOf i).toNat)
    case atStart => exact ⟨0, sNew, [], _, false, j0, k0, Nat.zero_le _, rfl, rfl, rfl, Q3.out, ⟨fun p hp => (by cases hp), Nat.zero_le _⟩, by simp⟩
    case round =>
      obtain ⟨q, s, L, safe, dead, jn, kn, hq, rfl, rfl, rfl, hQ, hB, hL⟩ := hrel
      obtain ⟨wo, rfl⟩ : ∃ wo : World, wo = wr := ⟨_, rfl⟩
      have QW := Lib.hid hQ
      have HDU := Lib.hid hQ.durs
      clear hQ
      by_cases hlt : q < l.length
      · have s1 : decide ((q : Int) < l.length) = true := by simpa using hlt
        obtain ⟨g, o, rfl, hcell⟩ := HX.out (by omega)
        obtain ⟨a, ha⟩ : ∃ a, l[q]? = some a := ⟨_, List.getElem?_eq_getElem hlt⟩
        have hao := HA.out a (List.mem_of_getElem? ha)
        obtain ⟨kind, dv, data, n, pv, picks⟩ := a
        obtain ⟨Ad, cd, e0, _⟩ := hao.data.now
        obtain ⟨Ap, cp, e1, _⟩ := hao.picks.now
        simp only at e0 e1
        subst e0 e1
        obtain ⟨p0, p1, p2, p3⟩ := hcell q _ ha
        simp only at p0 p1 p2 p3
        have a0 := QW.out.out.cell p0 (fun h => h)
        have a1 := QW.out.out.cell p1 (fun h => h)
        have a2 := QW.out.out.cell p2 (fun h => h)
        have a3 := QW.out.out.cell p3 (fun h => h)
        have s2 : (0:Int) ≤ q := by omega
        have s3 : (q:Int) < l.length := by omega
        have HAO := Lib.hid hao
        clear hcell ha hao p0 p1 p2 p3
        have hq80 : q < 80 := by omega
        have hfl : s.fs.length ≤ 400 := by have := hB.2; omega
        have hgl := getF_len hB [106]
        have hQz := QW.out.out.size
        by_cases hd300 : 300 < data.length
        · have u1 : decide ((300 : Int) < (data.length : Int)) = true := by simp; omega
          have u1' : decide (300 < data.length) = true := by simp; omega
          go_wp2_with fail
          refine (awake31 _).mono ?_
          rintro e w4 ⟨rfl, hu4⟩
          go_wp2
          go_ret
          exact ⟨rfl, (QW.out.out.alloc _).trans hu4 (fun _ _ h => h)⟩
        · have u1 : decide ((300 : Int) < (data.length : Int)) = false := by simp; omega
          have u1' : decide (300 < data.length) = false := by simp; omega
          by_cases hp20 : 20 < picks.length
          · have u2 : decide ((20 : Int) < (picks.length : Int)) = true := by simp; omega
            have u2' : decide (20 < picks.length) = true := by simp; omega
            go_wp2_with fail
            refine (awake31 _).mono ?_
            rintro e w4 ⟨rfl, hu4⟩
            go_wp2
            go_ret
            exact ⟨rfl, (QW.out.out.alloc _).trans hu4 (fun _ _ h => h)⟩
          · have u2 : decide ((20 : Int) < (picks.length : Int)) = false := by simp; omega
            have u2' : decide (20 < picks.length) = false := by simp; omega
            obtain ⟨wx, hwx⟩ : ∃ wx, wx = wo.alloc (.cells #[.int .i64 kind, .slice Ad data.length cd, .int .i64 n, .slice Ap picks.length cp] 60) := ⟨_, rfl⟩
            have BX := Lib.hid (show Blk wx wo.heap.size 60 #[.int .i64 kind, .slice Ad data.length cd, .int .i64 n, .slice Ap picks.length cp] ∧ Upd NoF wo wx from by rw [hwx]; exact ⟨Blk.new wo _ _, (Upd.refl NoF wo).alloc _⟩)
            have HWX := Lib.hid hwx
            clear hwx
            by_cases k0 : kind = 0
            · subst k0
              have hbd := bnd_append hB [106] (frameS L.length data) (by simp [frameS, beB_len, jsumS_len]; omega)
              have CAP := Lib.hid (QW.out.append (wx := wx.drew) BX.out.2.drew (by decide) (by decide) HAO.out.data (by omega) (by omega) (by omega))
              simp only at CAP
              obtain ⟨r, hr⟩ : ∃ r, sJAppend s [106] L dead data = r := ⟨_, rfl⟩
              have hrb : Bnd r.2.1 (4 * q + 1) ∧ r.2.2.1.length ≤ L.length + 1 := by
                rw [← hr]
                unfold sJAppend
                split
                · exact ⟨hB.mono (by omega), by simp⟩
                · split
                  · exact ⟨hB.mono (by omega), by simp⟩
                  · refine ⟨hbd, ?_⟩
                    simp only
                    split <;> simp
              rw [hr] at CAP
              obtain ⟨code, s1', L1, dead1⟩ := r
              simp only at CAP hrb
              clear hr hbd
              go_wp2_with fail
              rw [← HWX.out]
              have x1 : wx.cell? ⟨wo.heap.size, 1, none⟩ = some (.slice Ad data.length cd) := BX.out.1.cell 1
              go_region_held3 (fun w' => w'.cell? ⟨wo.heap.size, 1, none⟩ = some (.slice Ad data.length cd))
                (first | exact x1 | exact y1 | exact z1)
                (first
                  | (go_at_call 30; refine CAP.out.mono ?_; rintro e w4 ⟨rfl, hk4, hc4⟩; have y1 : w4.cell? ⟨wo.heap.size, 1, none⟩ = some (.slice Ad data.length cd) := (hk4.blk BX.out.1.drew (Nat.le_refl _)).cell 1; have C4 := Lib.hid hc4; clear hk4 hc4)
                  | (go_at_call 31; refine C4.out.mono ?_; rintro e w5 ⟨rfl, hk5, hq5⟩; have z1 : w5.cell? ⟨wo.heap.size, 1, none⟩ = some (.slice Ad data.length cd) := (hk5.blk BX.out.1.drew (Nat.le_refl _)).cell 1; have Q5 := Lib.hid hq5; clear hk5 hq5))
              clear x1 y1 z1
              obtain ⟨A2, c2, k2, k3, hrow2⟩ := Q5.out.look
              have LK := Lib.hid hrow2
              have CRC := Lib.hid ((Q5.out.upd ((Upd.refl NoF w5).drew)).records)
              have CRW := Lib.hid (rows_same (l := L1) (v2 := .slice A2 L1.length c2))
              have SYN := Lib.hid (show ∀ w7, Upd NoF w5 w7 → Calls Try.prog 38 #[ptrV jn] w7 fun e w' => e = .returned (.int .i64 (safe : Int)) ∧ w7 = w' from fun w7 h7 => (Q5.out.upd h7).synced)
              clear hrow2
              go_wp2
              go_region_held3 (fun w' => w'.cell? ⟨kn, 2, none⟩ = some (.slice A2 L1.length c2) ∧ w'.cell? ⟨kn, 3, none⟩ = some (.int .i64 (safe : Int)))
                (first | exact ⟨k2, k3⟩ | exact ⟨r2, r3⟩ | exact ⟨o2, o3⟩)
                (first
                  | (go_at_call 37; refine CRC.out.mono ?_; rintro e w6 ⟨v6, F6, rfl, h6, -, hu6⟩; have hu6' : Upd NoF w5 w6 := ((Upd.refl NoF w5).drew).trans hu6 (fun _ _ h => h); have r2 := hu6'.cell k2 (fun h => h); have r3 := hu6'.cell k3 (fun h => h); have R6 := Lib.hid h6.rows; have K6 := Lib.hid (LK.out.keep hu6'); have U6 := Lib.hid hu6'; clear h6 hu6 hu6')
                  | (go_at_call 27; refine (CRW.out w6 v6 R6.out K6.out).mono ?_; rintro e w7 ⟨rfl, hu7⟩; have o2 := hu7.cell r2 (fun h => h); have o3 := hu7.cell r3 (fun h => h); have U7 := Lib.hid (U6.out.trans hu7 (fun _ _ h => h)); clear hu7)
                  | (go_at_call 38; refine (SYN.out w7 U7.out).mono ?_; rintro e w' ⟨rfl, rfl⟩))
              clear k2 k3 r2 r3 o2 o3
              go_wp2
              go_roundw
              case rel => exact ⟨q + 1, _, _, _, _, jn, kn, by omega, rfl, rfl, by go_num, Q5.out.upd U7.out, hrb.1.mono (by omega), by omega⟩
              case measure => simp [intOf]; omega
            · have n0 : (kind == 0) = false := by simpa using k0
              by_cases k1 : kind = 1
              · subst k1
                have hbd := bnd_sync hB [106]
                have CS := Lib.hid (QW.out.sync (wx := wx) BX.out.2 (by decide) (by decide))
                obtain ⟨r, hr⟩ : ∃ r, sJSync s [106] L safe dead = r := ⟨_, rfl⟩
                have hrb : Bnd r.2.1 (4 * q + 1) := by
                  rw [← hr]
                  unfold sJSync
                  split
                  · exact hB.mono (by omega)
                  · split
                    · exact hB.mono (by omega)
                    · exact hbd
                rw [hr] at CS
                obtain ⟨code, s1', safe1, dead1⟩ := r
                simp only at CS hrb
                clear hr hbd
                go_wp2_with fail
                rw [← HWX.out]
                refine CS.out.mono ?_
                rintro e w4 ⟨rfl, -, hc4⟩
                have C4 := Lib.hid hc4
                clear hc4
                go_wp2_with fail
                refine C4.out.mono ?_
                rintro e w5 ⟨rfl, -, hq5⟩
                have Q5 := Lib.hid hq5
                clear hq5
                obtain ⟨A2, c2, k2, k3, hrow2⟩ := Q5.out.look
                have LK := Lib.hid hrow2
                have CRC := Lib.hid ((Q5.out.upd ((Upd.refl NoF w5).drew)).records)
                have CRW := Lib.hid (rows_same (l := L) (v2 := .slice A2 L.length c2))
                have SYN := Lib.hid (show ∀ w7, Upd NoF w5 w7 → Calls Try.prog 38 #[ptrV jn] w7 fun e w' => e = .returned (.int .i64 (safe1 : Int)) ∧ w7 = w' from fun w7 h7 => (Q5.out.upd h7).synced)
                clear hrow2
                go_wp2
                go_region_held3 (fun w' => w'.cell? ⟨kn, 2, none⟩ = some (.slice A2 L.length c2) ∧ w'.cell? ⟨kn, 3, none⟩ = some (.int .i64 (safe1 : Int)))
                  (first | exact ⟨k2, k3⟩ | exact ⟨r2, r3⟩ | exact ⟨o2, o3⟩)
                  (first
                    | (go_at_call 37; refine CRC.out.mono ?_; rintro e w6 ⟨v6, F6, rfl, h6, -, hu6⟩; have hu6' : Upd NoF w5 w6 := ((Upd.refl NoF w5).drew).trans hu6 (fun _ _ h => h); have r2 := hu6'.cell k2 (fun h => h); have r3 := hu6'.cell k3 (fun h => h); have R6 := Lib.hid h6.rows; have K6 := Lib.hid (LK.out.keep hu6'); have U6 := Lib.hid hu6'; clear h6 hu6 hu6')
                    | (go_at_call 27; refine (CRW.out w6 v6 R6.out K6.out).mono ?_; rintro e w7 ⟨rfl, hu7⟩; have o2 := hu7.cell r2 (fun h => h); have o3 := hu7.cell r3 (fun h => h); have U7 := Lib.hid (U6.out.trans hu7 (fun _ _ h => h)); clear hu7)
                    | (go_at_call 38; refine (SYN.out w7 U7.out).mono ?_; rintro e w' ⟨rfl, rfl⟩))
                clear k2 k3 r2 r3 o2 o3
                go_wp2
                go_roundw
                case rel => exact ⟨q + 1, _, _, _, _, jn, kn, by omega, rfl, rfl, by go_num, Q5.out.upd U7.out, hrb.mono (by omega), by omega⟩
                case measure => simp [intOf]; omega
              · have n1 : (kind == 1) = false := by simpa using k1
                by_cases k3 : kind = 3
                · subst k3
                  have CS := Lib.hid (QW.out.arm (wx := wx) BX.out.2 n HAO.out.nb.1 HAO.out.nb.2)
                  have x2 : wx.cell? ⟨wo.heap.size, 2, none⟩ = some (.int .i64 n) := BX.out.1.cell 2
                  have hrb : Bnd (sArm s n) (4 * q) := hB
                  go_wp2_with fail
                  rw [← HWX.out]
                  refine CS.out.mono ?_
                  rintro e w4 ⟨rfl, hk4, hc4⟩
                  have y2 : w4.cell? ⟨wo.heap.size, 2, none⟩ = some (.int .i64 n) := (hk4.blk BX.out.1 (Nat.le_refl _)).cell 2
                  have C4 := Lib.hid hc4
                  clear hc4 hk4 x2
                  go_wp2_with fail
                  refine C4.out.mono ?_
                  rintro e w5 ⟨rfl, -, hq5⟩
                  have Q5 := Lib.hid hq5
                  clear hq5 y2
                  obtain ⟨A2, c2, k2, k3, hrow2⟩ := Q5.out.look
                  have LK := Lib.hid hrow2
                  have CRC := Lib.hid ((Q5.out.upd ((Upd.refl NoF w5).drew)).records)
                  have CRW := Lib.hid (rows_same (l := L) (v2 := .slice A2 L.length c2))
                  have SYN := Lib.hid (show ∀ w7, Upd NoF w5 w7 → Calls Try.prog 38 #[ptrV jn] w7 fun e w' => e = .returned (.int .i64 (safe : Int)) ∧ w7 = w' from fun w7 h7 => (Q5.out.upd h7).synced)
                  clear hrow2
                  go_wp2
                  go_region_held3 (fun w' => w'.cell? ⟨kn, 2, none⟩ = some (.slice A2 L.length c2) ∧ w'.cell? ⟨kn, 3, none⟩ = some (.int .i64 (safe : Int)))
                    (first | exact ⟨k2, k3⟩ | exact ⟨r2, r3⟩ | exact ⟨o2, o3⟩)
                    (first
                      | (go_at_call 37; refine CRC.out.mono ?_; rintro e w6 ⟨v6, F6, rfl, h6, -, hu6⟩; have hu6' : Upd NoF w5 w6 := ((Upd.refl NoF w5).drew).trans hu6 (fun _ _ h => h); have r2 := hu6'.cell k2 (fun h => h); have r3 := hu6'.cell k3 (fun h => h); have R6 := Lib.hid h6.rows; have K6 := Lib.hid (LK.out.keep hu6'); have U6 := Lib.hid hu6'; clear h6 hu6 hu6')
                      | (go_at_call 27; refine (CRW.out w6 v6 R6.out K6.out).mono ?_; rintro e w7 ⟨rfl, hu7⟩; have o2 := hu7.cell r2 (fun h => h); have o3 := hu7.cell r3 (fun h => h); have U7 := Lib.hid (U6.out.trans hu7 (fun _ _ h => h)); clear hu7)
                      | (go_at_call 38; refine (SYN.out w7 U7.out).mono ?_; rintro e w' ⟨rfl, rfl⟩))
                  clear k2 k3 r2 r3 o2 o3
                  go_wp2
                  go_roundw
                  case rel => exact ⟨q + 1, _, _, _, _, jn, kn, by omega, rfl, rfl, by go_num, Q5.out.upd U7.out, hrb.mono (by omega), by omega⟩
                  case measure => simp [intOf]; omega
                · have n3 : (kind == 3) = false := by simpa using k3
                  by_cases k4 : kind = 4
                  · subst k4
                    have hrb := bnd_append hB [106] data (by omega)
                    have CAP := Lib.hid (QW.out.raw (wx := wx.drew) BX.out.2.drew [106] (by decide) HAO.out.data (by simp only; omega) (by omega))
                    simp only at CAP
                    go_wp2_with fail
                    rw [← HWX.out]
                    have x1 : wx.cell? ⟨wo.heap.size, 1, none⟩ = some (.slice Ad data.length cd) := BX.out.1.cell 1
                    go_region_held3 (fun w' => w'.cell? ⟨wo.heap.size, 1, none⟩ = some (.slice Ad data.length cd))
                      (first | exact x1 | exact y1 | exact z1)
                      (first
                        | (go_at_call 13; refine CAP.out.mono ?_; rintro e w4 ⟨rfl, hk4, hc4⟩; have y1 : w4.cell? ⟨wo.heap.size, 1, none⟩ = some (.slice Ad data.length cd) := (hk4.blk BX.out.1.drew (Nat.le_refl _)).cell 1; have C4 := Lib.hid hc4; clear hk4 hc4)
                        | (go_at_call 35; refine C4.out.mono ?_; rintro e w5 ⟨rfl, hk5, hq5⟩; have z1 : w5.cell? ⟨wo.heap.size, 1, none⟩ = some (.slice Ad data.length cd) := (hk5.blk BX.out.1.drew (Nat.le_refl _)).cell 1; have Q5 := Lib.hid hq5; clear hk5 hq5))
                    clear x1 y1 z1
                    obtain ⟨A2, c2, k2, k3, hrow2⟩ := Q5.out.look
                    have LK := Lib.hid hrow2
                    have CRC := Lib.hid ((Q5.out.upd ((Upd.refl NoF w5).drew)).records)
                    have CRW := Lib.hid (rows_same (l := L) (v2 := .slice A2 L.length c2))
                    have SYN := Lib.hid (show ∀ w7, Upd NoF w5 w7 → Calls Try.prog 38 #[ptrV jn] w7 fun e w' => e = .returned (.int .i64 (safe : Int)) ∧ w7 = w' from fun w7 h7 => (Q5.out.upd h7).synced)
                    clear hrow2
                    go_wp2
                    go_region_held3 (fun w' => w'.cell? ⟨kn, 2, none⟩ = some (.slice A2 L.length c2) ∧ w'.cell? ⟨kn, 3, none⟩ = some (.int .i64 (safe : Int)))
                      (first | exact ⟨k2, k3⟩ | exact ⟨r2, r3⟩ | exact ⟨o2, o3⟩)
                      (first
                        | (go_at_call 37; refine CRC.out.mono ?_; rintro e w6 ⟨v6, F6, rfl, h6, -, hu6⟩; have hu6' : Upd NoF w5 w6 := ((Upd.refl NoF w5).drew).trans hu6 (fun _ _ h => h); have r2 := hu6'.cell k2 (fun h => h); have r3 := hu6'.cell k3 (fun h => h); have R6 := Lib.hid h6.rows; have K6 := Lib.hid (LK.out.keep hu6'); have U6 := Lib.hid hu6'; clear h6 hu6 hu6')
                        | (go_at_call 27; refine (CRW.out w6 v6 R6.out K6.out).mono ?_; rintro e w7 ⟨rfl, hu7⟩; have o2 := hu7.cell r2 (fun h => h); have o3 := hu7.cell r3 (fun h => h); have U7 := Lib.hid (U6.out.trans hu7 (fun _ _ h => h)); clear hu7)
                        | (go_at_call 38; refine (SYN.out w7 U7.out).mono ?_; rintro e w' ⟨rfl, rfl⟩))
                    clear k2 k3 r2 r3 o2 o3
                    go_wp2
                    go_roundw
                    case rel => exact ⟨q + 1, _, _, _, _, jn, kn, by omega, rfl, rfl, by go_num, Q5.out.upd U7.out, hrb.mono (by omega), by omega⟩
                    case measure => simp [intOf]; omega
                  · have n4 : (kind == 4) = false := by simpa using k4
                    by_cases k2 : kind = 2
                    · subst k2
                      have hbc := bnd_crash hB HDU.out picks
                      have CS := Lib.hid (QW.out.crash (wx := wx) BX.out.2 HAO.out.picks HAO.out.pb (by omega))
                      simp only at CS
                      have x3 : wx.cell? ⟨wo.heap.size, 3, none⟩ = some (.slice Ap picks.length cp) := BX.out.1.cell 3
                      have x0 : wx.cell? ⟨wo.heap.size, 0, none⟩ = some (.int .i64 2) := BX.out.1.cell 0
                      go_wp2_with fail
                      rw [← HWX.out]
                      refine CS.out.mono ?_
                      rintro e w4 ⟨rfl, hk4, hc4⟩
                      have y3 : w4.cell? ⟨wo.heap.size, 3, none⟩ = some (.slice Ap picks.length cp) := (hk4.blk BX.out.1 (Nat.le_refl _)).cell 3
                      have C4 := Lib.hid hc4
                      clear hc4 hk4 x3 x0
                      go_wp2_with fail
                      refine C4.out.mono ?_
                      rintro e w4b ⟨rfl, -, hq5⟩
                      have QO := Lib.hid hq5
                      clear hq5 y3
                      obtain ⟨ro, hro⟩ : ∃ ro, sOpen (sCrash s picks) [106] = ro := ⟨_, rfl⟩
                      have hbo := bnd_open hbc [106]
                      rw [hro] at hbo
                      have hbr := bnd_read hbc [106]
                      obtain ⟨code, s2, L2⟩ := ro
                      simp only at hbo
                      by_cases hcode : code = 0
                      · subst hcode
                        have CO := Lib.hid (QO.out.qd.open_ok (nm' := [106]) (by decide) (by omega) hro)
                        clear hro
                        go_wp2_with fail
                        refine CO.out.mono ?_
                        rintro e w5 ⟨j', rfl, hu5, hc5⟩
                        have C5 := Lib.hid hc5
                        clear hc5 hu5
                        go_wp2_with fail
                        refine C5.out.mono ?_
                        rintro e w8 ⟨k', rfl, hq8⟩
                        have Q8 := Lib.hid hq8
                        clear hq8
                        obtain ⟨A2, c2, k2, k3, hrow2⟩ := Q8.out.look
                        have LK := Lib.hid hrow2
                        have CRC := Lib.hid ((Q8.out.upd ((Upd.refl NoF w8).drew)).records)
                        have CRW := Lib.hid (rows_same (l := L2) (v2 := .slice A2 L2.length c2))
                        have SYN := Lib.hid (show ∀ w7, Upd NoF w8 w7 → Calls Try.prog 38 #[ptrV j'] w7 fun e w' => e = .returned (.int .i64 (L2.length : Int)) ∧ w7 = w' from fun w7 h7 => (Q8.out.upd h7).synced)
                        clear hrow2
                        go_wp2
                        go_region_held3 (fun w' => w'.cell? ⟨k', 2, none⟩ = some (.slice A2 L2.length c2) ∧ w'.cell? ⟨k', 3, none⟩ = some (.int .i64 (L2.length : Int)))
                          (first | exact ⟨k2, k3⟩ | exact ⟨r2, r3⟩ | exact ⟨o2, o3⟩)
                          (first
                            | (go_at_call 37; refine CRC.out.mono ?_; rintro e w6 ⟨v6, F6, rfl, h6, -, hu6⟩; have hu6' : Upd NoF w8 w6 := ((Upd.refl NoF w8).drew).trans hu6 (fun _ _ h => h); have r2 := hu6'.cell k2 (fun h => h); have r3 := hu6'.cell k3 (fun h => h); have R6 := Lib.hid h6.rows; have K6 := Lib.hid (LK.out.keep hu6'); have U6 := Lib.hid hu6'; clear h6 hu6 hu6')
                            | (go_at_call 27; refine (CRW.out w6 v6 R6.out K6.out).mono ?_; rintro e w7 ⟨rfl, hu7⟩; have o2 := hu7.cell r2 (fun h => h); have o3 := hu7.cell r3 (fun h => h); have U7 := Lib.hid (U6.out.trans hu7 (fun _ _ h => h)); clear hu7)
                            | (go_at_call 38; refine (SYN.out w7 U7.out).mono ?_; rintro e w' ⟨rfl, rfl⟩))
                        clear k2 k3 r2 r3 o2 o3
                        go_wp2
                        go_roundw
                        case rel => exact ⟨q + 1, _, _, _, _, j', k', by omega, rfl, rfl, by go_num, Q8.out.upd U7.out, hbo.1.mono (by omega), by omega⟩
                        case measure => simp [intOf]; omega
                      · have CO := Lib.hid (QO.out.open_err (nm' := [106]) (by decide) (by omega) hcode hro)
                        have n0 : (code == 0) = false := by simpa using hcode
                        have n0' : (code != 0) = true := by simpa using hcode
                        have n1 : (code != code) = false := by simp
                        have n1' : (code == code) = true := by simp
                        clear hro hcode
                        go_wp2_with fail
                        refine CO.out.mono ?_
                        rintro e w5 ⟨rfl, hu5, hc5⟩
                        have C5 := Lib.hid hc5
                        clear hc5 hu5
                        go_wp2_with fail
                        refine C5.out.mono ?_
                        rintro e w8 ⟨rfl, -, hq8⟩
                        have Q8 := Lib.hid hq8
                        clear hq8
                        obtain ⟨A2, c2, k2, k3, hrow2⟩ := Q8.out.look
                        have LK := Lib.hid hrow2
                        have CRC := Lib.hid ((Q8.out.upd ((Upd.refl NoF w8).drew)).records)
                        have CRW := Lib.hid (rows_same (l := L) (v2 := .slice A2 L.length c2))
                        have SYN := Lib.hid (show ∀ w7, Upd NoF w8 w7 → Calls Try.prog 38 #[ptrV jn] w7 fun e w' => e = .returned (.int .i64 (safe : Int)) ∧ w7 = w' from fun w7 h7 => (Q8.out.upd h7).synced)
                        clear hrow2
                        go_wp2
                        go_region_held3 (fun w' => w'.cell? ⟨kn, 2, none⟩ = some (.slice A2 L.length c2) ∧ w'.cell? ⟨kn, 3, none⟩ = some (.int .i64 (safe : Int)))
                          (first | exact ⟨k2, k3⟩ | exact ⟨r2, r3⟩ | exact ⟨o2, o3⟩)
                          (first
                            | (go_at_call 37; refine CRC.out.mono ?_; rintro e w6 ⟨v6, F6, rfl, h6, -, hu6⟩; have hu6' : Upd NoF w8 w6 := ((Upd.refl NoF w8).drew).trans hu6 (fun _ _ h => h); have r2 := hu6'.cell k2 (fun h => h); have r3 := hu6'.cell k3 (fun h => h); have R6 := Lib.hid h6.rows; have K6 := Lib.hid (LK.out.keep hu6'); have U6 := Lib.hid hu6'; clear h6 hu6 hu6')
                            | (go_at_call 27; refine (CRW.out w6 v6 R6.out K6.out).mono ?_; rintro e w7 ⟨rfl, hu7⟩; have o2 := hu7.cell r2 (fun h => h); have o3 := hu7.cell r3 (fun h => h); have U7 := Lib.hid (U6.out.trans hu7 (fun _ _ h => h)); clear hu7)
                            | (go_at_call 38; refine (SYN.out w7 U7.out).mono ?_; rintro e w' ⟨rfl, rfl⟩))
                        clear k2 k3 r2 r3 o2 o3
                        go_wp2
                        go_roundw
                        case rel => exact ⟨q + 1, _, _, _, _, jn, kn, by omega, rfl, rfl, by go_num, Q8.out.upd U7.out, hbo.1.mono (by omega), by omega⟩
                        case measure => simp [intOf]; omega
                    · have n2 : (kind == 2) = false := by simpa using k2
                      have QO := Lib.hid (QW.out.upd BX.out.2)
                      go_wp2_with fail
                      rw [← HWX.out]
                      obtain ⟨ro, hro⟩ : ∃ ro, sOpen (s) [106] = ro := ⟨_, rfl⟩
                      have hbo := bnd_open hB [106]
                      rw [hro] at hbo
                      have hbr := bnd_read hB [106]
                      obtain ⟨code, s2, L2⟩ := ro
                      simp only at hbo
                      by_cases hcode : code = 0
                      · subst hcode
                        have CO := Lib.hid (QO.out.qd.open_ok (nm' := [106]) (by decide) (by omega) hro)
                        clear hro
                        refine CO.out.mono ?_
                        rintro e w5 ⟨j', rfl, hu5, hc5⟩
                        have C5 := Lib.hid hc5
                        clear hc5 hu5
                        go_wp2_with fail
                        refine C5.out.mono ?_
                        rintro e w8 ⟨k', rfl, hq8⟩
                        have Q8 := Lib.hid hq8
                        clear hq8
                        obtain ⟨A2, c2, k2, k3, hrow2⟩ := Q8.out.look
                        have LK := Lib.hid hrow2
                        have CRC := Lib.hid ((Q8.out.upd ((Upd.refl NoF w8).drew)).records)
                        have CRW := Lib.hid (rows_same (l := L2) (v2 := .slice A2 L2.length c2))
                        have SYN := Lib.hid (show ∀ w7, Upd NoF w8 w7 → Calls Try.prog 38 #[ptrV j'] w7 fun e w' => e = .returned (.int .i64 (L2.length : Int)) ∧ w7 = w' from fun w7 h7 => (Q8.out.upd h7).synced)
                        clear hrow2
                        go_wp2
                        go_region_held3 (fun w' => w'.cell? ⟨k', 2, none⟩ = some (.slice A2 L2.length c2) ∧ w'.cell? ⟨k', 3, none⟩ = some (.int .i64 (L2.length : Int)))
                          (first | exact ⟨k2, k3⟩ | exact ⟨r2, r3⟩ | exact ⟨o2, o3⟩)
                          (first
                            | (go_at_call 37; refine CRC.out.mono ?_; rintro e w6 ⟨v6, F6, rfl, h6, -, hu6⟩; have hu6' : Upd NoF w8 w6 := ((Upd.refl NoF w8).drew).trans hu6 (fun _ _ h => h); have r2 := hu6'.cell k2 (fun h => h); have r3 := hu6'.cell k3 (fun h => h); have R6 := Lib.hid h6.rows; have K6 := Lib.hid (LK.out.keep hu6'); have U6 := Lib.hid hu6'; clear h6 hu6 hu6')
                            | (go_at_call 27; refine (CRW.out w6 v6 R6.out K6.out).mono ?_; rintro e w7 ⟨rfl, hu7⟩; have o2 := hu7.cell r2 (fun h => h); have o3 := hu7.cell r3 (fun h => h); have U7 := Lib.hid (U6.out.trans hu7 (fun _ _ h => h)); clear hu7)
                            | (go_at_call 38; refine (SYN.out w7 U7.out).mono ?_; rintro e w' ⟨rfl, rfl⟩))
                        clear k2 k3 r2 r3 o2 o3
                        go_wp2
                        go_roundw
                        case rel => exact ⟨q + 1, _, _, _, _, j', k', by omega, rfl, rfl, by go_num, Q8.out.upd U7.out, hbo.1.mono (by omega), by omega⟩
                        case measure => simp [intOf]; omega
                      · have CO := Lib.hid (QO.out.open_err (nm' := [106]) (by decide) (by omega) hcode hro)
                        have n0 : (code == 0) = false := by simpa using hcode
                        have n0' : (code != 0) = true := by simpa using hcode
                        have n1 : (code != code) = false := by simp
                        have n1' : (code == code) = true := by simp
                        clear hro hcode
                        refine CO.out.mono ?_
                        rintro e w5 ⟨rfl, hu5, hc5⟩
                        have C5 := Lib.hid hc5
                        clear hc5 hu5
                        go_wp2_with fail
                        refine C5.out.mono ?_
                        rintro e w8 ⟨rfl, -, hq8⟩
                        have Q8 := Lib.hid hq8
                        clear hq8
                        obtain ⟨A2, c2, k2, k3, hrow2⟩ := Q8.out.look
                        have LK := Lib.hid hrow2
                        have CRC := Lib.hid ((Q8.out.upd ((Upd.refl NoF w8).drew)).records)
                        have CRW := Lib.hid (rows_same (l := L) (v2 := .slice A2 L.length c2))
                        have SYN := Lib.hid (show ∀ w7, Upd NoF w8 w7 → Calls Try.prog 38 #[ptrV jn] w7 fun e w' => e = .returned (.int .i64 (safe : Int)) ∧ w7 = w' from fun w7 h7 => (Q8.out.upd h7).synced)
                        clear hrow2
                        go_wp2
                        go_region_held3 (fun w' => w'.cell? ⟨kn, 2, none⟩ = some (.slice A2 L.length c2) ∧ w'.cell? ⟨kn, 3, none⟩ = some (.int .i64 (safe : Int)))
                          (first | exact ⟨k2, k3⟩ | exact ⟨r2, r3⟩ | exact ⟨o2, o3⟩)
                          (first
                            | (go_at_call 37; refine CRC.out.mono ?_; rintro e w6 ⟨v6, F6, rfl, h6, -, hu6⟩; have hu6' : Upd NoF w8 w6 := ((Upd.refl NoF w8).drew).trans hu6 (fun _ _ h => h); have r2 := hu6'.cell k2 (fun h => h); have r3 := hu6'.cell k3 (fun h => h); have R6 := Lib.hid h6.rows; have K6 := Lib.hid (LK.out.keep hu6'); have U6 := Lib.hid hu6'; clear h6 hu6 hu6')
                            | (go_at_call 27; refine (CRW.out w6 v6 R6.out K6.out).mono ?_; rintro e w7 ⟨rfl, hu7⟩; have o2 := hu7.cell r2 (fun h => h); have o3 := hu7.cell r3 (fun h => h); have U7 := Lib.hid (U6.out.trans hu7 (fun _ _ h => h)); clear hu7)
                            | (go_at_call 38; refine (SYN.out w7 U7.out).mono ?_; rintro e w' ⟨rfl, rfl⟩))
                        clear k2 k3 r2 r3 o2 o3
                        go_wp2
                        go_roundw
                        case rel => exact ⟨q + 1, _, _, _, _, jn, kn, by omega, rfl, rfl, by go_num, Q8.out.upd U7.out, hbo.1.mono (by omega), by omega⟩
                        case measure => simp [intOf]; omega
      · have s1 : decide ((q : Int) < l.length) = false := by simp; omega
        go_wp2_with fail
        refine (awake31 _).mono ?_
        rintro e w4 ⟨rfl, hu4⟩
        go_wp2
        go_ret
        exact ⟨rfl, QW.out.out.trans hu4 (fun _ _ h => h)⟩
end
end Go.Proofs.Ytmapijpphnlcmaa
