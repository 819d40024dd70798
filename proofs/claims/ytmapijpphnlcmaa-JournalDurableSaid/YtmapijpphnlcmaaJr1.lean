/- Checksums and frames of the journal, of the program and of the reference. Conditions: sizes. -/
import Derived.Test.YtmapijpphnlcmaaCodec3
import Derived.Deep.RegionHeld3
namespace Go.Proofs.Ytmapijpphnlcmaa
open Go.RowKit

def jsumS (i : Nat) (bs : List UInt8) : List UInt8 := tagged 88 (beB i 4 ++ bs)
def frameS (i : Nat) (bs : List UInt8) : List UInt8 := beB bs.length 4 ++ jsumS i bs ++ bs
theorem jsumS_len (i : Nat) (bs : List UInt8) : (jsumS i bs).length = 8 := rfl

def Bytes4 (W : World) (i : Nat) (e : Ending) (w' : World) : Prop := ∃ A c, e = .returned (.slice A 4 c) ∧ Own w' 5 1 (.slice A 4 c) 4 ((beB i 4).map byteV) ∧ (∀ k, OwnB (.slice A 4 c) k → W.heap.size ≤ k) ∧ Upd NoF W w'
theorem cAU4 (W : World) (i : Nat) : Calls Try.prog 73 #[.slice none 0 0, u64V (i : Int), .int .i64 4] W (Bytes4 W i) := by
  refine (cAppendUint_any (bs := []) (Rd.nil W 1) (i : Int) (by omega) 4 (by omega) (by simp)).mono ?_
  rintro e w' ⟨A, c, rfl, h1, h2, h3⟩
  exact ⟨A, c, rfl, h1, h2, h3⟩
theorem r1AU4 (W : World) (i : Nat) : Calls Try.prog 77 #[.slice none 0 0, u64V (i : Int), .int .i64 4] W (Bytes4 W i) := by
  refine (r1AppendUint_any (bs := []) (Rd.nil W 1) (i : Int) (by omega) 4 (by omega) (by simp)).mono ?_
  rintro e w' ⟨A, c, rfl, h1, h2, h3⟩
  exact ⟨A, c, rfl, h1, h2, h3⟩

theorem Own.rd4 {w : World} {A : Option Addr} {c i : Nat} {bs : List UInt8} (h : Own w 5 1 (.slice A (4 + bs.length) c) (4 + bs.length) ((beB i 4).map byteV ++ bs.map byteV)) : Rd w 1 (.slice A (4 + bs.length) c) (beB i 4 ++ bs).length ((beB i 4 ++ bs).map byteV) := by
  have := h.rd
  rw [show (beB i 4 ++ bs).length = 4 + bs.length by simp [beB_len], List.map_append]
  exact this

set_option maxRecDepth 100000 in
set_option maxHeartbeats 4000000 in
theorem jsum_any {w : World} {v : Value} {bs : List UInt8} (h : Rd w 1 v bs.length (bs.map byteV)) (hbl : bs.length ≤ 549755813888) (i : Nat) (hi : i ≤ 4611686018427387904) : Calls Try.prog 58 #[.int .i64 (i : Int), v] w fun e w' => e = .returned (nameV (jsumS i bs)) ∧ Upd NoF w w' := by
  obtain ⟨A, c, rfl, hlc, hcm, _⟩ := id h
  have H := Lib.hid h
  obtain ⟨i1, hi1, hy0, hy1, hy2⟩ := info_parts byte_info
  have hwi : IntKind.u64.wrap (i : Int) = i := wrap_u64_nat _ (by omega)
  have HA := Lib.hid ((Upd.refl NoF w).alloc (.cells #[.int .u8 0, .int .u8 0, .int .u8 0, .int .u8 0, .int .u8 0, .int .u8 0, .int .u8 0, .int .u8 0] 95))
  have B0 := Lib.hid (Blk.new w 95 #[.int .u8 0, .int .u8 0, .int .u8 0, .int .u8 0, .int .u8 0, .int .u8 0, .int .u8 0, .int .u8 0])
  clear h
  go_enter Try.func58, Try.ntmps58
  go_wp2_with fail
  refine (cAU4 _ i).mono ?_
  rintro e w1 ⟨A1, c1, rfl, hO1, hn1, hU1⟩
  have O1 := Lib.hid hO1
  have U1 := Lib.hid hU1
  have N1 := Lib.hid (show ∀ k, OwnB (.slice A1 4 c1) k → w.heap.size < k from fun k hk => by have := hn1 k hk; simp at this; omega)
  clear hO1 hn1 hU1
  go_wp2_with (at_builtin; refine wpList_append_to _ rfl (.tmp 7) (.tmp 8) 27 rfl 5 i1 _ 1 1 Try.underlying27 hi1 hy0 hy1 hy2 rfl (.slice A1 4 c1) 4 ((beB i 4).map byteV) rfl O1.out (.slice A bs.length c) bs.length (bs.map byteV) rfl ((H.out.keep HA.out).keep U1.out) (bytes_oneCell _) (by unfold maxLen; omega) (by omega) ?_; intro A2 c2 w2 hown2 hupd2 hnew2; have O2 := Lib.hid hown2; have V2 := Lib.hid hupd2; clear hown2 hupd2 hnew2)
  refine (hTagged_any 88 (bs := beB i 4 ++ bs) O2.out.rd4 (by simp [beB_len]; omega)).mono ?_
  rintro e w5 ⟨rfl, hu5⟩
  rw [show tagged 88 (beB i 4 ++ bs) = jsumS i bs from rfl]
  have hb5 : Blk w5 w.heap.size 95 #[.int .u8 0, .int .u8 0, .int .u8 0, .int .u8 0, .int .u8 0, .int .u8 0, .int .u8 0, .int .u8 0] := hu5.blk (V2.out.blk (U1.out.blk B0.out (fun h => h)) (fun e => by have := N1.out _ e; omega)) (fun h => h)
  have hv5 : Upd NoF w w5 := ((HA.out.trans U1.out (fun _ _ h => h)).trans V2.out (fun k hk e => by have := N1.out k e; omega)).trans hu5 (fun _ _ h => h)
  obtain ⟨b0, b1, b2, b3, b4, b5, b6, b7, l', hl'⟩ := eight (jsumS i bs) (Nat.le_of_eq rfl)
  obtain rfl : l' = [] := by
    have := congrArg List.length hl'
    rw [jsumS_len] at this
    simpa using this
  have HL' := Lib.hid hl'
  rw [hl']
  have g0 : w5.frozen? ⟨w.heap.size, 0, none⟩ = false := hb5.frozen 0
  have r0 : w5.cell? ⟨w.heap.size, 0, none⟩ = some (.int .u8 0) := hb5.cell 0
  have g1 : w5.frozen? ⟨w.heap.size, 1, none⟩ = false := hb5.frozen 1
  have r1 : w5.cell? ⟨w.heap.size, 1, none⟩ = some (.int .u8 0) := hb5.cell 1
  have g2 : w5.frozen? ⟨w.heap.size, 2, none⟩ = false := hb5.frozen 2
  have r2 : w5.cell? ⟨w.heap.size, 2, none⟩ = some (.int .u8 0) := hb5.cell 2
  have g3 : w5.frozen? ⟨w.heap.size, 3, none⟩ = false := hb5.frozen 3
  have r3 : w5.cell? ⟨w.heap.size, 3, none⟩ = some (.int .u8 0) := hb5.cell 3
  have g4 : w5.frozen? ⟨w.heap.size, 4, none⟩ = false := hb5.frozen 4
  have r4 : w5.cell? ⟨w.heap.size, 4, none⟩ = some (.int .u8 0) := hb5.cell 4
  have g5 : w5.frozen? ⟨w.heap.size, 5, none⟩ = false := hb5.frozen 5
  have r5 : w5.cell? ⟨w.heap.size, 5, none⟩ = some (.int .u8 0) := hb5.cell 5
  have g6 : w5.frozen? ⟨w.heap.size, 6, none⟩ = false := hb5.frozen 6
  have r6 : w5.cell? ⟨w.heap.size, 6, none⟩ = some (.int .u8 0) := hb5.cell 6
  have g7 : w5.frozen? ⟨w.heap.size, 7, none⟩ = false := hb5.frozen 7
  have r7 : w5.cell? ⟨w.heap.size, 7, none⟩ = some (.int .u8 0) := hb5.cell 7
  have B5 := Lib.hid hb5
  have U6 := Lib.hid hv5
  clear hb5 hu5 hl' hv5
  go_wp2
  refine bodyPost_ret (v := nameV [b0, b1, b2, b3, b4, b5, b6, b7]) ?_ rfl ⟨by rw [HL'.out], ?_⟩
  · exact results_cell_row (P := Try.prog) Try.results58 _ _ w.heap.size 95 #[byteV b0, byteV b1, byteV b2, byteV b3, byteV b4, byteV b5, byteV b6, byteV b7] (0, 0) _ rfl (name_put B5.out b0 b1 b2 b3 b4 b5 b6 b7) Try.underlying95 rfl (by kernel_rfl)
  · exact name_upd U6.out (.inr (Nat.le_refl _)) b0 b1 b2 b3 b4 b5 b6 b7

set_option maxRecDepth 100000 in
set_option maxHeartbeats 4000000 in
theorem rsum_any {w : World} {v : Value} {bs : List UInt8} (h : Rd w 1 v bs.length (bs.map byteV)) (hbl : bs.length ≤ 549755813888) (i : Nat) (hi : i ≤ 4611686018427387904) : Calls Try.prog 61 #[.int .i64 (i : Int), v] w fun e w' => e = .returned (nameV (jsumS i bs)) ∧ Upd NoF w w' := by
  obtain ⟨A, c, rfl, hlc, hcm, _⟩ := id h
  have H := Lib.hid h
  obtain ⟨i1, hi1, hy0, hy1, hy2⟩ := info_parts byte_info
  have hwi : IntKind.u64.wrap (i : Int) = i := wrap_u64_nat _ (by omega)
  have HA := Lib.hid ((Upd.refl NoF w).alloc (.cells #[.int .u8 0, .int .u8 0, .int .u8 0, .int .u8 0, .int .u8 0, .int .u8 0, .int .u8 0, .int .u8 0] 95))
  have B0 := Lib.hid (Blk.new w 95 #[.int .u8 0, .int .u8 0, .int .u8 0, .int .u8 0, .int .u8 0, .int .u8 0, .int .u8 0, .int .u8 0])
  clear h
  go_enter Try.func61, Try.ntmps61
  go_wp2_with fail
  refine (r1AU4 _ i).mono ?_
  rintro e w1 ⟨A1, c1, rfl, hO1, hn1, hU1⟩
  have O1 := Lib.hid hO1
  have U1 := Lib.hid hU1
  have N1 := Lib.hid (show ∀ k, OwnB (.slice A1 4 c1) k → w.heap.size < k from fun k hk => by have := hn1 k hk; simp at this; omega)
  clear hO1 hn1 hU1
  go_wp2_with (at_builtin; refine wpList_append_to _ rfl (.tmp 7) (.tmp 8) 27 rfl 5 i1 _ 1 1 Try.underlying27 hi1 hy0 hy1 hy2 rfl (.slice A1 4 c1) 4 ((beB i 4).map byteV) rfl O1.out (.slice A bs.length c) bs.length (bs.map byteV) rfl ((H.out.keep HA.out).keep U1.out) (bytes_oneCell _) (by unfold maxLen; omega) (by omega) ?_; intro A2 c2 w2 hown2 hupd2 hnew2; have O2 := Lib.hid hown2; have V2 := Lib.hid hupd2; clear hown2 hupd2 hnew2)
  refine (r1Tagged_any 88 (bs := beB i 4 ++ bs) O2.out.rd4 (by simp [beB_len]; omega)).mono ?_
  rintro e w5 ⟨rfl, hu5⟩
  rw [show tagged 88 (beB i 4 ++ bs) = jsumS i bs from rfl]
  have hb5 : Blk w5 w.heap.size 95 #[.int .u8 0, .int .u8 0, .int .u8 0, .int .u8 0, .int .u8 0, .int .u8 0, .int .u8 0, .int .u8 0] := hu5.blk (V2.out.blk (U1.out.blk B0.out (fun h => h)) (fun e => by have := N1.out _ e; omega)) (fun h => h)
  have hv5 : Upd NoF w w5 := ((HA.out.trans U1.out (fun _ _ h => h)).trans V2.out (fun k hk e => by have := N1.out k e; omega)).trans hu5 (fun _ _ h => h)
  obtain ⟨b0, b1, b2, b3, b4, b5, b6, b7, l', hl'⟩ := eight (jsumS i bs) (Nat.le_of_eq rfl)
  obtain rfl : l' = [] := by
    have := congrArg List.length hl'
    rw [jsumS_len] at this
    simpa using this
  have HL' := Lib.hid hl'
  rw [hl']
  have g0 : w5.frozen? ⟨w.heap.size, 0, none⟩ = false := hb5.frozen 0
  have r0 : w5.cell? ⟨w.heap.size, 0, none⟩ = some (.int .u8 0) := hb5.cell 0
  have g1 : w5.frozen? ⟨w.heap.size, 1, none⟩ = false := hb5.frozen 1
  have r1 : w5.cell? ⟨w.heap.size, 1, none⟩ = some (.int .u8 0) := hb5.cell 1
  have g2 : w5.frozen? ⟨w.heap.size, 2, none⟩ = false := hb5.frozen 2
  have r2 : w5.cell? ⟨w.heap.size, 2, none⟩ = some (.int .u8 0) := hb5.cell 2
  have g3 : w5.frozen? ⟨w.heap.size, 3, none⟩ = false := hb5.frozen 3
  have r3 : w5.cell? ⟨w.heap.size, 3, none⟩ = some (.int .u8 0) := hb5.cell 3
  have g4 : w5.frozen? ⟨w.heap.size, 4, none⟩ = false := hb5.frozen 4
  have r4 : w5.cell? ⟨w.heap.size, 4, none⟩ = some (.int .u8 0) := hb5.cell 4
  have g5 : w5.frozen? ⟨w.heap.size, 5, none⟩ = false := hb5.frozen 5
  have r5 : w5.cell? ⟨w.heap.size, 5, none⟩ = some (.int .u8 0) := hb5.cell 5
  have g6 : w5.frozen? ⟨w.heap.size, 6, none⟩ = false := hb5.frozen 6
  have r6 : w5.cell? ⟨w.heap.size, 6, none⟩ = some (.int .u8 0) := hb5.cell 6
  have g7 : w5.frozen? ⟨w.heap.size, 7, none⟩ = false := hb5.frozen 7
  have r7 : w5.cell? ⟨w.heap.size, 7, none⟩ = some (.int .u8 0) := hb5.cell 7
  have B5 := Lib.hid hb5
  have U6 := Lib.hid hv5
  clear hb5 hu5 hl' hv5
  go_wp2
  refine bodyPost_ret (v := nameV [b0, b1, b2, b3, b4, b5, b6, b7]) ?_ rfl ⟨by rw [HL'.out], ?_⟩
  · exact results_cell_row (P := Try.prog) Try.results61 _ _ w.heap.size 95 #[byteV b0, byteV b1, byteV b2, byteV b3, byteV b4, byteV b5, byteV b6, byteV b7] (0, 0) _ rfl (name_put B5.out b0 b1 b2 b3 b4 b5 b6 b7) Try.underlying95 rfl (by kernel_rfl)
  · exact name_upd U6.out (.inr (Nat.le_refl _)) b0 b1 b2 b3 b4 b5 b6 b7

set_option maxRecDepth 100000 in
set_option maxHeartbeats 4000000 in
theorem jFrame_any {w : World} {v : Value} {bs : List UInt8} (h : Rd w 1 v bs.length (bs.map byteV)) (hbl : bs.length ≤ 549755813888) (i : Nat) (hi : i ≤ 4611686018427387904) : Calls Try.prog 56 #[.int .i64 (i : Int), v] w (BytesPost w (frameS i bs)) := by
  obtain ⟨A, c, rfl, hlc, hcm, _⟩ := id h
  have H := Lib.hid h
  obtain ⟨i1, hi1, hy0, hy1, hy2⟩ := info_parts byte_info
  have hwl : IntKind.u64.wrap (bs.length : Int) = bs.length := wrap_u64_nat _ (by omega)
  have CS := Lib.hid (jsum_any h hbl i hi)
  obtain ⟨b0, b1, b2, b3, b4, b5, b6, b7, l', hl'⟩ := eight (jsumS i bs) (Nat.le_of_eq rfl)
  obtain rfl : l' = [] := by
    have := congrArg List.length hl'
    rw [jsumS_len] at this
    simpa using this
  rw [hl'] at CS
  have HL' := Lib.hid hl'
  clear h hl'
  go_enter Try.func56, Try.ntmps56
  go_wp2_with fail
  refine CS.out.mono ?_
  rintro e w1 ⟨rfl, hu1⟩
  have U1 := Lib.hid hu1
  have hz1 := hu1.size
  clear hu1
  go_wp2
  obtain ⟨w2, hw2⟩ : ∃ w2, w2 = w1.alloc (.cells #[byteV b0, byteV b1, byteV b2, byteV b3, byteV b4, byteV b5, byteV b6, byteV b7] 95) := ⟨_, rfl⟩
  rw [← hw2]
  have B2 := Lib.hid (show Blk w2 w1.heap.size 95 #[byteV b0, byteV b1, byteV b2, byteV b3, byteV b4, byteV b5, byteV b6, byteV b7] ∧ Upd NoF w w2 ∧ w1.heap.size < w2.heap.size from by
    rw [hw2]
    exact ⟨Blk.new w1 _ _, U1.out.alloc _, by simp⟩)
  have CA := Lib.hid (cAU4 w2.drew bs.length)
  clear hw2
  have hz2 := B2.out.2.2
  have hbl4 : (beB bs.length 4).length = 4 := beB_len _ _
  have FIN := Lib.hid (show ∀ w3 w4 w6 A3 c3 A4 c4 A6 c6, Upd NoF w2.drew w3 → (∀ k, OwnB (.slice A3 4 c3) k → w2.drew.heap.size ≤ k) → Upd (OwnB (.slice A3 4 c3)) w3 w4 → (∀ k, OwnB (.slice A4 12 c4) k → OwnB (.slice A3 4 c3) k ∨ w3.heap.size ≤ k) → Upd (OwnB (.slice A4 12 c4)) w4 w6 →
      (∀ k, OwnB (.slice A6 (12 + bs.length) c6) k → OwnB (.slice A4 12 c4) k ∨ w4.heap.size ≤ k) → Own w6 5 1 (.slice A6 (12 + bs.length) c6) (12 + bs.length) (((beB bs.length 4).map byteV ++ [byteV b0, byteV b1, byteV b2, byteV b3, byteV b4, byteV b5, byteV b6, byteV b7]) ++ bs.map byteV) →
      BytesPost w (frameS i bs) (.returned (.slice A6 (12 + bs.length) c6)) w6 from fun w3 w4 w6 A3 c3 A4 c4 A6 c6 u3 n3 u4 n4 u6 n6 o6 => by
    have hlen : (frameS i bs).length = 12 + bs.length := by simp [frameS, beB_len, jsumS_len]; omega
    have hw2 : w.heap.size ≤ w2.drew.heap.size := B2.out.2.1.size
    have k3 : ∀ k, OwnB (.slice A3 4 c3) k → w.heap.size ≤ k := fun k hk => Nat.le_trans hw2 (n3 k hk)
    have v3 : Upd NoF w w3 := B2.out.2.1.drew.trans u3 (fun _ _ h => h)
    have k4 : ∀ k, OwnB (.slice A4 12 c4) k → w.heap.size ≤ k := fun k hk => by
      rcases n4 k hk with e | e
      · exact k3 k e
      · exact Nat.le_trans v3.size e
    have v4 : Upd NoF w w4 := v3.trans u4 (fun k hk e => by have := k3 k e; omega)
    refine ⟨A6, c6, by rw [hlen], ?_, ?_, v4.trans u6 (fun k hk e => by have := k4 k e; omega)⟩
    · rw [hlen]
      have e : (frameS i bs).map byteV = ((beB bs.length 4).map byteV ++ [byteV b0, byteV b1, byteV b2, byteV b3, byteV b4, byteV b5, byteV b6, byteV b7]) ++ bs.map byteV := by
        unfold frameS
        rw [HL'.out]
        simp
      rw [e]
      exact o6
    · intro k hk
      rw [hlen] at hk
      rcases n6 k hk with e | e
      · exact k4 k e
      · exact Nat.le_trans v4.size e)
  clear hbl4
  go_region_law
    (first
      | (go_simp; go_at_call 73; refine CA.out.mono ?_; rintro e w3 ⟨A3, c3, rfl, hO3, hn3, hU3⟩; have O3 := Lib.hid hO3; have U3 := Lib.hid hU3; have N3 := Lib.hid hn3; clear hO3 hU3 hn3)
      | (refine step_append_to _ (by rfl) (.tmp 13) (.tmp 14) _ (by rfl) 5 i1 _ 1 1 Try.underlying27 hi1 hy0 hy1 hy2 rfl (.slice A3 4 c3) 4 ((beB bs.length 4).map byteV) (by rfl) O3.out (.slice (some ⟨w1.heap.size, 0, none⟩) 8 8) 8 [byteV b0, byteV b1, byteV b2, byteV b3, byteV b4, byteV b5, byteV b6, byteV b7] (by rfl) (Rd.of_blk (U3.out.blk B2.out.1.drew (fun h => h)) (by omega) (by unfold maxLen; omega) rfl (by intro j u hu; simpa using hu)) (by simp [byteV, Value.oneCell']) (by unfold maxLen; omega) (by omega) ?_; intro A4 c4 w4 hown4 hupd4 hnew4; have O4 := Lib.hid hown4; have U4 := Lib.hid hupd4; have N4 := Lib.hid hnew4; clear hown4 hupd4 hnew4))
  all_goals
    have R4 := Lib.hid (show Rd w4 1 (.slice A bs.length c) bs.length (bs.map byteV) from H.out.keep ((B2.out.2.1.drew.trans U3.out (fun _ _ h => h)).trans U4.out (fun k hk e => by have := N3.out k e; have h5 : w.heap.size ≤ w2.drew.heap.size := B2.out.2.1.size; omega)))
    go_wp2_with (at_builtin; refine wpList_append_to _ rfl (.tmp 16) (.tmp 17) 27 rfl 5 i1 _ 1 1 Try.underlying27 hi1 hy0 hy1 hy2 rfl (.slice A4 12 c4) 12 _ rfl O4.out (.slice A bs.length c) bs.length (bs.map byteV) rfl R4.out (bytes_oneCell _) (by unfold maxLen; omega) (by omega) ?_; intro A6 c6 w6 hown6 hupd6 hnew6; have O6 := Lib.hid hown6; have U6 := Lib.hid hupd6; have N6 := Lib.hid hnew6; clear hown6 hupd6 hnew6)
    go_ret
    exact FIN.out w3 w4 w6 A3 c3 A4 c4 A6 c6 U3.out N3.out U4.out N4.out U6.out N6.out O6.out

set_option maxRecDepth 100000 in
set_option maxHeartbeats 4000000 in
theorem rFrame_any {w : World} {v : Value} {bs : List UInt8} (h : Rd w 1 v bs.length (bs.map byteV)) (hbl : bs.length ≤ 549755813888) (i : Nat) (hi : i ≤ 4611686018427387904) : Calls Try.prog 63 #[.int .i64 (i : Int), v] w (BytesPost w (frameS i bs)) := by
  obtain ⟨A, c, rfl, hlc, hcm, _⟩ := id h
  have H := Lib.hid h
  obtain ⟨i1, hi1, hy0, hy1, hy2⟩ := info_parts byte_info
  have hwl : IntKind.u64.wrap (bs.length : Int) = bs.length := wrap_u64_nat _ (by omega)
  have CS := Lib.hid (rsum_any h hbl i hi)
  obtain ⟨b0, b1, b2, b3, b4, b5, b6, b7, l', hl'⟩ := eight (jsumS i bs) (Nat.le_of_eq rfl)
  obtain rfl : l' = [] := by
    have := congrArg List.length hl'
    rw [jsumS_len] at this
    simpa using this
  rw [hl'] at CS
  have HL' := Lib.hid hl'
  clear h hl'
  go_enter Try.func63, Try.ntmps63
  go_wp2_with fail
  refine CS.out.mono ?_
  rintro e w1 ⟨rfl, hu1⟩
  have U1 := Lib.hid hu1
  have hz1 := hu1.size
  clear hu1
  go_wp2
  obtain ⟨w2, hw2⟩ : ∃ w2, w2 = w1.alloc (.cells #[byteV b0, byteV b1, byteV b2, byteV b3, byteV b4, byteV b5, byteV b6, byteV b7] 95) := ⟨_, rfl⟩
  rw [← hw2]
  have B2 := Lib.hid (show Blk w2 w1.heap.size 95 #[byteV b0, byteV b1, byteV b2, byteV b3, byteV b4, byteV b5, byteV b6, byteV b7] ∧ Upd NoF w w2 ∧ w1.heap.size < w2.heap.size from by
    rw [hw2]
    exact ⟨Blk.new w1 _ _, U1.out.alloc _, by simp⟩)
  have CA := Lib.hid (r1AU4 w2.drew bs.length)
  clear hw2
  have hz2 := B2.out.2.2
  have hbl4 : (beB bs.length 4).length = 4 := beB_len _ _
  have FIN := Lib.hid (show ∀ w3 w4 w6 A3 c3 A4 c4 A6 c6, Upd NoF w2.drew w3 → (∀ k, OwnB (.slice A3 4 c3) k → w2.drew.heap.size ≤ k) → Upd (OwnB (.slice A3 4 c3)) w3 w4 → (∀ k, OwnB (.slice A4 12 c4) k → OwnB (.slice A3 4 c3) k ∨ w3.heap.size ≤ k) → Upd (OwnB (.slice A4 12 c4)) w4 w6 →
      (∀ k, OwnB (.slice A6 (12 + bs.length) c6) k → OwnB (.slice A4 12 c4) k ∨ w4.heap.size ≤ k) → Own w6 5 1 (.slice A6 (12 + bs.length) c6) (12 + bs.length) (((beB bs.length 4).map byteV ++ [byteV b0, byteV b1, byteV b2, byteV b3, byteV b4, byteV b5, byteV b6, byteV b7]) ++ bs.map byteV) →
      BytesPost w (frameS i bs) (.returned (.slice A6 (12 + bs.length) c6)) w6 from fun w3 w4 w6 A3 c3 A4 c4 A6 c6 u3 n3 u4 n4 u6 n6 o6 => by
    have hlen : (frameS i bs).length = 12 + bs.length := by simp [frameS, beB_len, jsumS_len]; omega
    have hw2 : w.heap.size ≤ w2.drew.heap.size := B2.out.2.1.size
    have k3 : ∀ k, OwnB (.slice A3 4 c3) k → w.heap.size ≤ k := fun k hk => Nat.le_trans hw2 (n3 k hk)
    have v3 : Upd NoF w w3 := B2.out.2.1.drew.trans u3 (fun _ _ h => h)
    have k4 : ∀ k, OwnB (.slice A4 12 c4) k → w.heap.size ≤ k := fun k hk => by
      rcases n4 k hk with e | e
      · exact k3 k e
      · exact Nat.le_trans v3.size e
    have v4 : Upd NoF w w4 := v3.trans u4 (fun k hk e => by have := k3 k e; omega)
    refine ⟨A6, c6, by rw [hlen], ?_, ?_, v4.trans u6 (fun k hk e => by have := k4 k e; omega)⟩
    · rw [hlen]
      have e : (frameS i bs).map byteV = ((beB bs.length 4).map byteV ++ [byteV b0, byteV b1, byteV b2, byteV b3, byteV b4, byteV b5, byteV b6, byteV b7]) ++ bs.map byteV := by
        unfold frameS
        rw [HL'.out]
        simp
      rw [e]
      exact o6
    · intro k hk
      rw [hlen] at hk
      rcases n6 k hk with e | e
      · exact k4 k e
      · exact Nat.le_trans v4.size e)
  clear hbl4
  go_region_law
    (first
      | (go_simp; go_at_call 77; refine CA.out.mono ?_; rintro e w3 ⟨A3, c3, rfl, hO3, hn3, hU3⟩; have O3 := Lib.hid hO3; have U3 := Lib.hid hU3; have N3 := Lib.hid hn3; clear hO3 hU3 hn3)
      | (refine step_append_to _ (by rfl) (.tmp 13) (.tmp 14) _ (by rfl) 5 i1 _ 1 1 Try.underlying27 hi1 hy0 hy1 hy2 rfl (.slice A3 4 c3) 4 ((beB bs.length 4).map byteV) (by rfl) O3.out (.slice (some ⟨w1.heap.size, 0, none⟩) 8 8) 8 [byteV b0, byteV b1, byteV b2, byteV b3, byteV b4, byteV b5, byteV b6, byteV b7] (by rfl) (Rd.of_blk (U3.out.blk B2.out.1.drew (fun h => h)) (by omega) (by unfold maxLen; omega) rfl (by intro j u hu; simpa using hu)) (by simp [byteV, Value.oneCell']) (by unfold maxLen; omega) (by omega) ?_; intro A4 c4 w4 hown4 hupd4 hnew4; have O4 := Lib.hid hown4; have U4 := Lib.hid hupd4; have N4 := Lib.hid hnew4; clear hown4 hupd4 hnew4))
  all_goals
    have R4 := Lib.hid (show Rd w4 1 (.slice A bs.length c) bs.length (bs.map byteV) from H.out.keep ((B2.out.2.1.drew.trans U3.out (fun _ _ h => h)).trans U4.out (fun k hk e => by have := N3.out k e; have h5 : w.heap.size ≤ w2.drew.heap.size := B2.out.2.1.size; omega)))
    go_wp2_with (at_builtin; refine wpList_append_to _ rfl (.tmp 16) (.tmp 17) 27 rfl 5 i1 _ 1 1 Try.underlying27 hi1 hy0 hy1 hy2 rfl (.slice A4 12 c4) 12 _ rfl O4.out (.slice A bs.length c) bs.length (bs.map byteV) rfl R4.out (bytes_oneCell _) (by unfold maxLen; omega) (by omega) ?_; intro A6 c6 w6 hown6 hupd6 hnew6; have O6 := Lib.hid hown6; have U6 := Lib.hid hupd6; have N6 := Lib.hid hnew6; clear hown6 hupd6 hnew6)
    go_ret
    exact FIN.out w3 w4 w6 A3 c3 A4 c4 A6 c6 U3.out N3.out U4.out N4.out U6.out N6.out O6.out
end Go.Proofs.Ytmapijpphnlcmaa
