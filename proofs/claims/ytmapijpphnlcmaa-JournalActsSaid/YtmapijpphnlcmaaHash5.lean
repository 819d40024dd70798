/- The hash functions of package hash and of the reference: Tagged. Conditions: sizes. -/
import Derived.Test.YtmapijpphnlcmaaHash4
import Derived.Test.YtmapijpphnlcmaaRef2
namespace Go.Proofs.Ytmapijpphnlcmaa
open Go.RowKit

theorem run_make160 (w : World) : (Instr.makeSlice 27 (.int .i64 0) (.int .i64 160)).run Try.prog w = .ok (.slice (some ⟨w.heap.size, 0, none⟩) 0 160) (w.alloc (.cells (Array.replicate 160 (.int .u8 0)) 5)) := by kernel_rfl
theorem make160 (w : World) : ∃ w', (Instr.makeSlice 27 (.int .i64 0) (.int .i64 160)).run Try.prog w = .ok (.slice (some ⟨w.heap.size, 0, none⟩) 0 160) w' ∧ Own w' 5 1 (.slice (some ⟨w.heap.size, 0, none⟩) 0 160) 0 [] ∧ Upd NoF w w' :=
  ⟨_, run_make160 w, ⟨by simp, .inr ⟨w.heap.size, 160, _, rfl, Blk.new w _ _, by omega, by unfold maxLen; omega, by simp, by simp⟩⟩, (Upd.refl NoF w).alloc _⟩
theorem Own.rd2 {w : World} {A : Option Addr} {c : Nat} {t : UInt8} {bs : List UInt8} (h : Own w 5 1 (.slice A (1 + bs.length) c) (1 + bs.length) ([byteV t] ++ bs.map byteV)) : Rd w 1 (.slice A (1 + bs.length) c) (t :: bs).length ((t :: bs).map byteV) := by
  have := h.rd
  rw [show (t :: bs).length = 1 + bs.length by simp; omega]
  exact this
theorem Rd.keep {w w' : World} {size n : Nat} {v : Value} {xs : List Value} (h : Rd w size v n xs) (hu : Upd NoF w w') : Rd w' size v n xs := by
  obtain ⟨A', c', e, h1, h2, h3, hx⟩ := h
  exact ⟨A', c', e, h1, h2, h3, fun h0 => by
    obtain ⟨g, o, e', hc⟩ := hx h0
    exact ⟨g, o, e', fun j u hu' => hu.cell (hc j u hu') (fun h => h)⟩⟩

set_option maxRecDepth 100000 in
set_option maxHeartbeats 4000000 in
theorem hTagged_any {w : World} {v : Value} {bs : List UInt8} (t : UInt8) (h : Rd w 1 v bs.length (bs.map byteV)) (hbl : bs.length ≤ 1099511627776) : Calls Try.prog 75 #[byteV t, v] w fun e w' => e = .returned (nameV (tagged t bs)) ∧ Upd NoF w w' := by
  obtain ⟨A, c, rfl, hlc, hcm, _⟩ := id h
  have H := Lib.hid h
  obtain ⟨w1, hmk, hO1, hU1⟩ := make160 (w.alloc (.cells #[.int .u8 0, .int .u8 0, .int .u8 0, .int .u8 0, .int .u8 0, .int .u8 0, .int .u8 0, .int .u8 0] 95))
  obtain ⟨i1, hi1, hy0, hy1, hy2⟩ := info_parts byte_info
  have O1 := Lib.hid hO1
  have U1 := Lib.hid hU1
  have hz1 : w.heap.size + 1 ≤ w1.heap.size := by have := hU1.size; simpa using this
  rw [show (w.alloc (.cells #[.int .u8 0, .int .u8 0, .int .u8 0, .int .u8 0, .int .u8 0, .int .u8 0, .int .u8 0, .int .u8 0] 95)).heap.size = w.heap.size + 1 by simp] at hmk O1
  have B0 := Lib.hid (show ∀ w2, Upd NoF (w.alloc (.cells #[.int .u8 0, .int .u8 0, .int .u8 0, .int .u8 0, .int .u8 0, .int .u8 0, .int .u8 0, .int .u8 0] 95)) w2 → Blk w2 w.heap.size 95 #[.int .u8 0, .int .u8 0, .int .u8 0, .int .u8 0, .int .u8 0, .int .u8 0, .int .u8 0, .int .u8 0] from fun w2 hu => hu.blk (Blk.new w _ _) (fun h => h))
  clear h hO1 hU1
  go_enter Try.func75, Try.ntmps75
  go_wp2_with (first
    | (at_builtin; refine wpList_append_to _ rfl (.tmp 7) (.tmp 9) 27 rfl 5 i1 _ 1 1 Try.underlying27 hi1 hy0 hy1 hy2 rfl (.slice (some ⟨w.heap.size + 1, 0, none⟩) 0 160) 0 [] rfl (O1.out.upd ((Upd.refl NoF w1).alloc _) (fun _ _ h => h)) (.slice (some ⟨w1.heap.size, 0, none⟩) 1 1) 1 [byteV t] rfl (Rd.of_blk (Blk.new w1 _ _) (by omega) (by unfold maxLen; omega) rfl (by intro j u hu; cases j with | zero => simpa using hu | succ j => simp at hu)) (by simp [byteV, Value.oneCell']) (by unfold maxLen; omega) (by omega) ?_; intro A2 c2 w2 hown2 hupd2 hnew2; have O2 := Lib.hid hown2; have W2 := Lib.hid (show Upd NoF (w.alloc (.cells #[.int .u8 0, .int .u8 0, .int .u8 0, .int .u8 0, .int .u8 0, .int .u8 0, .int .u8 0, .int .u8 0] 95)) w2 from (U1.out.alloc _).trans hupd2 (fun k hk e => by simp [OwnB, Value.ownBlock] at e; simp at hk; omega)); have V2 := Lib.hid (show Upd NoF w w2 from ((((Upd.refl NoF w).alloc _).trans U1.out (fun _ _ h => h)).alloc _).trans hupd2 (fun k hk e => by simp [OwnB, Value.ownBlock] at e; omega)); have N2 := Lib.hid (show ∀ k, OwnB (.slice A2 1 c2) k → w.heap.size < k from fun k hk => by rcases hnew2 k hk with e | e; (simp [OwnB, Value.ownBlock] at e; omega); (simp at e; omega)); clear hown2 hupd2 hnew2)
    | (at_builtin; refine wpList_append_to _ rfl (.tmp 10) (.tmp 11) 27 rfl 5 i1 _ 1 1 Try.underlying27 hi1 hy0 hy1 hy2 rfl (.slice A2 1 c2) 1 [byteV t] rfl O2.out (.slice A bs.length c) bs.length (bs.map byteV) rfl (H.out.keep V2.out) (bytes_oneCell _) (by unfold maxLen; omega) (by omega) ?_; intro A3 c3 w3 hown3 hupd3 hnew3; have O3 := Lib.hid hown3; have V3 := Lib.hid hupd3; clear hown3 hupd3 hnew3))
  refine (hSum_any (bs := t :: bs) (O3.out.rd2) (by simp; omega)).mono ?_
  rintro e w5 ⟨rfl, hu5⟩
  rw [show hsum (t :: bs) = tagged t bs from rfl]
  have hv3 : Upd NoF w w3 := V2.out.trans V3.out (fun k hk e => by have := N2.out k e; omega)
  have hb5 : Blk w5 w.heap.size 95 #[.int .u8 0, .int .u8 0, .int .u8 0, .int .u8 0, .int .u8 0, .int .u8 0, .int .u8 0, .int .u8 0] := hu5.blk (V3.out.blk (B0.out w2 W2.out) (fun e => by have := N2.out _ e; omega)) (fun h => h)
  obtain ⟨b0, b1, b2, b3, b4, b5, b6, b7, l', hl'⟩ := eight (tagged t bs) (Nat.le_of_eq rfl)
  obtain rfl : l' = [] := by
    have := congrArg List.length hl'
    rw [show (tagged t bs).length = 8 from rfl] at this
    simpa using this
  have HL' := Lib.hid hl'
  rw [hl']
  have g0 : w5.frozen? ⟨w.heap.size, 0, none⟩ = false := hb5.frozen 0
  have r0 : w5.cell? ⟨w.heap.size, 0, none⟩ = some (.int .u8 0) := hb5.cell 0
  have g1 : w5.frozen? ⟨w.heap.size, 1, none⟩ = false := hb5.frozen 1
  have r1 : w5.cell? ⟨w.heap.size, 1, none⟩ = some (.int .u8 0) := hb5.cell 1
  have g2 : w5.frozen? ⟨w.heap.size, 2, none⟩ = false := hb5.frozen 2
  have r2 : w5.cell? ⟨w.heap.size, 2, none⟩ = some (.int .u8 0) := hb5.cell 2
  have g3 : w5.frozen? ⟨w.heap.size, 3, none⟩ = false := hb5.frozen 3
  have r3 : w5.cell? ⟨w.heap.size, 3, none⟩ = some (.int .u8 0) := hb5.cell 3
  have g4 : w5.frozen? ⟨w.heap.size, 4, none⟩ = false := hb5.frozen 4
  have r4 : w5.cell? ⟨w.heap.size, 4, none⟩ = some (.int .u8 0) := hb5.cell 4
  have g5 : w5.frozen? ⟨w.heap.size, 5, none⟩ = false := hb5.frozen 5
  have r5 : w5.cell? ⟨w.heap.size, 5, none⟩ = some (.int .u8 0) := hb5.cell 5
  have g6 : w5.frozen? ⟨w.heap.size, 6, none⟩ = false := hb5.frozen 6
  have r6 : w5.cell? ⟨w.heap.size, 6, none⟩ = some (.int .u8 0) := hb5.cell 6
  have g7 : w5.frozen? ⟨w.heap.size, 7, none⟩ = false := hb5.frozen 7
  have r7 : w5.cell? ⟨w.heap.size, 7, none⟩ = some (.int .u8 0) := hb5.cell 7
  have B5 := Lib.hid hb5
  have U6 := Lib.hid (hv3.trans hu5 (fun _ _ h => h))
  clear hb5 hu5 hl' hv3
  go_wp2
  refine bodyPost_ret (v := nameV [b0, b1, b2, b3, b4, b5, b6, b7]) ?_ rfl ⟨by rw [HL'.out], ?_⟩
  · exact results_cell_row (P := Try.prog) Try.results75 _ _ w.heap.size 95 #[byteV b0, byteV b1, byteV b2, byteV b3, byteV b4, byteV b5, byteV b6, byteV b7] (0, 0) _ rfl (name_put B5.out b0 b1 b2 b3 b4 b5 b6 b7) Try.underlying95 rfl (by kernel_rfl)
  · exact name_upd U6.out (.inr (Nat.le_refl _)) b0 b1 b2 b3 b4 b5 b6 b7

set_option maxRecDepth 100000 in
set_option maxHeartbeats 4000000 in
theorem r1Tagged_any {w : World} {v : Value} {bs : List UInt8} (t : UInt8) (h : Rd w 1 v bs.length (bs.map byteV)) (hbl : bs.length ≤ 1099511627776) : Calls Try.prog 76 #[byteV t, v] w fun e w' => e = .returned (nameV (tagged t bs)) ∧ Upd NoF w w' := by
  obtain ⟨A, c, rfl, hlc, hcm, _⟩ := id h
  have H := Lib.hid h
  obtain ⟨w1, hmk, hO1, hU1⟩ := make160 (w.alloc (.cells #[.int .u8 0, .int .u8 0, .int .u8 0, .int .u8 0, .int .u8 0, .int .u8 0, .int .u8 0, .int .u8 0] 95))
  obtain ⟨i1, hi1, hy0, hy1, hy2⟩ := info_parts byte_info
  have O1 := Lib.hid hO1
  have U1 := Lib.hid hU1
  have hz1 : w.heap.size + 1 ≤ w1.heap.size := by have := hU1.size; simpa using this
  rw [show (w.alloc (.cells #[.int .u8 0, .int .u8 0, .int .u8 0, .int .u8 0, .int .u8 0, .int .u8 0, .int .u8 0, .int .u8 0] 95)).heap.size = w.heap.size + 1 by simp] at hmk O1
  have B0 := Lib.hid (show ∀ w2, Upd NoF (w.alloc (.cells #[.int .u8 0, .int .u8 0, .int .u8 0, .int .u8 0, .int .u8 0, .int .u8 0, .int .u8 0, .int .u8 0] 95)) w2 → Blk w2 w.heap.size 95 #[.int .u8 0, .int .u8 0, .int .u8 0, .int .u8 0, .int .u8 0, .int .u8 0, .int .u8 0, .int .u8 0] from fun w2 hu => hu.blk (Blk.new w _ _) (fun h => h))
  clear h hO1 hU1
  go_enter Try.func76, Try.ntmps76
  go_wp2_with (first
    | (at_builtin; refine wpList_append_to _ rfl (.tmp 5) (.tmp 7) 27 rfl 5 i1 _ 1 1 Try.underlying27 hi1 hy0 hy1 hy2 rfl (.slice (some ⟨w.heap.size + 1, 0, none⟩) 0 160) 0 [] rfl (O1.out.upd ((Upd.refl NoF w1).alloc _) (fun _ _ h => h)) (.slice (some ⟨w1.heap.size, 0, none⟩) 1 1) 1 [byteV t] rfl (Rd.of_blk (Blk.new w1 _ _) (by omega) (by unfold maxLen; omega) rfl (by intro j u hu; cases j with | zero => simpa using hu | succ j => simp at hu)) (by simp [byteV, Value.oneCell']) (by unfold maxLen; omega) (by omega) ?_; intro A2 c2 w2 hown2 hupd2 hnew2; have O2 := Lib.hid hown2; have W2 := Lib.hid (show Upd NoF (w.alloc (.cells #[.int .u8 0, .int .u8 0, .int .u8 0, .int .u8 0, .int .u8 0, .int .u8 0, .int .u8 0, .int .u8 0] 95)) w2 from (U1.out.alloc _).trans hupd2 (fun k hk e => by simp [OwnB, Value.ownBlock] at e; simp at hk; omega)); have V2 := Lib.hid (show Upd NoF w w2 from ((((Upd.refl NoF w).alloc _).trans U1.out (fun _ _ h => h)).alloc _).trans hupd2 (fun k hk e => by simp [OwnB, Value.ownBlock] at e; omega)); have N2 := Lib.hid (show ∀ k, OwnB (.slice A2 1 c2) k → w.heap.size < k from fun k hk => by rcases hnew2 k hk with e | e; (simp [OwnB, Value.ownBlock] at e; omega); (simp at e; omega)); clear hown2 hupd2 hnew2)
    | (at_builtin; refine wpList_append_to _ rfl (.tmp 8) (.tmp 9) 27 rfl 5 i1 _ 1 1 Try.underlying27 hi1 hy0 hy1 hy2 rfl (.slice A2 1 c2) 1 [byteV t] rfl O2.out (.slice A bs.length c) bs.length (bs.map byteV) rfl (H.out.keep V2.out) (bytes_oneCell _) (by unfold maxLen; omega) (by omega) ?_; intro A3 c3 w3 hown3 hupd3 hnew3; have O3 := Lib.hid hown3; have V3 := Lib.hid hupd3; clear hown3 hupd3 hnew3))
  refine (r1Sum_any (bs := t :: bs) (O3.out.rd2) (by simp; omega)).mono ?_
  rintro e w5 ⟨rfl, hu5⟩
  rw [show hsum (t :: bs) = tagged t bs from rfl]
  have hv3 : Upd NoF w w3 := V2.out.trans V3.out (fun k hk e => by have := N2.out k e; omega)
  have hb5 : Blk w5 w.heap.size 95 #[.int .u8 0, .int .u8 0, .int .u8 0, .int .u8 0, .int .u8 0, .int .u8 0, .int .u8 0, .int .u8 0] := hu5.blk (V3.out.blk (B0.out w2 W2.out) (fun e => by have := N2.out _ e; omega)) (fun h => h)
  obtain ⟨b0, b1, b2, b3, b4, b5, b6, b7, l', hl'⟩ := eight (tagged t bs) (Nat.le_of_eq rfl)
  obtain rfl : l' = [] := by
    have := congrArg List.length hl'
    rw [show (tagged t bs).length = 8 from rfl] at this
    simpa using this
  have HL' := Lib.hid hl'
  rw [hl']
  have g0 : w5.frozen? ⟨w.heap.size, 0, none⟩ = false := hb5.frozen 0
  have r0 : w5.cell? ⟨w.heap.size, 0, none⟩ = some (.int .u8 0) := hb5.cell 0
  have g1 : w5.frozen? ⟨w.heap.size, 1, none⟩ = false := hb5.frozen 1
  have r1 : w5.cell? ⟨w.heap.size, 1, none⟩ = some (.int .u8 0) := hb5.cell 1
  have g2 : w5.frozen? ⟨w.heap.size, 2, none⟩ = false := hb5.frozen 2
  have r2 : w5.cell? ⟨w.heap.size, 2, none⟩ = some (.int .u8 0) := hb5.cell 2
  have g3 : w5.frozen? ⟨w.heap.size, 3, none⟩ = false := hb5.frozen 3
  have r3 : w5.cell? ⟨w.heap.size, 3, none⟩ = some (.int .u8 0) := hb5.cell 3
  have g4 : w5.frozen? ⟨w.heap.size, 4, none⟩ = false := hb5.frozen 4
  have r4 : w5.cell? ⟨w.heap.size, 4, none⟩ = some (.int .u8 0) := hb5.cell 4
  have g5 : w5.frozen? ⟨w.heap.size, 5, none⟩ = false := hb5.frozen 5
  have r5 : w5.cell? ⟨w.heap.size, 5, none⟩ = some (.int .u8 0) := hb5.cell 5
  have g6 : w5.frozen? ⟨w.heap.size, 6, none⟩ = false := hb5.frozen 6
  have r6 : w5.cell? ⟨w.heap.size, 6, none⟩ = some (.int .u8 0) := hb5.cell 6
  have g7 : w5.frozen? ⟨w.heap.size, 7, none⟩ = false := hb5.frozen 7
  have r7 : w5.cell? ⟨w.heap.size, 7, none⟩ = some (.int .u8 0) := hb5.cell 7
  have B5 := Lib.hid hb5
  have U6 := Lib.hid (hv3.trans hu5 (fun _ _ h => h))
  clear hb5 hu5 hl' hv3
  go_wp2
  refine bodyPost_ret (v := nameV [b0, b1, b2, b3, b4, b5, b6, b7]) ?_ rfl ⟨by rw [HL'.out], ?_⟩
  · exact results_cell_row (P := Try.prog) Try.results76 _ _ w.heap.size 95 #[byteV b0, byteV b1, byteV b2, byteV b3, byteV b4, byteV b5, byteV b6, byteV b7] (0, 0) _ rfl (name_put B5.out b0 b1 b2 b3 b4 b5 b6 b7) Try.underlying95 rfl (by kernel_rfl)
  · exact name_upd U6.out (.inr (Nat.le_refl _)) b0 b1 b2 b3 b4 b5 b6 b7
end Go.Proofs.Ytmapijpphnlcmaa
