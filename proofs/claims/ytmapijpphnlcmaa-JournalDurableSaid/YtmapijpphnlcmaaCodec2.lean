/- Numbers as bytes: AppendUint of package codec and of the reference. Conditions: sizes. -/
import Derived.Test.YtmapijpphnlcmaaCodec1
namespace Go.Proofs.Ytmapijpphnlcmaa
open Go.RowKit

set_option maxRecDepth 100000 in
set_option maxHeartbeats 4000000 in
theorem cAppendUint_any {w : World} {b : Value} {bs : List UInt8} (h : Rd w 1 b bs.length (bs.map byteV)) (v : Int) (_hv : 0 ≤ v) (n : Nat) (hn : n ≤ 8) (hm : bs.length + 8 ≤ 1099511627776) : Calls Try.prog 73 #[b, u64V v, .int .i64 (n : Int)] w (BytesPost w (bs ++ beB v n)) := by
  obtain ⟨A, c, rfl, hlc, hcm, _⟩ := id h
  have CE := Lib.hid (extended_any h n (by omega))
  obtain ⟨i1, hi1, hy0, hy1, hy2⟩ := info_parts byte_info
  have m1 : max (n : Int) 0 = n := by omega
  have m2 : min (n : Int) 8 = n := by omega
  clear h
  go_enter Try.func73, Try.ntmps73
  go_wp2_with fail
  refine CE.out.mono ?_
  rintro e w1 ⟨A1, c1, rfl, hN1⟩
  have N1 := Lib.hid hN1
  clear hN1 m1 m2
  go_wp2
  go_loopw [7, 8] (fun out i wr => AuRel w bs v n out i wr) (fun _ i _ => (intOf i + 1).toNat)
  case atStart => exact ⟨n, bs, A1, c1, Nat.le_refl _, rfl, rfl, N1.out, rfl⟩
  case round =>
    obtain ⟨r, xs, A2, c2, hr, hi, rfl, hN, hE⟩ := hrel
    have hlen : xs.length + r = bs.length + n := by
      have := congrArg List.length hE
      simpa [beB_len] using this
    have HN := Lib.hid hN
    have HE := Lib.hid hE
    cases r with
    | zero =>
      obtain rfl := hi
      obtain rfl : xs = bs ++ beB v n := by simpa [beB] using HE.out
      have t1 : decide ((0 : Int) ≤ ((0 : Nat) : Int) - 1) = false := by decide
      clear hN hE hlen
      go_wp2
      go_ret
      exact ⟨A2, c2, rfl, HN.out⟩
    | succ r =>
      obtain rfl : _ = Value.int .i64 (r : Int) := hi.trans (by congr 1; omega)
      have t1 : decide ((0 : Int) ≤ (r : Int)) = true := by simp
      have e1 : (0 : Int) ≤ 8 * (r : Int) := by omega
      have e2 : (8 * (r : Int)).toNat = 8 * r := by omega
      have e3 : min (8 * r) 64 = 8 * r := by omega
      have HBV := Lib.hid (show Value.int .u8 (IntKind.u8.wrap (v / 2 ^ (8 * r))) = byteV (byteAt v r) from wrap_byte _)
      have hxl : xs.length ≤ 1099511627776 := by omega
      clear hN hE hi hlen
      go_wp2_with (at_builtin; refine wpList_append_to _ rfl (.tmp 21) (.tmp 27) 27 rfl 5 i1 _ 1 1 Try.underlying27 hi1 hy0 hy1 hy2 rfl (.slice A2 xs.length c2) xs.length (xs.map byteV) rfl (HN.out.1.upd ((Upd.refl NoF wr).alloc _) (fun _ _ h => h)) (.slice (some ⟨wr.heap.size, 0, none⟩) 1 1) 1 [byteV (byteAt v r)] rfl (Rd.of_blk (Blk.new wr _ _) (by omega) (by unfold maxLen; omega) rfl (by intro j u hu; rw [← HBV.out, IntKind.wrap_u8'] at hu; cases j with | zero => simpa using hu | succ j => simp at hu)) (by simp [byteV, Value.oneCell']) (by unfold maxLen; omega) (by omega) ?_; intro A3 c3 w3 hown3 hupd3 hnew3; have O3 := Lib.hid hown3; have V3 := Lib.hid hupd3; have W3 := Lib.hid hnew3; clear hown3 hupd3 hnew3)
      go_roundw
      case rel =>
        refine ⟨r, xs ++ [byteAt v r], A3, c3, by omega, by go_num, by simp, HN.out.push O3.out V3.out W3.out, ?_⟩
        rw [← HE.out]
        simp [beB]
      case measure => simp [intOf]

set_option maxRecDepth 100000 in
set_option maxHeartbeats 4000000 in
theorem r1AppendUint_any {w : World} {b : Value} {bs : List UInt8} (h : Rd w 1 b bs.length (bs.map byteV)) (v : Int) (_hv : 0 ≤ v) (n : Nat) (hn : n ≤ 8) (hm : bs.length + 8 ≤ 1099511627776) : Calls Try.prog 77 #[b, u64V v, .int .i64 (n : Int)] w (BytesPost w (bs ++ beB v n)) := by
  obtain ⟨A, c, rfl, hlc, hcm, _⟩ := id h
  have H := Lib.hid h
  obtain ⟨i1, hi1, hy0, hy1, hy2⟩ := info_parts byte_info
  have m1 : max (0 : Int) (n : Int) = n := by omega
  have m2 : min (n : Int) 8 = n := by omega
  clear h
  go_enter Try.func77, Try.ntmps77
  go_wp2_with (at_builtin; refine wpList_append_new _ rfl (.tmp 9) (.tmp 10) 27 rfl 5 i1 _ 1 1 Try.underlying27 hi1 hy0 hy1 hy2 rfl (.slice (some ⟨w.heap.size, 0, none⟩) 0 0) rfl (Own.fresh w _ _) (.slice A bs.length c) bs.length (bs.map byteV) rfl (H.out.keep ((Upd.refl NoF w).alloc _)) (bytes_oneCell _) (by unfold maxLen; omega) (by omega) ?_; intro A1 c1 w1 hown1 hupd1 hnew1; have N1 := Lib.hid (show NewO w bs A1 c1 w1 from ⟨hown1, fun k hk => (by rcases hnew1 k hk with e | e; (simp [OwnB, Value.ownBlock] at e; omega); (simp at e; omega)), ((Upd.refl NoF w).alloc _).trans hupd1 (fun k hk e => by simp [OwnB, Value.ownBlock] at e; omega)⟩); clear hown1 hupd1 hnew1)
  clear m1 m2
  go_loopw [7, 8] (fun out i wr => AuRel w bs v n out i wr) (fun _ i _ => (intOf i + 1).toNat)
  case atStart => exact ⟨n, bs, A1, c1, Nat.le_refl _, rfl, rfl, N1.out, rfl⟩
  case round =>
    obtain ⟨r, xs, A2, c2, hr, hi, rfl, hN, hE⟩ := hrel
    have hlen : xs.length + r = bs.length + n := by
      have := congrArg List.length hE
      simpa [beB_len] using this
    have HN := Lib.hid hN
    have HE := Lib.hid hE
    cases r with
    | zero =>
      obtain rfl := hi
      obtain rfl : xs = bs ++ beB v n := by simpa [beB] using HE.out
      have t1 : decide ((0 : Int) ≤ ((0 : Nat) : Int) - 1) = false := by decide
      clear hN hE hlen
      go_wp2
      go_ret
      exact ⟨A2, c2, rfl, HN.out⟩
    | succ r =>
      obtain rfl : _ = Value.int .i64 (r : Int) := hi.trans (by congr 1; omega)
      have t1 : decide ((0 : Int) ≤ (r : Int)) = true := by simp
      have e1 : (0 : Int) ≤ 8 * (r : Int) := by omega
      have e2 : (8 * (r : Int)).toNat = 8 * r := by omega
      have e3 : min (8 * r) 64 = 8 * r := by omega
      have HBV := Lib.hid (show Value.int .u8 (IntKind.u8.wrap (v / 2 ^ (8 * r))) = byteV (byteAt v r) from wrap_byte _)
      have hxl : xs.length ≤ 1099511627776 := by omega
      clear hN hE hi hlen
      go_wp2_with (at_builtin; refine wpList_append_to _ rfl (.tmp 20) (.tmp 27) 27 rfl 5 i1 _ 1 1 Try.underlying27 hi1 hy0 hy1 hy2 rfl (.slice A2 xs.length c2) xs.length (xs.map byteV) rfl (HN.out.1.upd ((Upd.refl NoF wr).alloc _) (fun _ _ h => h)) (.slice (some ⟨wr.heap.size, 0, none⟩) 1 1) 1 [byteV (byteAt v r)] rfl (Rd.of_blk (Blk.new wr _ _) (by omega) (by unfold maxLen; omega) rfl (by intro j u hu; rw [← HBV.out, IntKind.wrap_u8'] at hu; cases j with | zero => simpa using hu | succ j => simp at hu)) (by simp [byteV, Value.oneCell']) (by unfold maxLen; omega) (by omega) ?_; intro A3 c3 w3 hown3 hupd3 hnew3; have O3 := Lib.hid hown3; have V3 := Lib.hid hupd3; have W3 := Lib.hid hnew3; clear hown3 hupd3 hnew3)
      go_roundw
      case rel =>
        refine ⟨r, xs ++ [byteAt v r], A3, c3, by omega, by go_num, by simp, HN.out.push O3.out V3.out W3.out, ?_⟩
        rw [← HE.out]
        simp [beB]
      case measure => simp [intOf]
end Go.Proofs.Ytmapijpphnlcmaa
