/- Numbers as bytes; checksums and frames of the journal. Conditions: those that each theorem states. -/
import Derived.Test.YtmapijpphnlcmaaHash5
import Derived.Laws.MakeOwn
import Derived.Deep.RegionHeld3
namespace Go.Proofs.Ytmapijpphnlcmaa
section
open Go.RowKit

def byteAt (v : Int) (i : Nat) : UInt8 := UInt8.ofNat ((v / 2 ^ (8 * i)) % 256).toNat
/-- The lowest n bytes of v, the highest first. -/
def beB (v : Int) : Nat → List UInt8
  | 0 => []
  | n + 1 => byteAt v n :: beB v n
theorem beB_len (v : Int) (n : Nat) : (beB v n).length = n := by induction n with | zero => rfl | succ n ih => simp [beB, ih]

/-- A new slice of bytes that owns its block. -/
def NewO (w : World) (bs : List UInt8) (A : Option Addr) (c : Nat) (w' : World) : Prop := Own w' 5 1 (.slice A bs.length c) bs.length (bs.map byteV) ∧ (∀ k, OwnB (.slice A bs.length c) k → w.heap.size ≤ k) ∧ Upd NoF w w'
def BytesPost (w : World) (bs : List UInt8) (e : Ending) (w' : World) : Prop := ∃ A c, e = .returned (.slice A bs.length c) ∧ NewO w bs A c w'

theorem run_make_bytes (w : World) (n m : Nat) (l c : Int) (hl : l = n) (hc : c = m) (hm : m ≤ 1099511627776) (hn : n ≤ m) : ∃ w' cs, (Instr.makeSlice 27 (.int .i64 l) (.int .i64 c)).run Try.prog w = .ok (.slice (some ⟨w.heap.size, 0, none⟩) n m) w' ∧ Blk w' w.heap.size 5 cs ∧ cs.size = m ∧ Upd NoF w w' := by
  obtain ⟨i1, hi1, hy0, hy1, hy2⟩ := info_parts byte_info
  subst hl hc
  have h := run_make (P := Try.prog) w 27 5 i1 _ Try.underlying27 hi1 hy0 .i64 .i64 n m (by omega) (by omega) (by rw [hy2]; omega) (by omega)
  refine ⟨_, _, h, Blk.new w _ _, ?_, (Upd.refl NoF w).alloc _⟩
  rw [size_madeCells, hy1]
  simp

theorem run_copy0 (w : World) (g o dl dc : Nat) (A : Option Addr) (c : Nat) (ty : TypeId) : (Builtin.copy_ #[27, 27] ty #[.slice (some ⟨g, o, none⟩) dl dc, .slice A 0 c]).run Try.prog w = .ok (.int .i64 0) w := by
  obtain ⟨i1, hi1, hy0, hy1, hy2⟩ := info_parts byte_info
  cases A <;> simp [Builtin.copy_, run_underlying Try.underlying27, Builtin.lenOf, Builtin.firstCells, sizeOf, typeInfo, hi1, storeCells, loadCells, loadCellsFrom, goInt]

/-- 'make' and 'copy' at once. -/
theorem make_copy {w : World} {v : Value} {bs : List UInt8} (h : Rd w 1 v bs.length (bs.map byteV)) (n : Nat) (c : Int) (hc : c = ((bs.length + n : Nat) : Int)) (hm : bs.length + n ≤ 1099511627776) : ∃ w1 w2,
    (Instr.makeSlice 27 (.int .i64 (bs.length : Int)) (.int .i64 c)).run Try.prog w = .ok (.slice (some ⟨w.heap.size, 0, none⟩) bs.length (bs.length + n)) w1 ∧
    (Builtin.copy_ #[27, 27] 3 #[.slice (some ⟨w.heap.size, 0, none⟩) bs.length (bs.length + n), v]).run Try.prog w1 = .ok (.int .i64 (bs.length : Int)) w2 ∧
    NewO w bs (some ⟨w.heap.size, 0, none⟩) (bs.length + n) w2 := by
  obtain ⟨w1, cs, h1, h2, h3, h4⟩ := run_make_bytes w bs.length (bs.length + n) bs.length c rfl hc hm (by omega)
  have hN : ∀ k, OwnB (.slice (some ⟨w.heap.size, 0, none⟩) bs.length (bs.length + n)) k → w.heap.size ≤ k := fun k hk => by simp [OwnB, Value.ownBlock] at hk; omega
  rcases Nat.eq_zero_or_pos bs.length with h0 | h0
  · obtain rfl : bs = [] := List.eq_nil_of_length_eq_zero h0
    obtain ⟨A, c', rfl, _⟩ := h
    refine ⟨w1, w1, h1, run_copy0 _ _ _ _ _ _ _ _, ⟨by simp, .inr ⟨w.heap.size, _, cs, rfl, h2, by omega, by unfold maxLen; omega, by omega, by simp⟩⟩, hN, h4⟩
  · obtain ⟨w2, k1, k2, k3⟩ := run_copy_bytes (dl := bs.length) (dc := bs.length + n) (o := 0) h2 (h.keep h4) h0 bs.length (by simp only [Nat.min_def]; split <;> omega) (by omega) 3
    refine ⟨w1, w2, h1, k1, ⟨by simp, .inr ⟨w.heap.size, _, _, rfl, k2, by omega, by unfold maxLen; omega, ?_, ?_⟩⟩, hN, h4.trans k3 (fun k hk e => by have e : k = w.heap.size := e; omega)⟩
    · simp; omega
    · simp

set_option maxRecDepth 100000 in
theorem extended_any {w : World} {v : Value} {bs : List UInt8} (h : Rd w 1 v bs.length (bs.map byteV)) (n : Nat) (hm : bs.length + n ≤ 1099511627776) : Calls Try.prog 81 #[v, .int .i64 (n : Int)] w (BytesPost w bs) := by
  obtain ⟨w1, w2, h1, h2, h3⟩ := make_copy h n ((bs.length : Int) + (n : Int)) (by omega) hm
  obtain ⟨A, c, rfl, hlc, hcm, _⟩ := id h
  have H3 := Lib.hid h3
  clear h h3
  go_enter Try.func81, Try.ntmps81
  go_wp2
  go_ret
  exact ⟨_, _, rfl, H3.out⟩

def AuRel (w : World) (bs : List UInt8) (v : Int) (n : Nat) (out i : Value) (wr : World) : Prop := ∃ (r : Nat) (xs : List UInt8) (A : Option Addr) (c : Nat), r ≤ n ∧ i = .int .i64 ((r : Int) - 1) ∧ out = .slice A xs.length c ∧ NewO w xs A c wr ∧ xs ++ beB v r = bs ++ beB v n

theorem NewO.push {w wr w1 : World} {xs : List UInt8} {A A' : Option Addr} {c c' : Nat} {b : UInt8} {o : Obj} (h : NewO w xs A c wr) (ho : Own w1 5 1 (.slice A' (xs.length + 1) c') (xs.length + 1) (xs.map byteV ++ [byteV b])) (hu : Upd (OwnB (.slice A xs.length c)) (wr.alloc o) w1)
    (hn : ∀ k, OwnB (.slice A' (xs.length + 1) c') k → OwnB (.slice A xs.length c) k ∨ (wr.alloc o).heap.size ≤ k) : NewO w (xs ++ [b]) A' c' w1 := by
  obtain ⟨h1, h2, h3⟩ := h
  have hs := h3.size
  refine ⟨by rw [List.length_append, List.length_singleton, List.map_append]; exact ho, fun k hk => ?_, (h3.alloc o).trans hu (fun k hk e => by have := h2 k e; omega)⟩
  rw [List.length_append, List.length_singleton] at hk
  rcases hn k hk with e | e
  · exact h2 k e
  · simp at e; omega
end

section
open Go.RowKit

set_option maxRecDepth 100000 in
set_option maxHeartbeats 4000000 in
theorem cAppendUint_any {w : World} {b : Value} {bs : List UInt8} (h : Rd w 1 b bs.length (bs.map byteV)) (v : Int) (_hv : 0 ≤ v) (n : Nat) (hn : n ≤ 8) (hm : bs.length + 8 ≤ 1099511627776) : Calls Try.prog 73 #[b, u64V v, .int .i64 (n : Int)] w (BytesPost w (bs ++ beB v n)) := by
  obtain ⟨A, c, rfl, hlc, hcm, _⟩ := id h
  have CE := Lib.hid (extended_any h n (by omega))
  obtain ⟨i1, hi1, hy0, hy1, hy2⟩ := info_parts byte_info
  have m1 : max (n : Int) 0 = n := by omega
  have m2 : min (n : Int) 8 = n := by omega
  clear h
  go_enter Try.func73, Try.ntmps73
  go_wp2_with fail
  refine CE.out.mono ?_
  rintro e w1 ⟨A1, c1, rfl, hN1⟩
  have N1 := Lib.hid hN1
  clear hN1 m1 m2
  go_wp2
  go_loopw [7, 8] (fun out i wr => AuRel w bs v n out i wr) (fun _ i _ => (intOf i + 1).toNat)
  case atStart => exact ⟨n, bs, A1, c1, Nat.le_refl _, rfl, rfl, N1.out, rfl⟩
  case round =>
    obtain ⟨r, xs, A2, c2, hr, hi, rfl, hN, hE⟩ := hrel
    have hlen : xs.length + r = bs.length + n := by
      have := congrArg List.length hE
      simpa [beB_len] using this
    have HN := Lib.hid hN
    have HE := Lib.hid hE
    cases r with
    | zero =>
      obtain rfl := hi
      obtain rfl : xs = bs ++ beB v n := by simpa [beB] using HE.out
      have t1 : decide ((0 : Int) ≤ ((0 : Nat) : Int) - 1) = false := by decide
      clear hN hE hlen
      go_wp2
      go_ret
      exact ⟨A2, c2, rfl, HN.out⟩
    | succ r =>
      obtain rfl : _ = Value.int .i64 (r : Int) := hi.trans (by congr 1; omega)
      have t1 : decide ((0 : Int) ≤ (r : Int)) = true := by simp
      have e1 : (0 : Int) ≤ 8 * (r : Int) := by omega
      have e2 : (8 * (r : Int)).toNat = 8 * r := by omega
      have e3 : min (8 * r) 64 = 8 * r := by omega
      have HBV := Lib.hid (show Value.int .u8 (IntKind.u8.wrap (v / 2 ^ (8 * r))) = byteV (byteAt v r) from wrap_byte _)
      have hxl : xs.length ≤ 1099511627776 := by omega
      clear hN hE hi hlen
      go_wp2_with (at_builtin; refine wpList_append_to _ rfl (.tmp 21) (.tmp 27) 27 rfl 5 i1 _ 1 1 Try.underlying27 hi1 hy0 hy1 hy2 rfl (.slice A2 xs.length c2) xs.length (xs.map byteV) rfl (HN.out.1.upd ((Upd.refl NoF wr).alloc _) (fun _ _ h => h)) (.slice (some ⟨wr.heap.size, 0, none⟩) 1 1) 1 [byteV (byteAt v r)] rfl (Rd.of_blk (Blk.new wr _ _) (by omega) (by unfold maxLen; omega) rfl (by intro j u hu; rw [← HBV.out, IntKind.wrap_u8'] at hu; cases j with | zero => simpa using hu | succ j => simp at hu)) (by simp [byteV, Value.oneCell']) (by unfold maxLen; omega) (by omega) ?_; intro A3 c3 w3 hown3 hupd3 hnew3; have O3 := Lib.hid hown3; have V3 := Lib.hid hupd3; have W3 := Lib.hid hnew3; clear hown3 hupd3 hnew3)
      go_roundw
      case rel =>
        refine ⟨r, xs ++ [byteAt v r], A3, c3, by omega, by go_num, by simp, HN.out.push O3.out V3.out W3.out, ?_⟩
        rw [← HE.out]
        simp [beB]
      case measure => simp [intOf]

set_option maxRecDepth 100000 in
set_option maxHeartbeats 4000000 in
theorem r1AppendUint_any {w : World} {b : Value} {bs : List UInt8} (h : Rd w 1 b bs.length (bs.map byteV)) (v : Int) (_hv : 0 ≤ v) (n : Nat) (hn : n ≤ 8) (hm : bs.length + 8 ≤ 1099511627776) : Calls Try.prog 77 #[b, u64V v, .int .i64 (n : Int)] w (BytesPost w (bs ++ beB v n)) := by
  obtain ⟨A, c, rfl, hlc, hcm, _⟩ := id h
  have H := Lib.hid h
  obtain ⟨i1, hi1, hy0, hy1, hy2⟩ := info_parts byte_info
  have m1 : max (0 : Int) (n : Int) = n := by omega
  have m2 : min (n : Int) 8 = n := by omega
  clear h
  go_enter Try.func77, Try.ntmps77
  go_wp2_with (at_builtin; refine wpList_append_new _ rfl (.tmp 9) (.tmp 10) 27 rfl 5 i1 _ 1 1 Try.underlying27 hi1 hy0 hy1 hy2 rfl (.slice (some ⟨w.heap.size, 0, none⟩) 0 0) rfl (Own.fresh w _ _) (.slice A bs.length c) bs.length (bs.map byteV) rfl (H.out.keep ((Upd.refl NoF w).alloc _)) (bytes_oneCell _) (by unfold maxLen; omega) (by omega) ?_; intro A1 c1 w1 hown1 hupd1 hnew1; have N1 := Lib.hid (show NewO w bs A1 c1 w1 from ⟨hown1, fun k hk => (by rcases hnew1 k hk with e | e; (simp [OwnB, Value.ownBlock] at e; omega); (simp at e; omega)), ((Upd.refl NoF w).alloc _).trans hupd1 (fun k hk e => by simp [OwnB, Value.ownBlock] at e; omega)⟩); clear hown1 hupd1 hnew1)
  clear m1 m2
  go_loopw [7, 8] (fun out i wr => AuRel w bs v n out i wr) (fun _ i _ => (intOf i + 1).toNat)
  case atStart => exact ⟨n, bs, A1, c1, Nat.le_refl _, rfl, rfl, N1.out, rfl⟩
  case round =>
    obtain ⟨r, xs, A2, c2, hr, hi, rfl, hN, hE⟩ := hrel
    have hlen : xs.length + r = bs.length + n := by
      have := congrArg List.length hE
      simpa [beB_len] using this
    have HN := Lib.hid hN
    have HE := Lib.hid hE
    cases r with
    | zero =>
      obtain rfl := hi
      obtain rfl : xs = bs ++ beB v n := by simpa [beB] using HE.out
      have t1 : decide ((0 : Int) ≤ ((0 : Nat) : Int) - 1) = false := by decide
      clear hN hE hlen
      go_wp2
      go_ret
      exact ⟨A2, c2, rfl, HN.out⟩
    | succ r =>
      obtain rfl : _ = Value.int .i64 (r : Int) := hi.trans (by congr 1; omega)
      have t1 : decide ((0 : Int) ≤ (r : Int)) = true := by simp
      have e1 : (0 : Int) ≤ 8 * (r : Int) := by omega
      have e2 : (8 * (r : Int)).toNat = 8 * r := by omega
      have e3 : min (8 * r) 64 = 8 * r := by omega
      have HBV := Lib.hid (show Value.int .u8 (IntKind.u8.wrap (v / 2 ^ (8 * r))) = byteV (byteAt v r) from wrap_byte _)
      have hxl : xs.length ≤ 1099511627776 := by omega
      clear hN hE hi hlen
      go_wp2_with (at_builtin; refine wpList_append_to _ rfl (.tmp 20) (.tmp 27) 27 rfl 5 i1 _ 1 1 Try.underlying27 hi1 hy0 hy1 hy2 rfl (.slice A2 xs.length c2) xs.length (xs.map byteV) rfl (HN.out.1.upd ((Upd.refl NoF wr).alloc _) (fun _ _ h => h)) (.slice (some ⟨wr.heap.size, 0, none⟩) 1 1) 1 [byteV (byteAt v r)] rfl (Rd.of_blk (Blk.new wr _ _) (by omega) (by unfold maxLen; omega) rfl (by intro j u hu; rw [← HBV.out, IntKind.wrap_u8'] at hu; cases j with | zero => simpa using hu | succ j => simp at hu)) (by simp [byteV, Value.oneCell']) (by unfold maxLen; omega) (by omega) ?_; intro A3 c3 w3 hown3 hupd3 hnew3; have O3 := Lib.hid hown3; have V3 := Lib.hid hupd3; have W3 := Lib.hid hnew3; clear hown3 hupd3 hnew3)
      go_roundw
      case rel =>
        refine ⟨r, xs ++ [byteAt v r], A3, c3, by omega, by go_num, by simp, HN.out.push O3.out V3.out W3.out, ?_⟩
        rw [← HE.out]
        simp [beB]
      case measure => simp [intOf]
end

section
open Go.RowKit

set_option maxRecDepth 100000 in
theorem follow_any {w : World} {v : Value} {bs : List UInt8} (h : Rd w 1 v bs.length (bs.map byteV)) (a n : Nat) (ha : a ≤ 4611686018427387904) (hn : n ≤ 4611686018427387904) : Calls Try.prog 74 #[v, .int .i64 (a : Int), .int .i64 (n : Int)] w fun e w' => e = .returned (.bool (decide (a + n ≤ bs.length))) ∧ w = w' := by
  have hlm := h.le
  unfold maxLen at hlm
  obtain ⟨A, c, rfl, hlc, hcm, _⟩ := id h
  clear h
  have t0 : decide ((0 : Int) ≤ (a : Int)) = true := by simp
  by_cases h1 : a ≤ bs.length
  · have t1 : decide ((a : Int) ≤ (bs.length : Int)) = true := by simpa using h1
    have t1' : decide (a ≤ bs.length) = true := by simpa using h1
    have E := Lib.hid (show decide ((n : Int) ≤ (bs.length : Int) - (a : Int)) = decide (a + n ≤ bs.length) by
      by_cases h : a + n ≤ bs.length
      · simp [h]; omega
      · simp [h]; omega)
    generalize decide (a + n ≤ bs.length) = z at E ⊢
    go_enter Try.func74, Try.ntmps74
    go_wp2
    go_ret
    exact ⟨congrArg (fun z => Ending.returned (.bool z)) E.out, rfl⟩
  · have t1 : decide ((a : Int) ≤ (bs.length : Int)) = false := by simp; omega
    have t1' : decide (a ≤ bs.length) = false := by simp; omega
    have E := Lib.hid (show false = decide (a + n ≤ bs.length) by simp; omega)
    generalize decide (a + n ≤ bs.length) = z at E ⊢
    go_enter Try.func74, Try.ntmps74
    go_wp2
    go_ret
    exact ⟨congrArg (fun z => Ending.returned (.bool z)) E.out, rfl⟩

def UiRel (l : List UInt8) (x i : Value) : Prop := ∃ k : Nat, k ≤ l.length ∧ i = .int .i64 k ∧ x = u64V ((be (l.take k) : Nat) : Int)

theorem pow7 (l : List UInt8) (k : Nat) (h : k < 8) : be (l.take k) < 72057594037927936 := by
  have h1 := be_take_lt l k
  have h2 : (256 : Nat) ^ k ≤ 256 ^ 7 := Nat.pow_le_pow_right (by omega) (by omega)
  omega

section
variable {w : World} {v : Value} {bs : List UInt8}

set_option maxRecDepth 100000 in
set_option maxHeartbeats 2000000 in
theorem cUint_no (h : Rd w 1 v bs.length (bs.map byteV)) (a n : Nat) (ha : a ≤ 4611686018427387904) (h1 : 1 ≤ n) (h8 : n ≤ 8) (hno : bs.length < a + n) : Calls Try.prog 57 #[v, .int .i64 (a : Int), .int .i64 (n : Int)] w fun e w' => e = .returned (.tuple #[u64V 0, .bool false]) ∧ w = w' := by
  have CF := follow_any h a n ha (by omega)
  rw [show decide (a + n ≤ bs.length) = false by simp; omega] at CF
  have HF := Lib.hid CF
  obtain ⟨A, c, rfl, hlc, hcm, _⟩ := id h
  have t1 : decide ((n : Int) < 1) = false := by simp; omega
  have t2 : decide ((8 : Int) < (n : Int)) = false := by simp; omega
  have t2' : decide (8 < n) = false := by simp; omega
  clear h CF
  go_enter Try.func57, Try.ntmps57
  go_wp2_with fail
  refine HF.out.mono ?_
  rintro e w' ⟨rfl, rfl⟩
  go_wp2
  go_ret2
  exact ⟨rfl, rfl⟩

set_option maxRecDepth 100000 in
set_option maxHeartbeats 2000000 in
theorem cUint_yes (h : Rd w 1 v bs.length (bs.map byteV)) (a n : Nat) (h1 : 1 ≤ n) (h8 : n ≤ 8) (hyes : a + n ≤ bs.length) (hm : bs.length ≤ 4611686018427387904) : Calls Try.prog 57 #[v, .int .i64 (a : Int), .int .i64 (n : Int)] w fun e w' => e = .returned (.tuple #[u64V ((be ((bs.drop a).take n) : Nat) : Int), .bool true]) ∧ w = w' := by
  have CF := follow_any h a n (by omega) (by omega)
  rw [show decide (a + n ≤ bs.length) = true by simp; omega] at CF
  have HF := Lib.hid CF
  obtain ⟨A, c, rfl, hlc, hcm, _⟩ := id h
  unfold maxLen at hcm
  obtain ⟨g, o, rfl, hc⟩ := rd_cells h (by omega)
  have HC := Lib.hid hc
  have t1 : decide ((n : Int) < 1) = false := by simp; omega
  have t2 : decide ((8 : Int) < (n : Int)) = false := by simp; omega
  have t2' : decide (8 < n) = false := by simp; omega
  have b1 : (0 : Int) ≤ a := by omega
  have b2 : (a : Int) ≤ (a : Int) + n := by omega
  have b3 : (a : Int) + n ≤ c := by omega
  have b4 : ¬ c = a := by omega
  have b5 : ((a : Int) + n).toNat = a + n := by omega
  obtain ⟨l, hl⟩ : ∃ l, (bs.drop a).take n = l := ⟨_, rfl⟩
  have hll : l.length = n := by rw [← hl]; simp; omega
  have hlc2 : ∀ (j : Nat) b, l[j]? = some b → w.cell? ⟨g, o + a + j, none⟩ = some (byteV b) := fun j b hb => by
    rw [Nat.add_assoc]
    refine hc (a + j) b ?_
    rw [← hl, List.getElem?_take] at hb
    split at hb
    · rw [List.getElem?_drop] at hb; exact hb
    · cases hb
  have HLC := Lib.hid hlc2
  have HLL := Lib.hid hll
  rw [hl]
  have e0 : a + n - a = n := by omega
  clear h CF hc hl hlc2 hll
  go_enter Try.func57, Try.ntmps57
  go_wp2_with fail
  refine HF.out.mono ?_
  rintro e w' ⟨rfl, rfl⟩
  go_wp2
  go_loop [8, 31] (fun x i => UiRel l x i) (fun _ i => n - (intOf i).toNat)
  case atStart => exact ⟨0, Nat.zero_le _, rfl, by simp [be]⟩
  case round =>
    obtain ⟨k, hk, rfl, rfl⟩ := hrel
    have hln := HLL.out
    by_cases hlt : k < n
    · obtain ⟨b, hb⟩ : ∃ b, l[k]? = some b := ⟨_, List.getElem?_eq_getElem (by omega)⟩
      have q := HLC.out k b hb
      have HE := Lib.hid (be_take_succ l k b hb)
      have HO := Lib.hid (or_byte (be (l.take k)) b (pow7 l k (by omega)))
      have s1 : decide ((k : Int) < n) = true := by simpa using hlt
      have s2 : (0:Int) ≤ k := by omega
      have s3 : (k:Int) < n := by omega
      generalize be (l.take k) = u at HE HO ⊢
      clear hb hln
      go_wp2
      go_round
      case rel =>
        refine ⟨k + 1, by have := HLL.out; omega, by go_num, ?_⟩
        rw [HE.out, wrap_u64_byte, HO.out]
      case measure => simp [intOf]; omega
    · have s1 : decide ((k : Int) < n) = false := by simp; omega
      have E := Lib.hid (show l.take k = l from List.take_of_length_le (by omega))
      rw [E.out]
      clear hln
      go_wp2
      go_ret2
      exact ⟨rfl, rfl⟩

set_option maxRecDepth 100000 in
set_option maxHeartbeats 2000000 in
theorem r1Uint_no (h : Rd w 1 v bs.length (bs.map byteV)) (a n : Nat) (ha : a ≤ 4611686018427387904) (h1 : 1 ≤ n) (h8 : n ≤ 8) (hno : bs.length < a + n) : Calls Try.prog 60 #[v, .int .i64 (a : Int), .int .i64 (n : Int)] w fun e w' => e = .returned (.tuple #[u64V 0, .bool false]) ∧ w = w' := by
  have hlm := h.le
  unfold maxLen at hlm
  obtain ⟨A, c, rfl, hlc, hcm, _⟩ := id h
  have t1 : decide ((n : Int) < 1) = false := by simp; omega
  have t2 : decide ((8 : Int) < (n : Int)) = false := by simp; omega
  have t2' : decide (8 < n) = false := by simp; omega
  have t3 : decide ((a : Int) < 0) = false := by simp
  have t4 : decide ((bs.length : Int) - (n : Int) < (a : Int)) = true := by simp; omega
  clear h
  go_enter Try.func60, Try.ntmps60
  go_wp2
  go_ret2
  exact ⟨rfl, rfl⟩

set_option maxRecDepth 100000 in
set_option maxHeartbeats 2000000 in
theorem r1Uint_yes (h : Rd w 1 v bs.length (bs.map byteV)) (a n : Nat) (h1 : 1 ≤ n) (h8 : n ≤ 8) (hyes : a + n ≤ bs.length) (hm : bs.length ≤ 4611686018427387904) : Calls Try.prog 60 #[v, .int .i64 (a : Int), .int .i64 (n : Int)] w fun e w' => e = .returned (.tuple #[u64V ((be ((bs.drop a).take n) : Nat) : Int), .bool true]) ∧ w = w' := by
  obtain ⟨A, c, rfl, hlc, hcm, _⟩ := id h
  unfold maxLen at hcm
  obtain ⟨g, o, rfl, hc⟩ := rd_cells h (by omega)
  have t1 : decide ((n : Int) < 1) = false := by simp; omega
  have t2 : decide ((8 : Int) < (n : Int)) = false := by simp; omega
  have t2' : decide (8 < n) = false := by simp; omega
  have t3 : decide ((a : Int) < 0) = false := by simp
  have t4 : decide ((bs.length : Int) - (n : Int) < (a : Int)) = false := by simp; omega
  obtain ⟨l, hl⟩ : ∃ l, (bs.drop a).take n = l := ⟨_, rfl⟩
  have hll : l.length = n := by rw [← hl]; simp; omega
  have hlc2 : ∀ (j : Nat) b, l[j]? = some b → w.cell? ⟨g, o + (a + j), none⟩ = some (byteV b) := fun j b hb => by
    refine hc (a + j) b ?_
    rw [← hl, List.getElem?_take] at hb
    split at hb
    · rw [List.getElem?_drop] at hb; exact hb
    · cases hb
  have HLC := Lib.hid hlc2
  have HLL := Lib.hid hll
  rw [hl]
  clear h hc hl hlc2 hll
  go_enter Try.func60, Try.ntmps60
  go_wp2
  go_loop [8, 9] (fun x i => UiRel l x i) (fun _ i => n - (intOf i).toNat)
  case atStart => exact ⟨0, Nat.zero_le _, rfl, by simp [be]⟩
  case round =>
    obtain ⟨k, hk, rfl, rfl⟩ := hrel
    have hln := HLL.out
    by_cases hlt : k < n
    · obtain ⟨b, hb⟩ : ∃ b, l[k]? = some b := ⟨_, List.getElem?_eq_getElem (by omega)⟩
      have q := HLC.out k b hb
      have HE := Lib.hid (be_take_succ l k b hb)
      have HO := Lib.hid (or_byte (be (l.take k)) b (pow7 l k (by omega)))
      have s1 : decide ((k : Int) < n) = true := by simpa using hlt
      have s2 : (0:Int) ≤ (a : Int) + k := by omega
      have s3 : (a : Int) + k < bs.length := by omega
      have s4 : ((a : Int) + k).toNat = a + k := by omega
      generalize be (l.take k) = u at HE HO ⊢
      clear hb hln
      go_wp2
      go_round
      case rel =>
        refine ⟨k + 1, by have := HLL.out; omega, by go_num, ?_⟩
        rw [HE.out, wrap_u64_byte, HO.out]
      case measure => simp [intOf]; omega
    · have s1 : decide ((k : Int) < n) = false := by simp; omega
      have E := Lib.hid (show l.take k = l from List.take_of_length_le (by omega))
      rw [E.out]
      clear hln
      go_wp2
      go_ret2
      exact ⟨rfl, rfl⟩
end
end

section
open Go.RowKit

def jsumS (i : Nat) (bs : List UInt8) : List UInt8 := tagged 88 (beB i 4 ++ bs)
def frameS (i : Nat) (bs : List UInt8) : List UInt8 := beB bs.length 4 ++ jsumS i bs ++ bs
theorem jsumS_len (i : Nat) (bs : List UInt8) : (jsumS i bs).length = 8 := rfl

def Bytes4 (W : World) (i : Nat) (e : Ending) (w' : World) : Prop := ∃ A c, e = .returned (.slice A 4 c) ∧ Own w' 5 1 (.slice A 4 c) 4 ((beB i 4).map byteV) ∧ (∀ k, OwnB (.slice A 4 c) k → W.heap.size ≤ k) ∧ Upd NoF W w'
theorem cAU4 (W : World) (i : Nat) : Calls Try.prog 73 #[.slice none 0 0, u64V (i : Int), .int .i64 4] W (Bytes4 W i) := by
  refine (cAppendUint_any (bs := []) (Rd.nil W 1) (i : Int) (by omega) 4 (by omega) (by simp)).mono ?_
  rintro e w' ⟨A, c, rfl, h1, h2, h3⟩
  exact ⟨A, c, rfl, h1, h2, h3⟩
theorem r1AU4 (W : World) (i : Nat) : Calls Try.prog 77 #[.slice none 0 0, u64V (i : Int), .int .i64 4] W (Bytes4 W i) := by
  refine (r1AppendUint_any (bs := []) (Rd.nil W 1) (i : Int) (by omega) 4 (by omega) (by simp)).mono ?_
  rintro e w' ⟨A, c, rfl, h1, h2, h3⟩
  exact ⟨A, c, rfl, h1, h2, h3⟩

theorem Own.rd4 {w : World} {A : Option Addr} {c i : Nat} {bs : List UInt8} (h : Own w 5 1 (.slice A (4 + bs.length) c) (4 + bs.length) ((beB i 4).map byteV ++ bs.map byteV)) : Rd w 1 (.slice A (4 + bs.length) c) (beB i 4 ++ bs).length ((beB i 4 ++ bs).map byteV) := by
  have := h.rd
  rw [show (beB i 4 ++ bs).length = 4 + bs.length by simp [beB_len], List.map_append]
  exact this

set_option maxRecDepth 100000 in
set_option maxHeartbeats 4000000 in
theorem jsum_any {w : World} {v : Value} {bs : List UInt8} (h : Rd w 1 v bs.length (bs.map byteV)) (hbl : bs.length ≤ 549755813888) (i : Nat) (hi : i ≤ 4611686018427387904) : Calls Try.prog 58 #[.int .i64 (i : Int), v] w fun e w' => e = .returned (nameV (jsumS i bs)) ∧ Upd NoF w w' := by
  obtain ⟨A, c, rfl, hlc, hcm, _⟩ := id h
  have H := Lib.hid h
  obtain ⟨i1, hi1, hy0, hy1, hy2⟩ := info_parts byte_info
  have hwi : IntKind.u64.wrap (i : Int) = i := wrap_u64_nat _ (by omega)
  have HA := Lib.hid ((Upd.refl NoF w).alloc (.cells #[.int .u8 0, .int .u8 0, .int .u8 0, .int .u8 0, .int .u8 0, .int .u8 0, .int .u8 0, .int .u8 0] 95))
  have B0 := Lib.hid (Blk.new w 95 #[.int .u8 0, .int .u8 0, .int .u8 0, .int .u8 0, .int .u8 0, .int .u8 0, .int .u8 0, .int .u8 0])
  clear h
  go_enter Try.func58, Try.ntmps58
  go_wp2_with fail
  refine (cAU4 _ i).mono ?_
  rintro e w1 ⟨A1, c1, rfl, hO1, hn1, hU1⟩
  have O1 := Lib.hid hO1
  have U1 := Lib.hid hU1
  have N1 := Lib.hid (show ∀ k, OwnB (.slice A1 4 c1) k → w.heap.size < k from fun k hk => by have := hn1 k hk; simp at this; omega)
  clear hO1 hn1 hU1
  go_wp2_with (at_builtin; refine wpList_append_to _ rfl (.tmp 7) (.tmp 8) 27 rfl 5 i1 _ 1 1 Try.underlying27 hi1 hy0 hy1 hy2 rfl (.slice A1 4 c1) 4 ((beB i 4).map byteV) rfl O1.out (.slice A bs.length c) bs.length (bs.map byteV) rfl ((H.out.keep HA.out).keep U1.out) (bytes_oneCell _) (by unfold maxLen; omega) (by omega) ?_; intro A2 c2 w2 hown2 hupd2 hnew2; have O2 := Lib.hid hown2; have V2 := Lib.hid hupd2; clear hown2 hupd2 hnew2)
  refine (hTagged_any 88 (bs := beB i 4 ++ bs) O2.out.rd4 (by simp [beB_len]; omega)).mono ?_
  rintro e w5 ⟨rfl, hu5⟩
  rw [show tagged 88 (beB i 4 ++ bs) = jsumS i bs from rfl]
  have hb5 : Blk w5 w.heap.size 95 #[.int .u8 0, .int .u8 0, .int .u8 0, .int .u8 0, .int .u8 0, .int .u8 0, .int .u8 0, .int .u8 0] := hu5.blk (V2.out.blk (U1.out.blk B0.out (fun h => h)) (fun e => by have := N1.out _ e; omega)) (fun h => h)
  have hv5 : Upd NoF w w5 := ((HA.out.trans U1.out (fun _ _ h => h)).trans V2.out (fun k hk e => by have := N1.out k e; omega)).trans hu5 (fun _ _ h => h)
  obtain ⟨b0, b1, b2, b3, b4, b5, b6, b7, l', hl'⟩ := eight (jsumS i bs) (Nat.le_of_eq rfl)
  obtain rfl : l' = [] := by
    have := congrArg List.length hl'
    rw [jsumS_len] at this
    simpa using this
  have HL' := Lib.hid hl'
  rw [hl']
  have g0 : w5.frozen? ⟨w.heap.size, 0, none⟩ = false := hb5.frozen 0
  have r0 : w5.cell? ⟨w.heap.size, 0, none⟩ = some (.int .u8 0) := hb5.cell 0
  have g1 : w5.frozen? ⟨w.heap.size, 1, none⟩ = false := hb5.frozen 1
  have r1 : w5.cell? ⟨w.heap.size, 1, none⟩ = some (.int .u8 0) := hb5.cell 1
  have g2 : w5.frozen? ⟨w.heap.size, 2, none⟩ = false := hb5.frozen 2
  have r2 : w5.cell? ⟨w.heap.size, 2, none⟩ = some (.int .u8 0) := hb5.cell 2
  have g3 : w5.frozen? ⟨w.heap.size, 3, none⟩ = false := hb5.frozen 3
  have r3 : w5.cell? ⟨w.heap.size, 3, none⟩ = some (.int .u8 0) := hb5.cell 3
  have g4 : w5.frozen? ⟨w.heap.size, 4, none⟩ = false := hb5.frozen 4
  have r4 : w5.cell? ⟨w.heap.size, 4, none⟩ = some (.int .u8 0) := hb5.cell 4
  have g5 : w5.frozen? ⟨w.heap.size, 5, none⟩ = false := hb5.frozen 5
  have r5 : w5.cell? ⟨w.heap.size, 5, none⟩ = some (.int .u8 0) := hb5.cell 5
  have g6 : w5.frozen? ⟨w.heap.size, 6, none⟩ = false := hb5.frozen 6
  have r6 : w5.cell? ⟨w.heap.size, 6, none⟩ = some (.int .u8 0) := hb5.cell 6
  have g7 : w5.frozen? ⟨w.heap.size, 7, none⟩ = false := hb5.frozen 7
  have r7 : w5.cell? ⟨w.heap.size, 7, none⟩ = some (.int .u8 0) := hb5.cell 7
  have B5 := Lib.hid hb5
  have U6 := Lib.hid hv5
  clear hb5 hu5 hl' hv5
  go_wp2
  refine bodyPost_ret (v := nameV [b0, b1, b2, b3, b4, b5, b6, b7]) ?_ rfl ⟨by rw [HL'.out], ?_⟩
  · exact results_cell_row (P := Try.prog) Try.results58 _ _ w.heap.size 95 #[byteV b0, byteV b1, byteV b2, byteV b3, byteV b4, byteV b5, byteV b6, byteV b7] (0, 0) _ rfl (name_put B5.out b0 b1 b2 b3 b4 b5 b6 b7) Try.underlying95 rfl (by kernel_rfl)
  · exact name_upd U6.out (.inr (Nat.le_refl _)) b0 b1 b2 b3 b4 b5 b6 b7

set_option maxRecDepth 100000 in
set_option maxHeartbeats 4000000 in
theorem rsum_any {w : World} {v : Value} {bs : List UInt8} (h : Rd w 1 v bs.length (bs.map byteV)) (hbl : bs.length ≤ 549755813888) (i : Nat) (hi : i ≤ 4611686018427387904) : Calls Try.prog 61 #[.int .i64 (i : Int), v] w fun e w' => e = .returned (nameV (jsumS i bs)) ∧ Upd NoF w w' := by
  obtain ⟨A, c, rfl, hlc, hcm, _⟩ := id h
  have H := Lib.hid h
  obtain ⟨i1, hi1, hy0, hy1, hy2⟩ := info_parts byte_info
  have hwi : IntKind.u64.wrap (i : Int) = i := wrap_u64_nat _ (by omega)
  have HA := Lib.hid ((Upd.refl NoF w).alloc (.cells #[.int .u8 0, .int .u8 0, .int .u8 0, .int .u8 0, .int .u8 0, .int .u8 0, .int .u8 0, .int .u8 0] 95))
  have B0 := Lib.hid (Blk.new w 95 #[.int .u8 0, .int .u8 0, .int .u8 0, .int .u8 0, .int .u8 0, .int .u8 0, .int .u8 0, .int .u8 0])
  clear h
  go_enter Try.func61, Try.ntmps61
  go_wp2_with fail
  refine (r1AU4 _ i).mono ?_
  rintro e w1 ⟨A1, c1, rfl, hO1, hn1, hU1⟩
  have O1 := Lib.hid hO1
  have U1 := Lib.hid hU1
  have N1 := Lib.hid (show ∀ k, OwnB (.slice A1 4 c1) k → w.heap.size < k from fun k hk => by have := hn1 k hk; simp at this; omega)
  clear hO1 hn1 hU1
  go_wp2_with (at_builtin; refine wpList_append_to _ rfl (.tmp 7) (.tmp 8) 27 rfl 5 i1 _ 1 1 Try.underlying27 hi1 hy0 hy1 hy2 rfl (.slice A1 4 c1) 4 ((beB i 4).map byteV) rfl O1.out (.slice A bs.length c) bs.length (bs.map byteV) rfl ((H.out.keep HA.out).keep U1.out) (bytes_oneCell _) (by unfold maxLen; omega) (by omega) ?_; intro A2 c2 w2 hown2 hupd2 hnew2; have O2 := Lib.hid hown2; have V2 := Lib.hid hupd2; clear hown2 hupd2 hnew2)
  refine (r1Tagged_any 88 (bs := beB i 4 ++ bs) O2.out.rd4 (by simp [beB_len]; omega)).mono ?_
  rintro e w5 ⟨rfl, hu5⟩
  rw [show tagged 88 (beB i 4 ++ bs) = jsumS i bs from rfl]
  have hb5 : Blk w5 w.heap.size 95 #[.int .u8 0, .int .u8 0, .int .u8 0, .int .u8 0, .int .u8 0, .int .u8 0, .int .u8 0, .int .u8 0] := hu5.blk (V2.out.blk (U1.out.blk B0.out (fun h => h)) (fun e => by have := N1.out _ e; omega)) (fun h => h)
  have hv5 : Upd NoF w w5 := ((HA.out.trans U1.out (fun _ _ h => h)).trans V2.out (fun k hk e => by have := N1.out k e; omega)).trans hu5 (fun _ _ h => h)
  obtain ⟨b0, b1, b2, b3, b4, b5, b6, b7, l', hl'⟩ := eight (jsumS i bs) (Nat.le_of_eq rfl)
  obtain rfl : l' = [] := by
    have := congrArg List.length hl'
    rw [jsumS_len] at this
    simpa using this
  have HL' := Lib.hid hl'
  rw [hl']
  have g0 : w5.frozen? ⟨w.heap.size, 0, none⟩ = false := hb5.frozen 0
  have r0 : w5.cell? ⟨w.heap.size, 0, none⟩ = some (.int .u8 0) := hb5.cell 0
  have g1 : w5.frozen? ⟨w.heap.size, 1, none⟩ = false := hb5.frozen 1
  have r1 : w5.cell? ⟨w.heap.size, 1, none⟩ = some (.int .u8 0) := hb5.cell 1
  have g2 : w5.frozen? ⟨w.heap.size, 2, none⟩ = false := hb5.frozen 2
  have r2 : w5.cell? ⟨w.heap.size, 2, none⟩ = some (.int .u8 0) := hb5.cell 2
  have g3 : w5.frozen? ⟨w.heap.size, 3, none⟩ = false := hb5.frozen 3
  have r3 : w5.cell? ⟨w.heap.size, 3, none⟩ = some (.int .u8 0) := hb5.cell 3
  have g4 : w5.frozen? ⟨w.heap.size, 4, none⟩ = false := hb5.frozen 4
  have r4 : w5.cell? ⟨w.heap.size, 4, none⟩ = some (.int .u8 0) := hb5.cell 4
  have g5 : w5.frozen? ⟨w.heap.size, 5, none⟩ = false := hb5.frozen 5
  have r5 : w5.cell? ⟨w.heap.size, 5, none⟩ = some (.int .u8 0) := hb5.cell 5
  have g6 : w5.frozen? ⟨w.heap.size, 6, none⟩ = false := hb5.frozen 6
  have r6 : w5.cell? ⟨w.heap.size, 6, none⟩ = some (.int .u8 0) := hb5.cell 6
  have g7 : w5.frozen? ⟨w.heap.size, 7, none⟩ = false := hb5.frozen 7
  have r7 : w5.cell? ⟨w.heap.size, 7, none⟩ = some (.int .u8 0) := hb5.cell 7
  have B5 := Lib.hid hb5
  have U6 := Lib.hid hv5
  clear hb5 hu5 hl' hv5
  go_wp2
  refine bodyPost_ret (v := nameV [b0, b1, b2, b3, b4, b5, b6, b7]) ?_ rfl ⟨by rw [HL'.out], ?_⟩
  · exact results_cell_row (P := Try.prog) Try.results61 _ _ w.heap.size 95 #[byteV b0, byteV b1, byteV b2, byteV b3, byteV b4, byteV b5, byteV b6, byteV b7] (0, 0) _ rfl (name_put B5.out b0 b1 b2 b3 b4 b5 b6 b7) Try.underlying95 rfl (by kernel_rfl)
  · exact name_upd U6.out (.inr (Nat.le_refl _)) b0 b1 b2 b3 b4 b5 b6 b7

set_option maxRecDepth 100000 in
set_option maxHeartbeats 4000000 in
theorem jFrame_any {w : World} {v : Value} {bs : List UInt8} (h : Rd w 1 v bs.length (bs.map byteV)) (hbl : bs.length ≤ 549755813888) (i : Nat) (hi : i ≤ 4611686018427387904) : Calls Try.prog 56 #[.int .i64 (i : Int), v] w (BytesPost w (frameS i bs)) := by
  obtain ⟨A, c, rfl, hlc, hcm, _⟩ := id h
  have H := Lib.hid h
  obtain ⟨i1, hi1, hy0, hy1, hy2⟩ := info_parts byte_info
  have hwl : IntKind.u64.wrap (bs.length : Int) = bs.length := wrap_u64_nat _ (by omega)
  have CS := Lib.hid (jsum_any h hbl i hi)
  obtain ⟨b0, b1, b2, b3, b4, b5, b6, b7, l', hl'⟩ := eight (jsumS i bs) (Nat.le_of_eq rfl)
  obtain rfl : l' = [] := by
    have := congrArg List.length hl'
    rw [jsumS_len] at this
    simpa using this
  rw [hl'] at CS
  have HL' := Lib.hid hl'
  clear h hl'
  go_enter Try.func56, Try.ntmps56
  go_wp2_with fail
  refine CS.out.mono ?_
  rintro e w1 ⟨rfl, hu1⟩
  have U1 := Lib.hid hu1
  have hz1 := hu1.size
  clear hu1
  go_wp2
  obtain ⟨w2, hw2⟩ : ∃ w2, w2 = w1.alloc (.cells #[byteV b0, byteV b1, byteV b2, byteV b3, byteV b4, byteV b5, byteV b6, byteV b7] 95) := ⟨_, rfl⟩
  rw [← hw2]
  have B2 := Lib.hid (show Blk w2 w1.heap.size 95 #[byteV b0, byteV b1, byteV b2, byteV b3, byteV b4, byteV b5, byteV b6, byteV b7] ∧ Upd NoF w w2 ∧ w1.heap.size < w2.heap.size from by
    rw [hw2]
    exact ⟨Blk.new w1 _ _, U1.out.alloc _, by simp⟩)
  have CA := Lib.hid (cAU4 w2.drew bs.length)
  clear hw2
  have hz2 := B2.out.2.2
  have hbl4 : (beB bs.length 4).length = 4 := beB_len _ _
  have FIN := Lib.hid (show ∀ w3 w4 w6 A3 c3 A4 c4 A6 c6, Upd NoF w2.drew w3 → (∀ k, OwnB (.slice A3 4 c3) k → w2.drew.heap.size ≤ k) → Upd (OwnB (.slice A3 4 c3)) w3 w4 → (∀ k, OwnB (.slice A4 12 c4) k → OwnB (.slice A3 4 c3) k ∨ w3.heap.size ≤ k) → Upd (OwnB (.slice A4 12 c4)) w4 w6 →
      (∀ k, OwnB (.slice A6 (12 + bs.length) c6) k → OwnB (.slice A4 12 c4) k ∨ w4.heap.size ≤ k) → Own w6 5 1 (.slice A6 (12 + bs.length) c6) (12 + bs.length) (((beB bs.length 4).map byteV ++ [byteV b0, byteV b1, byteV b2, byteV b3, byteV b4, byteV b5, byteV b6, byteV b7]) ++ bs.map byteV) →
      BytesPost w (frameS i bs) (.returned (.slice A6 (12 + bs.length) c6)) w6 from fun w3 w4 w6 A3 c3 A4 c4 A6 c6 u3 n3 u4 n4 u6 n6 o6 => by
    have hlen : (frameS i bs).length = 12 + bs.length := by simp [frameS, beB_len, jsumS_len]; omega
    have hw2 : w.heap.size ≤ w2.drew.heap.size := B2.out.2.1.size
    have k3 : ∀ k, OwnB (.slice A3 4 c3) k → w.heap.size ≤ k := fun k hk => Nat.le_trans hw2 (n3 k hk)
    have v3 : Upd NoF w w3 := B2.out.2.1.drew.trans u3 (fun _ _ h => h)
    have k4 : ∀ k, OwnB (.slice A4 12 c4) k → w.heap.size ≤ k := fun k hk => by
      rcases n4 k hk with e | e
      · exact k3 k e
      · exact Nat.le_trans v3.size e
    have v4 : Upd NoF w w4 := v3.trans u4 (fun k hk e => by have := k3 k e; omega)
    refine ⟨A6, c6, by rw [hlen], ?_, ?_, v4.trans u6 (fun k hk e => by have := k4 k e; omega)⟩
    · rw [hlen]
      have e : (frameS i bs).map byteV = ((beB bs.length 4).map byteV ++ [byteV b0, byteV b1, byteV b2, byteV b3, byteV b4, byteV b5, byteV b6, byteV b7]) ++ bs.map byteV := by
        unfold frameS
        rw [HL'.out]
        simp
      rw [e]
      exact o6
    · intro k hk
      rw [hlen] at hk
      rcases n6 k hk with e | e
      · exact k4 k e
      · exact Nat.le_trans v4.size e)
  clear hbl4
  go_region_law
    (first
      | (go_simp; go_at_call 73; refine CA.out.mono ?_; rintro e w3 ⟨A3, c3, rfl, hO3, hn3, hU3⟩; have O3 := Lib.hid hO3; have U3 := Lib.hid hU3; have N3 := Lib.hid hn3; clear hO3 hU3 hn3)
      | (refine step_append_to _ (by rfl) (.tmp 13) (.tmp 14) _ (by rfl) 5 i1 _ 1 1 Try.underlying27 hi1 hy0 hy1 hy2 rfl (.slice A3 4 c3) 4 ((beB bs.length 4).map byteV) (by rfl) O3.out (.slice (some ⟨w1.heap.size, 0, none⟩) 8 8) 8 [byteV b0, byteV b1, byteV b2, byteV b3, byteV b4, byteV b5, byteV b6, byteV b7] (by rfl) (Rd.of_blk (U3.out.blk B2.out.1.drew (fun h => h)) (by omega) (by unfold maxLen; omega) rfl (by intro j u hu; simpa using hu)) (by simp [byteV, Value.oneCell']) (by unfold maxLen; omega) (by omega) ?_; intro A4 c4 w4 hown4 hupd4 hnew4; have O4 := Lib.hid hown4; have U4 := Lib.hid hupd4; have N4 := Lib.hid hnew4; clear hown4 hupd4 hnew4))
  all_goals
    have R4 := Lib.hid (show Rd w4 1 (.slice A bs.length c) bs.length (bs.map byteV) from H.out.keep ((B2.out.2.1.drew.trans U3.out (fun _ _ h => h)).trans U4.out (fun k hk e => by have := N3.out k e; have h5 : w.heap.size ≤ w2.drew.heap.size := B2.out.2.1.size; omega)))
    go_wp2_with (at_builtin; refine wpList_append_to _ rfl (.tmp 16) (.tmp 17) 27 rfl 5 i1 _ 1 1 Try.underlying27 hi1 hy0 hy1 hy2 rfl (.slice A4 12 c4) 12 _ rfl O4.out (.slice A bs.length c) bs.length (bs.map byteV) rfl R4.out (bytes_oneCell _) (by unfold maxLen; omega) (by omega) ?_; intro A6 c6 w6 hown6 hupd6 hnew6; have O6 := Lib.hid hown6; have U6 := Lib.hid hupd6; have N6 := Lib.hid hnew6; clear hown6 hupd6 hnew6)
    go_ret
    exact FIN.out w3 w4 w6 A3 c3 A4 c4 A6 c6 U3.out N3.out U4.out N4.out U6.out N6.out O6.out

set_option maxRecDepth 100000 in
set_option maxHeartbeats 4000000 in
theorem rFrame_any {w : World} {v : Value} {bs : List UInt8} (h : Rd w 1 v bs.length (bs.map byteV)) (hbl : bs.length ≤ 549755813888) (i : Nat) (hi : i ≤ 4611686018427387904) : Calls Try.prog 63 #[.int .i64 (i : Int), v] w (BytesPost w (frameS i bs)) := by
  obtain ⟨A, c, rfl, hlc, hcm, _⟩ := id h
  have H := Lib.hid h
  obtain ⟨i1, hi1, hy0, hy1, hy2⟩ := info_parts byte_info
  have hwl : IntKind.u64.wrap (bs.length : Int) = bs.length := wrap_u64_nat _ (by omega)
  have CS := Lib.hid (rsum_any h hbl i hi)
  obtain ⟨b0, b1, b2, b3, b4, b5, b6, b7, l', hl'⟩ := eight (jsumS i bs) (Nat.le_of_eq rfl)
  obtain rfl : l' = [] := by
    have := congrArg List.length hl'
    rw [jsumS_len] at this
    simpa using this
  rw [hl'] at CS
  have HL' := Lib.hid hl'
  clear h hl'
  go_enter Try.func63, Try.ntmps63
  go_wp2_with fail
  refine CS.out.mono ?_
  rintro e w1 ⟨rfl, hu1⟩
  have U1 := Lib.hid hu1
  have hz1 := hu1.size
  clear hu1
  go_wp2
  obtain ⟨w2, hw2⟩ : ∃ w2, w2 = w1.alloc (.cells #[byteV b0, byteV b1, byteV b2, byteV b3, byteV b4, byteV b5, byteV b6, byteV b7] 95) := ⟨_, rfl⟩
  rw [← hw2]
  have B2 := Lib.hid (show Blk w2 w1.heap.size 95 #[byteV b0, byteV b1, byteV b2, byteV b3, byteV b4, byteV b5, byteV b6, byteV b7] ∧ Upd NoF w w2 ∧ w1.heap.size < w2.heap.size from by
    rw [hw2]
    exact ⟨Blk.new w1 _ _, U1.out.alloc _, by simp⟩)
  have CA := Lib.hid (r1AU4 w2.drew bs.length)
  clear hw2
  have hz2 := B2.out.2.2
  have hbl4 : (beB bs.length 4).length = 4 := beB_len _ _
  have FIN := Lib.hid (show ∀ w3 w4 w6 A3 c3 A4 c4 A6 c6, Upd NoF w2.drew w3 → (∀ k, OwnB (.slice A3 4 c3) k → w2.drew.heap.size ≤ k) → Upd (OwnB (.slice A3 4 c3)) w3 w4 → (∀ k, OwnB (.slice A4 12 c4) k → OwnB (.slice A3 4 c3) k ∨ w3.heap.size ≤ k) → Upd (OwnB (.slice A4 12 c4)) w4 w6 →
      (∀ k, OwnB (.slice A6 (12 + bs.length) c6) k → OwnB (.slice A4 12 c4) k ∨ w4.heap.size ≤ k) → Own w6 5 1 (.slice A6 (12 + bs.length) c6) (12 + bs.length) (((beB bs.length 4).map byteV ++ [byteV b0, byteV b1, byteV b2, byteV b3, byteV b4, byteV b5, byteV b6, byteV b7]) ++ bs.map byteV) →
      BytesPost w (frameS i bs) (.returned (.slice A6 (12 + bs.length) c6)) w6 from fun w3 w4 w6 A3 c3 A4 c4 A6 c6 u3 n3 u4 n4 u6 n6 o6 => by
    have hlen : (frameS i bs).length = 12 + bs.length := by simp [frameS, beB_len, jsumS_len]; omega
    have hw2 : w.heap.size ≤ w2.drew.heap.size := B2.out.2.1.size
    have k3 : ∀ k, OwnB (.slice A3 4 c3) k → w.heap.size ≤ k := fun k hk => Nat.le_trans hw2 (n3 k hk)
    have v3 : Upd NoF w w3 := B2.out.2.1.drew.trans u3 (fun _ _ h => h)
    have k4 : ∀ k, OwnB (.slice A4 12 c4) k → w.heap.size ≤ k := fun k hk => by
      rcases n4 k hk with e | e
      · exact k3 k e
      · exact Nat.le_trans v3.size e
    have v4 : Upd NoF w w4 := v3.trans u4 (fun k hk e => by have := k3 k e; omega)
    refine ⟨A6, c6, by rw [hlen], ?_, ?_, v4.trans u6 (fun k hk e => by have := k4 k e; omega)⟩
    · rw [hlen]
      have e : (frameS i bs).map byteV = ((beB bs.length 4).map byteV ++ [byteV b0, byteV b1, byteV b2, byteV b3, byteV b4, byteV b5, byteV b6, byteV b7]) ++ bs.map byteV := by
        unfold frameS
        rw [HL'.out]
        simp
      rw [e]
      exact o6
    · intro k hk
      rw [hlen] at hk
      rcases n6 k hk with e | e
      · exact k4 k e
      · exact Nat.le_trans v4.size e)
  clear hbl4
  go_region_law
    (first
      | (go_simp; go_at_call 77; refine CA.out.mono ?_; rintro e w3 ⟨A3, c3, rfl, hO3, hn3, hU3⟩; have O3 := Lib.hid hO3; have U3 := Lib.hid hU3; have N3 := Lib.hid hn3; clear hO3 hU3 hn3)
      | (refine step_append_to _ (by rfl) (.tmp 13) (.tmp 14) _ (by rfl) 5 i1 _ 1 1 Try.underlying27 hi1 hy0 hy1 hy2 rfl (.slice A3 4 c3) 4 ((beB bs.length 4).map byteV) (by rfl) O3.out (.slice (some ⟨w1.heap.size, 0, none⟩) 8 8) 8 [byteV b0, byteV b1, byteV b2, byteV b3, byteV b4, byteV b5, byteV b6, byteV b7] (by rfl) (Rd.of_blk (U3.out.blk B2.out.1.drew (fun h => h)) (by omega) (by unfold maxLen; omega) rfl (by intro j u hu; simpa using hu)) (by simp [byteV, Value.oneCell']) (by unfold maxLen; omega) (by omega) ?_; intro A4 c4 w4 hown4 hupd4 hnew4; have O4 := Lib.hid hown4; have U4 := Lib.hid hupd4; have N4 := Lib.hid hnew4; clear hown4 hupd4 hnew4))
  all_goals
    have R4 := Lib.hid (show Rd w4 1 (.slice A bs.length c) bs.length (bs.map byteV) from H.out.keep ((B2.out.2.1.drew.trans U3.out (fun _ _ h => h)).trans U4.out (fun k hk e => by have := N3.out k e; have h5 : w.heap.size ≤ w2.drew.heap.size := B2.out.2.1.size; omega)))
    go_wp2_with (at_builtin; refine wpList_append_to _ rfl (.tmp 16) (.tmp 17) 27 rfl 5 i1 _ 1 1 Try.underlying27 hi1 hy0 hy1 hy2 rfl (.slice A4 12 c4) 12 _ rfl O4.out (.slice A bs.length c) bs.length (bs.map byteV) rfl R4.out (bytes_oneCell _) (by unfold maxLen; omega) (by omega) ?_; intro A6 c6 w6 hown6 hupd6 hnew6; have O6 := Lib.hid hown6; have U6 := Lib.hid hupd6; have N6 := Lib.hid hnew6; clear hown6 hupd6 hnew6)
    go_ret
    exact FIN.out w3 w4 w6 A3 c3 A4 c4 A6 c6 U3.out N3.out U4.out N4.out U6.out N6.out O6.out
end
end Go.Proofs.Ytmapijpphnlcmaa
