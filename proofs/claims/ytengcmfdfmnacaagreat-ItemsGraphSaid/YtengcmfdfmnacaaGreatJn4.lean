/- Numbers as bytes: AppendUint and Uint of package codec and of the reference. Conditions: sizes. Numbers as bytes: AppendUint of package codec and of the reference. Conditions: sizes. Numbers as bytes: Uint of package codec and of the reference. Conditions: sizes. Comparing bytes; AppendBytes and Bytes of package codec and of the reference; the length of a signature. Conditions: sizes. Checksums and frames of the journal, of the program and of the reference. Conditions: sizes. Parsing on plain data; lists of records in memory; bytes.Equal. Conditions: sizes. Parse of package journal. Conditions: sizes. Bytes of package codec and of the reference. Conditions: sizes. Encode of package vote and of the reference. No condition. The orders of names: Less of package hash; Number and Less of the reference. No condition. The order of votes: Less of package vote and of the reference. No condition. From a contract 'it returns true and turns nothing that was there' to the row of a statement. No condition. Arguments of the statements, opened: slices of bytes and of integers, strings, slices of slices of bytes. No condition. Arguments of the statements, opened: a slice of structs whose fields take one cell each; the acts of DiskActs. No condition. Votes with their signatures, texts and views in memory, and arguments of these types opened. No condition. Encode and Less of signed votes, of package signed and of the reference. No condition but sizes. -/
import Derived.Test.YtengcmfdfmnacaaGreatJn3
import Derived.Laws.MakeOwn
import Derived.Test.YtengcmfdfmnacaaGreatJn2
import Derived.Lib.Bytealg
import Derived.Lib.BytesEntry
import Derived.Deep.RegionHeld3
import Derived.Deep.QuietTactic
import Derived.BigQuiet
import Derived.IntWalk
import Derived.Deep.MidRow
import Derived.Deep.DrawnRows
import Derived.Outline
import Derived.Test.YtengcmfdfmnacaaGreatRows
import Derived.Test.YtengcmfdfmnacaaGreatJn1
import Derived.ProofKit
import Derived.OpenShut
import Derived.Carry
import Derived.Deep.Slices
import Derived.Deep.Fields
import Derived.Lib.SmallJoins
namespace Go.Proofs.YtengcmfdfmnacaaGreat
section
open Go.RowKit

/-- A new slice of bytes that owns its block. -/
def NewO (w : World) (bs : List UInt8) (A : Option Addr) (c : Nat) (w' : World) : Prop := Own w' 5 1 (.slice A bs.length c) bs.length (bs.map byteV) ∧ (∀ k, OwnB (.slice A bs.length c) k → w.heap.size ≤ k) ∧ Upd NoF w w'
def BytesPost (w : World) (bs : List UInt8) (e : Ending) (w' : World) : Prop := ∃ A c, e = .returned (.slice A bs.length c) ∧ NewO w bs A c w'

theorem run_make_bytes (w : World) (n m : Nat) (l c : Int) (hl : l = n) (hc : c = m) (hm : m ≤ 1099511627776) (hn : n ≤ m) : ∃ w' cs, (Instr.makeSlice 52 (.int .i64 l) (.int .i64 c)).run Tryz.prog w = .ok (.slice (some ⟨w.heap.size, 0, none⟩) n m) w' ∧ Blk w' w.heap.size 5 cs ∧ cs.size = m ∧ Upd NoF w w' := by
  obtain ⟨i1, hi1, hy0, hy1, hy2⟩ := info_parts byte_info
  subst hl hc
  have h := run_make (P := Tryz.prog) w 52 5 i1 _ Tryz.underlying52 hi1 hy0 .i64 .i64 n m (by omega) (by omega) (by rw [hy2]; omega) (by omega)
  refine ⟨_, _, h, Blk.new w _ _, ?_, (Upd.refl NoF w).alloc _⟩
  rw [size_madeCells, hy1]
  simp

theorem run_copy0 (w : World) (g o dl dc : Nat) (A : Option Addr) (c : Nat) (ty : TypeId) : (Builtin.copy_ #[52, 52] ty #[.slice (some ⟨g, o, none⟩) dl dc, .slice A 0 c]).run Tryz.prog w = .ok (.int .i64 0) w := by
  obtain ⟨i1, hi1, hy0, hy1, hy2⟩ := info_parts byte_info
  cases A <;> simp [Builtin.copy_, run_underlying Tryz.underlying52, Builtin.lenOf, Builtin.firstCells, sizeOf, typeInfo, hi1, storeCells, loadCells, loadCellsFrom, goInt]

/-- 'make' and 'copy' at once. -/
theorem make_copy {w : World} {v : Value} {bs : List UInt8} (h : Rd w 1 v bs.length (bs.map byteV)) (n : Nat) (c : Int) (hc : c = ((bs.length + n : Nat) : Int)) (hm : bs.length + n ≤ 1099511627776) : ∃ w1 w2,
    (Instr.makeSlice 52 (.int .i64 (bs.length : Int)) (.int .i64 c)).run Tryz.prog w = .ok (.slice (some ⟨w.heap.size, 0, none⟩) bs.length (bs.length + n)) w1 ∧
    (Builtin.copy_ #[52, 52] 3 #[.slice (some ⟨w.heap.size, 0, none⟩) bs.length (bs.length + n), v]).run Tryz.prog w1 = .ok (.int .i64 (bs.length : Int)) w2 ∧
    NewO w bs (some ⟨w.heap.size, 0, none⟩) (bs.length + n) w2 := by
  obtain ⟨w1, cs, h1, h2, h3, h4⟩ := run_make_bytes w bs.length (bs.length + n) bs.length c rfl hc hm (by omega)
  have hN : ∀ k, OwnB (.slice (some ⟨w.heap.size, 0, none⟩) bs.length (bs.length + n)) k → w.heap.size ≤ k := fun k hk => by simp [OwnB, Value.ownBlock] at hk; omega
  rcases Nat.eq_zero_or_pos bs.length with h0 | h0
  · obtain rfl : bs = [] := List.eq_nil_of_length_eq_zero h0
    obtain ⟨A, c', rfl, _⟩ := h
    refine ⟨w1, w1, h1, run_copy0 _ _ _ _ _ _ _ _, ⟨by simp, .inr ⟨w.heap.size, _, cs, rfl, h2, by omega, by unfold maxLen; omega, by omega, by simp⟩⟩, hN, h4⟩
  · obtain ⟨w2, k1, k2, k3⟩ := run_copy_bytes (dl := bs.length) (dc := bs.length + n) (o := 0) h2 (h.keep h4) h0 bs.length (by simp only [Nat.min_def]; split <;> omega) (by omega) 3
    refine ⟨w1, w2, h1, k1, ⟨by simp, .inr ⟨w.heap.size, _, _, rfl, k2, by omega, by unfold maxLen; omega, ?_, ?_⟩⟩, hN, h4.trans k3 (fun k hk e => by have e : k = w.heap.size := e; omega)⟩
    · simp; omega
    · simp

set_option maxRecDepth 100000 in
theorem extended_any {w : World} {v : Value} {bs : List UInt8} (h : Rd w 1 v bs.length (bs.map byteV)) (n : Nat) (hm : bs.length + n ≤ 1099511627776) : Calls Tryz.prog 98 #[v, .int .i64 (n : Int)] w (BytesPost w bs) := by
  obtain ⟨w1, w2, h1, h2, h3⟩ := make_copy h n ((bs.length : Int) + (n : Int)) (by omega) hm
  obtain ⟨A, c, rfl, hlc, hcm, _⟩ := id h
  have H3 := Lib.hid h3
  clear h h3
  go_enter Tryz.func98, Tryz.ntmps98
  go_wp2
  go_ret
  exact ⟨_, _, rfl, H3.out⟩

def AuRel (w : World) (bs : List UInt8) (v : Int) (n : Nat) (out i : Value) (wr : World) : Prop := ∃ (r : Nat) (xs : List UInt8) (A : Option Addr) (c : Nat), r ≤ n ∧ i = .int .i64 ((r : Int) - 1) ∧ out = .slice A xs.length c ∧ NewO w xs A c wr ∧ xs ++ beB v r = bs ++ beB v n

theorem NewO.push {w wr w1 : World} {xs : List UInt8} {A A' : Option Addr} {c c' : Nat} {b : UInt8} {o : Obj} (h : NewO w xs A c wr) (ho : Own w1 5 1 (.slice A' (xs.length + 1) c') (xs.length + 1) (xs.map byteV ++ [byteV b])) (hu : Upd (OwnB (.slice A xs.length c)) (wr.alloc o) w1)
    (hn : ∀ k, OwnB (.slice A' (xs.length + 1) c') k → OwnB (.slice A xs.length c) k ∨ (wr.alloc o).heap.size ≤ k) : NewO w (xs ++ [b]) A' c' w1 := by
  obtain ⟨h1, h2, h3⟩ := h
  have hs := h3.size
  refine ⟨by rw [List.length_append, List.length_singleton, List.map_append]; exact ho, fun k hk => ?_, (h3.alloc o).trans hu (fun k hk e => by have := h2 k e; omega)⟩
  rw [List.length_append, List.length_singleton] at hk
  rcases hn k hk with e | e
  · exact h2 k e
  · simp at e; omega
end

section
open Go.RowKit

set_option maxRecDepth 100000 in
set_option maxHeartbeats 4000000 in
theorem cAppendUint_any {w : World} {b : Value} {bs : List UInt8} (h : Rd w 1 b bs.length (bs.map byteV)) (v : Int) (_hv : 0 ≤ v) (n : Nat) (hn : n ≤ 8) (hm : bs.length + 8 ≤ 1099511627776) : Calls Tryz.prog 59 #[b, u64V v, .int .i64 (n : Int)] w (BytesPost w (bs ++ beB v n)) := by
  obtain ⟨A, c, rfl, hlc, hcm, _⟩ := id h
  have CE := Lib.hid (extended_any h n (by omega))
  obtain ⟨i1, hi1, hy0, hy1, hy2⟩ := info_parts byte_info
  have m1 : max (n : Int) 0 = n := by omega
  have m2 : min (n : Int) 8 = n := by omega
  clear h
  go_enter Tryz.func59, Tryz.ntmps59
  go_wp2_with fail
  refine CE.out.mono ?_
  rintro e w1 ⟨A1, c1, rfl, hN1⟩
  have N1 := Lib.hid hN1
  clear hN1 m1 m2
  go_wp2
  go_loopw [7, 8] (fun out i wr => AuRel w bs v n out i wr) (fun _ i _ => (intOf i + 1).toNat)
  case atStart => exact ⟨n, bs, A1, c1, Nat.le_refl _, rfl, rfl, N1.out, rfl⟩
  case round =>
    obtain ⟨r, xs, A2, c2, hr, hi, rfl, hN, hE⟩ := hrel
    have hlen : xs.length + r = bs.length + n := by
      have := congrArg List.length hE
      simpa [beB_len] using this
    have HN := Lib.hid hN
    have HE := Lib.hid hE
    cases r with
    | zero =>
      obtain rfl := hi
      obtain rfl : xs = bs ++ beB v n := by simpa [beB] using HE.out
      have t1 : decide ((0 : Int) ≤ ((0 : Nat) : Int) - 1) = false := by decide
      clear hN hE hlen
      go_wp2
      go_ret
      exact ⟨A2, c2, rfl, HN.out⟩
    | succ r =>
      obtain rfl : _ = Value.int .i64 (r : Int) := hi.trans (by congr 1; omega)
      have t1 : decide ((0 : Int) ≤ (r : Int)) = true := by simp
      have e1 : (0 : Int) ≤ 8 * (r : Int) := by omega
      have e2 : (8 * (r : Int)).toNat = 8 * r := by omega
      have e3 : min (8 * r) 64 = 8 * r := by omega
      have HBV := Lib.hid (show Value.int .u8 (IntKind.u8.wrap (v / 2 ^ (8 * r))) = byteV (byteAt v r) from wrap_byte _)
      have hxl : xs.length ≤ 1099511627776 := by omega
      clear hN hE hi hlen
      go_wp2_with (at_builtin; refine wpList_append_to _ rfl (.tmp 21) (.tmp 27) 52 rfl 5 i1 _ 1 1 Tryz.underlying52 hi1 hy0 hy1 hy2 rfl (.slice A2 xs.length c2) xs.length (xs.map byteV) rfl (HN.out.1.upd ((Upd.refl NoF wr).alloc _) (fun _ _ h => h)) (.slice (some ⟨wr.heap.size, 0, none⟩) 1 1) 1 [byteV (byteAt v r)] rfl (Rd.of_blk (Blk.new wr _ _) (by omega) (by unfold maxLen; omega) rfl (by intro j u hu; rw [← HBV.out, IntKind.wrap_u8'] at hu; cases j with | zero => simpa using hu | succ j => simp at hu)) (by simp [byteV, Value.oneCell']) (by unfold maxLen; omega) (by omega) ?_; intro A3 c3 w3 hown3 hupd3 hnew3; have O3 := Lib.hid hown3; have V3 := Lib.hid hupd3; have W3 := Lib.hid hnew3; clear hown3 hupd3 hnew3)
      go_roundw
      case rel =>
        refine ⟨r, xs ++ [byteAt v r], A3, c3, by omega, by go_num, by simp, HN.out.push O3.out V3.out W3.out, ?_⟩
        rw [← HE.out]
        simp [beB]
      case measure => simp [intOf]

set_option maxRecDepth 100000 in
set_option maxHeartbeats 4000000 in
theorem r1AppendUint_any {w : World} {b : Value} {bs : List UInt8} (h : Rd w 1 b bs.length (bs.map byteV)) (v : Int) (_hv : 0 ≤ v) (n : Nat) (hn : n ≤ 8) (hm : bs.length + 8 ≤ 1099511627776) : Calls Tryz.prog 96 #[b, u64V v, .int .i64 (n : Int)] w (BytesPost w (bs ++ beB v n)) := by
  obtain ⟨A, c, rfl, hlc, hcm, _⟩ := id h
  have H := Lib.hid h
  obtain ⟨i1, hi1, hy0, hy1, hy2⟩ := info_parts byte_info
  have m1 : max (0 : Int) (n : Int) = n := by omega
  have m2 : min (n : Int) 8 = n := by omega
  clear h
  go_enter Tryz.func96, Tryz.ntmps96
  go_wp2_with (at_builtin; refine wpList_append_new _ rfl (.tmp 9) (.tmp 10) 52 rfl 5 i1 _ 1 1 Tryz.underlying52 hi1 hy0 hy1 hy2 rfl (.slice (some ⟨w.heap.size, 0, none⟩) 0 0) rfl (Own.fresh w _ _) (.slice A bs.length c) bs.length (bs.map byteV) rfl (H.out.keep ((Upd.refl NoF w).alloc _)) (bytes_oneCell _) (by unfold maxLen; omega) (by omega) ?_; intro A1 c1 w1 hown1 hupd1 hnew1; have N1 := Lib.hid (show NewO w bs A1 c1 w1 from ⟨hown1, fun k hk => (by rcases hnew1 k hk with e | e; (simp [OwnB, Value.ownBlock] at e; omega); (simp at e; omega)), ((Upd.refl NoF w).alloc _).trans hupd1 (fun k hk e => by simp [OwnB, Value.ownBlock] at e; omega)⟩); clear hown1 hupd1 hnew1)
  clear m1 m2
  go_loopw [7, 8] (fun out i wr => AuRel w bs v n out i wr) (fun _ i _ => (intOf i + 1).toNat)
  case atStart => exact ⟨n, bs, A1, c1, Nat.le_refl _, rfl, rfl, N1.out, rfl⟩
  case round =>
    obtain ⟨r, xs, A2, c2, hr, hi, rfl, hN, hE⟩ := hrel
    have hlen : xs.length + r = bs.length + n := by
      have := congrArg List.length hE
      simpa [beB_len] using this
    have HN := Lib.hid hN
    have HE := Lib.hid hE
    cases r with
    | zero =>
      obtain rfl := hi
      obtain rfl : xs = bs ++ beB v n := by simpa [beB] using HE.out
      have t1 : decide ((0 : Int) ≤ ((0 : Nat) : Int) - 1) = false := by decide
      clear hN hE hlen
      go_wp2
      go_ret
      exact ⟨A2, c2, rfl, HN.out⟩
    | succ r =>
      obtain rfl : _ = Value.int .i64 (r : Int) := hi.trans (by congr 1; omega)
      have t1 : decide ((0 : Int) ≤ (r : Int)) = true := by simp
      have e1 : (0 : Int) ≤ 8 * (r : Int) := by omega
      have e2 : (8 * (r : Int)).toNat = 8 * r := by omega
      have e3 : min (8 * r) 64 = 8 * r := by omega
      have HBV := Lib.hid (show Value.int .u8 (IntKind.u8.wrap (v / 2 ^ (8 * r))) = byteV (byteAt v r) from wrap_byte _)
      have hxl : xs.length ≤ 1099511627776 := by omega
      clear hN hE hi hlen
      go_wp2_with (at_builtin; refine wpList_append_to _ rfl (.tmp 20) (.tmp 27) 52 rfl 5 i1 _ 1 1 Tryz.underlying52 hi1 hy0 hy1 hy2 rfl (.slice A2 xs.length c2) xs.length (xs.map byteV) rfl (HN.out.1.upd ((Upd.refl NoF wr).alloc _) (fun _ _ h => h)) (.slice (some ⟨wr.heap.size, 0, none⟩) 1 1) 1 [byteV (byteAt v r)] rfl (Rd.of_blk (Blk.new wr _ _) (by omega) (by unfold maxLen; omega) rfl (by intro j u hu; rw [← HBV.out, IntKind.wrap_u8'] at hu; cases j with | zero => simpa using hu | succ j => simp at hu)) (by simp [byteV, Value.oneCell']) (by unfold maxLen; omega) (by omega) ?_; intro A3 c3 w3 hown3 hupd3 hnew3; have O3 := Lib.hid hown3; have V3 := Lib.hid hupd3; have W3 := Lib.hid hnew3; clear hown3 hupd3 hnew3)
      go_roundw
      case rel =>
        refine ⟨r, xs ++ [byteAt v r], A3, c3, by omega, by go_num, by simp, HN.out.push O3.out V3.out W3.out, ?_⟩
        rw [← HE.out]
        simp [beB]
      case measure => simp [intOf]
end

section
open Go.RowKit

set_option maxRecDepth 100000 in
theorem follow_any {w : World} {v : Value} {bs : List UInt8} (h : Rd w 1 v bs.length (bs.map byteV)) (a n : Nat) (ha : a ≤ 4611686018427387904) (hn : n ≤ 4611686018427387904) : Calls Tryz.prog 191 #[v, .int .i64 (a : Int), .int .i64 (n : Int)] w fun e w' => e = .returned (.bool (decide (a + n ≤ bs.length))) ∧ w = w' := by
  have hlm := h.le
  unfold maxLen at hlm
  obtain ⟨A, c, rfl, hlc, hcm, _⟩ := id h
  clear h
  have t0 : decide ((0 : Int) ≤ (a : Int)) = true := by simp
  by_cases h1 : a ≤ bs.length
  · have t1 : decide ((a : Int) ≤ (bs.length : Int)) = true := by simpa using h1
    have t1' : decide (a ≤ bs.length) = true := by simpa using h1
    have E := Lib.hid (show decide ((n : Int) ≤ (bs.length : Int) - (a : Int)) = decide (a + n ≤ bs.length) by
      by_cases h : a + n ≤ bs.length
      · simp [h]; omega
      · simp [h]; omega)
    generalize decide (a + n ≤ bs.length) = z at E ⊢
    go_enter Tryz.func191, Tryz.ntmps191
    go_wp2
    go_ret
    exact ⟨congrArg (fun z => Ending.returned (.bool z)) E.out, rfl⟩
  · have t1 : decide ((a : Int) ≤ (bs.length : Int)) = false := by simp; omega
    have t1' : decide (a ≤ bs.length) = false := by simp; omega
    have E := Lib.hid (show false = decide (a + n ≤ bs.length) by simp; omega)
    generalize decide (a + n ≤ bs.length) = z at E ⊢
    go_enter Tryz.func191, Tryz.ntmps191
    go_wp2
    go_ret
    exact ⟨congrArg (fun z => Ending.returned (.bool z)) E.out, rfl⟩

def UiRel (l : List UInt8) (x i : Value) : Prop := ∃ k : Nat, k ≤ l.length ∧ i = .int .i64 k ∧ x = u64V ((be (l.take k) : Nat) : Int)

theorem pow7 (l : List UInt8) (k : Nat) (h : k < 8) : be (l.take k) < 72057594037927936 := by
  have h1 := be_take_lt l k
  have h2 : (256 : Nat) ^ k ≤ 256 ^ 7 := Nat.pow_le_pow_right (by omega) (by omega)
  omega

section
variable {w : World} {v : Value} {bs : List UInt8}

set_option maxRecDepth 100000 in
set_option maxHeartbeats 2000000 in
theorem cUint_no (h : Rd w 1 v bs.length (bs.map byteV)) (a n : Nat) (ha : a ≤ 4611686018427387904) (h1 : 1 ≤ n) (h8 : n ≤ 8) (hno : bs.length < a + n) : Calls Tryz.prog 162 #[v, .int .i64 (a : Int), .int .i64 (n : Int)] w fun e w' => e = .returned (.tuple #[u64V 0, .bool false]) ∧ w = w' := by
  have CF := follow_any h a n ha (by omega)
  rw [show decide (a + n ≤ bs.length) = false by simp; omega] at CF
  have HF := Lib.hid CF
  obtain ⟨A, c, rfl, hlc, hcm, _⟩ := id h
  have t1 : decide ((n : Int) < 1) = false := by simp; omega
  have t2 : decide ((8 : Int) < (n : Int)) = false := by simp; omega
  have t2' : decide (8 < n) = false := by simp; omega
  clear h CF
  go_enter Tryz.func162, Tryz.ntmps162
  go_wp2_with fail
  refine HF.out.mono ?_
  rintro e w' ⟨rfl, rfl⟩
  go_wp2
  go_ret2
  exact ⟨rfl, rfl⟩

set_option maxRecDepth 100000 in
set_option maxHeartbeats 2000000 in
theorem cUint_yes (h : Rd w 1 v bs.length (bs.map byteV)) (a n : Nat) (h1 : 1 ≤ n) (h8 : n ≤ 8) (hyes : a + n ≤ bs.length) (hm : bs.length ≤ 4611686018427387904) : Calls Tryz.prog 162 #[v, .int .i64 (a : Int), .int .i64 (n : Int)] w fun e w' => e = .returned (.tuple #[u64V ((be ((bs.drop a).take n) : Nat) : Int), .bool true]) ∧ w = w' := by
  have CF := follow_any h a n (by omega) (by omega)
  rw [show decide (a + n ≤ bs.length) = true by simp; omega] at CF
  have HF := Lib.hid CF
  obtain ⟨A, c, rfl, hlc, hcm, _⟩ := id h
  unfold maxLen at hcm
  obtain ⟨g, o, rfl, hc⟩ := rd_cells h (by omega)
  have HC := Lib.hid hc
  have t1 : decide ((n : Int) < 1) = false := by simp; omega
  have t2 : decide ((8 : Int) < (n : Int)) = false := by simp; omega
  have t2' : decide (8 < n) = false := by simp; omega
  have b1 : (0 : Int) ≤ a := by omega
  have b2 : (a : Int) ≤ (a : Int) + n := by omega
  have b3 : (a : Int) + n ≤ c := by omega
  have b4 : ¬ c = a := by omega
  have b5 : ((a : Int) + n).toNat = a + n := by omega
  obtain ⟨l, hl⟩ : ∃ l, (bs.drop a).take n = l := ⟨_, rfl⟩
  have hll : l.length = n := by rw [← hl]; simp; omega
  have hlc2 : ∀ (j : Nat) b, l[j]? = some b → w.cell? ⟨g, o + a + j, none⟩ = some (byteV b) := fun j b hb => by
    rw [Nat.add_assoc]
    refine hc (a + j) b ?_
    rw [← hl, List.getElem?_take] at hb
    split at hb
    · rw [List.getElem?_drop] at hb; exact hb
    · cases hb
  have HLC := Lib.hid hlc2
  have HLL := Lib.hid hll
  rw [hl]
  have e0 : a + n - a = n := by omega
  clear h CF hc hl hlc2 hll
  go_enter Tryz.func162, Tryz.ntmps162
  go_wp2_with fail
  refine HF.out.mono ?_
  rintro e w' ⟨rfl, rfl⟩
  go_wp2
  go_loop [8, 31] (fun x i => UiRel l x i) (fun _ i => n - (intOf i).toNat)
  case atStart => exact ⟨0, Nat.zero_le _, rfl, by simp [be]⟩
  case round =>
    obtain ⟨k, hk, rfl, rfl⟩ := hrel
    have hln := HLL.out
    by_cases hlt : k < n
    · obtain ⟨b, hb⟩ : ∃ b, l[k]? = some b := ⟨_, List.getElem?_eq_getElem (by omega)⟩
      have q := HLC.out k b hb
      have HE := Lib.hid (be_take_succ l k b hb)
      have HO := Lib.hid (or_byte (be (l.take k)) b (pow7 l k (by omega)))
      have s1 : decide ((k : Int) < n) = true := by simpa using hlt
      have s2 : (0:Int) ≤ k := by omega
      have s3 : (k:Int) < n := by omega
      generalize be (l.take k) = u at HE HO ⊢
      clear hb hln
      go_wp2
      go_round
      case rel =>
        refine ⟨k + 1, by have := HLL.out; omega, by go_num, ?_⟩
        rw [HE.out, wrap_u64_byte, HO.out]
      case measure => simp [intOf]; omega
    · have s1 : decide ((k : Int) < n) = false := by simp; omega
      have E := Lib.hid (show l.take k = l from List.take_of_length_le (by omega))
      rw [E.out]
      clear hln
      go_wp2
      go_ret2
      exact ⟨rfl, rfl⟩

end
end

section
open Go.RowKit

def cmpB (a b : List UInt8) : Int := Lib.compareBytes a b
def PairPost (w : World) (bs : List UInt8) (e : Ending) (w' : World) : Prop := ∃ A c, e = .returned (.tuple #[.slice A bs.length c, .bool true]) ∧ NewO w bs A c w'
def NilFalse (w : World) (e : Ending) (w' : World) : Prop := e = .returned (.tuple #[.slice none 0 0, .bool false]) ∧ Upd NoF w w'
end

section
open Go.RowKit

def jsumS (i : Nat) (bs : List UInt8) : List UInt8 := tagged 88 (beB i 4 ++ bs)
def frameS (i : Nat) (bs : List UInt8) : List UInt8 := beB bs.length 4 ++ jsumS i bs ++ bs
def Bytes4 (W : World) (i : Nat) (e : Ending) (w' : World) : Prop := ∃ A c, e = .returned (.slice A 4 c) ∧ Own w' 5 1 (.slice A 4 c) 4 ((beB i 4).map byteV) ∧ (∀ k, OwnB (.slice A 4 c) k → W.heap.size ≤ k) ∧ Upd NoF W w'
end

section
open Go.RowKit

def parseStep (bs : List UInt8) (a idx : Nat) : Option (List UInt8 × Nat) :=
  if a + 12 ≤ bs.length then
    if be ((bs.drop a).take 4) ≤ 65536 ∧ a + 12 + be ((bs.drop a).take 4) ≤ bs.length then
      if (bs.drop (a + 4)).take 8 = jsumS idx ((bs.drop (a + 12)).take (be ((bs.drop a).take 4))) then some ((bs.drop (a + 12)).take (be ((bs.drop a).take 4)), a + 12 + be ((bs.drop a).take 4)) else none
    else none
  else none
def parseF (bs : List UInt8) : Nat → List (List UInt8) → Nat → List (List UInt8) × Nat
  | 0, l, a => (l, a)
  | f + 1, l, a => match parseStep bs a l.length with
    | none => (l, a)
    | some (r, a') => parseF bs f (l ++ [r]) a'
def parseS (bs : List UInt8) : List (List UInt8) × Nat := parseF bs (bs.length + 1) [] 0

theorem parseStep_le {bs : List UInt8} {a idx : Nat} {r : List UInt8} {a' : Nat} (h : parseStep bs a idx = some (r, a')) : a + 12 ≤ a' ∧ a' ≤ bs.length ∧ r.length ≤ 65536 ∧ a' = a + 12 + r.length := by
  unfold parseStep at h
  split at h
  · split at h
    · split at h
      · injection h with h
        injection h with h1 h2
        subst h1 h2
        simp
        omega
      · cases h
    · cases h
  · cases h

/-- Where the parse stands. -/
def PAt (bs : List UInt8) (l : List (List UInt8)) (a : Nat) : Prop := ∃ f, parseF bs f l a = parseS bs ∧ bs.length < f + a ∧ a ≤ bs.length ∧ l.length * 12 ≤ a
theorem PAt.start (bs : List UInt8) : PAt bs [] 0 := ⟨bs.length + 1, rfl, by omega, by omega, by simp⟩
theorem PAt.stop {bs : List UInt8} {l : List (List UInt8)} {a : Nat} (h : PAt bs l a) (hs : parseStep bs a l.length = none) : parseS bs = (l, a) := by
  obtain ⟨f, h1, h2, h3, _⟩ := h
  obtain ⟨f, rfl⟩ : ∃ k, f = k + 1 := ⟨f - 1, by omega⟩
  rw [← h1, parseF, hs]
theorem PAt.next {bs : List UInt8} {l : List (List UInt8)} {a a' : Nat} {r : List UInt8} (h : PAt bs l a) (hs : parseStep bs a l.length = some (r, a')) : PAt bs (l ++ [r]) a' := by
  obtain ⟨f, h1, h2, h3, h4⟩ := h
  obtain ⟨f, rfl⟩ : ∃ k, f = k + 1 := ⟨f - 1, by omega⟩
  rw [parseF, hs] at h1
  obtain ⟨e1, e2, _⟩ := parseStep_le hs
  exact ⟨f, h1, by omega, e2, by simp; omega⟩

/-! ### lists of records in memory -/
def RecsV (w : World) (v : Value) (l : List (List UInt8)) (vs : List Value) : Prop :=
  Own w 52 1 v l.length vs ∧ ∀ (i : Nat) b, l[i]? = some b → ∃ u, vs[i]? = some u ∧ Own w 5 1 u b.length (b.map byteV)
def RecsF (v : Value) (vs : List Value) : Nat → Prop := fun k => OwnB v k ∨ ∃ u ∈ vs, OwnB u k
def RecsAt (w : World) (v : Value) (l : List (List UInt8)) (F : Nat → Prop) : Prop := ∃ vs : List Value, RecsV w v l vs ∧ F = RecsF v vs

section
variable {w w' : World} {v : Value} {l : List (List UInt8)} {F G : Nat → Prop}
theorem RecsAt.nil (w : World) : RecsAt w (.slice none 0 0) [] NoF := by
  refine ⟨[], ⟨Own.nil _ _ _, fun i b h => (by cases h)⟩, ?_⟩
  funext k
  simp [NoF, RecsF, OwnB, Value.ownBlock]
theorem RecsAt.upd (h : RecsAt w v l F) (hu : Upd G w w') (hG : ∀ k, F k → ¬ G k) : RecsAt w' v l F := by
  obtain ⟨vs, ⟨h1, h2⟩, rfl⟩ := h
  refine ⟨vs, ⟨h1.upd hu (fun k hk => hG k (.inl hk)), fun i b hb => ?_⟩, rfl⟩
  obtain ⟨u, e1, e2⟩ := h2 i b hb
  exact ⟨u, e1, e2.upd hu (fun k hk => hG k (.inr ⟨u, List.mem_of_getElem? e1, hk⟩))⟩
theorem RecsAt.lt (h : RecsAt w v l F) {k : Nat} (hk : F k) : k < w.heap.size := by
  obtain ⟨vs, ⟨h1, h2⟩, rfl⟩ := h
  rcases hk with hk | ⟨u, hu, hk⟩
  · exact h1.lt hk
  · obtain ⟨i, hi, rfl⟩ := List.mem_iff_getElem.1 hu
    have hl := h1.1
    obtain ⟨u', e1, e2⟩ := h2 i _ (List.getElem?_eq_getElem (by omega))
    rw [List.getElem?_eq_getElem hi] at e1
    injection e1 with e1
    rw [e1] at hk
    exact e2.lt hk
theorem RecsAt.form (h : RecsAt w v l F) : ∃ A c, v = .slice A l.length c ∧ l.length ≤ c ∧ c ≤ maxLen := by
  obtain ⟨vs, ⟨h1, h2⟩, rfl⟩ := h
  obtain ⟨A, c, e, h3, h4, _⟩ := h1.rd
  exact ⟨A, c, e, h3, h4⟩
theorem RecsAt.own (h : RecsAt w v l F) : ∃ vs, Own w 52 1 v l.length vs := by
  obtain ⟨vs, ⟨h1, _⟩, _⟩ := h
  exact ⟨vs, h1⟩
/-- One record. -/
theorem RecsAt.get {A : Option Addr} {n c : Nat} (h : RecsAt w (.slice A n c) l F) {i : Nat} {b : List UInt8} (hb : l[i]? = some b) : ∃ g Au cu, A = some ⟨g, 0, none⟩ ∧ w.cell? ⟨g, i, none⟩ = some (.slice Au b.length cu) ∧ Own w 5 1 (.slice Au b.length cu) b.length (b.map byteV) := by
  obtain ⟨vs, ⟨h1, h2⟩, rfl⟩ := h
  have hlt : i < l.length := (List.getElem?_eq_some_iff.1 hb).1
  obtain ⟨u, e1, e2⟩ := h2 i b hb
  obtain ⟨Au, cu, rfl⟩ := e2.form
  rcases h1.2 with ⟨_, e⟩ | ⟨g, cap, cur, e, _⟩
  · omega
  · injection e with e
    subst e
    obtain ⟨A', c', e, _, _, _, hx⟩ := h1.rd
    obtain ⟨g', o, e', hx⟩ := hx (by omega)
    injection e with e
    rw [← e] at e'
    injection e' with e'
    injection e' with e1' e2'
    subst e1' e2'
    exact ⟨g, Au, cu, rfl, by have := hx i _ e1; simpa using this, e2⟩
end

/-- One more record. -/
theorem RecsV.push {w w0 w1 : World} {A A' Au : Option Addr} {c c' cu : Nat} {l : List (List UInt8)} {vs : List Value} {b : List UInt8} (h : RecsV w (.slice A l.length c) l vs) (h0 : Upd NoF w w0) (hu : Own w0 5 1 (.slice Au b.length cu) b.length (b.map byteV))
    (ho : Own w1 52 1 (.slice A' (l.length + 1) c') (l.length + 1) (vs ++ [.slice Au b.length cu])) (hup : Upd (OwnB (.slice A l.length c)) w0 w1) (hn : ∀ k, OwnB (.slice A' (l.length + 1) c') k → OwnB (.slice A l.length c) k ∨ w0.heap.size ≤ k) :
    RecsV w1 (.slice A' (l.length + 1) c') (l ++ [b]) (vs ++ [.slice Au b.length cu]) ∧ ∀ k, RecsF (.slice A' (l.length + 1) c') (vs ++ [.slice Au b.length cu]) k → RecsF (.slice A l.length c) vs k ∨ OwnB (.slice Au b.length cu) k ∨ w0.heap.size ≤ k := by
  obtain ⟨h1, h2⟩ := h
  have hO := h1.upd h0 (fun _ _ h => h)
  have keep : ∀ {u : Value} {n : Nat} {xs : List Value}, Own w0 5 1 u n xs → Own w1 5 1 u n xs := fun {u n xs} hx => hx.upd hup (fun k hk e => by
    rcases hO.2 with ⟨e1, _⟩ | ⟨g', cap, cur, e1, hb, _⟩
    · rw [e1] at e; simp [OwnB, Value.ownBlock] at e
    · rw [e1] at e
      simp [OwnB, Value.ownBlock] at e
      subst e
      exact hx.blk_ne hb (by decide) hk)
  refine ⟨⟨by rw [List.length_append, List.length_singleton]; exact ho, fun i x hx => ?_⟩, fun k hk => ?_⟩
  · have hl := h1.1
    rcases Nat.lt_or_ge i l.length with hlt | hge
    · rw [List.getElem?_append_left hlt] at hx
      obtain ⟨u, e1, e2⟩ := h2 i x hx
      exact ⟨u, by rw [List.getElem?_append_left (by omega)]; exact e1, keep (e2.upd h0 (fun _ _ h => h))⟩
    · rw [List.getElem?_append_right hge] at hx
      have hi0 : i - l.length = 0 := by
        have := (List.getElem?_eq_some_iff.1 hx).1
        simp at this
        omega
      rw [hi0] at hx
      simp at hx
      subst hx
      exact ⟨_, by rw [List.getElem?_append_right (by omega)]; simp [show i - vs.length = 0 by omega], keep hu⟩
  · rcases hk with hk | ⟨u, hu', hk⟩
    · rcases hn k hk with e | e
      · exact .inl (.inl e)
      · exact .inr (.inr e)
    · rcases List.mem_append.1 hu' with e | e
      · exact .inl (.inr ⟨u, e, hk⟩)
      · simp at e
        subst e
        exact .inr (.inl hk)
end

section
open Go.RowKit

def ParsePost (w : World) (bs : List UInt8) (e : Ending) (w' : World) : Prop :=
  ∃ v F, e = .returned (.tuple #[v, .int .i64 ((parseS bs).2 : Int)]) ∧ RecsAt w' v (parseS bs).1 F ∧ (∀ k, F k → w.heap.size ≤ k) ∧ Upd NoF w w'
def PRel (w : World) (bs : List UInt8) (out at_ : Value) (wr : World) : Prop :=
  ∃ (l : List (List UInt8)) (a : Nat) (A : Option Addr) (c : Nat) (vs : List Value), out = .slice A l.length c ∧ at_ = .int .i64 a ∧ PAt bs l a ∧ RecsV wr (.slice A l.length c) l vs ∧ (∀ k, RecsF (.slice A l.length c) vs k → w.heap.size ≤ k) ∧ Upd NoF w wr
theorem ParsePost.mk {w wr w' : World} {bs : List UInt8} {l : List (List UInt8)} {a : Nat} {A : Option Addr} {c : Nat} {vs : List Value} (hP : PAt bs l a) (hs : parseStep bs a l.length = none) (hV : RecsV wr (.slice A l.length c) l vs) (hF : ∀ k, RecsF (.slice A l.length c) vs k → w.heap.size ≤ k) (hU : Upd NoF w wr) (hu : Upd NoF wr w') :
    ParsePost w bs (.returned (.tuple #[.slice A l.length c, .int .i64 (a : Int)])) w' := by
  unfold ParsePost
  rw [hP.stop hs]
  exact ⟨_, _, rfl, RecsAt.upd ⟨vs, hV, rfl⟩ hu (fun _ _ h => h), hF, hU.trans hu (fun _ _ h => h)⟩
end

section
open Go.RowKit

def BytesAt (w : World) (r : List UInt8) (k : Nat) (e : Ending) (w' : World) : Prop := ∃ A c, e = .returned (.tuple #[.slice A r.length c, .int .i64 (k : Int), .bool true]) ∧ NewO w r A c w'
def NoBytes (w : World) (e : Ending) (w' : World) : Prop := e = .returned (.tuple #[.slice none 0 0, .int .i64 0, .bool false]) ∧ w = w'
end

section
open Go.RowKit

/-- Bytes that are being collected, beside a block that is kept. -/
def Acc (w0 w : World) (g : Nat) (t : TypeId) (cs : Array Value) (bs : List UInt8) (n : Nat) (A : Option Addr) (c : Nat) : Prop :=
  n = bs.length ∧ Own w 5 1 (.slice A n c) n (bs.map byteV) ∧ (∀ k, OwnB (.slice A n c) k → w0.heap.size ≤ k ∧ k ≠ g) ∧ Upd NoF w0 w ∧ Blk w g t cs
theorem Acc.push {w0 w wa w' : World} {g : Nat} {t : TypeId} {cs : Array Value} {bs ys : List UInt8} {n m : Nat} {A A' : Option Addr} {c c' : Nat} (h : Acc w0 w g t cs bs n A c) (ha : Upd NoF w wa) (hm : m = ys.length)
    (ho : Own w' 5 1 (.slice A' (n + m) c') (n + m) (bs.map byteV ++ ys.map byteV)) (hu : Upd (OwnB (.slice A n c)) wa w') (hn : ∀ k, OwnB (.slice A' (n + m) c') k → OwnB (.slice A n c) k ∨ wa.heap.size ≤ k) : Acc w0 w' g t cs (bs ++ ys) (n + m) A' c' := by
  obtain ⟨h1, h2, h3, h4, h5⟩ := h
  have hs := ha.size
  have hs0 := h4.size
  have hl := h5.lt
  refine ⟨by rw [List.length_append, h1, hm], by rw [List.map_append]; exact ho, fun k hk => ?_, (h4.trans ha (fun _ _ h => h)).trans hu (fun k hk e => by have := (h3 k e).1; omega), hu.blk (ha.blk h5 (fun h => h)) (fun e => (h3 _ e).2 rfl)⟩
  rcases hn k hk with e | e
  · exact h3 k e
  · omega
theorem Acc.call {w0 w w' : World} {g : Nat} {t : TypeId} {cs : Array Value} {bs : List UInt8} {n n' : Nat} {A A' : Option Addr} {c c' : Nat} {bs' : List UInt8} (h : Acc w0 w g t cs bs n A c) (hn : NewO w bs' A' c' w') (hl : n' = bs'.length) : Acc w0 w' g t cs bs' n' A' c' := by
  obtain ⟨h1, h2, h3, h4, h5⟩ := h
  obtain ⟨k1, k2, k3⟩ := hn
  subst hl
  have hs := h4.size
  have hl := h5.lt
  exact ⟨rfl, k1, fun k hk => by have := k2 k hk; omega, h4.trans k3 (fun _ _ h => h), k3.blk h5 (fun h => h)⟩
theorem Acc.rd {w0 w : World} {g : Nat} {t : TypeId} {cs : Array Value} {bs : List UInt8} {n : Nat} {A : Option Addr} {c : Nat} (h : Acc w0 w g t cs bs n A c) : Rd w 1 (.slice A n c) bs.length (bs.map byteV) := by
  have := h.2.1.rd
  rw [← h.1]
  exact this
theorem Acc.new {w0 w : World} {g : Nat} {t : TypeId} {cs : Array Value} {bs : List UInt8} {n : Nat} {A : Option Addr} {c : Nat} (h : Acc w0 w g t cs bs n A c) : NewO w0 bs A c w := by
  obtain ⟨h1, h2, h3, h4, h5⟩ := h
  subst h1
  exact ⟨h2, fun k hk => (h3 k hk).1, h4⟩
theorem range_blk {w : World} {g : Nat} {t : TypeId} {cs : List Value} (h : Blk w g t cs.toArray) : w.rangeAt g 0 cs := fun j v hv => by
  rw [h.cell]
  simpa using hv
end

section
open Go.RowKit
attribute [local go_sem ↓] Go.wp_at_zero Go.wp_at_succ

theorem name_spell {l : List UInt8} (h : l.length = 8) : ∃ b0 b1 b2 b3 b4 b5 b6 b7, l = [b0, b1, b2, b3, b4, b5, b6, b7] := by
  obtain ⟨b0, b1, b2, b3, b4, b5, b6, b7, r, rfl⟩ := eight l (by omega)
  obtain rfl : r = [] := by simpa using h
  exact ⟨b0, b1, b2, b3, b4, b5, b6, b7, rfl⟩
theorem retb {a b : Bool} (h : a = b) : Ending.returned (.bool a) = .returned (.bool b) := by rw [h]

set_option maxRecDepth 100000 in
set_option maxHeartbeats 2000000 in
theorem r1Number_any (l : List UInt8) (hl : l.length = 8) (w : World) : Calls Tryz.prog 126 #[nameV l] w fun e w' => e = .returned (u64V (be l)) ∧ Upd NoF w w' := by
  obtain ⟨b0, b1, b2, b3, b4, b5, b6, b7, rfl⟩ := name_spell hl
  have HC := Lib.hid (show ∀ (k : Nat) b, [b0, b1, b2, b3, b4, b5, b6, b7][k]? = some b → (w.alloc (.cells #[byteV b0, byteV b1, byteV b2, byteV b3, byteV b4, byteV b5, byteV b6, byteV b7] 28)).cell? ⟨w.heap.size, k, none⟩ = some (byteV b) from fun k b hb => by
    rw [(Blk.new w 28 _).cell k]
    have : ([b0, b1, b2, b3, b4, b5, b6, b7].map byteV)[k]? = some (byteV b) := by rw [List.getElem?_map, hb]; rfl
    simpa using this)
  clear hl
  go_enter Tryz.func126, Tryz.ntmps126
  go_wp2
  go_loop [3, 4] (fun x i => NumRel [b0, b1, b2, b3, b4, b5, b6, b7] x i) (fun _ i => 8 - (intOf i).toNat)
  case atStart => exact ⟨0, by omega, rfl, rfl⟩
  case round =>
    obtain ⟨k, hk, rfl, rfl⟩ := hrel
    by_cases hlt : k < 8
    · obtain ⟨b, hb⟩ : ∃ b, [b0, b1, b2, b3, b4, b5, b6, b7][k]? = some b := ⟨_, List.getElem?_eq_getElem hlt⟩
      have hcell := HC.out k b hb
      have HE := Lib.hid (be_take_succ _ k b hb)
      have HO := Lib.hid (or_byte (be (List.take k [b0, b1, b2, b3, b4, b5, b6, b7])) b (by
        have h1 := be_take_lt [b0, b1, b2, b3, b4, b5, b6, b7] k
        have h2 : (256 : Nat) ^ k ≤ 256 ^ 7 := Nat.pow_le_pow_right (by omega) (by omega)
        omega))
      have t1 : decide ((k : Int) < 8) = true := by simp; omega
      have t1' : decide (k < 8) = true := by simp; omega
      have q0 : (0 : Int) ≤ (k : Int) := by omega
      have q1 : (k : Int) < 8 := by omega
      generalize be (List.take k [b0, b1, b2, b3, b4, b5, b6, b7]) = u at HE HO ⊢
      clear hb
      go_wp2
      go_round
      case rel =>
        refine ⟨k + 1, by omega, by go_num, ?_⟩
        rw [HE.out, wrap_u64_byte, HO.out]
      case measure => simp [intOf]; omega
    · have t1 : decide ((k : Int) < 8) = false := by simp; omega
      have t1' : decide (k < 8) = false := by simp; omega
      obtain rfl : k = 8 := by omega
      go_wp2
      go_ret
      exact ⟨rfl, (Upd.refl NoF w).alloc _⟩


set_option maxRecDepth 100000 in
set_option maxHeartbeats 4000000 in
theorem r1Less_any (a b : List UInt8) (ha : a.length = 8) (hb : b.length = 8) (w : World) : Calls Tryz.prog 78 #[nameV a, nameV b] w fun e w' => e = .returned (.bool (lessN a b)) ∧ Upd NoF w w' := by
  obtain ⟨a0, a1, a2, a3, a4, a5, a6, a7, rfl⟩ := name_spell ha
  obtain ⟨b0, b1, b2, b3, b4, b5, b6, b7, rfl⟩ := name_spell hb
  have NA := Lib.hid (show ∀ w, Calls Tryz.prog 126 #[.agg #[byteV a0, byteV a1, byteV a2, byteV a3, byteV a4, byteV a5, byteV a6, byteV a7]] w (fun e w' => e = .returned (u64V (be [a0, a1, a2, a3, a4, a5, a6, a7])) ∧ Upd NoF w w') from fun w => r1Number_any [a0, a1, a2, a3, a4, a5, a6, a7] rfl w)
  have NB := Lib.hid (show ∀ w, Calls Tryz.prog 126 #[.agg #[byteV b0, byteV b1, byteV b2, byteV b3, byteV b4, byteV b5, byteV b6, byteV b7]] w (fun e w' => e = .returned (u64V (be [b0, b1, b2, b3, b4, b5, b6, b7])) ∧ Upd NoF w w') from fun w => r1Number_any [b0, b1, b2, b3, b4, b5, b6, b7] rfl w)
  have LE := Lib.hid (show (decide (be [a0, a1, a2, a3, a4, a5, a6, a7] < be [b0, b1, b2, b3, b4, b5, b6, b7])) = lessN [a0, a1, a2, a3, a4, a5, a6, a7] [b0, b1, b2, b3, b4, b5, b6, b7] from rfl)
  have TW := Lib.hid (show ∀ W', Upd NoF ((w.alloc (.cells #[byteV a0, byteV a1, byteV a2, byteV a3, byteV a4, byteV a5, byteV a6, byteV a7] 28)).alloc (.cells #[byteV b0, byteV b1, byteV b2, byteV b3, byteV b4, byteV b5, byteV b6, byteV b7] 28)) W' → (W'.cell? ⟨w.heap.size, 0, none⟩ = some (byteV a0) ∧ W'.cell? ⟨w.heap.size, 1, none⟩ = some (byteV a1) ∧ W'.cell? ⟨w.heap.size, 2, none⟩ = some (byteV a2) ∧ W'.cell? ⟨w.heap.size, 3, none⟩ = some (byteV a3) ∧ W'.cell? ⟨w.heap.size, 4, none⟩ = some (byteV a4) ∧ W'.cell? ⟨w.heap.size, 5, none⟩ = some (byteV a5) ∧ W'.cell? ⟨w.heap.size, 6, none⟩ = some (byteV a6) ∧ W'.cell? ⟨w.heap.size, 7, none⟩ = some (byteV a7) ∧ W'.cell? ⟨w.heap.size + 1, 0, none⟩ = some (byteV b0) ∧ W'.cell? ⟨w.heap.size + 1, 1, none⟩ = some (byteV b1) ∧ W'.cell? ⟨w.heap.size + 1, 2, none⟩ = some (byteV b2) ∧ W'.cell? ⟨w.heap.size + 1, 3, none⟩ = some (byteV b3) ∧ W'.cell? ⟨w.heap.size + 1, 4, none⟩ = some (byteV b4) ∧ W'.cell? ⟨w.heap.size + 1, 5, none⟩ = some (byteV b5) ∧ W'.cell? ⟨w.heap.size + 1, 6, none⟩ = some (byteV b6) ∧ W'.cell? ⟨w.heap.size + 1, 7, none⟩ = some (byteV b7)) from fun W' hu => by
    have h1 := hu.blk ((Blk.new w 28 #[byteV a0, byteV a1, byteV a2, byteV a3, byteV a4, byteV a5, byteV a6, byteV a7]).alloc (.cells #[byteV b0, byteV b1, byteV b2, byteV b3, byteV b4, byteV b5, byteV b6, byteV b7] 28)) (fun h => h)
    have h2 := hu.blk (Blk.new (w.alloc (.cells #[byteV a0, byteV a1, byteV a2, byteV a3, byteV a4, byteV a5, byteV a6, byteV a7] 28)) 28 #[byteV b0, byteV b1, byteV b2, byteV b3, byteV b4, byteV b5, byteV b6, byteV b7]) (fun h => h)
    rw [show (w.alloc (.cells #[byteV a0, byteV a1, byteV a2, byteV a3, byteV a4, byteV a5, byteV a6, byteV a7] 28)).heap.size = w.heap.size + 1 from by simp] at h2
    exact ⟨h1.cell 0, h1.cell 1, h1.cell 2, h1.cell 3, h1.cell 4, h1.cell 5, h1.cell 6, h1.cell 7, h2.cell 0, h2.cell 1, h2.cell 2, h2.cell 3, h2.cell 4, h2.cell 5, h2.cell 6, h2.cell 7⟩)
  generalize lessN [a0, a1, a2, a3, a4, a5, a6, a7] [b0, b1, b2, b3, b4, b5, b6, b7] = Z at LE ⊢
  generalize be [a0, a1, a2, a3, a4, a5, a6, a7] = x at NA LE ⊢
  generalize be [b0, b1, b2, b3, b4, b5, b6, b7] = y at NB LE ⊢
  clear ha hb
  go_enter Tryz.func78, Tryz.ntmps78
  go_wp2
  go_region_held3 (fun w' => w'.cell? ⟨w.heap.size, 0, none⟩ = some (byteV a0) ∧ w'.cell? ⟨w.heap.size, 1, none⟩ = some (byteV a1) ∧ w'.cell? ⟨w.heap.size, 2, none⟩ = some (byteV a2) ∧ w'.cell? ⟨w.heap.size, 3, none⟩ = some (byteV a3) ∧ w'.cell? ⟨w.heap.size, 4, none⟩ = some (byteV a4) ∧ w'.cell? ⟨w.heap.size, 5, none⟩ = some (byteV a5) ∧ w'.cell? ⟨w.heap.size, 6, none⟩ = some (byteV a6) ∧ w'.cell? ⟨w.heap.size, 7, none⟩ = some (byteV a7) ∧ w'.cell? ⟨w.heap.size + 1, 0, none⟩ = some (byteV b0) ∧ w'.cell? ⟨w.heap.size + 1, 1, none⟩ = some (byteV b1) ∧ w'.cell? ⟨w.heap.size + 1, 2, none⟩ = some (byteV b2) ∧ w'.cell? ⟨w.heap.size + 1, 3, none⟩ = some (byteV b3) ∧ w'.cell? ⟨w.heap.size + 1, 4, none⟩ = some (byteV b4) ∧ w'.cell? ⟨w.heap.size + 1, 5, none⟩ = some (byteV b5) ∧ w'.cell? ⟨w.heap.size + 1, 6, none⟩ = some (byteV b6) ∧ w'.cell? ⟨w.heap.size + 1, 7, none⟩ = some (byteV b7))
    (first | exact TW.out _ U2.out | exact TW.out _ U1.out | exact TW.out _ (Upd.refl NoF _) | exact TW.out _ ((Upd.refl NoF _).drew))
    (first
      | (go_at_call 126; (with_reducible refine (NA.out _).mono ?_); rintro e w1 ⟨rfl, hu1⟩; have U1 := Lib.hid (((Upd.refl NoF ((w.alloc (.cells #[byteV a0, byteV a1, byteV a2, byteV a3, byteV a4, byteV a5, byteV a6, byteV a7] 28)).alloc (.cells #[byteV b0, byteV b1, byteV b2, byteV b3, byteV b4, byteV b5, byteV b6, byteV b7] 28))).drew).trans hu1 (fun _ _ h => h)); clear hu1)
      | (go_at_call 126; (with_reducible refine (NB.out _).mono ?_); rintro e w2 ⟨rfl, hu2⟩; have U2 := Lib.hid (U1.out.trans hu2 (fun _ _ h => h)); clear hu2))
  go_wp2
  go_ret
  exact ⟨retb LE.out, (((Upd.refl NoF w).alloc _).alloc _).trans U2.out (fun _ _ h => h)⟩
end

section
open Go.RowKit

def five (v : VoteS) : List Int := [v.slot, v.round, v.kind, v.signer, v.choice]
def LsRel (a b : VoteS) (W : World) (i : Value) (wr : World) : Prop := ∃ k q : Nat, k ≤ 5 ∧ i = .int .i64 k ∧ (∀ j, j < k → (five a)[j]? = (five b)[j]?) ∧ wr = W.drewN q
end

section
open Go.ChangeShapes Go.WideShapes Go.ChangeAt Go.RowKit

theorem own : ownKnob Tryz.prog.godebug = none := by kernel_rfl
theorem laid : laidOutB Tryz.prog = true := by kernel_rfl

theorem trodAll_below {H : Type} {enc : TypeId × Value → H} {W W' : World} (hb : Below W.heap.size W W') : ∀ {ts : List TypeId} {vs : List Value} {ds : List (DataW H)} {ps : List MemPlace},
    DataW.TrodAll enc Tryz.prog W 0 (fun _ => true) true ts vs ds ps → (∀ x ∈ ps, x.block < W.heap.size) → (∀ t ∈ ts, Tryz.prog.readableRec t = true ∧ t < Tryz.prog.types.size) →
    DataW.TrodAll enc Tryz.prog W' 0 (fun b => decide (b < W.heap.size)) true ts vs ds ps
  | [], vs, ds, ps, h, _, _ => by
    obtain ⟨rfl, rfl, rfl⟩ := trodAll_nil h
    exact trodAll_mk0
  | t :: ts, vs, ds, ps, h, hlt, hr => by
    obtain ⟨v, vs0, d, ds0, p, ps0, rfl, rfl, rfl, h0, r0⟩ := trodAll_cons h
    obtain ⟨hr1, hr2⟩ := hr t (by simp)
    exact trodAll_cons_mk (Below.trod laid hr1 hr2 h0 hb (fun x hx => hlt x (by simp [hx]))) (trodAll_below hb r0 (fun x hx => hlt x (by simp [hx])) (fun t ht => hr t (by simp [ht])))

/-- The row's post of a statement that returned true and turned nothing that was there. -/
theorem law_post {H : Type} {enc : TypeId × Value → H} {f : Func} {s : ChangeSpec} {W W' : World} {args : Array Value} {ds gs : List (DataW H)} {before : List MemPlace} (hv : s.vars = []) (hres : f.resultTypes = #[4])
    (hr : ∀ t ∈ f.params.toList, Tryz.prog.readableRec t = true ∧ t < Tryz.prog.types.size) (hfn : (s.fn H (ds ++ gs)).results = [.lit (.bool true)] ∧ (s.fn H (ds ++ gs)).args = ds ∧ (s.fn H (ds ++ gs)).vars = [])
    (hW : DataW.Whole enc Tryz.prog f.params.toList s.vars false W args.toList ds gs before) (hb : Below W.heap.size W W') : s.post enc Tryz.prog f false true false false W args (.bool true) W' := by
  have hW0 := hW
  have hlt : ∀ p ∈ before, p.block < W.heap.size := fun p hp => hW.lt p hp
  obtain ⟨p, q, hA, hV, rfl, _, _⟩ := hW
  rw [hv] at hV
  obtain ⟨rfl, rfl⟩ := trodVars_none hV
  refine ⟨ds, [], p ++ [], [], p, [], hW0, ?_, ?_, ?_, World.keptBut_mono (fun x hx => ⟨hx, .inr (.inl (by simpa using hx))⟩) (hb.frame (· ∈ p ++ [])), fun h => by cases h⟩
  · rw [hfn.1, hres]
    exact trodAll_cons_mk (shut_bool Tryz.underlying4 true) trodAll_mk0
  · rw [hfn.2.1]
    exact trodAll_below hb hA (fun x hx => hlt x (by simp [hx])) hr
  · rw [hv, hfn.2.2]
    exact rfl
end

section
open Go.ChangeShapes Go.WideShapes Go.ChangeAt Go.RowKit

/-- The blocks that were made since w. -/
def Ab (w : World) : Nat → Prop := fun k => w.heap.size ≤ k
theorem Upd.ab {w wi wj : World} {F : Nat → Prop} (h : Upd (Ab w) w wi) (h2 : Upd F wi wj) (hF : ∀ k, F k → w.heap.size ≤ k) : Upd (Ab w) w wj := h.trans h2 (fun k _ f => hF k f)

theorem spot_of_cell {w : World} {a : Addr} {v : Value} (h : w.cell? a = some v) : a.spot = none := by
  unfold World.cell? at h
  split at h
  · split at h
    · cases h
    · rename_i hs; simpa using hs
  · cases h
theorem add_form {a : Addr} (hs : a.spot = none) (i : Nat) : a.add i = ⟨a.block, a.off + i, none⟩ := by
  obtain ⟨b, o, s⟩ := a
  simp only at hs
  subst hs
  unfold Addr.add
  split <;> simp_all

/-- Cells that were there stay, while only new blocks are written. -/
theorem Rd.ab {w : World} {size : Nat} {v : Value} {n : Nat} {xs : List Value} (h : Rd w size v n xs) : RdF (Ab w) w size v n xs := by
  intro w' hu
  obtain ⟨A, c, rfl, hn, hc, hl, hA⟩ := h
  refine ⟨A, c, rfl, hn, hc, hl, fun h0 => ?_⟩
  obtain ⟨g, o, rfl, hx⟩ := hA h0
  refine ⟨g, o, rfl, fun j u hj => hu.cell (hx j u hj) ?_⟩
  have := block_lt_of_cell (hx j u hj)
  simp only [Ab]
  simp only at this
  omega

section
variable {H : Type} {enc : TypeId × Value → H} {W : World} {v : Value} {d : DataW H} {p : List MemPlace}

theorem cells_u8 : Tryz.prog.cellsOf 5 = 1 := by kernel_rfl
theorem cells_int : Tryz.prog.cellsOf 3 = 1 := by kernel_rfl
set_option maxRecDepth 100000 in
theorem wf_u8 {z : Int} (h : (Lit.int .u8 z).wf = true) : 0 ≤ z ∧ z < 256 := by
  have := bounds_u8 h
  omega
set_option maxRecDepth 100000 in
theorem slice_cells {t e : TypeId} (ht : Tryz.prog.underlying t = some (.slice e)) {base0 base : Nat} {r : Reach} {spare : Nat → Bool} {held : Bool} (hok : Value.okWide Tryz.prog W r base0 t v) (h : DataW.Trod enc Tryz.prog W base spare held t v d p) :
    ∃ fuel, DataW.trod enc Tryz.prog W base spare held fuel t [v] = some (d, p) := by
  obtain ⟨a, len, cap, rfl⟩ := okWide_slice ht hok
  exact h

set_option maxRecDepth 100000 in
theorem wf_i64 {z : Int} (h : (Lit.int .i64 z).wf = true) : -9223372036854775808 ≤ z ∧ z ≤ 9223372036854775807 := by
  have := bounds_i64 h
  omega

/-- A slice of slices of bytes. -/
def RdBB (F : Nat → Prop) (w : World) (v : Value) (l : List (List UInt8)) : Prop :=
  ∃ vs : List Value, vs.length = l.length ∧ RdF F w 1 v l.length vs ∧ ∀ (i : Nat) b, l[i]? = some b → ∃ u, vs[i]? = some u ∧ RdB F w u b

end
end

section
open Go.ChangeShapes Go.WideShapes Go.ChangeAt Go.RowKit

section
variable {H : Type} {enc : TypeId × Value → H} {W : World} {v : Value} {d : DataW H} {p : List MemPlace}

theorem flatten_at {rows : List (List Value)} {k : Nat} (hk : ∀ r ∈ rows, r.length = k) {i j : Nat} {r : List Value} (hr : rows[i]? = some r) (hj : j < k) : rows.flatten[i * k + j]? = r[j]? := by
  induction rows generalizing i with
  | nil => cases hr
  | cons y l ih =>
    have hy := hk y (by simp)
    rw [List.flatten_cons]
    cases i with
    | zero =>
      simp at hr
      subst hr
      rw [List.getElem?_append_left (by omega)]
      simp
    | succ i =>
      rw [List.getElem?_append_right (by rw [hy, Nat.succ_mul]; omega), hy, show (i + 1) * k + j - k = i * k + j by rw [Nat.succ_mul]; omega]
      exact ih (fun r hr => hk r (by simp [hr])) (by simpa using hr)
theorem flatten_len {rows : List (List Value)} {k : Nat} (hk : ∀ r ∈ rows, r.length = k) : rows.flatten.length = rows.length * k := by
  induction rows with
  | nil => simp
  | cons y l ih =>
    rw [List.flatten_cons, List.length_append, ih (fun r hr => hk r (by simp [hr])), hk y (by simp), List.length_cons, Nat.succ_mul]
    omega

end
end

section
open Go.ChangeShapes Go.WideShapes Go.ChangeAt Go.RowKit

/-! ### words -/
/-- A slice of slices of bytes, as it reads now. -/
def TxR (w : World) (v : Value) (l : List (List UInt8)) : Prop :=
  ∃ vs : List Value, vs.length = l.length ∧ Rd w 1 v l.length vs ∧ ∀ (i : Nat) b, l[i]? = some b → ∃ u, vs[i]? = some u ∧ Rd w 1 u b.length (b.map byteV)
def rowS (s : SignedS) (u : Value) : List Value := voteCells s.vote ++ [u]
/-- A slice of signed votes, as it reads now. -/
def SgR (w : World) (v : Value) (l : List SignedS) : Prop :=
  (∀ s ∈ l, s.vote.Fit) ∧ ∃ us : List Value, us.length = l.length ∧ Rd w 23 v l.length (List.zipWith rowS l us).flatten ∧ ∀ (i : Nat) s, l[i]? = some s → ∃ u, us[i]? = some u ∧ Rd w 1 u s.sig.length (s.sig.map byteV)
/-- A view. -/
def VwR (w : World) (a b : Value) (V : ViewS) : Prop := SgR w a V.votes ∧ TxR w b V.texts

section
variable {w w' : World} {v : Value}
theorem Rd.abK {size n : Nat} {xs : List Value} (h : Rd w size v n xs) (hu : Upd (Ab w) w w') : Rd w' size v n xs := h.ab w' hu
theorem Upd.toAb (h : Upd NoF w w') : Upd (Ab w) w w' := h.mono (fun _ _ f => f.elim)
theorem TxR.ab {l : List (List UInt8)} (h : TxR w v l) (hu : Upd (Ab w) w w') : TxR w' v l := by
  obtain ⟨vs, h1, h2, h3⟩ := h
  refine ⟨vs, h1, h2.abK hu, fun i b hb => ?_⟩
  obtain ⟨u, e1, e2⟩ := h3 i b hb
  exact ⟨u, e1, e2.abK hu⟩
theorem TxR.keep {l : List (List UInt8)} (h : TxR w v l) (hu : Upd NoF w w') : TxR w' v l := h.ab hu.toAb
theorem SgR.ab {l : List SignedS} (h : SgR w v l) (hu : Upd (Ab w) w w') : SgR w' v l := by
  obtain ⟨hf, us, h1, h2, h3⟩ := h
  refine ⟨hf, us, h1, h2.abK hu, fun i b hb => ?_⟩
  obtain ⟨u, e1, e2⟩ := h3 i b hb
  exact ⟨u, e1, e2.abK hu⟩
theorem SgR.keep {l : List SignedS} (h : SgR w v l) (hu : Upd NoF w w') : SgR w' v l := h.ab hu.toAb
theorem VwR.ab {a b : Value} {V : ViewS} (h : VwR w a b V) (hu : Upd (Ab w) w w') : VwR w' a b V := ⟨h.1.ab hu, h.2.ab hu⟩
theorem VwR.keep {a b : Value} {V : ViewS} (h : VwR w a b V) (hu : Upd NoF w w') : VwR w' a b V := h.ab hu.toAb
theorem TxR.nil (w : World) : TxR w (.slice none 0 0) [] := ⟨[], rfl, Rd.nil w 1, fun _ _ h => by cases h⟩
theorem SgR.nil (w : World) : SgR w (.slice none 0 0) [] := ⟨by simp, [], rfl, Rd.nil w 23, fun _ _ h => by cases h⟩
theorem TxR.form {l : List (List UInt8)} (h : TxR w v l) : ∃ A c, v = .slice A l.length c ∧ l.length ≤ c ∧ c ≤ maxLen := by
  obtain ⟨vs, _, ⟨A, c, e, h3, h4, _⟩, _⟩ := h
  exact ⟨A, c, e, h3, h4⟩
theorem SgR.form {l : List SignedS} (h : SgR w v l) : ∃ A c, v = .slice A l.length c ∧ l.length ≤ c ∧ c ≤ maxLen := by
  obtain ⟨_, vs, _, ⟨A, c, e, h3, h4, _⟩, _⟩ := h
  exact ⟨A, c, e, h3, h4⟩
theorem SgR.fit {l : List SignedS} (h : SgR w v l) {i : Nat} {s : SignedS} (hs : l[i]? = some s) : s.vote.Fit := h.1 s (List.mem_of_getElem? hs)
theorem Rd.slice {n : Nat} {xs : List Value} (h : Rd w 1 v n xs) : ∃ A c, v = .slice A n c ∧ n ≤ c ∧ c ≤ maxLen := by
  obtain ⟨A, c, e, h3, h4, _⟩ := h
  exact ⟨A, c, e, h3, h4⟩
/-- One text. -/
theorem TxR.at_ {A : Option Addr} {n c : Nat} {l : List (List UInt8)} (h : TxR w (.slice A n c) l) {i : Nat} {b : List UInt8} (hb : l[i]? = some b) :
    ∃ g o Au cu, A = some ⟨g, o, none⟩ ∧ w.cell? ⟨g, o + i, none⟩ = some (.slice Au b.length cu) ∧ Rd w 1 (.slice Au b.length cu) b.length (b.map byteV) ∧ b.length ≤ cu ∧ cu ≤ 9223372036854775807 := by
  obtain ⟨vs, h1, ⟨A', c', e, h3, h4, h5, h6⟩, h7⟩ := h
  injection e with e1 e2 e3
  subst e1
  have hlt : i < l.length := (List.getElem?_eq_some_iff.1 hb).1
  obtain ⟨g, o, rfl, hx⟩ := h6 (by omega)
  obtain ⟨u, e4, e5⟩ := h7 i b hb
  obtain ⟨Au, cu, rfl, k1, k2⟩ := e5.slice
  unfold maxLen at k2
  exact ⟨g, o, Au, cu, rfl, hx i _ e4, e5, k1, k2⟩
theorem rowS_len {s : SignedS} (hf : s.vote.Fit) (u : Value) : (rowS s u).length = 23 := by simp [rowS, voteCells, hf.parent, hf.value]
theorem zip_rows {l : List SignedS} {us : List Value} (hf : ∀ s ∈ l, s.vote.Fit) : ∀ r ∈ List.zipWith rowS l us, r.length = 23 := by
  intro r hr
  obtain ⟨i, hi, rfl⟩ := List.mem_iff_getElem.1 hr
  rw [List.getElem_zipWith]
  exact rowS_len (hf _ (List.getElem_mem _)) _
/-- One signed vote. -/
theorem SgR.at_ {A : Option Addr} {n c : Nat} {l : List SignedS} (h : SgR w (.slice A n c) l) {i : Nat} {s : SignedS} (hs : l[i]? = some s) :
    ∃ g o Au cu, A = some ⟨g, o, none⟩ ∧ w.rangeAt g (o + i * 23) (rowS s (.slice Au s.sig.length cu)) ∧ Rd w 1 (.slice Au s.sig.length cu) s.sig.length (s.sig.map byteV) ∧ s.sig.length ≤ cu ∧ cu ≤ 9223372036854775807 := by
  obtain ⟨hf, us, h1, ⟨A', c', e, h3, h4, h5, h6⟩, h7⟩ := h
  injection e with e1 e2 e3
  subst e1
  have hlt : i < l.length := (List.getElem?_eq_some_iff.1 hs).1
  obtain ⟨g, o, rfl, hx⟩ := h6 (by omega)
  obtain ⟨u, e4, e5⟩ := h7 i s hs
  obtain ⟨Au, cu, rfl, k1, k2⟩ := e5.slice
  unfold maxLen at k2
  refine ⟨g, o, Au, cu, rfl, fun j x hj => ?_, e5, k1, k2⟩
  have hrow : (List.zipWith rowS l us)[i]? = some (rowS s (.slice Au s.sig.length cu)) := by rw [List.getElem?_zipWith, hs, e4]
  have hj23 : j < 23 := by have := (List.getElem?_eq_some_iff.1 hj).1; rw [rowS_len (hf s (List.mem_of_getElem? hs))] at this; exact this
  have := flatten_at (zip_rows (us := us) hf) hrow hj23
  rw [Nat.add_assoc]
  exact hx _ x (by rw [this]; exact hj)
end

/-! ### opening -/
section
variable {H : Type} {enc : TypeId × Value → H} {W : World} {v : Value} {d : DataW H} {p : List MemPlace} {base : Nat} {spare : Nat → Bool} {held : Bool} {fuel : Nat}

theorem cells_name : Tryz.prog.cellsOf 28 = 8 := by kernel_rfl
theorem cells_mask : Tryz.prog.cellsOf 30 = 1 := by kernel_rfl
theorem open_byte {c : Value} {x : DataW H × List MemPlace} (h : DataW.trod enc Tryz.prog W base spare held fuel 5 [c] = some x) : ∃ b : UInt8, c = byteV b := by
  obtain ⟨z, e, _, hw⟩ := DataW.trod_int Tryz.underlying5 h
  injection e with e
  obtain ⟨h1, h2⟩ := wf_u8 hw
  refine ⟨UInt8.ofNat z.toNat, ?_⟩
  rw [e]
  show Value.int .u8 z = .int .u8 _
  congr 1
  simp
  omega
theorem open_int1 {t : TypeId} (ht : Tryz.prog.underlying t = some (.int .i64)) {c : Value} {x : DataW H × List MemPlace} (h : DataW.trod enc Tryz.prog W base spare held fuel t [c] = some x) : ∃ z : Int, c = .int .i64 z ∧ in64 z := by
  obtain ⟨z, e, _, hw⟩ := DataW.trod_int ht h
  injection e with e
  exact ⟨z, e, wf_i64 hw⟩
theorem open_name_cells {c0 c1 c2 c3 c4 c5 c6 c7 : Value} {x : DataW H × List MemPlace} (h : DataW.trod enc Tryz.prog W base spare held fuel 28 [c0, c1, c2, c3, c4, c5, c6, c7] = some x) : ∃ l : List UInt8, l.length = 8 ∧ [c0, c1, c2, c3, c4, c5, c6, c7] = l.map byteV := by
  obtain ⟨xs, m, _, _, _, hl, hi⟩ := DataW.trod_array Tryz.underlying28 h
  rw [cells_u8] at hi
  have get : ∀ i, i < 8 → ∃ y, xs[i]? = some y := fun i h => ⟨_, List.getElem?_eq_getElem (by omega)⟩
  have one : ∀ (i : Nat) (c : Value), i < 8 → (([c0, c1, c2, c3, c4, c5, c6, c7] : List Value).drop (i * 1)).take 1 = [c] → ∃ b : UInt8, c = byteV b := fun i c h1 h2 => by
    obtain ⟨y, hy⟩ := get i h1
    have := hi i h1
    rw [h2, hy] at this
    exact open_byte this
  obtain ⟨b0, rfl⟩ := one 0 c0 (by omega) rfl
  obtain ⟨b1, rfl⟩ := one 1 c1 (by omega) rfl
  obtain ⟨b2, rfl⟩ := one 2 c2 (by omega) rfl
  obtain ⟨b3, rfl⟩ := one 3 c3 (by omega) rfl
  obtain ⟨b4, rfl⟩ := one 4 c4 (by omega) rfl
  obtain ⟨b5, rfl⟩ := one 5 c5 (by omega) rfl
  obtain ⟨b6, rfl⟩ := one 6 c6 (by omega) rfl
  obtain ⟨b7, rfl⟩ := one 7 c7 (by omega) rfl
  exact ⟨[b0, b1, b2, b3, b4, b5, b6, b7], rfl, rfl⟩
/-- A slice of values of whatever type, row by row. -/
theorem open_slice_rows {t e : TypeId} (ht : Tryz.prog.underlying t = some (.slice e)) (hpos : 0 < Tryz.prog.cellsOf e) {x : DataW H × List MemPlace} (h : DataW.trod enc Tryz.prog W base spare held fuel t [v] = some x) :
    ∃ rows : List (List Value), Rd W (Tryz.prog.cellsOf e) v rows.length rows.flatten ∧ ∀ row ∈ rows, row.length = Tryz.prog.cellsOf e ∧ ∃ n y, DataW.trod enc Tryz.prog W base spare held n e row = some y := by
  generalize hk : Tryz.prog.cellsOf e = k at hpos ⊢
  rcases Go.Deep.open_slice ht h with ⟨hcs, hx⟩ | ⟨a, len, cap, m, n, D, Pl, hcs, _, hl, hm, hz, hx, hi⟩
  · injection hcs with hcs
    subst hcs
    exact ⟨[], Rd.nil W _, by simp⟩
  · injection hcs with hcs
    subst hcs
    rw [hk] at hi
    have hlm : len ≤ m := by split at hz <;> omega
    have hex : ∀ i, i < len → ∃ cs' : List Value, cs'.length = k ∧ (∀ j, j < k → W.cell? (a.add (i * k + j)) = cs'[j]?) ∧ ∃ n y, DataW.trod enc Tryz.prog W base spare held n e cs' = some y := by
      intro i hilt
      obtain ⟨cs', h1, h2⟩ := hi i (by omega)
      obtain ⟨_, hcl, hat⟩ := World.cells?_some h1
      exact ⟨cs', hcl, fun j hj => by rw [← Go.Deep.add_add]; exact hat j hj, n, _, h2⟩
    have hrows : ∀ q, q ≤ len → ∃ rows : List (List Value), rows.length = q ∧ ∀ i, i < q → ∃ cs', rows[i]? = some cs' ∧ cs'.length = k ∧ (∀ j, j < k → W.cell? (a.add (i * k + j)) = cs'[j]?) ∧ ∃ n y, DataW.trod enc Tryz.prog W base spare held n e cs' = some y := by
      intro q
      induction q with
      | zero => exact fun _ => ⟨[], rfl, fun i hi => by omega⟩
      | succ q ih =>
        intro hq
        obtain ⟨rows, hrl, hr⟩ := ih (by omega)
        obtain ⟨cs', c1⟩ := hex q (by omega)
        refine ⟨rows ++ [cs'], by simp [hrl], fun i hi => ?_⟩
        rcases Nat.lt_or_ge i q with h | h
        · obtain ⟨c2, e1, e2⟩ := hr i h
          exact ⟨c2, by rw [List.getElem?_append_left (by omega)]; exact e1, e2⟩
        · obtain rfl : i = q := by omega
          exact ⟨cs', by rw [List.getElem?_append_right (by omega)]; simp [hrl], c1⟩
    obtain ⟨rows, hrl, hr⟩ := hrows len (Nat.le_refl _)
    have hall : ∀ row ∈ rows, row.length = k ∧ ∃ n y, DataW.trod enc Tryz.prog W base spare held n e row = some y := by
      intro row hrow
      obtain ⟨i, hi', rfl⟩ := List.mem_iff_getElem.1 hrow
      obtain ⟨c2, e1, e2, _, e4⟩ := hr i (by omega)
      rw [List.getElem?_eq_getElem hi'] at e1
      have e1 := Option.some.inj e1
      rw [e1]
      exact ⟨e2, e4⟩
    have hlen : ∀ row ∈ rows, row.length = k := fun row hrow => (hall row hrow).1
    refine ⟨rows, ⟨some a, cap, by rw [hrl], by omega, hm, flatten_len hlen, fun h0 => ?_⟩, hall⟩
    have hs : a.spot = none := by
      obtain ⟨c2, e1, e2, e3, _⟩ := hr 0 (by omega)
      have := e3 0 hpos
      rw [List.getElem?_eq_getElem (by omega)] at this
      have := spot_of_cell this
      revert this
      unfold Addr.add
      simp
    refine ⟨a.block, a.off, by cases a; simp_all, fun j u hj => ?_⟩
    have hjl : j < len * k := by
      have := (List.getElem?_eq_some_iff.1 hj).1
      rw [flatten_len hlen, hrl] at this
      exact this
    have hdm : j / k < len := by rw [Nat.div_lt_iff_lt_mul hpos]; exact hjl
    have hmod := Nat.mod_lt j hpos
    obtain ⟨c2, e1, e2, e3, _⟩ := hr (j / k) hdm
    have e4 := flatten_at hlen e1 hmod
    have e5 : j / k * k + j % k = j := Nat.div_add_mod' j k
    rw [e5, hj] at e4
    have := e3 (j % k) hmod
    rw [e5, ← e4, add_form hs] at this
    exact this

end
end

section
open Go.RowKit
end
end Go.Proofs.YtengcmfdfmnacaaGreat
