/- Numbers as bytes: AppendUint and Uint of package codec and of the reference. Conditions: sizes. Numbers as bytes: AppendUint of package codec and of the reference. Conditions: sizes. Numbers as bytes: Uint of package codec and of the reference. Conditions: sizes. Comparing bytes; AppendBytes and Bytes of package codec and of the reference; the length of a signature. Conditions: sizes. Checksums and frames of the journal, of the program and of the reference. Conditions: sizes. Parsing on plain data; lists of records in memory; bytes.Equal. Conditions: sizes. Parse of package journal. Conditions: sizes. Bytes of package codec and of the reference. Conditions: sizes. Encode of package vote and of the reference. No condition. -/
import Derived.Test.YtbgificdilpdcaaJn4
import Derived.Laws.MakeOwn
import Derived.Test.YtbgificdilpdcaaJn2
import Derived.Lib.Bytealg
import Derived.Lib.BytesEntry
import Derived.Deep.RegionHeld3
import Derived.Deep.QuietTactic
import Derived.BigQuiet
import Derived.IntWalk
import Derived.Test.YtbgificdilpdcaaJn3
import Derived.Deep.MidRow
namespace Go.Proofs.Ytbgificdilpdcaa
section
open Go.RowKit

/-- A new slice of bytes that owns its block. -/
def NewO (w : World) (bs : List UInt8) (A : Option Addr) (c : Nat) (w' : World) : Prop := Own w' 5 1 (.slice A bs.length c) bs.length (bs.map byteV) ∧ (∀ k, OwnB (.slice A bs.length c) k → w.heap.size ≤ k) ∧ Upd NoF w w'
def BytesPost (w : World) (bs : List UInt8) (e : Ending) (w' : World) : Prop := ∃ A c, e = .returned (.slice A bs.length c) ∧ NewO w bs A c w'

theorem run_make_bytes (w : World) (n m : Nat) (l c : Int) (hl : l = n) (hc : c = m) (hm : m ≤ 1099511627776) (hn : n ≤ m) : ∃ w' cs, (Instr.makeSlice 36 (.int .i64 l) (.int .i64 c)).run Try.prog w = .ok (.slice (some ⟨w.heap.size, 0, none⟩) n m) w' ∧ Blk w' w.heap.size 5 cs ∧ cs.size = m ∧ Upd NoF w w' := by
  obtain ⟨i1, hi1, hy0, hy1, hy2⟩ := info_parts byte_info
  subst hl hc
  have h := run_make (P := Try.prog) w 36 5 i1 _ Try.underlying36 hi1 hy0 .i64 .i64 n m (by omega) (by omega) (by rw [hy2]; omega) (by omega)
  refine ⟨_, _, h, Blk.new w _ _, ?_, (Upd.refl NoF w).alloc _⟩
  rw [size_madeCells, hy1]
  simp

theorem run_copy0 (w : World) (g o dl dc : Nat) (A : Option Addr) (c : Nat) (ty : TypeId) : (Builtin.copy_ #[36, 36] ty #[.slice (some ⟨g, o, none⟩) dl dc, .slice A 0 c]).run Try.prog w = .ok (.int .i64 0) w := by
  obtain ⟨i1, hi1, hy0, hy1, hy2⟩ := info_parts byte_info
  cases A <;> simp [Builtin.copy_, run_underlying Try.underlying36, Builtin.lenOf, Builtin.firstCells, sizeOf, typeInfo, hi1, storeCells, loadCells, loadCellsFrom, goInt]

/-- 'make' and 'copy' at once. -/
theorem make_copy {w : World} {v : Value} {bs : List UInt8} (h : Rd w 1 v bs.length (bs.map byteV)) (n : Nat) (c : Int) (hc : c = ((bs.length + n : Nat) : Int)) (hm : bs.length + n ≤ 1099511627776) : ∃ w1 w2,
    (Instr.makeSlice 36 (.int .i64 (bs.length : Int)) (.int .i64 c)).run Try.prog w = .ok (.slice (some ⟨w.heap.size, 0, none⟩) bs.length (bs.length + n)) w1 ∧
    (Builtin.copy_ #[36, 36] 3 #[.slice (some ⟨w.heap.size, 0, none⟩) bs.length (bs.length + n), v]).run Try.prog w1 = .ok (.int .i64 (bs.length : Int)) w2 ∧
    NewO w bs (some ⟨w.heap.size, 0, none⟩) (bs.length + n) w2 := by
  obtain ⟨w1, cs, h1, h2, h3, h4⟩ := run_make_bytes w bs.length (bs.length + n) bs.length c rfl hc hm (by omega)
  have hN : ∀ k, OwnB (.slice (some ⟨w.heap.size, 0, none⟩) bs.length (bs.length + n)) k → w.heap.size ≤ k := fun k hk => by simp [OwnB, Value.ownBlock] at hk; omega
  rcases Nat.eq_zero_or_pos bs.length with h0 | h0
  · obtain rfl : bs = [] := List.eq_nil_of_length_eq_zero h0
    obtain ⟨A, c', rfl, _⟩ := h
    refine ⟨w1, w1, h1, run_copy0 _ _ _ _ _ _ _ _, ⟨by simp, .inr ⟨w.heap.size, _, cs, rfl, h2, by omega, by unfold maxLen; omega, by omega, by simp⟩⟩, hN, h4⟩
  · obtain ⟨w2, k1, k2, k3⟩ := run_copy_bytes (dl := bs.length) (dc := bs.length + n) (o := 0) h2 (h.keep h4) h0 bs.length (by simp only [Nat.min_def]; split <;> omega) (by omega) 3
    refine ⟨w1, w2, h1, k1, ⟨by simp, .inr ⟨w.heap.size, _, _, rfl, k2, by omega, by unfold maxLen; omega, ?_, ?_⟩⟩, hN, h4.trans k3 (fun k hk e => by have e : k = w.heap.size := e; omega)⟩
    · simp; omega
    · simp

set_option maxRecDepth 100000 in
theorem extended_any {w : World} {v : Value} {bs : List UInt8} (h : Rd w 1 v bs.length (bs.map byteV)) (n : Nat) (hm : bs.length + n ≤ 1099511627776) : Calls Try.prog 58 #[v, .int .i64 (n : Int)] w (BytesPost w bs) := by
  obtain ⟨w1, w2, h1, h2, h3⟩ := make_copy h n ((bs.length : Int) + (n : Int)) (by omega) hm
  obtain ⟨A, c, rfl, hlc, hcm, _⟩ := id h
  have H3 := Lib.hid h3
  clear h h3
  go_enter Try.func58, Try.ntmps58
  go_wp2
  go_ret
  exact ⟨_, _, rfl, H3.out⟩

def AuRel (w : World) (bs : List UInt8) (v : Int) (n : Nat) (out i : Value) (wr : World) : Prop := ∃ (r : Nat) (xs : List UInt8) (A : Option Addr) (c : Nat), r ≤ n ∧ i = .int .i64 ((r : Int) - 1) ∧ out = .slice A xs.length c ∧ NewO w xs A c wr ∧ xs ++ beB v r = bs ++ beB v n

theorem NewO.push {w wr w1 : World} {xs : List UInt8} {A A' : Option Addr} {c c' : Nat} {b : UInt8} {o : Obj} (h : NewO w xs A c wr) (ho : Own w1 5 1 (.slice A' (xs.length + 1) c') (xs.length + 1) (xs.map byteV ++ [byteV b])) (hu : Upd (OwnB (.slice A xs.length c)) (wr.alloc o) w1)
    (hn : ∀ k, OwnB (.slice A' (xs.length + 1) c') k → OwnB (.slice A xs.length c) k ∨ (wr.alloc o).heap.size ≤ k) : NewO w (xs ++ [b]) A' c' w1 := by
  obtain ⟨h1, h2, h3⟩ := h
  have hs := h3.size
  refine ⟨by rw [List.length_append, List.length_singleton, List.map_append]; exact ho, fun k hk => ?_, (h3.alloc o).trans hu (fun k hk e => by have := h2 k e; omega)⟩
  rw [List.length_append, List.length_singleton] at hk
  rcases hn k hk with e | e
  · exact h2 k e
  · simp at e; omega
end

section
open Go.RowKit

set_option maxRecDepth 100000 in
set_option maxHeartbeats 4000000 in
theorem cAppendUint_any {w : World} {b : Value} {bs : List UInt8} (h : Rd w 1 b bs.length (bs.map byteV)) (v : Int) (_hv : 0 ≤ v) (n : Nat) (hn : n ≤ 8) (hm : bs.length + 8 ≤ 1099511627776) : Calls Try.prog 32 #[b, u64V v, .int .i64 (n : Int)] w (BytesPost w (bs ++ beB v n)) := by
  obtain ⟨A, c, rfl, hlc, hcm, _⟩ := id h
  have CE := Lib.hid (extended_any h n (by omega))
  obtain ⟨i1, hi1, hy0, hy1, hy2⟩ := info_parts byte_info
  have m1 : max (n : Int) 0 = n := by omega
  have m2 : min (n : Int) 8 = n := by omega
  clear h
  go_enter Try.func32, Try.ntmps32
  go_wp2_with fail
  refine CE.out.mono ?_
  rintro e w1 ⟨A1, c1, rfl, hN1⟩
  have N1 := Lib.hid hN1
  clear hN1 m1 m2
  go_wp2
  go_loopw [7, 8] (fun out i wr => AuRel w bs v n out i wr) (fun _ i _ => (intOf i + 1).toNat)
  case atStart => exact ⟨n, bs, A1, c1, Nat.le_refl _, rfl, rfl, N1.out, rfl⟩
  case round =>
    obtain ⟨r, xs, A2, c2, hr, hi, rfl, hN, hE⟩ := hrel
    have hlen : xs.length + r = bs.length + n := by
      have := congrArg List.length hE
      simpa [beB_len] using this
    have HN := Lib.hid hN
    have HE := Lib.hid hE
    cases r with
    | zero =>
      obtain rfl := hi
      obtain rfl : xs = bs ++ beB v n := by simpa [beB] using HE.out
      have t1 : decide ((0 : Int) ≤ ((0 : Nat) : Int) - 1) = false := by decide
      clear hN hE hlen
      go_wp2
      go_ret
      exact ⟨A2, c2, rfl, HN.out⟩
    | succ r =>
      obtain rfl : _ = Value.int .i64 (r : Int) := hi.trans (by congr 1; omega)
      have t1 : decide ((0 : Int) ≤ (r : Int)) = true := by simp
      have e1 : (0 : Int) ≤ 8 * (r : Int) := by omega
      have e2 : (8 * (r : Int)).toNat = 8 * r := by omega
      have e3 : min (8 * r) 64 = 8 * r := by omega
      have HBV := Lib.hid (show Value.int .u8 (IntKind.u8.wrap (v / 2 ^ (8 * r))) = byteV (byteAt v r) from wrap_byte _)
      have hxl : xs.length ≤ 1099511627776 := by omega
      clear hN hE hi hlen
      go_wp2_with (at_builtin; refine wpList_append_to _ rfl (.tmp 21) (.tmp 27) 36 rfl 5 i1 _ 1 1 Try.underlying36 hi1 hy0 hy1 hy2 rfl (.slice A2 xs.length c2) xs.length (xs.map byteV) rfl (HN.out.1.upd ((Upd.refl NoF wr).alloc _) (fun _ _ h => h)) (.slice (some ⟨wr.heap.size, 0, none⟩) 1 1) 1 [byteV (byteAt v r)] rfl (Rd.of_blk (Blk.new wr _ _) (by omega) (by unfold maxLen; omega) rfl (by intro j u hu; rw [← HBV.out, IntKind.wrap_u8'] at hu; cases j with | zero => simpa using hu | succ j => simp at hu)) (by simp [byteV, Value.oneCell']) (by unfold maxLen; omega) (by omega) ?_; intro A3 c3 w3 hown3 hupd3 hnew3; have O3 := Lib.hid hown3; have V3 := Lib.hid hupd3; have W3 := Lib.hid hnew3; clear hown3 hupd3 hnew3)
      go_roundw
      case rel =>
        refine ⟨r, xs ++ [byteAt v r], A3, c3, by omega, by go_num, by simp, HN.out.push O3.out V3.out W3.out, ?_⟩
        rw [← HE.out]
        simp [beB]
      case measure => simp [intOf]
end

section
open Go.RowKit

set_option maxRecDepth 100000 in
theorem follow_any {w : World} {v : Value} {bs : List UInt8} (h : Rd w 1 v bs.length (bs.map byteV)) (a n : Nat) (ha : a ≤ 4611686018427387904) (hn : n ≤ 4611686018427387904) : Calls Try.prog 86 #[v, .int .i64 (a : Int), .int .i64 (n : Int)] w fun e w' => e = .returned (.bool (decide (a + n ≤ bs.length))) ∧ w = w' := by
  have hlm := h.le
  unfold maxLen at hlm
  obtain ⟨A, c, rfl, hlc, hcm, _⟩ := id h
  clear h
  have t0 : decide ((0 : Int) ≤ (a : Int)) = true := by simp
  by_cases h1 : a ≤ bs.length
  · have t1 : decide ((a : Int) ≤ (bs.length : Int)) = true := by simpa using h1
    have t1' : decide (a ≤ bs.length) = true := by simpa using h1
    have E := Lib.hid (show decide ((n : Int) ≤ (bs.length : Int) - (a : Int)) = decide (a + n ≤ bs.length) by
      by_cases h : a + n ≤ bs.length
      · simp [h]; omega
      · simp [h]; omega)
    generalize decide (a + n ≤ bs.length) = z at E ⊢
    go_enter Try.func86, Try.ntmps86
    go_wp2
    go_ret
    exact ⟨congrArg (fun z => Ending.returned (.bool z)) E.out, rfl⟩
  · have t1 : decide ((a : Int) ≤ (bs.length : Int)) = false := by simp; omega
    have t1' : decide (a ≤ bs.length) = false := by simp; omega
    have E := Lib.hid (show false = decide (a + n ≤ bs.length) by simp; omega)
    generalize decide (a + n ≤ bs.length) = z at E ⊢
    go_enter Try.func86, Try.ntmps86
    go_wp2
    go_ret
    exact ⟨congrArg (fun z => Ending.returned (.bool z)) E.out, rfl⟩

def UiRel (l : List UInt8) (x i : Value) : Prop := ∃ k : Nat, k ≤ l.length ∧ i = .int .i64 k ∧ x = u64V ((be (l.take k) : Nat) : Int)

theorem pow7 (l : List UInt8) (k : Nat) (h : k < 8) : be (l.take k) < 72057594037927936 := by
  have h1 := be_take_lt l k
  have h2 : (256 : Nat) ^ k ≤ 256 ^ 7 := Nat.pow_le_pow_right (by omega) (by omega)
  omega

section
variable {w : World} {v : Value} {bs : List UInt8}

set_option maxRecDepth 100000 in
set_option maxHeartbeats 2000000 in
theorem cUint_no (h : Rd w 1 v bs.length (bs.map byteV)) (a n : Nat) (ha : a ≤ 4611686018427387904) (h1 : 1 ≤ n) (h8 : n ≤ 8) (hno : bs.length < a + n) : Calls Try.prog 61 #[v, .int .i64 (a : Int), .int .i64 (n : Int)] w fun e w' => e = .returned (.tuple #[u64V 0, .bool false]) ∧ w = w' := by
  have CF := follow_any h a n ha (by omega)
  rw [show decide (a + n ≤ bs.length) = false by simp; omega] at CF
  have HF := Lib.hid CF
  obtain ⟨A, c, rfl, hlc, hcm, _⟩ := id h
  have t1 : decide ((n : Int) < 1) = false := by simp; omega
  have t2 : decide ((8 : Int) < (n : Int)) = false := by simp; omega
  have t2' : decide (8 < n) = false := by simp; omega
  clear h CF
  go_enter Try.func61, Try.ntmps61
  go_wp2_with fail
  refine HF.out.mono ?_
  rintro e w' ⟨rfl, rfl⟩
  go_wp2
  go_ret2
  exact ⟨rfl, rfl⟩

set_option maxRecDepth 100000 in
set_option maxHeartbeats 2000000 in
theorem cUint_yes (h : Rd w 1 v bs.length (bs.map byteV)) (a n : Nat) (h1 : 1 ≤ n) (h8 : n ≤ 8) (hyes : a + n ≤ bs.length) (hm : bs.length ≤ 4611686018427387904) : Calls Try.prog 61 #[v, .int .i64 (a : Int), .int .i64 (n : Int)] w fun e w' => e = .returned (.tuple #[u64V ((be ((bs.drop a).take n) : Nat) : Int), .bool true]) ∧ w = w' := by
  have CF := follow_any h a n (by omega) (by omega)
  rw [show decide (a + n ≤ bs.length) = true by simp; omega] at CF
  have HF := Lib.hid CF
  obtain ⟨A, c, rfl, hlc, hcm, _⟩ := id h
  unfold maxLen at hcm
  obtain ⟨g, o, rfl, hc⟩ := rd_cells h (by omega)
  have HC := Lib.hid hc
  have t1 : decide ((n : Int) < 1) = false := by simp; omega
  have t2 : decide ((8 : Int) < (n : Int)) = false := by simp; omega
  have t2' : decide (8 < n) = false := by simp; omega
  have b1 : (0 : Int) ≤ a := by omega
  have b2 : (a : Int) ≤ (a : Int) + n := by omega
  have b3 : (a : Int) + n ≤ c := by omega
  have b4 : ¬ c = a := by omega
  have b5 : ((a : Int) + n).toNat = a + n := by omega
  obtain ⟨l, hl⟩ : ∃ l, (bs.drop a).take n = l := ⟨_, rfl⟩
  have hll : l.length = n := by rw [← hl]; simp; omega
  have hlc2 : ∀ (j : Nat) b, l[j]? = some b → w.cell? ⟨g, o + a + j, none⟩ = some (byteV b) := fun j b hb => by
    rw [Nat.add_assoc]
    refine hc (a + j) b ?_
    rw [← hl, List.getElem?_take] at hb
    split at hb
    · rw [List.getElem?_drop] at hb; exact hb
    · cases hb
  have HLC := Lib.hid hlc2
  have HLL := Lib.hid hll
  rw [hl]
  have e0 : a + n - a = n := by omega
  clear h CF hc hl hlc2 hll
  go_enter Try.func61, Try.ntmps61
  go_wp2_with fail
  refine HF.out.mono ?_
  rintro e w' ⟨rfl, rfl⟩
  go_wp2
  go_loop [8, 31] (fun x i => UiRel l x i) (fun _ i => n - (intOf i).toNat)
  case atStart => exact ⟨0, Nat.zero_le _, rfl, by simp [be]⟩
  case round =>
    obtain ⟨k, hk, rfl, rfl⟩ := hrel
    have hln := HLL.out
    by_cases hlt : k < n
    · obtain ⟨b, hb⟩ : ∃ b, l[k]? = some b := ⟨_, List.getElem?_eq_getElem (by omega)⟩
      have q := HLC.out k b hb
      have HE := Lib.hid (be_take_succ l k b hb)
      have HO := Lib.hid (or_byte (be (l.take k)) b (pow7 l k (by omega)))
      have s1 : decide ((k : Int) < n) = true := by simpa using hlt
      have s2 : (0:Int) ≤ k := by omega
      have s3 : (k:Int) < n := by omega
      generalize be (l.take k) = u at HE HO ⊢
      clear hb hln
      go_wp2
      go_round
      case rel =>
        refine ⟨k + 1, by have := HLL.out; omega, by go_num, ?_⟩
        rw [HE.out, wrap_u64_byte, HO.out]
      case measure => simp [intOf]; omega
    · have s1 : decide ((k : Int) < n) = false := by simp; omega
      have E := Lib.hid (show l.take k = l from List.take_of_length_le (by omega))
      rw [E.out]
      clear hln
      go_wp2
      go_ret2
      exact ⟨rfl, rfl⟩

end
end

section
open Go.RowKit

theorem mSize_any (w : World) : Calls Try.prog 60 #[.int .i64 2] w fun e w' => e = .returned (.int .i64 370) ∧ w = w' := by
  go_enter Try.func60, Try.ntmps60
  go_wp2
  go_ret
  exact ⟨rfl, rfl⟩

def cmpB (a b : List UInt8) : Int := Lib.compareBytes a b
theorem cmpB_lt : ∀ (a b : List UInt8), decide (cmpB a b < 0) = lessT a b
  | [], [] => rfl
  | [], _ :: _ => rfl
  | _ :: _, [] => rfl
  | a :: l, b :: r => by
    have ih := cmpB_lt l r
    unfold cmpB lessT at ih ⊢
    unfold Lib.compareBytes Op.bytesLess
    by_cases h1 : a < b
    · simp [h1]
    · by_cases h2 : b < a
      · have h3 : ¬ a = b := fun e => by subst e; exact h1 h2
        simp [h1, h2, h3]
      · have h3 : a = b := by
          apply UInt8.toNat.inj
          rw [UInt8.lt_iff_toNat_lt] at h1 h2
          omega
        subst h3
        simp [h1, ih]

theorem run_bytesOf {w : World} {v : Value} {bs : List UInt8} (h : Rd w 1 v bs.length (bs.map byteV)) : (Extern.Bytes.bytesOf v).run Try.prog w = .ok ⟨bs.toArray⟩ w := by
  obtain ⟨A, c, rfl, hn, hc, hl, hA⟩ := h
  have hb : ∀ l : List UInt8, Lib.bytesOf (l.map fun b => (b.toNat : Int)) = l := fun l => by
    simp [Lib.bytesOf, List.map_map, Function.comp_def]
  cases A with
  | none =>
    have h0 : bs.length = 0 := by
      rcases Nat.eq_zero_or_pos bs.length with h | h
      · exact h
      · obtain ⟨g, o, e, _⟩ := hA h; cases e
    obtain rfl : bs = [] := List.eq_nil_of_length_eq_zero h0
    simp [Extern.Bytes.bytesOf]
    rfl
  | some a =>
    have := Lib.run_loadBytesX (P := Try.prog) w (bs.map fun b => (b.toNat : Int)) a .empty (fun j x hj => by
      rw [List.getElem?_map] at hj
      obtain ⟨b, hb1, rfl⟩ := Option.map_eq_some_iff.1 hj
      have hlt : j < bs.length := (List.getElem?_eq_some_iff.1 hb1).1
      obtain ⟨g, o, e, hx⟩ := hA (by omega)
      injection e with e
      subst e
      have hadd : (⟨g, o, none⟩ : Addr).add j = ⟨g, o + j, none⟩ := by unfold Addr.add; split <;> simp_all
      rw [hadd]
      exact hx j _ (by rw [List.getElem?_map, hb1]; rfl))
    rw [List.length_map, hb] at this
    simp only [Extern.Bytes.bytesOf, this]
    simp
theorem run_acompare {w : World} {u v : Value} {a b : List UInt8} (ha : Rd w 1 u a.length (a.map byteV)) (hb : Rd w 1 v b.length (b.map byteV)) : (Extern.BytealgCompare.compare #[u, v]).run Try.prog w = .ok (.int .i64 (cmpB a b)) w := by
  change Sem.run Try.prog (do pure (goInt (Extern.BytealgCompare.cmp (← Extern.Bytes.bytesOf u) (← Extern.Bytes.bytesOf v)))) w = _
  simp only [Sem.run_bind, run_bytesOf ha, run_bytesOf hb, Sem.run_pure, Result.andThen, Lib.cmp_eq]
  rfl
set_option maxRecDepth 100000 in
theorem bCompare_any {w : World} {u v : Value} {a b : List UInt8} (ha : Rd w 1 u a.length (a.map byteV)) (hb : Rd w 1 v b.length (b.map byteV)) : Calls Try.prog 21 #[u, v] w fun e w' => e = .returned (.int .i64 (cmpB a b)) ∧ w = w' := by
  have CA := Lib.hid (run_acompare ha hb)
  clear ha hb
  generalize cmpB a b = z at CA ⊢
  go_enter Try.func21, Try.ntmps21
  go_wp2
  rw [run_callFunc_extern Try.func56 (by kernel_rfl) (by kernel_rfl) (by kernel_rfl) (e := Extern.BytealgCompare.compare) (by kernel_rfl), CA.out]
  simp only [Result.andThen]
  rw [Oper.upon_value]
  go_wp2
  go_ret
  exact ⟨rfl, rfl⟩

def PairPost (w : World) (bs : List UInt8) (e : Ending) (w' : World) : Prop := ∃ A c, e = .returned (.tuple #[.slice A bs.length c, .bool true]) ∧ NewO w bs A c w'
def NilFalse (w : World) (e : Ending) (w' : World) : Prop := e = .returned (.tuple #[.slice none 0 0, .bool false]) ∧ Upd NoF w w'

set_option maxRecDepth 100000 in
set_option maxHeartbeats 2000000 in
theorem cAppendBytes_yes {w : World} {b p : Value} {bs ps : List UInt8} (hb : Rd w 1 b bs.length (bs.map byteV)) (hp : Rd w 1 p ps.length (ps.map byteV)) (hl : ps.length ≤ 65535) (hm : bs.length ≤ 549755813888) : Calls Try.prog 34 #[b, p] w (PairPost w (bs ++ encT ps)) := by
  have CA := Lib.hid (cAppendUint_any hb (ps.length : Int) (by omega) 2 (by omega) (by omega))
  have HP := Lib.hid hp
  obtain ⟨i1, hi1, hy0, hy1, hy2⟩ := info_parts byte_info
  obtain ⟨A, c, rfl, hlc, hcm, _⟩ := id hb
  obtain ⟨B, d, rfl, hld, hdm, _⟩ := id hp
  have t1 : decide ((65535 : Int) < (ps.length : Int)) = false := by simp; omega
  have t1' : decide (65535 < ps.length) = false := by simp; omega
  have hwi : IntKind.u64.wrap (ps.length : Int) = ps.length := wrap_u64_nat _ (by omega)
  have hbl : (beB (ps.length : Int) 2).length = 2 := beB_len _ _
  have HL := Lib.hid (show (bs ++ beB (ps.length : Int) 2).length = bs.length + 2 by simp [hbl])
  have hlen : (bs ++ encT ps).length = bs.length + 2 + ps.length := by simp [encT, hbl]; omega
  have HLEN := Lib.hid hlen
  have HE := Lib.hid (show (bs ++ encT ps).map byteV = (bs ++ beB (ps.length : Int) 2).map byteV ++ ps.map byteV by simp [encT])
  clear hb hp hbl hlen
  go_enter Try.func34, Try.ntmps34
  go_wp2_with fail
  refine CA.out.mono ?_
  rintro e w1 ⟨A1, c1, rfl, hN1⟩
  rw [HL.out]
  have N1 := Lib.hid hN1
  have O1 := Lib.hid (show Own w1 5 1 (.slice A1 (bs.length + 2) c1) (bs.length + 2) ((bs ++ beB (ps.length : Int) 2).map byteV) from by have := hN1.1; rw [HL.out] at this; exact this)
  have F1 := Lib.hid (show ∀ k, OwnB (.slice A1 (bs.length + 2) c1) k → w.heap.size ≤ k from by have := hN1.2.1; rw [HL.out] at this; exact this)
  clear hN1
  go_wp2_with (at_builtin; refine wpList_append_to _ rfl (.tmp 13) (.tmp 14) 36 rfl 5 i1 _ 1 1 Try.underlying36 hi1 hy0 hy1 hy2 rfl (.slice A1 (bs.length + 2) c1) (bs.length + 2) _ rfl O1.out (.slice B ps.length d) ps.length (ps.map byteV) rfl (HP.out.keep N1.out.2.2) (bytes_oneCell _) (by unfold maxLen; omega) (by omega) ?_; intro A2 c2 w2 hown2 hupd2 hnew2; have O2 := Lib.hid hown2; have V2 := Lib.hid hupd2; have W2 := Lib.hid hnew2; clear hown2 hupd2 hnew2)
  go_ret2
  refine ⟨A2, c2, by rw [HLEN.out]; rfl, ?_, ?_, N1.out.2.2.trans V2.out (fun k hk e => by have := F1.out k e; omega)⟩
  · rw [HLEN.out, HE.out]
    exact O2.out
  · intro k hk
    rw [HLEN.out] at hk
    rcases W2.out k hk with e | e
    · exact F1.out k e
    · exact Nat.le_trans N1.out.2.2.size e
end

section
open Go.RowKit

def jsumS (i : Nat) (bs : List UInt8) : List UInt8 := tagged 88 (beB i 4 ++ bs)
def frameS (i : Nat) (bs : List UInt8) : List UInt8 := beB bs.length 4 ++ jsumS i bs ++ bs
def Bytes4 (W : World) (i : Nat) (e : Ending) (w' : World) : Prop := ∃ A c, e = .returned (.slice A 4 c) ∧ Own w' 5 1 (.slice A 4 c) 4 ((beB i 4).map byteV) ∧ (∀ k, OwnB (.slice A 4 c) k → W.heap.size ≤ k) ∧ Upd NoF W w'
theorem cAU4 (W : World) (i : Nat) : Calls Try.prog 32 #[.slice none 0 0, u64V (i : Int), .int .i64 4] W (Bytes4 W i) := by
  refine (cAppendUint_any (bs := []) (Rd.nil W 1) (i : Int) (by omega) 4 (by omega) (by simp)).mono ?_
  rintro e w' ⟨A, c, rfl, h1, h2, h3⟩
  exact ⟨A, c, rfl, h1, h2, h3⟩
end

section
open Go.RowKit

def parseStep (bs : List UInt8) (a idx : Nat) : Option (List UInt8 × Nat) :=
  if a + 12 ≤ bs.length then
    if be ((bs.drop a).take 4) ≤ 65536 ∧ a + 12 + be ((bs.drop a).take 4) ≤ bs.length then
      if (bs.drop (a + 4)).take 8 = jsumS idx ((bs.drop (a + 12)).take (be ((bs.drop a).take 4))) then some ((bs.drop (a + 12)).take (be ((bs.drop a).take 4)), a + 12 + be ((bs.drop a).take 4)) else none
    else none
  else none
def parseF (bs : List UInt8) : Nat → List (List UInt8) → Nat → List (List UInt8) × Nat
  | 0, l, a => (l, a)
  | f + 1, l, a => match parseStep bs a l.length with
    | none => (l, a)
    | some (r, a') => parseF bs f (l ++ [r]) a'
def parseS (bs : List UInt8) : List (List UInt8) × Nat := parseF bs (bs.length + 1) [] 0

theorem parseStep_le {bs : List UInt8} {a idx : Nat} {r : List UInt8} {a' : Nat} (h : parseStep bs a idx = some (r, a')) : a + 12 ≤ a' ∧ a' ≤ bs.length ∧ r.length ≤ 65536 ∧ a' = a + 12 + r.length := by
  unfold parseStep at h
  split at h
  · split at h
    · split at h
      · injection h with h
        injection h with h1 h2
        subst h1 h2
        simp
        omega
      · cases h
    · cases h
  · cases h

/-- Where the parse stands. -/
def PAt (bs : List UInt8) (l : List (List UInt8)) (a : Nat) : Prop := ∃ f, parseF bs f l a = parseS bs ∧ bs.length < f + a ∧ a ≤ bs.length ∧ l.length * 12 ≤ a
theorem PAt.start (bs : List UInt8) : PAt bs [] 0 := ⟨bs.length + 1, rfl, by omega, by omega, by simp⟩
theorem PAt.stop {bs : List UInt8} {l : List (List UInt8)} {a : Nat} (h : PAt bs l a) (hs : parseStep bs a l.length = none) : parseS bs = (l, a) := by
  obtain ⟨f, h1, h2, h3, _⟩ := h
  obtain ⟨f, rfl⟩ : ∃ k, f = k + 1 := ⟨f - 1, by omega⟩
  rw [← h1, parseF, hs]
theorem PAt.next {bs : List UInt8} {l : List (List UInt8)} {a a' : Nat} {r : List UInt8} (h : PAt bs l a) (hs : parseStep bs a l.length = some (r, a')) : PAt bs (l ++ [r]) a' := by
  obtain ⟨f, h1, h2, h3, h4⟩ := h
  obtain ⟨f, rfl⟩ : ∃ k, f = k + 1 := ⟨f - 1, by omega⟩
  rw [parseF, hs] at h1
  obtain ⟨e1, e2, _⟩ := parseStep_le hs
  exact ⟨f, h1, by omega, e2, by simp; omega⟩

/-! ### lists of records in memory -/
def RecsV (w : World) (v : Value) (l : List (List UInt8)) (vs : List Value) : Prop :=
  Own w 36 1 v l.length vs ∧ ∀ (i : Nat) b, l[i]? = some b → ∃ u, vs[i]? = some u ∧ Own w 5 1 u b.length (b.map byteV)
def RecsF (v : Value) (vs : List Value) : Nat → Prop := fun k => OwnB v k ∨ ∃ u ∈ vs, OwnB u k
def RecsAt (w : World) (v : Value) (l : List (List UInt8)) (F : Nat → Prop) : Prop := ∃ vs : List Value, RecsV w v l vs ∧ F = RecsF v vs

section
variable {w w' : World} {v : Value} {l : List (List UInt8)} {F G : Nat → Prop}
theorem RecsAt.nil (w : World) : RecsAt w (.slice none 0 0) [] NoF := by
  refine ⟨[], ⟨Own.nil _ _ _, fun i b h => (by cases h)⟩, ?_⟩
  funext k
  simp [NoF, RecsF, OwnB, Value.ownBlock]
theorem RecsAt.upd (h : RecsAt w v l F) (hu : Upd G w w') (hG : ∀ k, F k → ¬ G k) : RecsAt w' v l F := by
  obtain ⟨vs, ⟨h1, h2⟩, rfl⟩ := h
  refine ⟨vs, ⟨h1.upd hu (fun k hk => hG k (.inl hk)), fun i b hb => ?_⟩, rfl⟩
  obtain ⟨u, e1, e2⟩ := h2 i b hb
  exact ⟨u, e1, e2.upd hu (fun k hk => hG k (.inr ⟨u, List.mem_of_getElem? e1, hk⟩))⟩
theorem RecsAt.lt (h : RecsAt w v l F) {k : Nat} (hk : F k) : k < w.heap.size := by
  obtain ⟨vs, ⟨h1, h2⟩, rfl⟩ := h
  rcases hk with hk | ⟨u, hu, hk⟩
  · exact h1.lt hk
  · obtain ⟨i, hi, rfl⟩ := List.mem_iff_getElem.1 hu
    have hl := h1.1
    obtain ⟨u', e1, e2⟩ := h2 i _ (List.getElem?_eq_getElem (by omega))
    rw [List.getElem?_eq_getElem hi] at e1
    injection e1 with e1
    rw [e1] at hk
    exact e2.lt hk
theorem RecsAt.form (h : RecsAt w v l F) : ∃ A c, v = .slice A l.length c ∧ l.length ≤ c ∧ c ≤ maxLen := by
  obtain ⟨vs, ⟨h1, h2⟩, rfl⟩ := h
  obtain ⟨A, c, e, h3, h4, _⟩ := h1.rd
  exact ⟨A, c, e, h3, h4⟩
theorem RecsAt.own (h : RecsAt w v l F) : ∃ vs, Own w 36 1 v l.length vs := by
  obtain ⟨vs, ⟨h1, _⟩, _⟩ := h
  exact ⟨vs, h1⟩
/-- One record. -/
theorem RecsAt.get {A : Option Addr} {n c : Nat} (h : RecsAt w (.slice A n c) l F) {i : Nat} {b : List UInt8} (hb : l[i]? = some b) : ∃ g Au cu, A = some ⟨g, 0, none⟩ ∧ w.cell? ⟨g, i, none⟩ = some (.slice Au b.length cu) ∧ Own w 5 1 (.slice Au b.length cu) b.length (b.map byteV) := by
  obtain ⟨vs, ⟨h1, h2⟩, rfl⟩ := h
  have hlt : i < l.length := (List.getElem?_eq_some_iff.1 hb).1
  obtain ⟨u, e1, e2⟩ := h2 i b hb
  obtain ⟨Au, cu, rfl⟩ := e2.form
  rcases h1.2 with ⟨_, e⟩ | ⟨g, cap, cur, e, _⟩
  · omega
  · injection e with e
    subst e
    obtain ⟨A', c', e, _, _, _, hx⟩ := h1.rd
    obtain ⟨g', o, e', hx⟩ := hx (by omega)
    injection e with e
    rw [← e] at e'
    injection e' with e'
    injection e' with e1' e2'
    subst e1' e2'
    exact ⟨g, Au, cu, rfl, by have := hx i _ e1; simpa using this, e2⟩
end

/-- One more record. -/
theorem RecsV.push {w w0 w1 : World} {A A' Au : Option Addr} {c c' cu : Nat} {l : List (List UInt8)} {vs : List Value} {b : List UInt8} (h : RecsV w (.slice A l.length c) l vs) (h0 : Upd NoF w w0) (hu : Own w0 5 1 (.slice Au b.length cu) b.length (b.map byteV))
    (ho : Own w1 36 1 (.slice A' (l.length + 1) c') (l.length + 1) (vs ++ [.slice Au b.length cu])) (hup : Upd (OwnB (.slice A l.length c)) w0 w1) (hn : ∀ k, OwnB (.slice A' (l.length + 1) c') k → OwnB (.slice A l.length c) k ∨ w0.heap.size ≤ k) :
    RecsV w1 (.slice A' (l.length + 1) c') (l ++ [b]) (vs ++ [.slice Au b.length cu]) ∧ ∀ k, RecsF (.slice A' (l.length + 1) c') (vs ++ [.slice Au b.length cu]) k → RecsF (.slice A l.length c) vs k ∨ OwnB (.slice Au b.length cu) k ∨ w0.heap.size ≤ k := by
  obtain ⟨h1, h2⟩ := h
  have hO := h1.upd h0 (fun _ _ h => h)
  have keep : ∀ {u : Value} {n : Nat} {xs : List Value}, Own w0 5 1 u n xs → Own w1 5 1 u n xs := fun {u n xs} hx => hx.upd hup (fun k hk e => by
    rcases hO.2 with ⟨e1, _⟩ | ⟨g', cap, cur, e1, hb, _⟩
    · rw [e1] at e; simp [OwnB, Value.ownBlock] at e
    · rw [e1] at e
      simp [OwnB, Value.ownBlock] at e
      subst e
      exact hx.blk_ne hb (by decide) hk)
  refine ⟨⟨by rw [List.length_append, List.length_singleton]; exact ho, fun i x hx => ?_⟩, fun k hk => ?_⟩
  · have hl := h1.1
    rcases Nat.lt_or_ge i l.length with hlt | hge
    · rw [List.getElem?_append_left hlt] at hx
      obtain ⟨u, e1, e2⟩ := h2 i x hx
      exact ⟨u, by rw [List.getElem?_append_left (by omega)]; exact e1, keep (e2.upd h0 (fun _ _ h => h))⟩
    · rw [List.getElem?_append_right hge] at hx
      have hi0 : i - l.length = 0 := by
        have := (List.getElem?_eq_some_iff.1 hx).1
        simp at this
        omega
      rw [hi0] at hx
      simp at hx
      subst hx
      exact ⟨_, by rw [List.getElem?_append_right (by omega)]; simp [show i - vs.length = 0 by omega], keep hu⟩
  · rcases hk with hk | ⟨u, hu', hk⟩
    · rcases hn k hk with e | e
      · exact .inl (.inl e)
      · exact .inr (.inr e)
    · rcases List.mem_append.1 hu' with e | e
      · exact .inl (.inr ⟨u, e, hk⟩)
      · simp at e
        subst e
        exact .inr (.inl hk)

/-- bytes.Equal. -/
theorem bEqual_any {w : World} {v1 v2 : Value} {a b : List UInt8} (h1 : Rd w 1 v1 a.length (a.map byteV)) (h2 : Rd w 1 v2 b.length (b.map byteV)) : Calls Try.prog 25 #[v1, v2] w fun e w' => e = .returned (.bool (a == b)) ∧ w' = w := by
  have hs : ∀ l : List UInt8, strV l = .string (strOfNums (l.map fun x => (x.toNat : Int))) := fun l => by
    congr 1
    simp [Function.comp_def]
  have hb : ∀ l : List UInt8, Lib.bytesOf (l.map fun x => (x.toNat : Int)) = l := fun l => by
    simp [Lib.bytesOf, Function.comp_def]
  have := Try.bytes_Equal v1 v2 (a.map fun x => (x.toNat : Int)) (b.map fun x => (x.toNat : Int)) w (by rw [← hs]; exact run_str h1) (by rw [← hs]; exact run_str h2)
  rw [hb, hb] at this
  exact this
end

section
open Go.RowKit

def ParsePost (w : World) (bs : List UInt8) (e : Ending) (w' : World) : Prop :=
  ∃ v F, e = .returned (.tuple #[v, .int .i64 ((parseS bs).2 : Int)]) ∧ RecsAt w' v (parseS bs).1 F ∧ (∀ k, F k → w.heap.size ≤ k) ∧ Upd NoF w w'
def PRel (w : World) (bs : List UInt8) (out at_ : Value) (wr : World) : Prop :=
  ∃ (l : List (List UInt8)) (a : Nat) (A : Option Addr) (c : Nat) (vs : List Value), out = .slice A l.length c ∧ at_ = .int .i64 a ∧ PAt bs l a ∧ RecsV wr (.slice A l.length c) l vs ∧ (∀ k, RecsF (.slice A l.length c) vs k → w.heap.size ≤ k) ∧ Upd NoF w wr
theorem ParsePost.mk {w wr w' : World} {bs : List UInt8} {l : List (List UInt8)} {a : Nat} {A : Option Addr} {c : Nat} {vs : List Value} (hP : PAt bs l a) (hs : parseStep bs a l.length = none) (hV : RecsV wr (.slice A l.length c) l vs) (hF : ∀ k, RecsF (.slice A l.length c) vs k → w.heap.size ≤ k) (hU : Upd NoF w wr) (hu : Upd NoF wr w') :
    ParsePost w bs (.returned (.tuple #[.slice A l.length c, .int .i64 (a : Int)])) w' := by
  unfold ParsePost
  rw [hP.stop hs]
  exact ⟨_, _, rfl, RecsAt.upd ⟨vs, hV, rfl⟩ hu (fun _ _ h => h), hF, hU.trans hu (fun _ _ h => h)⟩

/-- A part of a slice of bytes. -/
theorem rd_part {w : World} {g o n c lo k m : Nat} {bs : List UInt8} (h : Rd w 1 (.slice (some ⟨g, o, none⟩) n c) n (bs.map byteV)) (hl : bs.length = n) (hk : lo + k ≤ n) (hm : k ≤ m) (hm2 : m ≤ maxLen) (A' : Option Addr) (hA : 0 < k → A' = some ⟨g, o + lo, none⟩) : Rd w 1 (.slice A' k m) ((bs.drop lo).take k).length (((bs.drop lo).take k).map byteV) := by
  have hlen : ((bs.drop lo).take k).length = k := by simp; omega
  obtain ⟨A, c', e, h1, h2, h3, hx⟩ := h
  rw [hlen]
  refine ⟨A', m, rfl, hm, hm2, by simp; omega, fun h0 => ?_⟩
  obtain ⟨g', o', e', hc⟩ := hx (by omega)
  injection e with e1
  rw [← e1] at e'
  injection e' with e'
  injection e' with e2 e3
  subst e2 e3
  refine ⟨g, o + lo, hA h0, fun j u hu => ?_⟩
  rw [Nat.add_assoc]
  refine hc (lo + j) u ?_
  rw [List.getElem?_map, List.getElem?_take] at hu
  split at hu
  · rw [List.getElem?_drop] at hu
    rw [List.getElem?_map]
    exact hu
  · cases hu
end

section
open Go.RowKit

def BytesAt (w : World) (r : List UInt8) (k : Nat) (e : Ending) (w' : World) : Prop := ∃ A c, e = .returned (.tuple #[.slice A r.length c, .int .i64 (k : Int), .bool true]) ∧ NewO w r A c w'
def NoBytes (w : World) (e : Ending) (w' : World) : Prop := e = .returned (.tuple #[.slice none 0 0, .int .i64 0, .bool false]) ∧ w = w'

theorem ret_at {A : Option Addr} {c : Nat} {n : Nat} {z : Int} {k : Nat} {r : List UInt8} (h1 : n = r.length) (h2 : z = k) : Ending.returned (.tuple #[.slice A n c, .int .i64 z, .bool true]) = .returned (.tuple #[.slice A r.length c, .int .i64 (k : Int), .bool true]) := by rw [h1, h2]


set_option maxRecDepth 100000 in
set_option maxHeartbeats 2000000 in
theorem cBytes_short {w : World} {v : Value} {bs : List UInt8} (h : Rd w 1 v bs.length (bs.map byteV)) (a : Nat) (ha : a ≤ 1099511627776) (h2 : bs.length < a + 2) : Calls Try.prog 63 #[v, .int .i64 (a : Int)] w (NoBytes w) := by
  have CU := Lib.hid (cUint_no h a 2 (by omega) (by omega) (by omega) h2)
  obtain ⟨A, c, rfl, hlc, hcm, _⟩ := id h
  clear h
  go_enter Try.func63, Try.ntmps63
  go_wp2_with fail
  refine CU.out.mono ?_
  rintro e w' ⟨rfl, rfl⟩
  go_wp2
  go_ret3
  exact ⟨rfl, rfl⟩
set_option maxRecDepth 100000 in
set_option maxHeartbeats 2000000 in
theorem cBytes_long {w : World} {v : Value} {bs : List UInt8} (h : Rd w 1 v bs.length (bs.map byteV)) (hm : bs.length ≤ 1099511627776) (a : Nat) (h2 : a + 2 ≤ bs.length) (n : Nat) (hn : be ((bs.drop a).take 2) = n) (h3 : bs.length < a + 2 + n) : Calls Try.prog 63 #[v, .int .i64 (a : Int)] w (NoBytes w) := by
  have CU := cUint_yes h a 2 (by omega) (by omega) h2 (by omega)
  rw [hn] at CU
  have hn2 : n < 65536 := by
    have := be_take_lt (bs.drop a) 2
    omega
  have HU := Lib.hid CU
  have CF := follow_any h (a + 2) n (by omega) (by omega)
  rw [show decide (a + 2 + n ≤ bs.length) = false by simp; omega, show ((a + 2 : Nat) : Int) = (a : Int) + 2 by omega] at CF
  have HF := Lib.hid CF
  clear CF
  obtain ⟨A, c, rfl, hlc, hcm, _⟩ := id h
  have q6 : IntKind.i64.wrap (n : Int) = n := IntWalk.i64_in _ (by omega)
  clear h CU hn
  go_enter Try.func63, Try.ntmps63
  go_wp2_with fail
  refine HU.out.mono ?_
  rintro e w' ⟨rfl, rfl⟩
  go_wp2_with fail
  refine HF.out.mono ?_
  rintro e w' ⟨rfl, rfl⟩
  go_wp2
  go_ret3
  exact ⟨rfl, rfl⟩
set_option maxRecDepth 100000 in
set_option maxHeartbeats 2000000 in
theorem cBytes_yes {w : World} {v : Value} {bs : List UInt8} (h : Rd w 1 v bs.length (bs.map byteV)) (hm : bs.length ≤ 1099511627776) (a : Nat) (h2 : a + 2 ≤ bs.length) (n : Nat) (hn : be ((bs.drop a).take 2) = n) (h3 : a + 2 + n ≤ bs.length) : Calls Try.prog 63 #[v, .int .i64 (a : Int)] w (BytesAt w ((bs.drop (a + 2)).take n) (a + 2 + n)) := by
  have CU := cUint_yes h a 2 (by omega) (by omega) h2 (by omega)
  rw [hn] at CU
  have hn2 : n < 65536 := by
    have := be_take_lt (bs.drop a) 2
    omega
  have HU := Lib.hid CU
  have CF := follow_any h (a + 2) n (by omega) (by omega)
  rw [show decide (a + 2 + n ≤ bs.length) = true by simp; omega, show ((a + 2 : Nat) : Int) = (a : Int) + 2 by omega] at CF
  have HF := Lib.hid CF
  clear CF
  have H := Lib.hid h
  obtain ⟨i1, hi1, hy0, hy1, hy2⟩ := info_parts byte_info
  obtain ⟨A, c0, rfl, hlc, hcm, _⟩ := id h
  unfold maxLen at hcm
  obtain ⟨g, o, rfl, -⟩ := rd_cells h (by omega)
  have q6 : IntKind.i64.wrap (n : Int) = n := IntWalk.i64_in _ (by omega)
  obtain ⟨r, hr⟩ : ∃ r, (bs.drop (a + 2)).take n = r := ⟨_, rfl⟩
  have hrl : r.length = n := by rw [← hr]; simp; omega
  have RR := Lib.hid (show ∀ w', Upd NoF w w' → ∀ A' m, n ≤ m → m ≤ maxLen → (0 < n → A' = some ⟨g, o + (a + 2), none⟩) → Rd w' 1 (.slice A' n m) n (r.map byteV) from fun w' hu A' m h1 h2 hA => by
    have := rd_part (H.out.keep hu) rfl (lo := a + 2) (k := n) (by omega) h1 h2 A' hA
    rw [hr, hrl] at this
    exact this)
  have HRL := Lib.hid hrl
  rw [hr]
  have q1 : (0 : Int) ≤ (a : Int) + 2 := by omega
  have q2 : (a : Int) + 2 ≤ (a : Int) + 2 + (n : Int) := by omega
  have q3 : (a : Int) + 2 + (n : Int) ≤ (c0 : Int) := by omega
  have q4 : ((a : Int) + 2).toNat = a + 2 := by omega
  have q5 : ((a : Int) + 2 + (n : Int)).toNat = (a + 2 + n) := by omega
  have e0 : a + 2 + n - (a + 2) = n := by omega
  clear h CU hn hr hrl
  by_cases hc : c0 = a + 2
  · obtain rfl := hc
    obtain rfl : n = 0 := by omega
    go_enter Try.func63, Try.ntmps63
    go_wp2_with fail
    refine HU.out.mono ?_
    rintro e w' ⟨rfl, rfl⟩
    go_wp2_with fail
    refine HF.out.mono ?_
    rintro e w' ⟨rfl, rfl⟩
    go_wp2_with (at_builtin; refine wpList_append_to _ rfl (.const (.slice none 0 0)) (.tmp 36) 36 rfl 5 i1 _ 1 1 Try.underlying36 hi1 hy0 hy1 hy2 rfl (.slice none 0 0) 0 [] rfl (Own.nil _ _ _) _ 0 (r.map byteV) rfl (RR.out _ (Upd.refl NoF w) _ _ (by omega) (by unfold maxLen; omega) (by intro; first | rfl | omega)) (bytes_oneCell _) (by unfold maxLen; omega) (by omega) ?_; intro A1 c1 w1 hown1 hupd1 hnew1; have O1 := Lib.hid hown1; have V1 := Lib.hid hupd1; have W1 := Lib.hid hnew1; clear hown1 hupd1 hnew1)
    go_ret3
    refine ⟨A1, c1, ret_at (by have := HRL.out; omega) (by omega), ?_, ?_, ?_⟩
    · have := O1.out
      rw [HRL.out]
      simpa using this
    · intro k hk
      rw [HRL.out] at hk
      rcases W1.out k (by simpa using hk) with e | e
      · simp [OwnB, Value.ownBlock] at e <;> omega
      · exact e
    · exact V1.out.mono (fun k hk e => by simp [OwnB, Value.ownBlock] at e)
  · have p8 : ¬ c0 = a + 2 := hc
    go_enter Try.func63, Try.ntmps63
    go_wp2_with fail
    refine HU.out.mono ?_
    rintro e w' ⟨rfl, rfl⟩
    go_wp2_with fail
    refine HF.out.mono ?_
    rintro e w' ⟨rfl, rfl⟩
    go_wp2_with (at_builtin; refine wpList_append_to _ rfl (.const (.slice none 0 0)) (.tmp 36) 36 rfl 5 i1 _ 1 1 Try.underlying36 hi1 hy0 hy1 hy2 rfl (.slice none 0 0) 0 [] rfl (Own.nil _ _ _) _ n (r.map byteV) rfl (RR.out _ (Upd.refl NoF w) _ _ (by omega) (by unfold maxLen; omega) (by intro; first | rfl | omega)) (bytes_oneCell _) (by unfold maxLen; omega) (by omega) ?_; intro A1 c1 w1 hown1 hupd1 hnew1; have O1 := Lib.hid hown1; have V1 := Lib.hid hupd1; have W1 := Lib.hid hnew1; clear hown1 hupd1 hnew1)
    go_ret3
    refine ⟨A1, c1, ret_at (by have := HRL.out; omega) (by omega), ?_, ?_, ?_⟩
    · have := O1.out
      rw [HRL.out]
      simpa using this
    · intro k hk
      rw [HRL.out] at hk
      rcases W1.out k (by simpa using hk) with e | e
      · simp [OwnB, Value.ownBlock] at e <;> omega
      · exact e
    · exact V1.out.mono (fun k hk e => by simp [OwnB, Value.ownBlock] at e)
end

section
open Go.RowKit

theorem byteV_byteZ (z : Int) : byteV (byteZ z) = .int .u8 (z % 256) := by
  show Value.int .u8 _ = _
  congr 1
  unfold byteZ
  simp
  omega

/-- Bytes that are being collected, beside a block that is kept. -/
def Acc (w0 w : World) (g : Nat) (t : TypeId) (cs : Array Value) (bs : List UInt8) (n : Nat) (A : Option Addr) (c : Nat) : Prop :=
  n = bs.length ∧ Own w 5 1 (.slice A n c) n (bs.map byteV) ∧ (∀ k, OwnB (.slice A n c) k → w0.heap.size ≤ k ∧ k ≠ g) ∧ Upd NoF w0 w ∧ Blk w g t cs
theorem Acc.push {w0 w wa w' : World} {g : Nat} {t : TypeId} {cs : Array Value} {bs ys : List UInt8} {n m : Nat} {A A' : Option Addr} {c c' : Nat} (h : Acc w0 w g t cs bs n A c) (ha : Upd NoF w wa) (hm : m = ys.length)
    (ho : Own w' 5 1 (.slice A' (n + m) c') (n + m) (bs.map byteV ++ ys.map byteV)) (hu : Upd (OwnB (.slice A n c)) wa w') (hn : ∀ k, OwnB (.slice A' (n + m) c') k → OwnB (.slice A n c) k ∨ wa.heap.size ≤ k) : Acc w0 w' g t cs (bs ++ ys) (n + m) A' c' := by
  obtain ⟨h1, h2, h3, h4, h5⟩ := h
  have hs := ha.size
  have hs0 := h4.size
  have hl := h5.lt
  refine ⟨by rw [List.length_append, h1, hm], by rw [List.map_append]; exact ho, fun k hk => ?_, (h4.trans ha (fun _ _ h => h)).trans hu (fun k hk e => by have := (h3 k e).1; omega), hu.blk (ha.blk h5 (fun h => h)) (fun e => (h3 _ e).2 rfl)⟩
  rcases hn k hk with e | e
  · exact h3 k e
  · omega
theorem Acc.call {w0 w w' : World} {g : Nat} {t : TypeId} {cs : Array Value} {bs : List UInt8} {n n' : Nat} {A A' : Option Addr} {c c' : Nat} {bs' : List UInt8} (h : Acc w0 w g t cs bs n A c) (hn : NewO w bs' A' c' w') (hl : n' = bs'.length) : Acc w0 w' g t cs bs' n' A' c' := by
  obtain ⟨h1, h2, h3, h4, h5⟩ := h
  obtain ⟨k1, k2, k3⟩ := hn
  subst hl
  have hs := h4.size
  have hl := h5.lt
  exact ⟨rfl, k1, fun k hk => by have := k2 k hk; omega, h4.trans k3 (fun _ _ h => h), k3.blk h5 (fun h => h)⟩
theorem Acc.rd {w0 w : World} {g : Nat} {t : TypeId} {cs : Array Value} {bs : List UInt8} {n : Nat} {A : Option Addr} {c : Nat} (h : Acc w0 w g t cs bs n A c) : Rd w 1 (.slice A n c) bs.length (bs.map byteV) := by
  have := h.2.1.rd
  rw [← h.1]
  exact this
theorem Acc.new {w0 w : World} {g : Nat} {t : TypeId} {cs : Array Value} {bs : List UInt8} {n : Nat} {A : Option Addr} {c : Nat} (h : Acc w0 w g t cs bs n A c) : NewO w0 bs A c w := by
  obtain ⟨h1, h2, h3, h4, h5⟩ := h
  subst h1
  exact ⟨h2, fun k hk => (h3 k hk).1, h4⟩
theorem pair_ret {w w' : World} {bs : List UInt8} {A : Option Addr} {c n : Nat} (h : NewO w bs A c w') (hn : n = bs.length) : PairPost w bs (.returned (.tuple #[.slice A n c, .bool true])) w' := by
  subst hn
  exact ⟨A, c, rfl, h⟩

theorem vc_len {v : VoteS} (hf : v.Fit) : (voteCells v).length = 22 := by simp [voteCells, hf.parent, hf.value]
theorem vc0 (v : VoteS) : (voteCells v)[0]? = some (.int .i64 v.kind) := rfl
theorem vc1 (v : VoteS) : (voteCells v)[1]? = some (.int .i64 v.slot) := rfl
theorem vc2 (v : VoteS) : (voteCells v)[2]? = some (.int .i64 v.round) := rfl
theorem vc3 (v : VoteS) : (voteCells v)[3]? = some (.int .i64 v.choice) := rfl
theorem vc4 (v : VoteS) : (voteCells v)[4]? = some (.int .i64 v.signer) := rfl
theorem vc5 (v : VoteS) : (voteCells v)[5]? = some (.int .i64 v.support) := rfl
theorem vc_parent {v : VoteS} (hf : v.Fit) : ∀ (j : Nat) u, (v.parent.map byteV)[j]? = some u → (voteCells v)[6 + j]? = some u := fun j u hu => by
  have hj : j < 8 := by have := (List.getElem?_eq_some_iff.1 hu).1; simpa [hf.parent] using this
  unfold voteCells
  rw [List.append_assoc, List.getElem?_append_right (by simp), List.getElem?_append_left (by simp [hf.parent]; omega)]
  simpa using hu
theorem vc_value {v : VoteS} (hf : v.Fit) : ∀ (j : Nat) u, (v.value.map byteV)[j]? = some u → (voteCells v)[14 + j]? = some u := fun j u hu => by
  unfold voteCells
  rw [List.getElem?_append_right (by simp [hf.parent])]
  simpa [hf.parent] using hu
theorem vote_size : (Try.prog.info? 35).map (·.size) = some 22 := by kernel_rfl
theorem range_blk {w : World} {g : Nat} {t : TypeId} {cs : List Value} (h : Blk w g t cs.toArray) : w.rangeAt g 0 cs := fun j v hv => by
  rw [h.cell]
  simpa using hv
/-- A whole vote read out of a variable. -/
theorem wpList_load_vote {ops : Array Oper} {rest : List Oper} {op : Oper} {a : Act} {w : World} {Q : Exit → Act → World → Prop} (hgd : op.guard = none) (x : Operand) (ho : op.op = .load 35 x)
    (b o : Nat) (hx : a.eval x = .pointer (some ⟨b, o, none⟩)) (v : VoteS) (hf : v.Fit) (hc : w.rangeAt b o (voteCells v))
    (h : wpList Try.prog ops Q rest (a.put op.dst (voteV v)) w) : wpList Try.prog ops Q (op :: rest) a w :=
  wpList_load_mid hgd 35 x ho b o hx (voteCells v) _ hc Try.underlying35 rfl (by rw [vote_size, vc_len hf]) h


set_option maxRecDepth 100000 in
set_option maxHeartbeats 4000000 in
theorem vEncode_no {v : VoteS} (hf : v.Fit) (w : World) (hv : validB v = false) : Calls Try.prog 59 #[voteV v] w (NilFalse w) := by
  have CV := Lib.hid (show ∀ w, Calls Try.prog 85 #[voteV v] w fun e w' => e = .returned (.bool false) ∧ Upd NoF w w' from fun w => by
    have := valid_any hf w
    rw [hv] at this
    exact this)
  have HF := Lib.hid hf
  clear hv hf
  go_enter Try.func59, Try.ntmps59
  go_wp2_with (refine wpList_load_vote rfl (.tmp 1) rfl w.heap.size 0 rfl v HF.out (range_blk (Blk.new w _ _)) ?_)
  refine (CV.out _).mono ?_
  rintro e w1 ⟨rfl, hu1⟩
  have U1 := Lib.hid hu1
  clear hu1
  go_wp2
  go_ret2
  exact ⟨rfl, ((Upd.refl NoF w).alloc _).trans U1.out (fun _ _ h => h)⟩


set_option maxRecDepth 100000 in
set_option maxHeartbeats 4000000 in
theorem vEncode_yes {v : VoteS} (hf : v.Fit) (w : World) (hv : validB v = true) : Calls Try.prog 59 #[voteV v] w (PairPost w (encV v)) := by
  have CV := Lib.hid (show ∀ w, Calls Try.prog 85 #[voteV v] w fun e w' => e = .returned (.bool true) ∧ Upd NoF w w' from fun w => by
    have := valid_any hf w
    rw [hv] at this
    exact this)
  have HF := Lib.hid hf
  have hV := validB_true.1 hv
  have hm0 : 0 ≤ v.support := hV.2.2.2.2.1
  have hm1 : v.support ≤ 1023 := hV.2.2.2.2.2.1
  have hwm : IntKind.u64.wrap v.support = v.support := by rw [wrap_u64]; omega
  have HM := Lib.hid hm0
  have HM1 := Lib.hid hm1
  obtain ⟨i1, hi1, hy0, hy1, hy2⟩ := info_parts byte_info
  have LP := Lib.hid hf.parent
  have LQ := Lib.hid hf.value
  clear hv hf hV hm0 hm1
  go_enter Try.func59, Try.ntmps59
  go_wp2_with (refine wpList_load_vote rfl (.tmp 1) rfl w.heap.size 0 rfl v HF.out (range_blk (Blk.new w _ _)) ?_)
  refine (CV.out _).mono ?_
  rintro e w1 ⟨rfl, hu1⟩
  have U1 := Lib.hid (((Upd.refl NoF w).alloc (.cells (voteCells v).toArray 35)).trans hu1 (fun _ _ h => h))
  have B1 := Lib.hid (hu1.blk (Blk.new w 35 (voteCells v).toArray) (fun h => h))
  have hz1 : w.heap.size < w1.heap.size := B1.out.lt
  clear hu1
  obtain ⟨w2, cs2, hmk, hb2, hs2, hu2⟩ := run_make_bytes w1 0 23 0 23 rfl rfl (by omega) (by omega)
  have AC := Lib.hid (show Acc w w2 w.heap.size 35 (voteCells v).toArray [] 0 (some ⟨w1.heap.size, 0, none⟩) 23 from
    ⟨rfl, ⟨by simp, .inr ⟨w1.heap.size, 23, cs2, rfl, hb2, by omega, by unfold maxLen; omega, by omega, by simp⟩⟩, fun k hk => by
      have h2 := U1.out.size
      simp [OwnB, Value.ownBlock] at hk
      omega, U1.out.trans hu2 (fun _ _ h => h), hu2.blk B1.out (fun h => h)⟩)
  have x0 : w2.cell? ⟨w.heap.size, 0, none⟩ = some (.int .i64 v.kind) := (AC.out.2.2.2.2.cell 0).trans (vc0 v)
  have x1 : w2.cell? ⟨w.heap.size, 1, none⟩ = some (.int .i64 v.slot) := (AC.out.2.2.2.2.cell 1).trans (vc1 v)
  have x2 : w2.cell? ⟨w.heap.size, 2, none⟩ = some (.int .i64 v.round) := (AC.out.2.2.2.2.cell 2).trans (vc2 v)
  have x3 : w2.cell? ⟨w.heap.size, 3, none⟩ = some (.int .i64 v.choice) := (AC.out.2.2.2.2.cell 3).trans (vc3 v)
  have x4 : w2.cell? ⟨w.heap.size, 4, none⟩ = some (.int .i64 v.signer) := (AC.out.2.2.2.2.cell 4).trans (vc4 v)
  have x5 : w2.cell? ⟨w.heap.size, 5, none⟩ = some (.int .i64 v.support) := (AC.out.2.2.2.2.cell 5).trans (vc5 v)
  clear hb2 hs2 hu2
  go_wp2_with (at_builtin; refine wpList_append_to _ rfl (.tmp 9) (.tmp 25) 36 rfl 5 i1 _ 1 1 Try.underlying36 hi1 hy0 hy1 hy2 rfl (.slice (some ⟨w1.heap.size, 0, none⟩) 0 23) 0 [] rfl (AC.out.2.1.upd ((Upd.refl NoF w2).alloc _) (fun _ _ h => h)) (.slice (some ⟨w2.heap.size, 0, none⟩) 5 5) 5 ([byteZ v.kind, byteZ v.slot, byteZ v.round, byteZ v.choice, byteZ v.signer].map byteV) rfl (Rd.of_blk (Blk.new w2 _ _) (by omega) (by unfold maxLen; omega) rfl (by intro j u hu; simp only [List.map_cons, List.map_nil, byteV_byteZ] at hu; simpa using hu)) (bytes_oneCell _) (by unfold maxLen; omega) (by omega) ?_; intro A3 c3 w3 hown3 hupd3 hnew3; have AC3 := Lib.hid (AC.out.push ((Upd.refl NoF w2).alloc _) (ys := [byteZ v.kind, byteZ v.slot, byteZ v.round, byteZ v.choice, byteZ v.signer]) (m := 5) rfl hown3 hupd3 hnew3); have d5 : w3.cell? ⟨w.heap.size, 5, none⟩ = some (.int .i64 v.support) := (AC3.out.2.2.2.2.cell 5).trans (vc5 v); clear hown3 hupd3 hnew3 x0 x1 x2 x3 x4 x5)
  have CA := Lib.hid (cAppendUint_any AC3.out.rd v.support HM.out 2 (by omega) (by simp))
  refine CA.out.mono ?_
  rintro e w4 ⟨A4, c4, rfl, hN4⟩
  have AC4 := Lib.hid (AC3.out.call hN4 (n' := 7) (by simp [beB_len]))
  rw [show ([] ++ [byteZ v.kind, byteZ v.slot, byteZ v.round, byteZ v.choice, byteZ v.signer] ++ beB v.support 2 : List UInt8).length = 7 from by simp [beB_len]]
  clear hN4
  go_wp2_with (first
    | (at_builtin; refine wpList_append_to _ rfl (.tmp 32) (.tmp 34) 36 rfl 5 i1 _ 1 1 Try.underlying36 hi1 hy0 hy1 hy2 rfl (.slice A4 7 c4) 7 _ rfl AC4.out.2.1 (.slice (some ⟨w.heap.size, 6, none⟩) 8 8) 8 (v.parent.map byteV) rfl (Rd.of_blk AC4.out.2.2.2.2 (by omega) (by unfold maxLen; omega) (by simp [LP.out]) (by intro j u hu; have := vc_parent HF.out j u hu; simpa using this)) (bytes_oneCell _) (by unfold maxLen; omega) (by omega) ?_; intro A5 c5 w5 hown5 hupd5 hnew5; have AC5 := Lib.hid (AC4.out.push (Upd.refl NoF w4) (ys := v.parent) (m := 8) LP.out.symm hown5 hupd5 hnew5); clear hown5 hupd5 hnew5 d5)
    | (at_builtin; refine wpList_append_to _ rfl (.tmp 36) (.tmp 38) 36 rfl 5 i1 _ 1 1 Try.underlying36 hi1 hy0 hy1 hy2 rfl (.slice A5 15 c5) 15 _ rfl AC5.out.2.1 (.slice (some ⟨w.heap.size, 14, none⟩) 8 8) 8 (v.value.map byteV) rfl (Rd.of_blk AC5.out.2.2.2.2 (by omega) (by unfold maxLen; omega) (by simp [LQ.out]) (by intro j u hu; have := vc_value HF.out j u hu; simpa using this)) (bytes_oneCell _) (by unfold maxLen; omega) (by omega) ?_; intro A6 c6 w6 hown6 hupd6 hnew6; have AC6 := Lib.hid (AC5.out.push (Upd.refl NoF w5) (ys := v.value) (m := 8) LQ.out.symm hown6 hupd6 hnew6); clear hown6 hupd6 hnew6))
  go_ret2
  exact pair_ret AC6.out.new (encV_len LP.out LQ.out).symm
end
end Go.Proofs.Ytbgificdilpdcaa
