/- The hash of the first reference, by abstract values. No condition. Slices of whole arrays inside immutable elements; literals of eleven elements. No condition. One-time keys of the reference, by abstract values: Digits, chain, ends, OneRecover. Conditions: lengths. Trees of 2 ^ d leaves of the reference, by abstract values: split, Depth, follow, Follow. Conditions: sizes. Keys of many uses of the reference, by abstract values: Uint, list, Verify. Conditions: sizes. Valid votes of the reference, by abstract values. No condition. -/
import Derived.Test.YthknobbilcolnaaGreatJn14
import Derived.Test.YthknobbilcolnaaGreatJn13
import Derived.Test.YthknobbilcolnaaGreatJn15
import Derived.Test.YthknobbilcolnaaGreatJn16
namespace Go.Proofs.YthknobbilcolnaaGreat
section
open Go.RowKit
set_option maxRecDepth 10000
attribute [-simp] List.map_take List.map_drop

theorem r1rotl_13 (y : Int) (H : List AObj) : PCall Tryz.prog 333 [.c (.int .u64 y), .c (.int .u64 13)] H (fun x H' => x = .c (.int .u64 (rot13 y)) ∧ H' = H) := by
  refine PCall.enter mixed Tryz.func333 rfl Tryz.ntmps333 Tryz.results333 (by simp) (by kernel_rfl) ?_
  have e2 : IntKind.u64.wrap 51 = 51 := by decide
  simp [List.replicate, e2, rot13]
theorem r1rotl_32 (y : Int) (H : List AObj) : PCall Tryz.prog 333 [.c (.int .u64 y), .c (.int .u64 32)] H (fun x H' => x = .c (.int .u64 (rot32 y)) ∧ H' = H) := by
  refine PCall.enter mixed Tryz.func333 rfl Tryz.ntmps333 Tryz.results333 (by simp) (by kernel_rfl) ?_
  have e2 : IntKind.u64.wrap 32 = 32 := by decide
  simp [List.replicate, e2, rot32]
theorem r1mix_any (a b : Int) (H : List AObj) : PCall Tryz.prog 303 [.c (.int .u64 a), .c (.int .u64 b)] H (fun x H' => x = .tup [.c (.int .u64 (mixS (a, b)).1), .c (.int .u64 (mixS (a, b)).2)] ∧ H' = H) := by
  refine PCall.enter mixed Tryz.func303 rfl Tryz.ntmps303 Tryz.results303 (by simp) (by kernel_rfl) ?_
  simp [List.replicate]
  refine (r1rotl_13 _ _).to ?_
  simp
  refine (r1rotl_32 _ _).to ?_
  simp [mixS]
theorem r1Number_any (n : List UInt8) (hn : n.length = 8) : PCall Tryz.prog 215 [nmA n] [] (fun x _ => Bd 0 x ∧ x = .c (.int .u64 (be n))) := by
  refine PCall.enter mixed Tryz.func215 rfl Tryz.ntmps215 Tryz.results215 (by simp) (by kernel_rfl) ?_
  simp [List.replicate]
  refine W_loop (fun m env H => ∃ i : Nat, m = 8 - i ∧ i ≤ 8 ∧ env = [.any, .ptr 0 0, .any, .c (.int .u64 (be (n.take i))), .c (.int .i64 i), .any, .any, .any, .any, .any, .any, .any, .any, .any, .any, .any, .any] ∧ H = [.row 1000034 false (n.map byteA)]) 8 ?_ ?_
  · refine ⟨_, _, ?_, 0, by simp, by simp, rfl, rfl⟩
    refine View.renum [0] (by simp) (by simp) ?_
    simp [be]
  · rintro m env H ⟨i, rfl, hi, rfl, rfl⟩
    simp
    refine ⟨fun hlt => ?_, fun hge => ?_⟩
    · obtain ⟨c, hc⟩ : ∃ c, n[i]? = some c := ⟨_, List.getElem?_eq_getElem (by omega)⟩
      have hb := be_take_lt n i
      have hb2 : be (n.take i) < 72057594037927936 := Nat.lt_of_lt_of_le hb (Nat.pow_le_pow_right (n := 256) (by decide) (show i ≤ 7 by omega))
      have hw : IntKind.u64.wrap (c.toNat : Int) = (c.toNat : Int) := wrap_u64_nat _ (by have := c.toNat_lt; omega)
      simp [hc, hw, or_byte _ _ hb2]
      refine ⟨by omega, by omega, 8 - (i + 1), by omega, _, _, View.renum [0] (by simp) (by simp) ?_, i + 1, rfl, by omega, rfl, rfl⟩
      simp [be_take_succ _ _ _ hc]
    · obtain rfl : i = 8 := by omega
      simp [hn, List.take_of_length_le]
theorem r1Of_any (v : Int) : PCall Tryz.prog 256 [.c (.int .u64 v)] [] (fun x _ => Bd 0 x ∧ x = nmA (ofV v)) := by
  refine PCall.enter mixed Tryz.func256 rfl Tryz.ntmps256 Tryz.results256 (by simp) (by kernel_rfl) ?_
  simp [List.replicate, nmA, ofV, wrap_u8]
  omega
theorem r1word_any (bs : List UInt8) : PCall Tryz.prog 302 [bytesA bs] [] (fun x _ => Bd 0 x ∧ x = .c (.int .u64 (wordN bs))) := by
  refine PCall.enter mixed Tryz.func302 rfl Tryz.ntmps302 Tryz.results302 (by simp) (by kernel_rfl) ?_
  simp [List.replicate]
  refine ⟨fun h8 => ?_, fun h8 => ?_⟩
  · obtain ⟨b0, b1, b2, b3, b4, b5, b6, b7, l, rfl⟩ := eight bs (by omega)
    have := word8w b0 b1 b2 b3 b4 b5 b6 b7 l
    simp (decide := true) [this]
  · refine W_loop (fun m env H => ∃ i : Nat, m = bs.length - i ∧ i ≤ bs.length ∧ env = [bytesA bs, .any, .any, .c (.int .u64 ((be (bs.take i) * 256 ^ (8 - i) : Nat) : Int)), .c (.int .i64 i)] ++ List.replicate 68 .any ∧ H = []) bs.length ?_ ?_
    · refine ⟨_, _, ?_, 0, by simp, by simp, rfl, rfl⟩
      refine View.renum [] (by simp) (by simp) ?_
      simp [be, List.replicate]
    · rintro m env H ⟨i, rfl, hi, rfl, rfl⟩
      simp [List.replicate]
      refine ⟨fun hlt => ?_, fun hge => ?_⟩
      · obtain ⟨c, hc⟩ : ∃ c, bs[i]? = some c := ⟨_, List.getElem?_eq_getElem (by omega)⟩
        have hp := or_place (be (bs.take i)) i c (by omega) (be_take_lt bs i)
        have ew : IntKind.u64.wrap (56 - 8 * (i : Int)) = ((56 - 8 * i : Nat) : Int) := by rw [wrap_u64]; omega
        have em : min (56 - 8 * i) 64 = 56 - 8 * i := by omega
        have hw : IntKind.u64.wrap (c.toNat : Int) = (c.toNat : Int) := wrap_u64_nat _ (by have := c.toNat_lt; omega)
        have en : 8 - (i + 1) = 7 - i := by omega
        simp at hp
        simp [hc, ew, em, hw, hp]
        refine ⟨by omega, by omega, by omega, bs.length - (i + 1), by omega, _, _, View.renum [] (by simp) (by simp) ?_, i + 1, rfl, by omega, rfl, rfl⟩
        simp [be_take_succ _ _ _ hc, en]
      · obtain rfl : i = bs.length := by omega
        simp [wordN, List.take_of_length_le, List.take_of_length_le (show bs.length ≤ 8 by omega)]
/-- The reference's Sum. -/
theorem r1Sum_any (bs : List UInt8) (hb : bs.length < 100000000000) : PCall Tryz.prog 259 [bytesA bs] [] (fun x _ => Bd 0 x ∧ x = nmA (hsum bs)) := by
  refine PCall.enter mixed Tryz.func259 rfl Tryz.ntmps259 Tryz.results259 (by simp) (by kernel_rfl) ?_
  simp [List.replicate]
  refine W_loop (fun m env H => ∃ i : Nat, m = (bs.length + 7) / 8 - i ∧ 8 * i ≤ bs.length + 7 ∧ env = [bytesA bs, .any, .ptr 0 0, .c (.int .u64 (hk bs i).1), .c (.int .u64 (hk bs i).2), .c (.int .i64 (8 * i : Nat))] ++ List.replicate 44 .any ∧ H = [.row 1000034 false ((List.replicate 8 (0 : UInt8)).map byteA)]) ((bs.length + 7) / 8) ?_ ?_
  · refine ⟨_, _, ?_, 0, by simp, by simp, rfl, rfl⟩
    refine View.renum [0] (by simp) (by simp) ?_
    simp [hk, List.replicate]
  · rintro m env H ⟨i, rfl, hi, rfl, rfl⟩
    simp [List.replicate]
    refine ⟨fun hlt => ?_, fun hge => ?_⟩
    · have e8 : (8 * (i : Int)).toNat = 8 * i := by omega
      simp [e8]
      refine ⟨by omega, ?_⟩
      refine (r1word_any _).use (by simp) ?_
      simp
      refine (r1mix_any _ _ _).to ?_
      simp
      refine (r1mix_any _ _ _).to ?_
      simp
      refine ⟨by omega, (bs.length + 7) / 8 - (i + 1), by omega, _, _, ?_, i + 1, rfl, by omega, rfl, rfl⟩
      refine View.renum [0] (by simp) (by simp) ?_
      simp [hk_succ, mixN]
      rw [show 8 * (i : Int) + 8 = 8 * ((i : Int) + 1) by omega]
      exact .c _
    · obtain rfl : i = (bs.length + 7) / 8 := by omega
      simp [wrap_u64_nat bs.length (by omega)]
      generalize hq : hk bs ((bs.length + 7) / 8) = q
      refine W_loop (fun m env H => ∃ j : Nat, m = 4 - j ∧ j ≤ 4 ∧ env = [bytesA bs, .any, .ptr 0 0, .c (.int .u64 (mixN j (q.1, bits .xor .u64 q.2 bs.length)).1), .c (.int .u64 (mixN j (q.1, bits .xor .u64 q.2 bs.length)).2), .any, .c (.int .i64 j)] ++ List.replicate 43 .any ∧ H = [.row 1000034 false ((List.replicate 8 (0 : UInt8)).map byteA)]) 4 ?_ ?_
      · refine ⟨_, _, ?_, 0, by simp, by simp, rfl, rfl⟩
        refine View.renum [0] (by simp) (by simp) ?_
        simp [mixN, List.replicate]
      · rintro m env H ⟨j, rfl, hj, rfl, rfl⟩
        simp [List.replicate]
        refine ⟨fun hlt => ?_, fun hge => ?_⟩
        · refine (r1mix_any _ _ _).to ?_
          simp
          refine ⟨by omega, 4 - (j + 1), by omega, _, _, ?_, j + 1, rfl, by omega, rfl, rfl⟩
          refine View.renum [0] (by simp) (by simp) ?_
          simp [mixN]
        · obtain rfl : j = 4 := by omega
          refine (r1Of_any _).use (by simp) ?_
          simp [List.take_of_length_le, hsum, hend, hq]
theorem r1Tagged_any (tag : UInt8) (bs : List UInt8) (hb : bs.length < 10000000000) : PCall Tryz.prog 214 [byteA tag, bytesA bs] [] (fun x _ => Bd 0 x ∧ x = nmA (tagged tag bs)) := by
  refine PCall.enter mixed Tryz.func214 rfl Tryz.ntmps214 Tryz.results214 (by simp) (by kernel_rfl) ?_
  simp [List.replicate]
  refine ⟨by omega, ?_⟩
  refine PCall.freeze (id := 4) (args' := [bytesA (tag :: bs)]) rfl ?_ ?_
  · simp
    exact Fz_bytes (bs := tag :: bs) (by simp; omega)
  refine (r1Sum_any (tag :: bs) (by simp; omega)).use (by simp) ?_
  simp [List.take_of_length_le]
  rfl
theorem r1Pair_any (tag : UInt8) (l r : List UInt8) (hl : l.length = 8) (hr : r.length = 8) : PCall Tryz.prog 301 [byteA tag, nmA l, nmA r] [] (fun x _ => Bd 0 x ∧ x = nmA (tagged tag (l ++ r))) := by
  refine PCall.enter mixed Tryz.func301 rfl Tryz.ntmps301 Tryz.results301 (by simp) (by kernel_rfl) ?_
  simp (decide := true) [List.replicate, hl, hr, List.take_of_length_le]
  refine nextNC.fz (id := 4) (args' := [byteA tag, bytesA (l ++ r)]) (r1Tagged_any tag (l ++ r) (by simp [hl, hr])) rfl ?_ (by simp) (by simp (decide := true)) (by simp (decide := true) [hl, hr]) ?_
  · simp
    rw [← List.map_append]
    exact Fz_bytes (by simp [hl, hr])
  · simp (decide := true) [hl, hr, List.take_of_length_le]
theorem r1Less_any (l r : List UInt8) (hl : l.length = 8) (hr : r.length = 8) : PCall Tryz.prog 140 [nmA l, nmA r] [] (fun x _ => Bd 0 x ∧ x = .c (.bool (decide (be l < be r)))) := by
  refine PCall.enter mixed Tryz.func140 rfl Tryz.ntmps140 Tryz.results140 (by simp) (by kernel_rfl) ?_
  simp (decide := true) [List.replicate, hl, List.take_of_length_le]
  refine nextDC.use (r1Number_any l hl) (by simp) ?_
  simp [hr, List.take_of_length_le]
  refine nextDC.use (r1Number_any r hr) (by simp) ?_
  simp
end

section
open Go.RowKit
section
variable {P : Program} {t : TypeId} {H : List AObj}
def slPe (x : Option (Nat × Nat)) (e : AV) (off : Nat) : Option AV := match x with
  | some (n, s) => if off + n ≤ e.cells.length ∧ n ≤ maxLen ∧ s = 1 ∧ e.cells.all (fun x => !x.isAgg) = true then some (.ls 1 ((e.cells.drop off).take n)) else none
  | none => none
@[simp] theorem slPe_some {n s off : Nat} {e : AV} : slPe (some (n, s)) e off = if off + n ≤ e.cells.length ∧ n ≤ maxLen ∧ s = 1 ∧ e.cells.all (fun x => !x.isAgg) = true then some (.ls 1 ((e.cells.drop off).take n)) else none := _root_.id rfl
@[simp] theorem sliceA_pe {e : AV} {off : Nat} : sliceA P H t (.pe e off) none none none = slPe (arT P t) e off := by
  unfold sliceA arT slPe
  cases P.underlying t with
  | none => rfl
  | some d =>
    cases d <;> try rfl
    case slice el =>
      dsimp only
      cases P.info? el <;> rfl
    case array n el =>
      dsimp only
      cases P.info? el with
      | none => rfl
      | some i =>
        dsimp only [Option.map_some]
        simp [bounds, bound]
@[simp] theorem buildSlice_11 {a b c d e f g h i j k : AV} : buildSliceA P H t 11 [(0, a), (1, b), (2, c), (3, d), (4, e), (5, f), (6, g), (7, h), (8, i), (9, j), (10, k)] = bnA (elT P t) ((elT P t).bind fun p => zlT P p.1) H [a, b, c, d, e, f, g, h, i, j, k] := buildSlice_n (az := [a, b, c, d, e, f, g, h, i, j, k]) (Nat.succ_pos _)
end
end

section
open Go.RowKit
set_option maxRecDepth 10000
attribute [-simp] List.map_take List.map_drop UInt8.ofNat_add List.map_flatten

inductive RgI (m : List UInt8) : Nat → List AV → List AObj → Prop
  | mk (i : Nat) (h : i ≤ 8) (q : Nat) (hq : q = 8 - i) : RgI m q ([.any, .ptr 0 0, .any, .own 1 0 (2 * i) 1, .c (.int .i64 ((240 - halfSum (m.take i) : Nat) : Int)), .c (.int .i64 i)] ++ List.replicate 37 .any) [.row 1000034 false (m.map byteA), .row 3 false (((m.take i).map halvesB).flatten.map dA)]
/-- Digits. -/
theorem r1Digits_any (m : List UInt8) (hm : m.length = 8) : PCall Tryz.prog 252 [nmA m] [] (fun x _ => Bd 0 x ∧ x = .ls 1 ((digitsS m).map dA)) := by
  refine PCall.viewR (PCall.enter mixed Tryz.func252 rfl Tryz.ntmps252 Tryz.results252 (by simp) (by kernel_rfl) ?_)
  simp [List.replicate]
  refine W_loop (RgI m) 8 ?_ ?_
  · refine ⟨_, _, ?_, .mk 0 (by omega) _ rfl⟩
    exact View.virt (H := [_]) 3 rfl (Pw.at_ (by simp [List.replicate, halfSum])).2
  rintro _ _ _ ⟨i, hi, q, hq⟩
  have hs := halfSum_le (m.take i)
  have hml : (m.take i).length = i := by rw [List.length_take]; omega
  have hl : ((m.take i).map halvesB).flatten.length = 2 * i := by rw [halvesB_len, hml]
  simp [List.replicate, -W_cond]
  by_cases hlt : i < 8
  · obtain ⟨c, hc⟩ : ∃ c, m[i]? = some c := ⟨_, List.getElem?_eq_getElem (by omega)⟩
    have n1 := nib_hi ⟨c.toNat, c.toNat_lt⟩
    have n2 := nib_lo ⟨c.toNat, c.toNat_lt⟩
    simp only at n1 n2
    have hs1 : halfSum (m.take (i + 1)) = halfSum (m.take i) + (c.toNat / 16 + c.toNat % 16) := by rw [List.take_add_one, hc]; exact halfSum_snoc _ _
    have hcl := c.toNat_lt
    have e : ((240 - halfSum (m.take i) : Nat) : Int) - (c.toNat : Int) / 16 - (c.toNat : Int) % 16 = ((240 - halfSum (m.take (i + 1)) : Nat) : Int) := by rw [hs1]; omega
    refine W_ifT (by simp; omega) ?_
    simp (decide := true) [hc, n1, n2, e, hl]
    have := RgI.mk (m := m) (i + 1) (by omega) _ rfl
    rw [show m.take (i + 1) = m.take i ++ [c] by rw [List.take_add_one, hc]; rfl] at this
    rw [show m.take (i + 1) = m.take i ++ [c] by rw [List.take_add_one, hc]; rfl] at hs1 e
    refine ⟨by omega, by omega, by omega, by omega, by omega, by rw [show m.take (i + 1) = m.take i ++ [c] by rw [List.take_add_one, hc]; rfl]; omega, by omega, _, ?_, _, _, View.renum [0, 3] (by simp) ?_ ?_, this⟩
    · omega
    · simp [hl, halvesB, dA, flat, List.take_of_length_le]
      rintro a (⟨b, -, rfl⟩ | rfl | rfl) <;> exact .c _
    · simp [List.replicate, Nat.mul_add]
      rw [show m.take (i + 1) = m.take i ++ [c] by rw [List.take_add_one, hc]; rfl]
      exact .c _
  · obtain rfl : i = 8 := by omega
    refine W_ifF (by simp) ?_
    rw [List.take_of_length_le (by omega)] at hl ⊢
    obtain ⟨x, hx⟩ : ∃ x, 240 - halfSum m = x := ⟨_, rfl⟩
    have h240 : x ≤ 240 := by omega
    have d1 : IntKind.i64.wrap ((x : Int) / 16) = ((x / 16 : Nat) : Int) := by rw [inr64_wrap (by simp [inr64]; omega)]; omega
    have d2 : (x : Int).tmod 16 = ((x % 16 : Nat) : Int) := by rw [Int.tmod_eq_emod_of_nonneg (by omega)]; omega
    simp [hx, d1, d2]
    refine ⟨_, View.fz1 (id := 3) rfl (.own (fun e he => ?_) ?_ ?_)⟩
    · obtain ⟨x, -, rfl⟩ := List.mem_map.1 he; rfl
    · simp [digitsS_len hm]
    · rw [flat_ones (by simp [dA, AV.isAgg])]
      simp [flat, digitsS, hl, dA, hx, List.take_of_length_le]
inductive RcI (v : List UInt8) (c p q : Nat) : Nat → List AV → List AObj → Prop
  | mk (i : Nat) (h : i ≤ q - p) (m : Nat) (hm : m = q - p - i) : RcI v c p q m ([.any, .c (.int .i64 c), .any, .c (.int .i64 q), .ptr 0 0, .any, .any, .any, .ptr 1 0, .c (.int .i64 ((p + i : Nat) : Int))] ++ List.replicate 29 .any) [.row 1000034 false ((walkS c i p v).map byteA), .row 1000034 false ((List.replicate 8 (0 : UInt8)).map byteA)]
/-- chain. -/
theorem r1chain_any (v : List UInt8) (hv : v.length = 8) (c p q : Nat) (hc : c < 256) (hp : p ≤ q) (hq : q < 256) : PCall Tryz.prog 253 [nmA v, .c (.int .i64 c), .c (.int .i64 p), .c (.int .i64 q)] [] (fun x _ => Bd 0 x ∧ x = nmA (walkS c (q - p) p v)) := by
  refine PCall.enter mixed Tryz.func253 rfl Tryz.ntmps253 Tryz.results253 (by simp) (by kernel_rfl) ?_
  simp [List.replicate]
  refine W_loop (RcI v c p q) (q - p) ?_ ?_
  · exact ⟨_, _, View.renum [0, 1] (by simp) (by simp [walkS]) (by simp [List.replicate]), .mk 0 (by omega) _ rfl⟩
  rintro _ _ _ ⟨i, hi, m, hm⟩
  have hl : (walkS c i p v).length = 8 := walkS_len hv
  simp [List.replicate, -W_cond]
  by_cases hlt : i < q - p
  · have w1 : AV.c (.int .u8 (IntKind.u8.wrap (c : Int))) = byteA (UInt8.ofNat c) := by rw [wrap_u8, Int.emod_eq_of_lt (by omega) (by omega), byte_ofNat c hc]
    have w2 : AV.c (.int .u8 (IntKind.u8.wrap ((p : Int) + i))) = byteA (UInt8.ofNat (p + i)) := by rw [wrap_u8, Int.emod_eq_of_lt (by omega) (by omega), ← Int.natCast_add, byte_ofNat _ (by omega)]
    refine W_ifT (by simp; omega) ?_
    obtain ⟨a0, a1, a2, a3, a4, a5, a6, a7, hw⟩ : ∃ a0 a1 a2 a3 a4 a5 a6 a7, walkS c i p v = [a0, a1, a2, a3, a4, a5, a6, a7] := by
      generalize walkS c i p v = u at hl
      match u, hl with
      | [a0, a1, a2, a3, a4, a5, a6, a7], _ => exact ⟨_, _, _, _, _, _, _, _, rfl⟩
    simp [hw]
    simp only [w1, w2]
    refine PCall.freeze (id := 2) (args' := [bytesA [33, a0, a1, a2, a3, a4, a5, a6, a7, UInt8.ofNat c, UInt8.ofNat (p + i)]]) rfl ?_ ?_
    · simp [flat]
      exact Fz_bytes (bs := [33, a0, a1, a2, a3, a4, a5, a6, a7, UInt8.ofNat c, UInt8.ofNat (p + i)]) rfl
    refine (r1Sum_any _ (by simp)).use (by simp) ?_
    have hst : hsum [33, a0, a1, a2, a3, a4, a5, a6, a7, UInt8.ofNat c, UInt8.ofNat (p + i)] = walkS c (i + 1) p v := by rw [walkS_snoc, hw]; rfl
    have hl1 : (walkS c (i + 1) p v).length = 8 := walkS_len hv
    simp [hst, hl1]
    refine ⟨by omega, _, ?_, _, _, View.renum [0, 1] (by simp) (by simp) ?_, .mk (i + 1) (by omega) _ rfl⟩
    · omega
    · simp [List.replicate, Int.add_assoc]
  · obtain rfl : i = q - p := by omega
    refine W_ifF (by simp; omega) ?_
    simp [hl, List.take_of_length_le]
inductive ReI (l : List (List UInt8)) : Nat → List AV → List AObj → Prop
  | mk (i : Nat) (h : i ≤ l.length) (m : Nat) (hm : m = l.length - i) : ReI l m ([namesA l, .any, .ptr 0 0, .own 1 0 (8 * i) 1, .c (.int .i64 i)] ++ List.replicate 14 .any) [.row 1000034 false ((List.replicate 8 (0 : UInt8)).map byteA), .row 5 false ((l.take i).flatten.map byteA)]
/-- ends. -/
theorem r1ends_any (l : List (List UInt8)) (hl : l.length ≤ 1000) (h8 : ∀ x ∈ l, x.length = 8) : PCall Tryz.prog 254 [namesA l] [] (fun x _ => Bd 0 x ∧ x = nmA (endsS l)) := by
  refine PCall.enter mixed Tryz.func254 rfl Tryz.ntmps254 Tryz.results254 (by simp) (by kernel_rfl) ?_
  simp [List.replicate]
  refine W_loop (ReI l) l.length ?_ ?_
  · refine ⟨_, _, ?_, .mk 0 (by omega) _ rfl⟩
    exact View.virt (H := [_]) 5 rfl (Pw.at_ (by simp [List.replicate])).2
  rintro _ _ _ ⟨i, hi, m, hm⟩
  simp [List.replicate, -W_cond]
  by_cases hlt : i < l.length
  · obtain ⟨x, hx⟩ : ∃ x, l[i]? = some x := ⟨_, List.getElem?_eq_getElem hlt⟩
    have hx8 := h8 x (List.mem_of_getElem? hx)
    have hfl := take_flat_len h8 hi
    refine W_ifT (by simp; omega) ?_
    simp [hx, hx8]
    have := ReI.mk (l := l) (i + 1) (by omega) _ rfl
    rw [take_flat_succ hx] at this
    refine ⟨by decide, by omega, by omega, _, ?_, _, _, View.renum [0, 2] (by simp) ?_ ?_, this⟩
    · omega
    · simp [hfl, hx8, List.take_of_length_le]
      rintro a (⟨b, -, rfl⟩ | ⟨b, -, rfl⟩) <;> exact .c _
    · simp [List.replicate, Nat.mul_add]
  · obtain rfl : i = l.length := by omega
    have hfl := take_flat_len h8 (Nat.le_refl l.length)
    rw [List.take_length] at hfl ⊢
    refine W_ifF (by simp) ?_
    simp
    refine PCall.freeze (id := 1) (args' := [byteA 34, bytesA l.flatten]) rfl ?_ ?_
    · simp
      exact ⟨.same _, Fz_bytes hfl⟩
    refine (r1Tagged_any 34 _ (by omega)).use (by simp) ?_
    simp [endsS, List.take_of_length_le]
inductive RoI (m : List UInt8) (sig : List (List UInt8)) : Nat → List AV → List AObj → Prop
  | mk (i : Nat) (h : i ≤ 18) (q : Nat) (hq : q = 18 - i) : RoI m sig q ([.any, namesA sig, .any, .any, .ptr 0 0, .c (.bool false), .ls 1 ((digitsS m).map dA), .own 1 0 i 8, .c (.int .i64 i)] ++ List.replicate 25 .any) [.row 1000034 false ((List.replicate 8 (0 : UInt8)).map byteA), .row 34 false ((recTo 0 ((digitsS m).take i) sig).flatten.map byteA)]
/-- OneRecover. -/
theorem r1OneRecover_any (m : List UInt8) (hm : m.length = 8) (sig : List (List UInt8)) (hs : sig.length = 18) (h8 : ∀ x ∈ sig, x.length = 8) : PCall Tryz.prog 210 [nmA m, namesA sig] [] (fun x _ => Bd 0 x ∧ x = .tup [nmA (recoverS m sig), .c (.bool true)]) := by
  refine PCall.enter mixed Tryz.func210 rfl Tryz.ntmps210 Tryz.results210 (by simp) (by kernel_rfl) ?_
  simp [List.replicate, hm, hs, List.take_of_length_le]
  refine (r1Digits_any m hm).use (by simp) ?_
  have hds := digitsS_len hm
  simp
  refine W_loop (RoI m sig) 18 ?_ ?_
  · refine ⟨_, _, ?_, .mk 0 (by omega) _ rfl⟩
    refine View.trans (e2 := [.any, namesA sig, .any, .any, .ptr 0 0, .c (.bool false), .ls 1 ((digitsS m).map dA), .c (.slice none 0 0), .c (.int .i64 0)] ++ List.replicate 25 .any) (H2 := [.row 1000034 false ((List.replicate 8 (0 : UInt8)).map byteA)]) (View.renum [1] (by simp) (by simp) (by simp [List.replicate])) (View.virt 34 rfl (Pw.at_ ?_).2)
    simp [List.replicate]
  rintro _ _ _ ⟨i, hi, q, hq⟩
  have hcn : (recTo 0 ((digitsS m).take i) sig).length = i := by rw [recTo_cnt (by rw [List.length_take]; omega), List.length_take]; omega
  have hfl : (recTo 0 ((digitsS m).take i) sig).flatten.length = 8 * i := by rw [flatten_len (recTo_8 h8), hcn]
  simp [List.replicate, -W_cond]
  by_cases hlt : i < 18
  · obtain ⟨d, hd⟩ : ∃ d, (digitsS m)[i]? = some d := ⟨_, List.getElem?_eq_getElem (by omega)⟩
    obtain ⟨v, hv⟩ : ∃ v, sig[i]? = some v := ⟨_, List.getElem?_eq_getElem (by omega)⟩
    have hv8 := h8 v (List.mem_of_getElem? hv)
    have hd15 := digits_le m d (List.mem_of_getElem? hd)
    refine W_ifT (by simp; omega) ?_
    simp (decide := true) [hd, hv, hv8]
    refine nextDC.use (r1chain_any v hv8 i d 15 (by omega) hd15 (by decide)) (by simp) ?_
    have hw8 : (walkS i (15 - d) d v).length = 8 := walkS_len hv8
    simp [hw8, hfl]
    have := RoI.mk (m := m) (sig := sig) (i + 1) (by omega) _ rfl
    rw [recTo_snoc hd hv] at this
    refine ⟨by omega, by omega, _, ?_, _, _, View.renum [0, 3] (by simp) ?_ ?_, this⟩
    · omega
    · simp [hw8, hfl, Nat.mul_comm i 8, List.take_of_length_le]
      rintro a (⟨b, -, rfl⟩ | ⟨b, -, rfl⟩) <;> exact .c _
    · simp [List.replicate]
  · obtain rfl : i = 18 := by omega
    refine W_ifF (by simp) ?_
    rw [List.take_of_length_le (Nat.le_of_eq hds)] at hcn hfl ⊢
    simp
    refine PCall.freeze (id := 1) (args' := [namesA (recTo 0 (digitsS m) sig)]) rfl ?_ ?_
    · simp
      have := Fz_nms (id := 1) (ext := []) hcn (recTo_8 h8)
      rwa [List.append_nil] at this
    refine (r1ends_any _ (by omega) (recTo_8 h8)).use (by simp) ?_
    simp [recoverS, List.take_of_length_le]
end

section
open Go.RowKit
set_option maxRecDepth 10000
attribute [-simp] List.map_take List.map_drop UInt8.ofNat_add List.map_flatten

/-- split. -/
theorem r1split_any (d : Nat) (hd : d ≤ 40) : PCall Tryz.prog 300 [.c (.int .i64 ((2 ^ (d + 1) : Nat) : Int))] [] (fun x _ => Bd 0 x ∧ x = .c (.int .i64 ((2 ^ d : Nat) : Int))) := by
  refine PCall.enter mixed Tryz.func300 rfl Tryz.ntmps300 Tryz.results300 (by simp) (by kernel_rfl) ?_
  have hb : 2 ^ d ≤ 2 ^ 40 := Nat.pow_le_pow_right (by decide) hd
  generalize hM : 2 ^ (d + 1) = M
  have hM2 : M = 2 ^ d * 2 := by rw [← hM, Nat.pow_succ]
  simp [List.replicate]
  refine W_loop (fun m env H => ∃ i : Nat, m = d - i ∧ i ≤ d ∧ env = [.c (.int .i64 (M : Int)), .any, .any, .c (.int .i64 ((2 ^ i : Nat) : Int))] ++ List.replicate 8 .any ∧ H = []) d ?_ ?_
  · refine ⟨_, _, ?_, 0, by simp, by simp, rfl, rfl⟩
    refine View.renum [] (by simp) (by simp) ?_
    simp [List.replicate]
  · rintro m env H ⟨i, rfl, hi, rfl, rfl⟩
    have hp : 2 ^ i ≤ 2 ^ d := Nat.pow_le_pow_right (by decide) hi
    have hlt : i < d → 2 ^ i * 2 ≤ 2 ^ d := fun h => by rw [← Nat.pow_succ]; exact Nat.pow_le_pow_right (by decide) h
    have hps : 2 ^ (i + 1) = 2 ^ i * 2 := Nat.pow_succ ..
    have h1 : 0 < 2 ^ i := Nat.pow_pos (by decide)
    generalize hK : 2 ^ i = K at *
    simp [List.replicate]
    refine ⟨by omega, fun hc => ?_, fun hc => ?_⟩
    · have hid : i < d := by
        rcases Nat.lt_or_ge i d with h | h
        · exact h
        · obtain rfl : i = d := by omega
          omega
      have := hlt hid
      refine ⟨by omega, d - (i + 1), by omega, _, _, ?_, i + 1, rfl, by omega, rfl, rfl⟩
      refine View.renum [] (by simp) (by simp) ?_
      have hq : (2 : Int) ^ (i + 1) = (K : Int) * 2 := by have := congrArg (fun x : Nat => (x : Int)) hps; simpa using this
      simp [hq]
      rw [Int.mul_comm]
      exact .c _
    · have hid : i = d := by
        rcases Nat.lt_or_ge i d with h | h
        · have := hlt h; omega
        · omega
      subst hid
      have := congrArg (fun x : Nat => (x : Int)) hK
      simpa using this.symm
theorem r1Depth_any (d : Nat) (hd : d ≤ 40) (i : Int) : PCall Tryz.prog 257 [.c (.int .i64 i), .c (.int .i64 ((2 ^ d : Nat) : Int))] [] (fun x _ => Bd 0 x ∧ x = .c (.int .i64 (if 0 ≤ i ∧ i < ((2 ^ d : Nat) : Int) then (d : Int) else -1))) := by
  refine PCall.enter mixed Tryz.func257 rfl Tryz.ntmps257 Tryz.results257 (by simp) (by kernel_rfl) ?_
  have hb : 2 ^ d ≤ 2 ^ 40 := Nat.pow_le_pow_right (by decide) hd
  generalize hM : 2 ^ d = M
  simp [List.replicate]
  refine ⟨fun h0 => ⟨fun h1 _ => h1, fun h1 => ?_⟩, fun h0 h => by omega⟩
  refine W_loop (dpI d) d ?_ ?_
  · obtain ⟨z, rfl⟩ : ∃ z : Nat, i = z := ⟨i.toNat, by omega⟩
    refine ⟨_, _, ?_, dpI.mk 0 z M (by omega) hM.symm (by omega)⟩
    refine View.renum [] (by simp) (by simp) ?_
    simp [List.replicate]
  · rintro m env H ⟨k, z, N, rfl, hk, hN, hz, rfl, rfl⟩
    have hNb : N ≤ 2 ^ 40 := by rw [hN]; exact Nat.pow_le_pow_right (by decide) (by omega)
    simp [List.replicate]
    refine ⟨fun hc => ?_, fun hc => ?_⟩
    · obtain ⟨e, he⟩ : ∃ e, d - k = e + 1 := ⟨d - k - 1, by
        have : d - k ≠ 0 := fun h0 => by rw [h0] at hN; omega
        omega⟩
      rw [he] at hN
      have hsp := r1split_any e (by omega)
      rw [← hN] at hsp
      have hN2 : N = 2 ^ e * 2 := by rw [hN, Nat.pow_succ]
      refine hsp.use (by simp) ?_
      generalize hE : 2 ^ e = E at *
      have he2 : d - (k + 1) = e := by omega
      simp
      refine ⟨fun h => ⟨by omega, d - (k + 1), by omega, _, _, ?_, dpI.mk (k + 1) z E (by omega) (by rw [he2, hE]) h⟩, fun h => ⟨by omega, by omega, by omega, d - (k + 1), by omega, _, _, ?_, dpI.mk (k + 1) (z - E) E (by omega) (by rw [he2, hE]) (by omega)⟩⟩
      · refine View.renum [] (by simp) (by simp) ?_
        simp [List.replicate]
      · have e1 : (z : Int) - E = ((z - E : Nat) : Int) := by omega
        have e2 : (N : Int) - E = (E : Int) := by omega
        refine View.renum [] (by simp) (by simp) ?_
        simp [List.replicate, e1, e2]
    · have hkd : k = d := by
        rcases Nat.lt_or_ge k d with h | h
        · have : 2 ^ 1 ≤ 2 ^ (d - k) := Nat.pow_le_pow_right (by decide) (by omega)
          omega
        · omega
      rw [if_pos ⟨h0, h1⟩, hkd]
/-- follow. -/
theorem r1follow_any : ∀ (d : Nat), d ≤ 20 → ∀ (leaf : List UInt8) (i : Nat) (p : List (List UInt8)), leaf.length = 8 → i < 2 ^ d → p.length = d → (∀ x ∈ p, x.length = 8) → PCall Tryz.prog 258 [nmA leaf, .c (.int .i64 i), .c (.int .i64 ((2 ^ d : Nat) : Int)), namesA p] [] (fun x _ => Bd 0 x ∧ x = nmA (followS leaf d i p))
  | 0, _, leaf, i, p, hl, hi, hp, h8 => by
    refine PCall.enter mixed Tryz.func258 rfl Tryz.ntmps258 Tryz.results258 (by simp) (by kernel_rfl) ?_
    simp [List.replicate, hl]
    refine ⟨by decide, PCall.freeze (id := 0) (args' := [byteA 17, bytesA leaf]) rfl ?_ ?_⟩
    · simp
      exact ⟨.same _, Fz_bytes hl⟩
    refine (r1Tagged_any 17 leaf (by omega)).use (by simp) ?_
    simp [followS, List.take_of_length_le]
  | d + 1, hd, leaf, i, p, hl, hi, hp, h8 => by
    have ih := r1follow_any d (by omega)
    obtain ⟨q, s, rfl⟩ : ∃ q s, p = q ++ [s] := ⟨p.dropLast, p.getLast (by rintro rfl; simp at hp), (List.dropLast_concat_getLast _).symm⟩
    have hq : q.length = d := by simpa using hp
    have h8q : ∀ x ∈ q, x.length = 8 := fun x hx => h8 x (by simp [hx])
    have hs8 : s.length = 8 := h8 s (by simp)
    have hb : 2 ^ d ≤ 2 ^ 20 := Nat.pow_le_pow_right (by decide) (by omega)
    have hsp := r1split_any d (by omega)
    have hM : 2 ^ (d + 1) = 2 * 2 ^ d := by rw [Nat.pow_succ]; omega
    refine PCall.enter mixed Tryz.func258 rfl Tryz.ntmps258 Tryz.results258 (by simp) (by kernel_rfl) ?_
    rw [hM] at hi hsp ⊢
    have h1 : (1 : Int) ≤ ((2 ^ d : Nat) : Int) := by have := Nat.two_pow_pos d; omega
    by_cases hlt : i < 2 ^ d
    · rw [fol_left hlt]
      generalize 2 ^ d = M at *
      simp only [Int.natCast_mul, Int.cast_ofNat_Int] at hsp
      simp [List.replicate, hl]
      refine ⟨fun e => by omega, fun _ => ?_⟩
      simp (decide := true)
      refine nextNC.use hsp (by simp) ?_
      simp (decide := true) [hq, hlt, hs8, List.take_of_length_le]
      refine ⟨by omega, by omega, by omega, by omega, ?_⟩
      rw [List.take_of_length_le (Nat.le_of_eq hl)]
      refine nextDC.use (ih leaf i q hl hlt hq h8q) (by simp) ?_
      have hf := followS_len leaf d i q
      simp [hs8, List.take_of_length_le]
      refine nextDC.use (r1Pair_any 18 _ s hf hs8) (by simp) ?_
      simp [List.take_of_length_le]
    · rw [fol_right hlt]
      generalize 2 ^ d = M at *
      simp only [Int.natCast_mul, Int.cast_ofNat_Int] at hsp
      simp [List.replicate, hl]
      refine ⟨fun e => by omega, fun _ => ?_⟩
      simp (decide := true)
      refine nextNC.use hsp (by simp) ?_
      simp (decide := true) [hq, hlt, hs8, List.take_of_length_le]
      refine ⟨by omega, by omega, by omega, by omega, by omega, by omega, ?_⟩
      rw [List.take_of_length_le (Nat.le_of_eq hl)]
      have e1 : (i : Int) - M = ((i - M : Nat) : Int) := by omega
      have e2 : 2 * (M : Int) - M = M := by omega
      rw [e1, e2]
      refine nextDC.use (ih leaf (i - M) q hl (by omega) hq h8q) (by simp) ?_
      have hf := followS_len leaf d (i - M) q
      simp
      refine nextDC.use (r1Pair_any 18 s _ hs8 hf) (by simp) ?_
      simp [List.take_of_length_le]
/-- Follow. -/
theorem r1Follow_any (d : Nat) (hd : d ≤ 20) (leaf : List UInt8) (i : Nat) (p : List (List UInt8)) (hl : leaf.length = 8) (hi : i < 2 ^ d) (hp : p.length = d) (h8 : ∀ x ∈ p, x.length = 8) : PCall Tryz.prog 212 [nmA leaf, .c (.int .i64 i), .c (.int .i64 ((2 ^ d : Nat) : Int)), namesA p] [] (fun x _ => Bd 0 x ∧ x = .tup [nmA (followS leaf d i p), .c (.bool true)]) := by
  have hD := r1Depth_any d (by omega) i
  have hC := r1follow_any d hd leaf i p hl hi hp h8
  refine PCall.enter mixed Tryz.func212 rfl Tryz.ntmps212 Tryz.results212 (by simp) (by kernel_rfl) ?_
  generalize 2 ^ d = M at *
  rw [if_pos ⟨by omega, by omega⟩] at hD
  simp [List.replicate]
  refine hD.use (by simp) ?_
  have hf := followS_len leaf d i p
  simp (decide := true) [hp, hl, List.take_of_length_le]
  refine hC.use (by simp) ?_
  simp [hf, List.take_of_length_le]
end

section
open Go.RowKit
set_option maxRecDepth 10000
attribute [-simp] List.map_take List.map_drop UInt8.ofNat_add List.map_flatten

inductive RuI (bs : List UInt8) (o : Nat) : Nat → List AV → List AObj → Prop
  | mk (i : Nat) (h : i ≤ 8) (m : Nat) (hm : m = 8 - i) : RuI bs o m ([bytesA bs, .c (.int .i64 o), .c (.int .i64 8), .any, .any, .any, .any, .any, .c (.int .u64 (be ((bs.drop o).take i))), .c (.int .i64 i)] ++ List.replicate 34 .any) []
/-- Uint of eight bytes that are there. -/
theorem r1Uint_8 (bs : List UInt8) (o : Nat) (hb : bs.length ≤ 100000) (ho : o + 8 ≤ bs.length) : PCall Tryz.prog 255 [bytesA bs, .c (.int .i64 o), .c (.int .i64 8)] [] (fun x _ => Bd 0 x ∧ x = .tup [.c (.int .u64 (be ((bs.drop o).take 8))), .c (.bool true)]) := by
  refine PCall.enter mixed Tryz.func255 rfl Tryz.ntmps255 Tryz.results255 (by simp) (by kernel_rfl) ?_
  simp [List.replicate]
  refine ⟨by omega, by omega, fun _ => ?_⟩
  obtain ⟨l, hl, hll⟩ : ∃ l, l = (bs.drop o).take 8 ∧ l.length = 8 := ⟨_, rfl, by simp; omega⟩
  refine W_loop (RuI bs o) 8 ?_ ?_
  · exact ⟨_, _, View.renum [] (by simp) (by simp) (by simp [List.replicate, be]), .mk 0 (by omega) _ rfl⟩
  rintro _ _ _ ⟨i, hi, m, hm⟩
  simp [List.replicate, -W_cond]
  by_cases hlt : i < 8
  · obtain ⟨c, hc⟩ : ∃ c, bs[o + i]? = some c := ⟨_, List.getElem?_eq_getElem (by omega)⟩
    have hc2 : (bs.drop o)[i]? = some c := by rw [List.getElem?_drop]; exact hc
    have hb1 := be_take_lt (bs.drop o) i
    have hb2 : be ((bs.drop o).take i) < 72057594037927936 := Nat.lt_of_lt_of_le hb1 (Nat.pow_le_pow_right (n := 256) (by decide) (show i ≤ 7 by omega))
    have hw : IntKind.u64.wrap (c.toNat : Int) = (c.toNat : Int) := wrap_u64_nat _ (by have := c.toNat_lt; omega)
    have e1 : ((o : Int) + i).toNat = o + i := by omega
    refine W_ifT (by simp; omega) ?_
    simp [e1, hc, hw, or_byte _ _ hb2]
    have := RuI.mk (bs := bs) (o := o) (i + 1) (by omega) _ rfl
    rw [be_take_succ _ _ _ hc2] at this
    exact ⟨by omega, by omega, by omega, _, by omega, _, _, View.renum [] (by simp) (by simp) (by simp [List.replicate]), this⟩
  · obtain rfl : i = 8 := by omega
    refine W_ifF (by simp) ?_
    simp
theorem ofV_be8 (a b c d e f g h : UInt8) : ofV ((be [a, b, c, d, e, f, g, h] : Nat) : Int) = [a, b, c, d, e, f, g, h] := by
  have ha := a.toNat_lt; have hb := b.toNat_lt; have hc := c.toNat_lt; have hd := d.toNat_lt
  have he := e.toNat_lt; have hf := f.toNat_lt; have hg := g.toNat_lt; have hh := h.toNat_lt
  have hbe : be [a, b, c, d, e, f, g, h] = ((((((a.toNat * 256 + b.toNat) * 256 + c.toNat) * 256 + d.toNat) * 256 + e.toNat) * 256 + f.toNat) * 256 + g.toNat) * 256 + h.toNat := by simp [be]
  have key : ∀ (x : UInt8) (z : Int), z = (x.toNat : Int) → UInt8.ofNat z.toNat = x := fun x z hz => by rw [hz]; simp
  unfold ofV
  rw [hbe]
  simp only [List.map_cons, List.map_nil]
  congr 1
  · exact key a _ (by omega)
  congr 1
  · exact key b _ (by omega)
  congr 1
  · exact key c _ (by omega)
  congr 1
  · exact key d _ (by omega)
  congr 1
  · exact key e _ (by omega)
  congr 1
  · exact key f _ (by omega)
  congr 1
  · exact key g _ (by omega)
  congr 1
  exact key h _ (by omega)
theorem ofV_be {l : List UInt8} (h : l.length = 8) : ofV ((be l : Nat) : Int) = l := by
  match l, h with
  | [a, b, c, d, e, f, g, h], _ => exact ofV_be8 a b c d e f g h
theorem or_i64 (a b : Nat) (ha : a % 2 ^ 8 = 0) (hb : b < 2 ^ 8) (h1 : a < 65536) : bits .or .i64 (a : Int) (b : Int) = ((a + b : Nat) : Int) := by
  have e1 : (BitVec.ofInt 64 (a : Int)).toNat = a := by rw [BitVec.toNat_ofInt]; omega
  have e2 : (BitVec.ofInt 64 (b : Int)).toNat = b := by rw [BitVec.toNat_ofInt]; omega
  have e : bits .or .i64 (a : Int) (b : Int) = IntKind.i64.wrap ((BitVec.ofInt 64 (a : Int) ||| BitVec.ofInt 64 (b : Int)).toNat : Nat) := rfl
  have hj : a ||| b = a + b := by
    obtain ⟨q, rfl⟩ : ∃ q, a = 2 ^ 8 * q := ⟨a / 2 ^ 8, by omega⟩
    exact (Nat.two_pow_add_eq_or_of_lt hb q).symm
  rw [e, BitVec.toNat_or, e1, e2, hj]
  exact inr64_wrap (by simp [inr64]; omega)
theorem two_i64 (x y : UInt8) : bits .or .i64 (IntKind.i64.wrap (IntKind.i64.wrap (x.toNat : Int) * 256)) (IntKind.i64.wrap (y.toNat : Int)) = ((x.toNat * 256 + y.toNat : Nat) : Int) := by
  have hx := x.toNat_lt
  have hy := y.toNat_lt
  rw [inr64_wrap (z := (x.toNat : Int)) (by simp [inr64]; omega), inr64_wrap (by simp [inr64]; omega), inr64_wrap (by simp [inr64]; omega)]
  have := or_i64 (x.toNat * 256) y.toNat (by omega) (by omega) (by omega)
  rw [← this]
  congr 1
inductive RlI (bs : List UInt8) (o n : Nat) : Nat → List AV → List AObj → Prop
  | mk (i : Nat) (h : i ≤ n) (m : Nat) (hm : m = n - i) : RlI bs o n m ([bytesA bs, .c (.int .i64 o), .c (.int .i64 n), .any, .any, .any, .any, .own 0 0 i 8, .c (.int .i64 i)] ++ List.replicate 22 .any) [.row 34 false ((namesS bs o i).flatten.map byteA)]
/-- list. -/
theorem r1list_any (bs : List UInt8) (o n : Nat) (hb : bs.length ≤ 100000) (hn : n ≤ 1000) (h : o + 8 * n ≤ bs.length) : PCall Tryz.prog 211 [bytesA bs, .c (.int .i64 o), .c (.int .i64 n)] [] (fun x _ => Bd 0 x ∧ x = namesA (namesS bs o n)) := by
  refine PCall.viewR (PCall.enter mixed Tryz.func211 rfl Tryz.ntmps211 Tryz.results211 (by simp) (by kernel_rfl) ?_)
  simp [List.replicate]
  refine W_loop (RlI bs o n) n ?_ ?_
  · refine ⟨_, _, ?_, .mk 0 (by omega) _ rfl⟩
    exact View.virt (H := []) 34 rfl (Pw.at_ (by simp [List.replicate])).2
  rintro _ _ _ ⟨i, hi, m, hm⟩
  have hfl : (namesS bs o i).flatten.length = 8 * i := by rw [flatten_len (namesS_8 (by omega)), namesS_len]
  simp [List.replicate, -W_cond]
  by_cases hlt : i < n
  · have hU := r1Uint_8 bs (o + 8 * i) hb (by omega)
    have hw8 : ((bs.drop (o + 8 * i)).take 8).length = 8 := by simp; omega
    refine W_ifT (by simp; omega) ?_
    simp
    refine ⟨by omega, by omega, ?_⟩
    rw [show (o : Int) + 8 * i = ((o + 8 * i : Nat) : Int) by omega]
    refine hU.use (by simp) ?_
    simp
    refine (r1Of_any _).use (by simp) ?_
    rw [ofV_be hw8]
    simp [hfl, hw8]
    have := RlI.mk (bs := bs) (o := o) (n := n) (i + 1) (by omega) _ rfl
    rw [namesS_succ, List.flatten_append, List.map_append] at this
    refine ⟨by omega, by omega, _, ?_, _, _, View.renum [2] (by simp) ?_ ?_, this⟩
    · omega
    · simp [hfl, hw8, Nat.mul_comm i 8, List.take_of_length_le]
      rintro a (⟨b, -, rfl⟩ | ⟨b, -, rfl⟩) <;> exact .c _
    · simp [List.replicate]
  · obtain rfl : i = n := by omega
    refine W_ifF (by simp) ?_
    simp
    have := Fz_nms (id := 0) (ext := []) (namesS_len bs o i) (namesS_8 h)
    rw [List.append_nil] at this
    exact ⟨_, View.fz1 (id := 0) rfl this⟩
/-- Size of two levels. -/
theorem r1Size_2 : PCall Tryz.prog 208 [.c (.int .i64 2)] [] (fun x _ => Bd 0 x ∧ x = .c (.int .i64 370)) := by
  refine PCall.enter mixed Tryz.func208 rfl Tryz.ntmps208 Tryz.results208 (by simp) (by kernel_rfl) ?_
  simp [List.replicate]
/-- Capacity of two levels. -/
theorem r1Capacity_2 : PCall Tryz.prog 209 [.c (.int .i64 2)] [] (fun x _ => Bd 0 x ∧ x = .c (.int .i64 1024)) := by
  refine PCall.enter mixed Tryz.func209 rfl Tryz.ntmps209 Tryz.results209 (by simp) (by kernel_rfl) ?_
  simp [List.replicate]
/-- Verify at two levels. -/
theorem r1Verify_any (pub m b : List UInt8) (hp : pub.length = 8) (hm : m.length = 8) (hb : b.length ≤ 100000) : PCall Tryz.prog 138 [nmA pub, .c (.int .i64 2), nmA m, bytesA b] [] (fun x _ => Bd 0 x ∧ x = .c (.bool (verS pub m b))) := by
  refine PCall.enter mixed Tryz.func138 rfl Tryz.ntmps138 Tryz.results138 (by simp) (by kernel_rfl) ?_
  simp [List.replicate]
  refine r1Size_2.use (by simp) ?_
  by_cases h3 : b.length = 370
  · have e3 : (b.length : Int) = 370 := by omega
    simp [e3, -W_cond]
    refine W_ifF (by simp) ?_
    obtain ⟨x, y, r, hr⟩ : ∃ x y r, b = x :: y :: r := by
      match b, h3 with
      | x :: y :: r, _ => exact ⟨x, y, r, rfl⟩
    have g0 : ∀ h, b[0]'h = x := fun h => by simp [hr]
    have g1 : ∀ h, b[1]'h = y := fun h => by simp [hr]
    simp (decide := true) [h3, g0, g1, -W_cond]
    refine r1Capacity_2.use (by simp) ?_
    simp [-W_cond]
    have hl : leafS b = x.toNat * 256 + y.toNat := by simp [leafS, hr, be]
    have hlt : leafS b < 65536 := by have := x.toNat_lt; have := y.toNat_lt; omega
    rw [two_i64, ← hl]
    obtain ⟨n, hn⟩ : ∃ n, leafS b = n := ⟨_, rfl⟩
    have hv : verS pub m b = (decide (n < 1024) && decide (climbS b 186 (n / 32) (climbS b 2 (n % 32) m) = pub)) := by simp [verS, h3, hn]
    rw [hn] at hlt ⊢
    by_cases h4 : n < 1024
    · simp [h4, hv, -W_cond]
      obtain ⟨j, hj⟩ : ∃ j, n % 32 = j := ⟨_, rfl⟩
      obtain ⟨k, hk⟩ : ∃ k, n / 32 = k := ⟨_, rfl⟩
      have e1 : (n : Int).tmod 32 = (j : Int) := by rw [Int.tmod_eq_emod_of_nonneg (by omega)]; omega
      have e2 : IntKind.i64.wrap ((n : Int) / 32) = (k : Int) := by rw [inr64_wrap (by simp [inr64]; omega)]; omega
      rw [hj, hk]
      have hL1 := r1list_any b 2 18 hb (by decide) (by omega)
      have hL2 := r1list_any b 146 5 hb (by decide) (by omega)
      have hL3 := r1list_any b 186 18 hb (by decide) (by omega)
      have hL4 := r1list_any b 330 5 hb (by decide) (by omega)
      have hR1 := r1OneRecover_any m hm (namesS b 2 18) (namesS_len _ _ _) (namesS_8 (by omega))
      have hF1 := r1Follow_any 5 (by decide) (recoverS m (namesS b 2 18)) j (namesS b 146 5) (recoverS_len _ _) (by omega) (namesS_len _ _ _) (namesS_8 (by omega))
      have hc1 : followS (recoverS m (namesS b 2 18)) 5 j (namesS b 146 5) = climbS b 2 j m := rfl
      have l1 := recoverS_len m (namesS b 2 18)
      have l2 := climbS_len b 2 j m
      rw [hc1] at hF1
      have hR2 := r1OneRecover_any (climbS b 2 j m) l2 (namesS b 186 18) (namesS_len _ _ _) (namesS_8 (by omega))
      have hF2 := r1Follow_any 5 (by decide) (recoverS (climbS b 2 j m) (namesS b 186 18)) k (namesS b 330 5) (recoverS_len _ _) (by omega) (namesS_len _ _ _) (namesS_8 (by omega))
      have hc2 : followS (recoverS (climbS b 2 j m) (namesS b 186 18)) 5 k (namesS b 330 5) = climbS b 186 k (climbS b 2 j m) := rfl
      rw [hc2] at hF2
      have l3 := recoverS_len (climbS b 2 j m) (namesS b 186 18)
      have l4 := climbS_len b 186 k (climbS b 2 j m)
      rw [show ((2 ^ 5 : Nat) : Int) = 32 from rfl] at hF1 hF2
      refine W_ifF (by simp; omega) ?_
      simp (decide := true) [hm, List.take_of_length_le]
      refine nextNC.use hL1 (by simp) ?_
      simp (decide := true)
      refine nextNC.use hR1 (by simp) ?_
      simp (decide := true) [hm, l1, e1, List.take_of_length_le]
      refine nextNC.use hL2 (by simp) ?_
      simp (decide := true)
      refine nextNC.use hF1 (by simp) ?_
      simp (decide := true) [l1, l2, hp, e1, List.take_of_length_le]
      refine nextNC.use hL3 (by simp) ?_
      simp (decide := true)
      refine nextNC.use hR2 (by simp) ?_
      simp (decide := true) [l2, l3, e2, List.take_of_length_le]
      refine nextNC.use hL4 (by simp) ?_
      simp (decide := true)
      refine nextNC.use hF2 (by simp) ?_
      simp (decide := true) [l3, l4, hp, e2, List.take_of_length_le]
    · simp [h4, hv]
      exact fun h => absurd h (by omega)
  · have e3 : ¬ (b.length : Int) = 370 := by omega
    simp [e3, verS, h3]
end

section
open Go.RowKit
set_option maxRecDepth 10000
attribute [-simp] List.map_take List.map_drop UInt8.ofNat_add List.map_flatten

theorem agreement_any (k : Int) : PCall Tryz.prog 141 [.c (.int .i64 k)] [] (fun x _ => Bd 0 x ∧ x = .c (.bool (decide (1 ≤ k ∧ k ≤ 4)))) := by
  refine PCall.enter mixed Tryz.func141 rfl Tryz.ntmps141 Tryz.results141 (by simp) (by kernel_rfl) ?_
  simp [List.replicate]
  refine ⟨fun h => by simp [h], fun h => by omega⟩
set_option maxHeartbeats 4000000 in
/-- Valid. -/
theorem r6Valid_any (v : VoteS) (h : v.Fit) : PCall Tryz.prog 95 [vA v] [] (fun x _ => Bd 0 x ∧ x = .c (.bool (validB v))) := by
  have u0 := h.support
  have p8 := h.parent
  have x8 := h.value
  refine PCall.enter mixed Tryz.func95 rfl Tryz.ntmps95 Tryz.results95 (by simp) (by kernel_rfl) ?_
  by_cases a1 : 1 ≤ v.kind
  rotate_left
  · have hf : validB v = false := validB_no fun hv => a1 hv.1
    have b1 : v.kind < 1 := by omega
    simp [List.replicate, vA, vC, p8, x8, b1, hf, -W_cond]
    refine W_ifT (by simp) ?_
    simp
  have b1 : ¬ v.kind < 1 := by omega
  by_cases a2 : v.kind ≤ 7
  rotate_left
  · have hf : validB v = false := validB_no fun hv => a2 hv.2.1
    have b2 : 7 < v.kind := by omega
    simp [List.replicate, vA, vC, p8, x8, b1, b2, hf, -W_cond]
    refine W_ifT (by simp) ?_
    simp
  have b2 : ¬ 7 < v.kind := by omega
  by_cases a3 : 0 ≤ v.signer
  rotate_left
  · have hf : validB v = false := validB_no fun hv => a3 hv.2.2.1
    have b3 : v.signer < 0 := by omega
    simp [List.replicate, vA, vC, p8, x8, b1, b2, b3, hf, -W_cond]
    refine W_ifT (by simp) ?_
    simp
  have b3 : ¬ v.signer < 0 := by omega
  by_cases a4 : v.signer ≤ 9
  rotate_left
  · have hf : validB v = false := validB_no fun hv => a4 hv.2.2.2.1
    have b4 : 10 ≤ v.signer := by omega
    simp [List.replicate, vA, vC, p8, x8, b1, b2, b3, b4, hf, -W_cond]
    refine W_ifT (by simp) ?_
    simp
  have b4 : ¬ 10 ≤ v.signer := by omega
  by_cases a5 : bits .andNot .i64 v.support 1023 = 0
  rotate_left
  · have hf : validB v = false := validB_no fun hv => a5 ((sup_iff u0).2 ⟨hv.2.2.2.2.1, hv.2.2.2.2.2.1⟩)
    simp [List.replicate, vA, vC, p8, x8, b1, b2, b3, b4, a5, hf, -W_cond]
    refine W_ifT (by simp) ?_
    simp
  have hm := (sup_iff u0).1 a5
  simp [List.replicate, vA, vC, p8, x8, b1, b2, b3, b4, a5, -W_cond]
  refine W_ifF (by simp) ?_
  simp [-W_cond]
  refine (agreement_any _).use (by simp) ?_
  by_cases ag : v.kind ≤ 4
  · rw [decide_eq_true (⟨a1, ag⟩ : 1 ≤ v.kind ∧ v.kind ≤ 4)]
    by_cases s1 : 0 ≤ v.slot ∧ v.slot ≤ 9
    rotate_left
    · have hf : validB v = false := validB_no fun hv => s1 ⟨hv.2.2.2.2.2.2.2.1, by have := hv.2.2.2.2.2.2.2.2.1; unfold slotsOf at this; rwa [if_pos ag] at this⟩
      by_cases s2 : v.slot < 0
      · simp [s2, hf, -W_cond]
        refine W_ifT (by simp) ?_
        simp
      · have s3 : 10 ≤ v.slot := by omega
        simp [s2, s3, hf, -W_cond]
        refine W_ifT (by simp) ?_
        simp
    have s2 : ¬ v.slot < 0 := by omega
    have s3 : ¬ 10 ≤ v.slot := by omega
    simp [s2, s3, -W_cond]
    refine (agreement_any _).use (by simp) ?_
    rw [decide_eq_true (⟨a1, ag⟩ : 1 ≤ v.kind ∧ v.kind ≤ 4)]
    simp [-W_cond]
    refine W_ifF (by simp) ?_
    by_cases hcv : v.choice = 1 ↔ v.value ≠ zero8
    rotate_left
    · have hf : validB v = false := validB_no fun hv => hcv hv.2.2.2.2.2.2.1
      have hd : (decide (v.value = zero8) == decide (v.choice = 1)) = true := by by_cases a : v.choice = 1 <;> by_cases b : v.value = zero8 <;> simp_all
      simp (decide := true) [p8, x8, z8A, z8B, hd, hf, List.take_of_length_le, -W_cond]
      refine W_ifT (by simp) ?_
      simp
    have hd : (decide (v.value = zero8) == decide (v.choice = 1)) = false := by by_cases a : v.choice = 1 <;> by_cases b : v.value = zero8 <;> simp_all
    simp (decide := true) [p8, x8, z8A, z8B, hd, List.take_of_length_le, -W_cond]
    refine W_ifF (by simp) ?_
    by_cases k3 : v.kind = 3
    · have hV : validB v = decide ((1 ≤ v.round ∧ v.round ≤ 12) ∧ (0 ≤ v.choice ∧ v.choice ≤ 1) ∧ (v.round ≠ 1 ∨ v.choice ≠ 0 ∨ v.support = 0)) := by
        simp only [validB]
        refine decide_eq_decide.2 ?_
        simp only [ValidP, roundsOk, slotsOf, k3]
        constructor
        · rintro ⟨-, -, -, -, -, -, -, a, b, c⟩; exact ⟨⟨c.1, c.2.1⟩, ⟨c.2.2.1, c.2.2.2.1⟩, c.2.2.2.2⟩
        · rintro ⟨b, c, e⟩; exact ⟨by decide, by decide, a3, a4, hm.1, hm.2, hcv, s1.1, by simpa using s1.2, b.1, b.2, c.1, c.2, e⟩
      simp [k3, -W_cond]
      refine W_ifT (by simp) ?_
      rw [hV]
      by_cases q1 : 1 ≤ v.round
      rotate_left
      · simp [q1]
      by_cases q2 : v.round ≤ 12
      rotate_left
      · simp [q1, q2]
      by_cases q3 : v.choice = 0
      · by_cases q4 : v.round = 1
        · by_cases q5 : v.support = 0
          · simp [q3, q4, q5]
          · simp [q3, q4, q5]
        · simp [q1, q2, q3, q4]
      · by_cases q4 : v.choice = 1
        · by_cases q5 : v.round = 1
          · simp [q4, q5]
          · simp [q1, q2, q4, q5]
        · have q6 : ¬ (0 ≤ v.choice ∧ v.choice ≤ 1) := by omega
          simp [q1, q2, q3, q4]
          omega
    · by_cases k4 : v.kind = 4
      · have hV : validB v = decide ((1 ≤ v.round ∧ v.round ≤ 12) ∧ 0 ≤ v.choice ∧ v.choice ≤ 2) := by
          simp only [validB]
          refine decide_eq_decide.2 ?_
          simp only [ValidP, roundsOk, slotsOf, k4]
          constructor
          · rintro ⟨-, -, -, -, -, -, -, a, b, c⟩; simpa [and_assoc] using c
          · rintro ⟨b, c⟩; exact ⟨by decide, by decide, a3, a4, hm.1, hm.2, hcv, s1.1, by simpa using s1.2, by simp [b.1, b.2, c.1, c.2]⟩
        simp [k4, -W_cond]
        refine W_ifF (by simp) ?_
        simp [-W_cond]
        refine W_ifT (by simp) ?_
        simp
        rw [hV]
        exact ⟨fun a => ⟨fun b => ⟨fun c => by simp [a, b, c], fun c => by simp; omega⟩, fun b => by simp; omega⟩, fun a => by simp; omega⟩
      · have hV : validB v = decide (v.round = 0 ∧ v.choice = 1 ∧ v.support = 0) := by
          simp only [validB]
          refine decide_eq_decide.2 ?_
          simp only [ValidP, roundsOk, slotsOf, if_neg k3, if_neg k4, if_pos ag]
          constructor
          · rintro ⟨-, -, -, -, -, -, -, a, b, c⟩; exact ⟨c.1, c.2.2, c.2.1⟩
          · rintro ⟨b, c, e⟩; exact ⟨a1, a2, a3, a4, hm.1, hm.2, hcv, s1.1, s1.2, b, e, c⟩
        simp [k3, -W_cond]
        refine W_ifF (by simp) ?_
        simp [k4, -W_cond]
        refine W_ifF (by simp) ?_
        simp
        rw [hV]
        exact ⟨fun a => ⟨fun b => by simp [a, b], fun b => by simp [a, b]⟩, fun a => by simp [a]⟩
  · have ag' : ¬ (1 ≤ v.kind ∧ v.kind ≤ 4) := fun h => ag h.2
    rw [decide_eq_false ag']
    simp [-W_cond]
    refine (agreement_any _).use (by simp) ?_
    rw [decide_eq_false ag']
    by_cases s1 : v.slot = 0
    rotate_left
    · have hf : validB v = false := validB_no fun hv => s1 (by have := hv.2.2.2.2.2.2.2.1; have h2 := hv.2.2.2.2.2.2.2.2.1; unfold slotsOf at h2; rw [if_neg ag] at h2; omega)
      simp [s1, hf, -W_cond]
      refine W_ifT (by simp) ?_
      simp
    simp [s1, -W_cond]
    refine W_ifF (by simp) ?_
    by_cases hcv : v.choice = 1 ↔ v.value ≠ zero8
    rotate_left
    · have hf : validB v = false := validB_no fun hv => hcv hv.2.2.2.2.2.2.1
      have hd : (decide (v.value = zero8) == decide (v.choice = 1)) = true := by by_cases a : v.choice = 1 <;> by_cases b : v.value = zero8 <;> simp_all
      simp (decide := true) [p8, x8, z8A, z8B, hd, hf, List.take_of_length_le, -W_cond]
      refine W_ifT (by simp) ?_
      simp
    have hd : (decide (v.value = zero8) == decide (v.choice = 1)) = false := by by_cases a : v.choice = 1 <;> by_cases b : v.value = zero8 <;> simp_all
    simp (decide := true) [p8, x8, z8A, z8B, hd, List.take_of_length_le, -W_cond]
    refine W_ifF (by simp) ?_
    have k3 : ¬ v.kind = 3 := by omega
    have k4 : ¬ v.kind = 4 := by omega
    have hV : validB v = decide (v.round = 0 ∧ v.choice = 1 ∧ v.support = 0) := by
      simp only [validB]
      refine decide_eq_decide.2 ?_
      simp only [ValidP, roundsOk, slotsOf, if_neg k3, if_neg k4, if_neg ag, s1]
      constructor
      · rintro ⟨-, -, -, -, -, -, -, a, b, c⟩; exact ⟨c.1, c.2.2, c.2.1⟩
      · rintro ⟨b, c, e⟩; exact ⟨a1, a2, a3, a4, hm.1, hm.2, hcv, by decide, by decide, b, e, c⟩
    simp [k3, -W_cond]
    refine W_ifF (by simp) ?_
    simp [k4, -W_cond]
    refine W_ifF (by simp) ?_
    simp
    rw [hV]
    exact ⟨fun a => ⟨fun b => by simp [a, b], fun b => by simp [a, b]⟩, fun a => by simp [a]⟩
end
end Go.Proofs.YthknobbilcolnaaGreat
