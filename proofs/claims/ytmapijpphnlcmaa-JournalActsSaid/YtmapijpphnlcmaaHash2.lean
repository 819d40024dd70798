/- The hash functions of package hash and of the reference: names of numbers, words. No condition. -/
import Derived.Test.YtmapijpphnlcmaaHash1
import Derived.Deep.QuietTactic
import Derived.BigQuiet
namespace Go.Proofs.Ytmapijpphnlcmaa
open Go.RowKit

/-- A name (an array of 8 bytes) as a value. -/
abbrev nameV (l : List UInt8) : Value := .agg (l.map byteV).toArray

theorem wrap_byte (z : Int) : Value.int .u8 (IntKind.u8.wrap z) = byteV (UInt8.ofNat (z % 256).toNat) := by
  have h1 := Int.emod_nonneg z (b := 256) (by omega)
  have h2 := Int.emod_lt_of_pos z (b := 256) (by omega)
  have : ((UInt8.ofNat (z % 256).toNat).toNat : Int) = z % 256 := by
    rw [UInt8.toNat_ofNat_of_lt' (by simp [UInt8.size]; omega)]
    omega
  rw [IntKind.wrap_u8', byteV, this]

set_option maxRecDepth 100000 in
theorem hOf_any (v : Int) (w : World) : Calls Try.prog 89 #[u64V v] w fun e w' => e = .returned (nameV (ofV v)) ∧ Upd NoF w w' := by
  go_enter Try.func89, Try.ntmps89
  go_wp2
  refine bodyPost_ret (v := nameV (ofV v)) (by simp [results, Try.results89, go_sem, ofV]; omega) rfl ⟨rfl, ?_⟩
  exact (Upd.refl NoF w).alloc _
set_option maxRecDepth 100000 in
theorem r1Of_any (v : Int) (w : World) : Calls Try.prog 92 #[u64V v] w fun e w' => e = .returned (nameV (ofV v)) ∧ Upd NoF w w' := by
  go_enter Try.func92, Try.ntmps92
  go_wp2
  refine bodyPost_ret (v := nameV (ofV v)) (by simp [results, Try.results92, go_sem, ofV]; omega) rfl ⟨rfl, ?_⟩
  exact (Upd.refl NoF w).alloc _

/-! ### words -/
theorem word8 (b0 b1 b2 b3 b4 b5 b6 b7 : UInt8) (l : List UInt8) :
    bits .or .u64 (bits .or .u64 (bits .or .u64 (bits .or .u64 (bits .or .u64 (bits .or .u64 (bits .or .u64 (IntKind.u64.wrap ((b0.toNat : Int) * 72057594037927936)) (IntKind.u64.wrap ((b1.toNat : Int) * 281474976710656))) (IntKind.u64.wrap ((b2.toNat : Int) * 1099511627776))) (IntKind.u64.wrap ((b3.toNat : Int) * 4294967296)))
      (IntKind.u64.wrap ((b4.toNat : Int) * 16777216))) (IntKind.u64.wrap ((b5.toNat : Int) * 65536))) (IntKind.u64.wrap ((b6.toNat : Int) * 256))) (b7.toNat : Int) = ((wordN (b0 :: b1 :: b2 :: b3 :: b4 :: b5 :: b6 :: b7 :: l) : Nat) : Int) := by
  have h0 := b0.toNat_lt
  have h1 := b1.toNat_lt
  have h2 := b2.toNat_lt
  have h3 := b3.toNat_lt
  have h4 := b4.toNat_lt
  have h5 := b5.toNat_lt
  have h6 := b6.toNat_lt
  have h7 := b7.toNat_lt
  have e0 : IntKind.u64.wrap ((b0.toNat : Int) * 72057594037927936) = ((b0.toNat * 256 ^ (8 - 1) : Nat) : Int) := by
    rw [show ((b0.toNat : Int) * 72057594037927936) = ((b0.toNat * 256 ^ (8 - 1) : Nat) : Int) by omega]
    exact wrap_u64_nat _ (by omega)
  have s1 := or_place b0.toNat 1 b1 (by omega) (by omega)
  have s2 := or_place (b0.toNat * 256 + b1.toNat) 2 b2 (by omega) (by omega)
  have s3 := or_place ((b0.toNat * 256 + b1.toNat) * 256 + b2.toNat) 3 b3 (by omega) (by omega)
  have s4 := or_place (((b0.toNat * 256 + b1.toNat) * 256 + b2.toNat) * 256 + b3.toNat) 4 b4 (by omega) (by omega)
  have s5 := or_place ((((b0.toNat * 256 + b1.toNat) * 256 + b2.toNat) * 256 + b3.toNat) * 256 + b4.toNat) 5 b5 (by omega) (by omega)
  have s6 := or_place (((((b0.toNat * 256 + b1.toNat) * 256 + b2.toNat) * 256 + b3.toNat) * 256 + b4.toNat) * 256 + b5.toNat) 6 b6 (by omega) (by omega)
  have s7 := or_place ((((((b0.toNat * 256 + b1.toNat) * 256 + b2.toNat) * 256 + b3.toNat) * 256 + b4.toNat) * 256 + b5.toNat) * 256 + b6.toNat) 7 b7 (by omega) (by omega)
  have k1 : (281474976710656 : Int) = 2 ^ (56 - 8 * 1) := rfl
  have k2 : (1099511627776 : Int) = 2 ^ (56 - 8 * 2) := rfl
  have k3 : (4294967296 : Int) = 2 ^ (56 - 8 * 3) := rfl
  have k4 : (16777216 : Int) = 2 ^ (56 - 8 * 4) := rfl
  have k5 : (65536 : Int) = 2 ^ (56 - 8 * 5) := rfl
  have k6 : (256 : Int) = 2 ^ (56 - 8 * 6) := rfl
  have k7 : (b7.toNat : Int) = IntKind.u64.wrap ((b7.toNat : Int) * 2 ^ (56 - 8 * 7)) := by
    rw [show ((b7.toNat : Int) * 2 ^ (56 - 8 * 7)) = ((b7.toNat : Nat) : Int) by omega, wrap_u64_nat _ (by omega)]
  rw [e0, k1, s1, k2, s2, k3, s3, k4, s4, k5, s5, k6, s6]
  rw [show bits .or .u64 ((((((((b0.toNat * 256 + b1.toNat) * 256 + b2.toNat) * 256 + b3.toNat) * 256 + b4.toNat) * 256 + b5.toNat) * 256 + b6.toNat) * 256 ^ (7 - 6) : Nat) : Int) (b7.toNat : Int) = _ from (congrArg (bits .or .u64 _) k7).trans s7]
  have hl : 256 ^ (8 - (b0 :: b1 :: b2 :: b3 :: b4 :: b5 :: b6 :: b7 :: l).length) = 1 := by
    rw [show 8 - (b0 :: b1 :: b2 :: b3 :: b4 :: b5 :: b6 :: b7 :: l).length = 0 by simp]
  unfold wordN
  rw [hl]
  simp [be]

theorem wrap_u64_byte (b : UInt8) : IntKind.u64.wrap (b.toNat : Int) = b.toNat := by
  have := b.toNat_lt
  exact wrap_u64_nat _ (by omega)
theorem word8w (b0 b1 b2 b3 b4 b5 b6 b7 : UInt8) (l : List UInt8) :
    bits .or .u64 (bits .or .u64 (bits .or .u64 (bits .or .u64 (bits .or .u64 (bits .or .u64 (bits .or .u64 (IntKind.u64.wrap ((IntKind.u64.wrap (b0.toNat : Int)) * 72057594037927936)) (IntKind.u64.wrap ((IntKind.u64.wrap (b1.toNat : Int)) * 281474976710656))) (IntKind.u64.wrap ((IntKind.u64.wrap (b2.toNat : Int)) * 1099511627776))) (IntKind.u64.wrap ((IntKind.u64.wrap (b3.toNat : Int)) * 4294967296)))
      (IntKind.u64.wrap ((IntKind.u64.wrap (b4.toNat : Int)) * 16777216))) (IntKind.u64.wrap ((IntKind.u64.wrap (b5.toNat : Int)) * 65536))) (IntKind.u64.wrap ((IntKind.u64.wrap (b6.toNat : Int)) * 256))) (IntKind.u64.wrap (b7.toNat : Int)) = ((wordN (b0 :: b1 :: b2 :: b3 :: b4 :: b5 :: b6 :: b7 :: l) : Nat) : Int) := by
  simp only [wrap_u64_byte]
  exact word8 b0 b1 b2 b3 b4 b5 b6 b7 l

theorem eight (bs : List UInt8) (h : 8 ≤ bs.length) : ∃ b0 b1 b2 b3 b4 b5 b6 b7 l, bs = b0 :: b1 :: b2 :: b3 :: b4 :: b5 :: b6 :: b7 :: l := by
  match bs, h with
  | b0 :: b1 :: b2 :: b3 :: b4 :: b5 :: b6 :: b7 :: l, _ => exact ⟨b0, b1, b2, b3, b4, b5, b6, b7, l, rfl⟩

/-- The cells of a slice of bytes. -/
theorem rd_cells {w : World} {A : Option Addr} {n c : Nat} {bs : List UInt8} (h : Rd w 1 (.slice A n c) n (bs.map byteV)) (h0 : 0 < n) : ∃ g o, A = some ⟨g, o, none⟩ ∧ ∀ j b, bs[j]? = some b → w.cell? ⟨g, o + j, none⟩ = some (byteV b) := by
  obtain ⟨A', c', e, _, _, hl, hx⟩ := h
  obtain ⟨g, o, e', hc⟩ := hx h0
  injection e with e
  exact ⟨g, o, e.trans e', fun j b hb => hc j _ (by rw [List.getElem?_map, hb]; rfl)⟩

set_option maxRecDepth 100000 in
set_option maxHeartbeats 2000000 in
theorem hword_long {w : World} {v : Value} {bs : List UInt8} (h : Rd w 1 v bs.length (bs.map byteV)) (h8 : 8 ≤ bs.length) : Calls Try.prog 87 #[v] w fun e w' => e = .returned (u64V (wordN bs)) ∧ Upd NoF w w' := by
  obtain ⟨A, c, rfl, _⟩ := id h
  obtain ⟨g, o, rfl, hc⟩ := rd_cells h (by omega)
  obtain ⟨b0, b1, b2, b3, b4, b5, b6, b7, l, rfl⟩ := eight bs h8
  have W := Lib.hid (word8w b0 b1 b2 b3 b4 b5 b6 b7 l)
  have q0 : w.cell? ⟨g, o, none⟩ = some (byteV b0) := hc 0 b0 rfl
  have q1 := hc 1 b1 rfl
  have q2 := hc 2 b2 rfl
  have q3 := hc 3 b3 rfl
  have q4 := hc 4 b4 rfl
  have q5 := hc 5 b5 rfl
  have q6 := hc 6 b6 rfl
  have q7 := hc 7 b7 rfl
  generalize hN : wordN (b0 :: b1 :: b2 :: b3 :: b4 :: b5 :: b6 :: b7 :: l) = N at W ⊢
  generalize (b0 :: b1 :: b2 :: b3 :: b4 :: b5 :: b6 :: b7 :: l).length = n at h8 ⊢
  have t0 : decide ((8 : Int) ≤ n) = true := by simp; omega
  have z0 : (0 : Int) < n := by omega
  have z1 : (1 : Int) < n := by omega
  have z2 : (2 : Int) < n := by omega
  have z3 : (3 : Int) < n := by omega
  have z4 : (4 : Int) < n := by omega
  have z5 : (5 : Int) < n := by omega
  have z6 : (6 : Int) < n := by omega
  have z7 : (7 : Int) < n := by omega
  have y0 : 0 < n := by omega
  have y1 : 1 < n := by omega
  have y2 : 2 < n := by omega
  have y3 : 3 < n := by omega
  have y4 : 4 < n := by omega
  have y5 : 5 < n := by omega
  have y6 : 6 < n := by omega
  have y7 : 7 < n := by omega
  clear h hc hN
  go_enter Try.func87, Try.ntmps87
  go_wp2
  go_quiet (fail)
  go_wp2
  go_ret
  refine ⟨?_, (Upd.refl NoF w).drewN _⟩
  rw [← W.out]
  rfl

set_option maxRecDepth 100000 in
set_option maxHeartbeats 2000000 in
theorem r1word_long {w : World} {v : Value} {bs : List UInt8} (h : Rd w 1 v bs.length (bs.map byteV)) (h8 : 8 ≤ bs.length) : Calls Try.prog 90 #[v] w fun e w' => e = .returned (u64V (wordN bs)) ∧ Upd NoF w w' := by
  obtain ⟨A, c, rfl, _⟩ := id h
  obtain ⟨g, o, rfl, hc⟩ := rd_cells h (by omega)
  obtain ⟨b0, b1, b2, b3, b4, b5, b6, b7, l, rfl⟩ := eight bs h8
  have W := Lib.hid (word8w b0 b1 b2 b3 b4 b5 b6 b7 l)
  have q0 : w.cell? ⟨g, o, none⟩ = some (byteV b0) := hc 0 b0 rfl
  have q1 := hc 1 b1 rfl
  have q2 := hc 2 b2 rfl
  have q3 := hc 3 b3 rfl
  have q4 := hc 4 b4 rfl
  have q5 := hc 5 b5 rfl
  have q6 := hc 6 b6 rfl
  have q7 := hc 7 b7 rfl
  generalize hN : wordN (b0 :: b1 :: b2 :: b3 :: b4 :: b5 :: b6 :: b7 :: l) = N at W ⊢
  generalize (b0 :: b1 :: b2 :: b3 :: b4 :: b5 :: b6 :: b7 :: l).length = n at h8 ⊢
  have t0 : decide ((8 : Int) ≤ n) = true := by simp; omega
  have z0 : (0 : Int) < n := by omega
  have z1 : (1 : Int) < n := by omega
  have z2 : (2 : Int) < n := by omega
  have z3 : (3 : Int) < n := by omega
  have z4 : (4 : Int) < n := by omega
  have z5 : (5 : Int) < n := by omega
  have z6 : (6 : Int) < n := by omega
  have z7 : (7 : Int) < n := by omega
  have y0 : 0 < n := by omega
  have y1 : 1 < n := by omega
  have y2 : 2 < n := by omega
  have y3 : 3 < n := by omega
  have y4 : 4 < n := by omega
  have y5 : 5 < n := by omega
  have y6 : 6 < n := by omega
  have y7 : 7 < n := by omega
  clear h hc hN
  go_enter Try.func90, Try.ntmps90
  go_wp2
  go_quiet (fail)
  go_wp2
  go_ret
  refine ⟨?_, (Upd.refl NoF w).drewN _⟩
  rw [← W.out]
  rfl

def WordRel (bs : List UInt8) (x i : Value) : Prop := ∃ k : Nat, k ≤ bs.length ∧ i = .int .i64 k ∧ x = u64V ((be (bs.take k) * 256 ^ (8 - k) : Nat) : Int)

set_option maxRecDepth 100000 in
set_option maxHeartbeats 2000000 in
theorem r1word_short {w : World} {v : Value} {bs : List UInt8} (h : Rd w 1 v bs.length (bs.map byteV)) (h8 : bs.length < 8) : Calls Try.prog 90 #[v] w fun e w' => e = .returned (u64V (wordN bs)) ∧ Upd NoF w w' := by
  obtain ⟨A, c, rfl, _⟩ := id h
  have H := Lib.hid h
  have t0 : decide ((8 : Int) ≤ bs.length) = false := by simp; omega
  have t0' : decide (8 ≤ bs.length) = false := by simp; omega
  clear h
  go_enter Try.func90, Try.ntmps90
  go_wp2
  go_loop [3, 4] (fun x i => WordRel bs x i) (fun _ i => bs.length - (intOf i).toNat)
  case atStart => exact ⟨0, Nat.zero_le _, rfl, by simp [be]⟩
  case round =>
    obtain ⟨k, hk, rfl, rfl⟩ := hrel
    by_cases hlt : k < bs.length
    · obtain ⟨g, o, rfl, hc⟩ := rd_cells H.out (by omega)
      obtain ⟨b, hb⟩ : ∃ b, bs[k]? = some b := ⟨_, List.getElem?_eq_getElem hlt⟩
      have q := hc k b hb
      have HE := Lib.hid (be_take_succ bs k b hb)
      have HL := Lib.hid (or_place (be (bs.take k)) k b (by omega) (be_take_lt bs k))
      have t1 : decide ((k : Int) < bs.length) = true := by simpa using hlt
      have t2 : (0:Int) ≤ k := by omega
      have t3 : (k:Int) < bs.length := by omega
      have e1 : (0 : Int) ≤ 56 - 8 * (k : Int) := by omega
      have e2 : (56 - 8 * (k : Int)).toNat = 56 - 8 * k := by omega
      generalize be (bs.take k) = u at HE HL ⊢
      clear hc hb
      go_wp2
      go_round
      case rel =>
        refine ⟨k + 1, by omega, by go_num, ?_⟩
        rw [HE.out, wrap_u64_byte, show ((u : Int) * 256 ^ (8 - k)) = ((u * 256 ^ (8 - k) : Nat) : Int) by simp, HL.out, show 8 - (k + 1) = 7 - k by omega]
      case measure => simp [intOf]; omega
    · have t1 : decide ((k : Int) < bs.length) = false := by simp; omega
      obtain rfl : k = bs.length := by omega
      have E := Lib.hid (show ((be (bs.take bs.length) * 256 ^ (8 - bs.length) : Nat) : Int) = (wordN bs : Int) from by unfold wordN; rw [List.take_of_length_le (Nat.le_refl _), List.take_of_length_le (by omega)])
      generalize ((be (bs.take bs.length) * 256 ^ (8 - bs.length) : Nat) : Int) = z at E ⊢
      go_wp2
      go_ret
      exact ⟨congrArg (fun z => Ending.returned (u64V z)) E.out, Upd.refl _ _⟩
end Go.Proofs.Ytmapijpphnlcmaa
