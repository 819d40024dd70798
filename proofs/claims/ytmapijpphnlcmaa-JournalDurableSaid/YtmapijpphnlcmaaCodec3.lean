/- Numbers as bytes: Uint of package codec and of the reference. Conditions: sizes. -/
import Derived.Test.YtmapijpphnlcmaaCodec2
namespace Go.Proofs.Ytmapijpphnlcmaa
open Go.RowKit

set_option maxRecDepth 100000 in
theorem follow_any {w : World} {v : Value} {bs : List UInt8} (h : Rd w 1 v bs.length (bs.map byteV)) (a n : Nat) (ha : a ≤ 4611686018427387904) (hn : n ≤ 4611686018427387904) : Calls Try.prog 74 #[v, .int .i64 (a : Int), .int .i64 (n : Int)] w fun e w' => e = .returned (.bool (decide (a + n ≤ bs.length))) ∧ w = w' := by
  have hlm := h.le
  unfold maxLen at hlm
  obtain ⟨A, c, rfl, hlc, hcm, _⟩ := id h
  clear h
  have t0 : decide ((0 : Int) ≤ (a : Int)) = true := by simp
  by_cases h1 : a ≤ bs.length
  · have t1 : decide ((a : Int) ≤ (bs.length : Int)) = true := by simpa using h1
    have t1' : decide (a ≤ bs.length) = true := by simpa using h1
    have E := Lib.hid (show decide ((n : Int) ≤ (bs.length : Int) - (a : Int)) = decide (a + n ≤ bs.length) by
      by_cases h : a + n ≤ bs.length
      · simp [h]; omega
      · simp [h]; omega)
    generalize decide (a + n ≤ bs.length) = z at E ⊢
    go_enter Try.func74, Try.ntmps74
    go_wp2
    go_ret
    exact ⟨congrArg (fun z => Ending.returned (.bool z)) E.out, rfl⟩
  · have t1 : decide ((a : Int) ≤ (bs.length : Int)) = false := by simp; omega
    have t1' : decide (a ≤ bs.length) = false := by simp; omega
    have E := Lib.hid (show false = decide (a + n ≤ bs.length) by simp; omega)
    generalize decide (a + n ≤ bs.length) = z at E ⊢
    go_enter Try.func74, Try.ntmps74
    go_wp2
    go_ret
    exact ⟨congrArg (fun z => Ending.returned (.bool z)) E.out, rfl⟩

def UiRel (l : List UInt8) (x i : Value) : Prop := ∃ k : Nat, k ≤ l.length ∧ i = .int .i64 k ∧ x = u64V ((be (l.take k) : Nat) : Int)

theorem pow7 (l : List UInt8) (k : Nat) (h : k < 8) : be (l.take k) < 72057594037927936 := by
  have h1 := be_take_lt l k
  have h2 : (256 : Nat) ^ k ≤ 256 ^ 7 := Nat.pow_le_pow_right (by omega) (by omega)
  omega

section
variable {w : World} {v : Value} {bs : List UInt8}

set_option maxRecDepth 100000 in
set_option maxHeartbeats 2000000 in
theorem cUint_no (h : Rd w 1 v bs.length (bs.map byteV)) (a n : Nat) (ha : a ≤ 4611686018427387904) (h1 : 1 ≤ n) (h8 : n ≤ 8) (hno : bs.length < a + n) : Calls Try.prog 57 #[v, .int .i64 (a : Int), .int .i64 (n : Int)] w fun e w' => e = .returned (.tuple #[u64V 0, .bool false]) ∧ w = w' := by
  have CF := follow_any h a n ha (by omega)
  rw [show decide (a + n ≤ bs.length) = false by simp; omega] at CF
  have HF := Lib.hid CF
  obtain ⟨A, c, rfl, hlc, hcm, _⟩ := id h
  have t1 : decide ((n : Int) < 1) = false := by simp; omega
  have t2 : decide ((8 : Int) < (n : Int)) = false := by simp; omega
  have t2' : decide (8 < n) = false := by simp; omega
  clear h CF
  go_enter Try.func57, Try.ntmps57
  go_wp2_with fail
  refine HF.out.mono ?_
  rintro e w' ⟨rfl, rfl⟩
  go_wp2
  go_ret2
  exact ⟨rfl, rfl⟩

set_option maxRecDepth 100000 in
set_option maxHeartbeats 2000000 in
theorem cUint_yes (h : Rd w 1 v bs.length (bs.map byteV)) (a n : Nat) (h1 : 1 ≤ n) (h8 : n ≤ 8) (hyes : a + n ≤ bs.length) (hm : bs.length ≤ 4611686018427387904) : Calls Try.prog 57 #[v, .int .i64 (a : Int), .int .i64 (n : Int)] w fun e w' => e = .returned (.tuple #[u64V ((be ((bs.drop a).take n) : Nat) : Int), .bool true]) ∧ w = w' := by
  have CF := follow_any h a n (by omega) (by omega)
  rw [show decide (a + n ≤ bs.length) = true by simp; omega] at CF
  have HF := Lib.hid CF
  obtain ⟨A, c, rfl, hlc, hcm, _⟩ := id h
  unfold maxLen at hcm
  obtain ⟨g, o, rfl, hc⟩ := rd_cells h (by omega)
  have HC := Lib.hid hc
  have t1 : decide ((n : Int) < 1) = false := by simp; omega
  have t2 : decide ((8 : Int) < (n : Int)) = false := by simp; omega
  have t2' : decide (8 < n) = false := by simp; omega
  have b1 : (0 : Int) ≤ a := by omega
  have b2 : (a : Int) ≤ (a : Int) + n := by omega
  have b3 : (a : Int) + n ≤ c := by omega
  have b4 : ¬ c = a := by omega
  have b5 : ((a : Int) + n).toNat = a + n := by omega
  obtain ⟨l, hl⟩ : ∃ l, (bs.drop a).take n = l := ⟨_, rfl⟩
  have hll : l.length = n := by rw [← hl]; simp; omega
  have hlc2 : ∀ (j : Nat) b, l[j]? = some b → w.cell? ⟨g, o + a + j, none⟩ = some (byteV b) := fun j b hb => by
    rw [Nat.add_assoc]
    refine hc (a + j) b ?_
    rw [← hl, List.getElem?_take] at hb
    split at hb
    · rw [List.getElem?_drop] at hb; exact hb
    · cases hb
  have HLC := Lib.hid hlc2
  have HLL := Lib.hid hll
  rw [hl]
  have e0 : a + n - a = n := by omega
  clear h CF hc hl hlc2 hll
  go_enter Try.func57, Try.ntmps57
  go_wp2_with fail
  refine HF.out.mono ?_
  rintro e w' ⟨rfl, rfl⟩
  go_wp2
  go_loop [8, 31] (fun x i => UiRel l x i) (fun _ i => n - (intOf i).toNat)
  case atStart => exact ⟨0, Nat.zero_le _, rfl, by simp [be]⟩
  case round =>
    obtain ⟨k, hk, rfl, rfl⟩ := hrel
    have hln := HLL.out
    by_cases hlt : k < n
    · obtain ⟨b, hb⟩ : ∃ b, l[k]? = some b := ⟨_, List.getElem?_eq_getElem (by omega)⟩
      have q := HLC.out k b hb
      have HE := Lib.hid (be_take_succ l k b hb)
      have HO := Lib.hid (or_byte (be (l.take k)) b (pow7 l k (by omega)))
      have s1 : decide ((k : Int) < n) = true := by simpa using hlt
      have s2 : (0:Int) ≤ k := by omega
      have s3 : (k:Int) < n := by omega
      generalize be (l.take k) = u at HE HO ⊢
      clear hb hln
      go_wp2
      go_round
      case rel =>
        refine ⟨k + 1, by have := HLL.out; omega, by go_num, ?_⟩
        rw [HE.out, wrap_u64_byte, HO.out]
      case measure => simp [intOf]; omega
    · have s1 : decide ((k : Int) < n) = false := by simp; omega
      have E := Lib.hid (show l.take k = l from List.take_of_length_le (by omega))
      rw [E.out]
      clear hln
      go_wp2
      go_ret2
      exact ⟨rfl, rfl⟩

set_option maxRecDepth 100000 in
set_option maxHeartbeats 2000000 in
theorem r1Uint_no (h : Rd w 1 v bs.length (bs.map byteV)) (a n : Nat) (ha : a ≤ 4611686018427387904) (h1 : 1 ≤ n) (h8 : n ≤ 8) (hno : bs.length < a + n) : Calls Try.prog 60 #[v, .int .i64 (a : Int), .int .i64 (n : Int)] w fun e w' => e = .returned (.tuple #[u64V 0, .bool false]) ∧ w = w' := by
  have hlm := h.le
  unfold maxLen at hlm
  obtain ⟨A, c, rfl, hlc, hcm, _⟩ := id h
  have t1 : decide ((n : Int) < 1) = false := by simp; omega
  have t2 : decide ((8 : Int) < (n : Int)) = false := by simp; omega
  have t2' : decide (8 < n) = false := by simp; omega
  have t3 : decide ((a : Int) < 0) = false := by simp
  have t4 : decide ((bs.length : Int) - (n : Int) < (a : Int)) = true := by simp; omega
  clear h
  go_enter Try.func60, Try.ntmps60
  go_wp2
  go_ret2
  exact ⟨rfl, rfl⟩

set_option maxRecDepth 100000 in
set_option maxHeartbeats 2000000 in
theorem r1Uint_yes (h : Rd w 1 v bs.length (bs.map byteV)) (a n : Nat) (h1 : 1 ≤ n) (h8 : n ≤ 8) (hyes : a + n ≤ bs.length) (hm : bs.length ≤ 4611686018427387904) : Calls Try.prog 60 #[v, .int .i64 (a : Int), .int .i64 (n : Int)] w fun e w' => e = .returned (.tuple #[u64V ((be ((bs.drop a).take n) : Nat) : Int), .bool true]) ∧ w = w' := by
  obtain ⟨A, c, rfl, hlc, hcm, _⟩ := id h
  unfold maxLen at hcm
  obtain ⟨g, o, rfl, hc⟩ := rd_cells h (by omega)
  have t1 : decide ((n : Int) < 1) = false := by simp; omega
  have t2 : decide ((8 : Int) < (n : Int)) = false := by simp; omega
  have t2' : decide (8 < n) = false := by simp; omega
  have t3 : decide ((a : Int) < 0) = false := by simp
  have t4 : decide ((bs.length : Int) - (n : Int) < (a : Int)) = false := by simp; omega
  obtain ⟨l, hl⟩ : ∃ l, (bs.drop a).take n = l := ⟨_, rfl⟩
  have hll : l.length = n := by rw [← hl]; simp; omega
  have hlc2 : ∀ (j : Nat) b, l[j]? = some b → w.cell? ⟨g, o + (a + j), none⟩ = some (byteV b) := fun j b hb => by
    refine hc (a + j) b ?_
    rw [← hl, List.getElem?_take] at hb
    split at hb
    · rw [List.getElem?_drop] at hb; exact hb
    · cases hb
  have HLC := Lib.hid hlc2
  have HLL := Lib.hid hll
  rw [hl]
  clear h hc hl hlc2 hll
  go_enter Try.func60, Try.ntmps60
  go_wp2
  go_loop [8, 9] (fun x i => UiRel l x i) (fun _ i => n - (intOf i).toNat)
  case atStart => exact ⟨0, Nat.zero_le _, rfl, by simp [be]⟩
  case round =>
    obtain ⟨k, hk, rfl, rfl⟩ := hrel
    have hln := HLL.out
    by_cases hlt : k < n
    · obtain ⟨b, hb⟩ : ∃ b, l[k]? = some b := ⟨_, List.getElem?_eq_getElem (by omega)⟩
      have q := HLC.out k b hb
      have HE := Lib.hid (be_take_succ l k b hb)
      have HO := Lib.hid (or_byte (be (l.take k)) b (pow7 l k (by omega)))
      have s1 : decide ((k : Int) < n) = true := by simpa using hlt
      have s2 : (0:Int) ≤ (a : Int) + k := by omega
      have s3 : (a : Int) + k < bs.length := by omega
      have s4 : ((a : Int) + k).toNat = a + k := by omega
      generalize be (l.take k) = u at HE HO ⊢
      clear hb hln
      go_wp2
      go_round
      case rel =>
        refine ⟨k + 1, by have := HLL.out; omega, by go_num, ?_⟩
        rw [HE.out, wrap_u64_byte, HO.out]
      case measure => simp [intOf]; omega
    · have s1 : decide ((k : Int) < n) = false := by simp; omega
      have E := Lib.hid (show l.take k = l from List.take_of_length_le (by omega))
      rw [E.out]
      clear hln
      go_wp2
      go_ret2
      exact ⟨rfl, rfl⟩
end
end Go.Proofs.Ytmapijpphnlcmaa
