/- The orders of names: Less of package hash; Number and Less of the reference. No condition. The order of votes: Less of package vote and of the reference. No condition. From a contract 'it returns true and turns nothing that was there' to the row of a statement. No condition. Arguments of the statements, opened: slices of bytes and of integers, strings, slices of slices of bytes. No condition. Arguments of the statements, opened: a slice of structs whose fields take one cell each; the acts of DiskActs. No condition. -/
import Derived.Test.YtbgificdilpdcaaJn2
import Derived.Deep.RegionHeld3
import Derived.Deep.DrawnRows
import Derived.Test.YtbgificdilpdcaaJn5
import Derived.Outline
import Derived.Test.YtbgificdilpdcaaRows
import Derived.Test.YtbgificdilpdcaaJn1
import Derived.ProofKit
import Derived.OpenShut
import Derived.Carry
import Derived.Test.YtbgificdilpdcaaJn4
import Derived.Deep.Slices
import Derived.Deep.Fields
namespace Go.Proofs.Ytbgificdilpdcaa
section
open Go.RowKit
attribute [local go_sem ↓] Go.wp_at_zero Go.wp_at_succ

theorem name_spell {l : List UInt8} (h : l.length = 8) : ∃ b0 b1 b2 b3 b4 b5 b6 b7, l = [b0, b1, b2, b3, b4, b5, b6, b7] := by
  obtain ⟨b0, b1, b2, b3, b4, b5, b6, b7, r, rfl⟩ := eight l (by omega)
  obtain rfl : r = [] := by simpa using h
  exact ⟨b0, b1, b2, b3, b4, b5, b6, b7, rfl⟩
theorem retb {a b : Bool} (h : a = b) : Ending.returned (.bool a) = .returned (.bool b) := by rw [h]

set_option maxRecDepth 100000 in
set_option maxHeartbeats 2000000 in
theorem r1Number_any (l : List UInt8) (hl : l.length = 8) (w : World) : Calls Try.prog 94 #[nameV l] w fun e w' => e = .returned (u64V (be l)) ∧ Upd NoF w w' := by
  obtain ⟨b0, b1, b2, b3, b4, b5, b6, b7, rfl⟩ := name_spell hl
  have HC := Lib.hid (show ∀ (k : Nat) b, [b0, b1, b2, b3, b4, b5, b6, b7][k]? = some b → (w.alloc (.cells #[byteV b0, byteV b1, byteV b2, byteV b3, byteV b4, byteV b5, byteV b6, byteV b7] 33)).cell? ⟨w.heap.size, k, none⟩ = some (byteV b) from fun k b hb => by
    rw [(Blk.new w 33 _).cell k]
    have : ([b0, b1, b2, b3, b4, b5, b6, b7].map byteV)[k]? = some (byteV b) := by rw [List.getElem?_map, hb]; rfl
    simpa using this)
  clear hl
  go_enter Try.func94, Try.ntmps94
  go_wp2
  go_loop [3, 4] (fun x i => NumRel [b0, b1, b2, b3, b4, b5, b6, b7] x i) (fun _ i => 8 - (intOf i).toNat)
  case atStart => exact ⟨0, by omega, rfl, rfl⟩
  case round =>
    obtain ⟨k, hk, rfl, rfl⟩ := hrel
    by_cases hlt : k < 8
    · obtain ⟨b, hb⟩ : ∃ b, [b0, b1, b2, b3, b4, b5, b6, b7][k]? = some b := ⟨_, List.getElem?_eq_getElem hlt⟩
      have hcell := HC.out k b hb
      have HE := Lib.hid (be_take_succ _ k b hb)
      have HO := Lib.hid (or_byte (be (List.take k [b0, b1, b2, b3, b4, b5, b6, b7])) b (by
        have h1 := be_take_lt [b0, b1, b2, b3, b4, b5, b6, b7] k
        have h2 : (256 : Nat) ^ k ≤ 256 ^ 7 := Nat.pow_le_pow_right (by omega) (by omega)
        omega))
      have t1 : decide ((k : Int) < 8) = true := by simp; omega
      have t1' : decide (k < 8) = true := by simp; omega
      have q0 : (0 : Int) ≤ (k : Int) := by omega
      have q1 : (k : Int) < 8 := by omega
      generalize be (List.take k [b0, b1, b2, b3, b4, b5, b6, b7]) = u at HE HO ⊢
      clear hb
      go_wp2
      go_round
      case rel =>
        refine ⟨k + 1, by omega, by go_num, ?_⟩
        rw [HE.out, wrap_u64_byte, HO.out]
      case measure => simp [intOf]; omega
    · have t1 : decide ((k : Int) < 8) = false := by simp; omega
      have t1' : decide (k < 8) = false := by simp; omega
      obtain rfl : k = 8 := by omega
      go_wp2
      go_ret
      exact ⟨rfl, (Upd.refl NoF w).alloc _⟩


set_option maxRecDepth 100000 in
set_option maxHeartbeats 4000000 in
theorem hLess_any (a b : List UInt8) (ha : a.length = 8) (hb : b.length = 8) (w : World) : Calls Try.prog 88 #[nameV a, nameV b] w fun e w' => e = .returned (.bool (lessN a b)) ∧ Upd NoF w w' := by
  obtain ⟨a0, a1, a2, a3, a4, a5, a6, a7, rfl⟩ := name_spell ha
  obtain ⟨b0, b1, b2, b3, b4, b5, b6, b7, rfl⟩ := name_spell hb
  have NA := Lib.hid (show ∀ w, Calls Try.prog 97 #[.agg #[byteV a0, byteV a1, byteV a2, byteV a3, byteV a4, byteV a5, byteV a6, byteV a7]] w (fun e w' => e = .returned (u64V (be [a0, a1, a2, a3, a4, a5, a6, a7])) ∧ Upd NoF w w') from fun w => hNumber_any [a0, a1, a2, a3, a4, a5, a6, a7] rfl w)
  have NB := Lib.hid (show ∀ w, Calls Try.prog 97 #[.agg #[byteV b0, byteV b1, byteV b2, byteV b3, byteV b4, byteV b5, byteV b6, byteV b7]] w (fun e w' => e = .returned (u64V (be [b0, b1, b2, b3, b4, b5, b6, b7])) ∧ Upd NoF w w') from fun w => hNumber_any [b0, b1, b2, b3, b4, b5, b6, b7] rfl w)
  have LE := Lib.hid (show (decide (be [a0, a1, a2, a3, a4, a5, a6, a7] < be [b0, b1, b2, b3, b4, b5, b6, b7])) = lessN [a0, a1, a2, a3, a4, a5, a6, a7] [b0, b1, b2, b3, b4, b5, b6, b7] from rfl)
  have TW := Lib.hid (show ∀ W', Upd NoF ((w.alloc (.cells #[byteV a0, byteV a1, byteV a2, byteV a3, byteV a4, byteV a5, byteV a6, byteV a7] 33)).alloc (.cells #[byteV b0, byteV b1, byteV b2, byteV b3, byteV b4, byteV b5, byteV b6, byteV b7] 33)) W' → (W'.cell? ⟨w.heap.size, 0, none⟩ = some (byteV a0) ∧ W'.cell? ⟨w.heap.size, 1, none⟩ = some (byteV a1) ∧ W'.cell? ⟨w.heap.size, 2, none⟩ = some (byteV a2) ∧ W'.cell? ⟨w.heap.size, 3, none⟩ = some (byteV a3) ∧ W'.cell? ⟨w.heap.size, 4, none⟩ = some (byteV a4) ∧ W'.cell? ⟨w.heap.size, 5, none⟩ = some (byteV a5) ∧ W'.cell? ⟨w.heap.size, 6, none⟩ = some (byteV a6) ∧ W'.cell? ⟨w.heap.size, 7, none⟩ = some (byteV a7) ∧ W'.cell? ⟨w.heap.size + 1, 0, none⟩ = some (byteV b0) ∧ W'.cell? ⟨w.heap.size + 1, 1, none⟩ = some (byteV b1) ∧ W'.cell? ⟨w.heap.size + 1, 2, none⟩ = some (byteV b2) ∧ W'.cell? ⟨w.heap.size + 1, 3, none⟩ = some (byteV b3) ∧ W'.cell? ⟨w.heap.size + 1, 4, none⟩ = some (byteV b4) ∧ W'.cell? ⟨w.heap.size + 1, 5, none⟩ = some (byteV b5) ∧ W'.cell? ⟨w.heap.size + 1, 6, none⟩ = some (byteV b6) ∧ W'.cell? ⟨w.heap.size + 1, 7, none⟩ = some (byteV b7)) from fun W' hu => by
    have h1 := hu.blk ((Blk.new w 33 #[byteV a0, byteV a1, byteV a2, byteV a3, byteV a4, byteV a5, byteV a6, byteV a7]).alloc (.cells #[byteV b0, byteV b1, byteV b2, byteV b3, byteV b4, byteV b5, byteV b6, byteV b7] 33)) (fun h => h)
    have h2 := hu.blk (Blk.new (w.alloc (.cells #[byteV a0, byteV a1, byteV a2, byteV a3, byteV a4, byteV a5, byteV a6, byteV a7] 33)) 33 #[byteV b0, byteV b1, byteV b2, byteV b3, byteV b4, byteV b5, byteV b6, byteV b7]) (fun h => h)
    rw [show (w.alloc (.cells #[byteV a0, byteV a1, byteV a2, byteV a3, byteV a4, byteV a5, byteV a6, byteV a7] 33)).heap.size = w.heap.size + 1 from by simp] at h2
    exact ⟨h1.cell 0, h1.cell 1, h1.cell 2, h1.cell 3, h1.cell 4, h1.cell 5, h1.cell 6, h1.cell 7, h2.cell 0, h2.cell 1, h2.cell 2, h2.cell 3, h2.cell 4, h2.cell 5, h2.cell 6, h2.cell 7⟩)
  have hq := name_eql [a0, a1, a2, a3, a4, a5, a6, a7] [b0, b1, b2, b3, b4, b5, b6, b7] rfl rfl
  have hq' : ∀ w, (binOp .eql 33 (.agg #[byteV a0, byteV a1, byteV a2, byteV a3, byteV a4, byteV a5, byteV a6, byteV a7]) (.agg #[byteV b0, byteV b1, byteV b2, byteV b3, byteV b4, byteV b5, byteV b6, byteV b7])).run Try.prog w = .ok (.bool ([a0, a1, a2, a3, a4, a5, a6, a7] == [b0, b1, b2, b3, b4, b5, b6, b7])) w := fun w => name_eql [a0, a1, a2, a3, a4, a5, a6, a7] [b0, b1, b2, b3, b4, b5, b6, b7] rfl rfl w
  by_cases he : ([a0, a1, a2, a3, a4, a5, a6, a7] == [b0, b1, b2, b3, b4, b5, b6, b7]) = true
  · rw [he] at hq'
    have HZ := Lib.hid (show false = lessN [a0, a1, a2, a3, a4, a5, a6, a7] [b0, b1, b2, b3, b4, b5, b6, b7] from by rw [eq_of_beq he]; simp [lessN])
    clear he hq
    generalize lessN [a0, a1, a2, a3, a4, a5, a6, a7] [b0, b1, b2, b3, b4, b5, b6, b7] = Z at HZ LE ⊢
    go_enter Try.func88, Try.ntmps88
    go_wp2
    go_ret
    exact ⟨retb HZ.out, (((Upd.refl NoF w).alloc _).alloc _)⟩
  have he : ([a0, a1, a2, a3, a4, a5, a6, a7] == [b0, b1, b2, b3, b4, b5, b6, b7]) = false := by simpa using he
  rw [he] at hq'
  clear he hq
  generalize lessN [a0, a1, a2, a3, a4, a5, a6, a7] [b0, b1, b2, b3, b4, b5, b6, b7] = Z at LE ⊢
  generalize be [a0, a1, a2, a3, a4, a5, a6, a7] = x at NA LE ⊢
  generalize be [b0, b1, b2, b3, b4, b5, b6, b7] = y at NB LE ⊢
  clear ha hb
  go_enter Try.func88, Try.ntmps88
  go_wp2
  go_region_held3 (fun w' => w'.cell? ⟨w.heap.size, 0, none⟩ = some (byteV a0) ∧ w'.cell? ⟨w.heap.size, 1, none⟩ = some (byteV a1) ∧ w'.cell? ⟨w.heap.size, 2, none⟩ = some (byteV a2) ∧ w'.cell? ⟨w.heap.size, 3, none⟩ = some (byteV a3) ∧ w'.cell? ⟨w.heap.size, 4, none⟩ = some (byteV a4) ∧ w'.cell? ⟨w.heap.size, 5, none⟩ = some (byteV a5) ∧ w'.cell? ⟨w.heap.size, 6, none⟩ = some (byteV a6) ∧ w'.cell? ⟨w.heap.size, 7, none⟩ = some (byteV a7) ∧ w'.cell? ⟨w.heap.size + 1, 0, none⟩ = some (byteV b0) ∧ w'.cell? ⟨w.heap.size + 1, 1, none⟩ = some (byteV b1) ∧ w'.cell? ⟨w.heap.size + 1, 2, none⟩ = some (byteV b2) ∧ w'.cell? ⟨w.heap.size + 1, 3, none⟩ = some (byteV b3) ∧ w'.cell? ⟨w.heap.size + 1, 4, none⟩ = some (byteV b4) ∧ w'.cell? ⟨w.heap.size + 1, 5, none⟩ = some (byteV b5) ∧ w'.cell? ⟨w.heap.size + 1, 6, none⟩ = some (byteV b6) ∧ w'.cell? ⟨w.heap.size + 1, 7, none⟩ = some (byteV b7))
    (first | exact TW.out _ U2.out | exact TW.out _ U1.out | exact TW.out _ (Upd.refl NoF _) | exact TW.out _ ((Upd.refl NoF _).drew))
    (first
      | (go_at_call 97; (with_reducible refine (NA.out _).mono ?_); rintro e w1 ⟨rfl, hu1⟩; have U1 := Lib.hid (((Upd.refl NoF ((w.alloc (.cells #[byteV a0, byteV a1, byteV a2, byteV a3, byteV a4, byteV a5, byteV a6, byteV a7] 33)).alloc (.cells #[byteV b0, byteV b1, byteV b2, byteV b3, byteV b4, byteV b5, byteV b6, byteV b7] 33))).drew).trans hu1 (fun _ _ h => h)); clear hu1)
      | (go_at_call 97; (with_reducible refine (NB.out _).mono ?_); rintro e w2 ⟨rfl, hu2⟩; have U2 := Lib.hid (U1.out.trans hu2 (fun _ _ h => h)); clear hu2))
  go_wp2
  go_ret
  exact ⟨retb LE.out, (((Upd.refl NoF w).alloc _).alloc _).trans U2.out (fun _ _ h => h)⟩


set_option maxRecDepth 100000 in
set_option maxHeartbeats 4000000 in
theorem r1Less_any (a b : List UInt8) (ha : a.length = 8) (hb : b.length = 8) (w : World) : Calls Try.prog 84 #[nameV a, nameV b] w fun e w' => e = .returned (.bool (lessN a b)) ∧ Upd NoF w w' := by
  obtain ⟨a0, a1, a2, a3, a4, a5, a6, a7, rfl⟩ := name_spell ha
  obtain ⟨b0, b1, b2, b3, b4, b5, b6, b7, rfl⟩ := name_spell hb
  have NA := Lib.hid (show ∀ w, Calls Try.prog 94 #[.agg #[byteV a0, byteV a1, byteV a2, byteV a3, byteV a4, byteV a5, byteV a6, byteV a7]] w (fun e w' => e = .returned (u64V (be [a0, a1, a2, a3, a4, a5, a6, a7])) ∧ Upd NoF w w') from fun w => r1Number_any [a0, a1, a2, a3, a4, a5, a6, a7] rfl w)
  have NB := Lib.hid (show ∀ w, Calls Try.prog 94 #[.agg #[byteV b0, byteV b1, byteV b2, byteV b3, byteV b4, byteV b5, byteV b6, byteV b7]] w (fun e w' => e = .returned (u64V (be [b0, b1, b2, b3, b4, b5, b6, b7])) ∧ Upd NoF w w') from fun w => r1Number_any [b0, b1, b2, b3, b4, b5, b6, b7] rfl w)
  have LE := Lib.hid (show (decide (be [a0, a1, a2, a3, a4, a5, a6, a7] < be [b0, b1, b2, b3, b4, b5, b6, b7])) = lessN [a0, a1, a2, a3, a4, a5, a6, a7] [b0, b1, b2, b3, b4, b5, b6, b7] from rfl)
  have TW := Lib.hid (show ∀ W', Upd NoF ((w.alloc (.cells #[byteV a0, byteV a1, byteV a2, byteV a3, byteV a4, byteV a5, byteV a6, byteV a7] 33)).alloc (.cells #[byteV b0, byteV b1, byteV b2, byteV b3, byteV b4, byteV b5, byteV b6, byteV b7] 33)) W' → (W'.cell? ⟨w.heap.size, 0, none⟩ = some (byteV a0) ∧ W'.cell? ⟨w.heap.size, 1, none⟩ = some (byteV a1) ∧ W'.cell? ⟨w.heap.size, 2, none⟩ = some (byteV a2) ∧ W'.cell? ⟨w.heap.size, 3, none⟩ = some (byteV a3) ∧ W'.cell? ⟨w.heap.size, 4, none⟩ = some (byteV a4) ∧ W'.cell? ⟨w.heap.size, 5, none⟩ = some (byteV a5) ∧ W'.cell? ⟨w.heap.size, 6, none⟩ = some (byteV a6) ∧ W'.cell? ⟨w.heap.size, 7, none⟩ = some (byteV a7) ∧ W'.cell? ⟨w.heap.size + 1, 0, none⟩ = some (byteV b0) ∧ W'.cell? ⟨w.heap.size + 1, 1, none⟩ = some (byteV b1) ∧ W'.cell? ⟨w.heap.size + 1, 2, none⟩ = some (byteV b2) ∧ W'.cell? ⟨w.heap.size + 1, 3, none⟩ = some (byteV b3) ∧ W'.cell? ⟨w.heap.size + 1, 4, none⟩ = some (byteV b4) ∧ W'.cell? ⟨w.heap.size + 1, 5, none⟩ = some (byteV b5) ∧ W'.cell? ⟨w.heap.size + 1, 6, none⟩ = some (byteV b6) ∧ W'.cell? ⟨w.heap.size + 1, 7, none⟩ = some (byteV b7)) from fun W' hu => by
    have h1 := hu.blk ((Blk.new w 33 #[byteV a0, byteV a1, byteV a2, byteV a3, byteV a4, byteV a5, byteV a6, byteV a7]).alloc (.cells #[byteV b0, byteV b1, byteV b2, byteV b3, byteV b4, byteV b5, byteV b6, byteV b7] 33)) (fun h => h)
    have h2 := hu.blk (Blk.new (w.alloc (.cells #[byteV a0, byteV a1, byteV a2, byteV a3, byteV a4, byteV a5, byteV a6, byteV a7] 33)) 33 #[byteV b0, byteV b1, byteV b2, byteV b3, byteV b4, byteV b5, byteV b6, byteV b7]) (fun h => h)
    rw [show (w.alloc (.cells #[byteV a0, byteV a1, byteV a2, byteV a3, byteV a4, byteV a5, byteV a6, byteV a7] 33)).heap.size = w.heap.size + 1 from by simp] at h2
    exact ⟨h1.cell 0, h1.cell 1, h1.cell 2, h1.cell 3, h1.cell 4, h1.cell 5, h1.cell 6, h1.cell 7, h2.cell 0, h2.cell 1, h2.cell 2, h2.cell 3, h2.cell 4, h2.cell 5, h2.cell 6, h2.cell 7⟩)
  generalize lessN [a0, a1, a2, a3, a4, a5, a6, a7] [b0, b1, b2, b3, b4, b5, b6, b7] = Z at LE ⊢
  generalize be [a0, a1, a2, a3, a4, a5, a6, a7] = x at NA LE ⊢
  generalize be [b0, b1, b2, b3, b4, b5, b6, b7] = y at NB LE ⊢
  clear ha hb
  go_enter Try.func84, Try.ntmps84
  go_wp2
  go_region_held3 (fun w' => w'.cell? ⟨w.heap.size, 0, none⟩ = some (byteV a0) ∧ w'.cell? ⟨w.heap.size, 1, none⟩ = some (byteV a1) ∧ w'.cell? ⟨w.heap.size, 2, none⟩ = some (byteV a2) ∧ w'.cell? ⟨w.heap.size, 3, none⟩ = some (byteV a3) ∧ w'.cell? ⟨w.heap.size, 4, none⟩ = some (byteV a4) ∧ w'.cell? ⟨w.heap.size, 5, none⟩ = some (byteV a5) ∧ w'.cell? ⟨w.heap.size, 6, none⟩ = some (byteV a6) ∧ w'.cell? ⟨w.heap.size, 7, none⟩ = some (byteV a7) ∧ w'.cell? ⟨w.heap.size + 1, 0, none⟩ = some (byteV b0) ∧ w'.cell? ⟨w.heap.size + 1, 1, none⟩ = some (byteV b1) ∧ w'.cell? ⟨w.heap.size + 1, 2, none⟩ = some (byteV b2) ∧ w'.cell? ⟨w.heap.size + 1, 3, none⟩ = some (byteV b3) ∧ w'.cell? ⟨w.heap.size + 1, 4, none⟩ = some (byteV b4) ∧ w'.cell? ⟨w.heap.size + 1, 5, none⟩ = some (byteV b5) ∧ w'.cell? ⟨w.heap.size + 1, 6, none⟩ = some (byteV b6) ∧ w'.cell? ⟨w.heap.size + 1, 7, none⟩ = some (byteV b7))
    (first | exact TW.out _ U2.out | exact TW.out _ U1.out | exact TW.out _ (Upd.refl NoF _) | exact TW.out _ ((Upd.refl NoF _).drew))
    (first
      | (go_at_call 94; (with_reducible refine (NA.out _).mono ?_); rintro e w1 ⟨rfl, hu1⟩; have U1 := Lib.hid (((Upd.refl NoF ((w.alloc (.cells #[byteV a0, byteV a1, byteV a2, byteV a3, byteV a4, byteV a5, byteV a6, byteV a7] 33)).alloc (.cells #[byteV b0, byteV b1, byteV b2, byteV b3, byteV b4, byteV b5, byteV b6, byteV b7] 33))).drew).trans hu1 (fun _ _ h => h)); clear hu1)
      | (go_at_call 94; (with_reducible refine (NB.out _).mono ?_); rintro e w2 ⟨rfl, hu2⟩; have U2 := Lib.hid (U1.out.trans hu2 (fun _ _ h => h)); clear hu2))
  go_wp2
  go_ret
  exact ⟨retb LE.out, (((Upd.refl NoF w).alloc _).alloc _).trans U2.out (fun _ _ h => h)⟩
end

section
open Go.RowKit

/-- A name read out of a variable. -/
theorem wpList_load_name {ops : Array Oper} {rest : List Oper} {op : Oper} {a : Act} {w : World} {Q : Exit → Act → World → Prop} (hgd : op.guard = none) (x : Operand) (ho : op.op = .load 33 x)
    (b o : Nat) (hx : a.eval x = .pointer (some ⟨b, o, none⟩)) (l : List UInt8) (hl : l.length = 8) (hc : w.rangeAt b o (l.map byteV)) (v : Value) (hv : nameV l = v)
    (h : wpList Try.prog ops Q rest (a.put op.dst v) w) : wpList Try.prog ops Q (op :: rest) a w := by
  subst hv
  exact wpList_load_mid hgd 33 x ho b o hx (l.map byteV) _ hc Try.underlying33 rfl (by rw [show (Try.prog.info? 33).map (·.size) = some 8 by kernel_rfl]; simp [hl]) h

theorem range_part {w : World} {g : Nat} {t : TypeId} {cs : Array Value} (h : Blk w g t cs) {o : Nat} {xs : List Value} (hx : ∀ (j : Nat) u, xs[j]? = some u → cs[o + j]? = some u) : w.rangeAt g o xs := fun j v hv => by
  rw [h.cell]
  exact hx j v hv

def five (v : VoteS) : List Int := [v.slot, v.round, v.kind, v.signer, v.choice]
theorem lessV_at {a b : VoteS} (hp : a.parent = b.parent) {k : Nat} {x y : Int} (h : ∀ j, j < k → (five a)[j]? = (five b)[j]?) (hx : (five a)[k]? = some x) (hy : (five b)[k]? = some y) (hne : x ≠ y) : lessV a b = decide (x < y) := by
  have hk : k < 5 := (List.getElem?_eq_some_iff.1 hx).1
  have e : k = 0 ∨ k = 1 ∨ k = 2 ∨ k = 3 ∨ k = 4 := by omega
  unfold lessV
  rw [if_pos hp]
  rcases e with rfl | rfl | rfl | rfl | rfl
  · simp [five] at hx hy; subst hx hy; rw [if_neg hne]
  · have h0 := h 0 (by omega)
    simp [five] at hx hy h0; subst hx hy; rw [if_pos h0, if_neg hne]
  · have h0 := h 0 (by omega)
    have h1 := h 1 (by omega)
    simp [five] at hx hy h0 h1; subst hx hy; rw [if_pos h0, if_pos h1, if_neg hne]
  · have h0 := h 0 (by omega)
    have h1 := h 1 (by omega)
    have h2 := h 2 (by omega)
    simp [five] at hx hy h0 h1 h2; subst hx hy; rw [if_pos h0, if_pos h1, if_pos h2, if_neg hne]
  · have h0 := h 0 (by omega)
    have h1 := h 1 (by omega)
    have h2 := h 2 (by omega)
    have h3 := h 3 (by omega)
    simp [five] at hx hy h0 h1 h2 h3; subst hx hy; rw [if_pos h0, if_pos h1, if_pos h2, if_pos h3, if_neg hne]
theorem lessV_val {a b : VoteS} (hp : a.parent = b.parent) (h : ∀ j, j < 5 → (five a)[j]? = (five b)[j]?) : lessV a b = if a.value = b.value then decide (a.support < b.support) else lessN a.value b.value := by
  have h0 := h 0 (by omega)
  have h1 := h 1 (by omega)
  have h2 := h 2 (by omega)
  have h3 := h 3 (by omega)
  have h4 := h 4 (by omega)
  simp [five] at h0 h1 h2 h3 h4
  unfold lessV
  rw [if_pos hp, if_pos h0, if_pos h1, if_pos h2, if_pos h3, if_pos h4]
def LsRel (a b : VoteS) (W : World) (i : Value) (wr : World) : Prop := ∃ k q : Nat, k ≤ 5 ∧ i = .int .i64 k ∧ (∀ j, j < k → (five a)[j]? = (five b)[j]?) ∧ wr = W.drewN q
theorem five_cell (v : VoteS) {k : Nat} {x : Int} (h : (five v)[k]? = some x) : (#[.int .i64 v.slot, .int .i64 v.round, .int .i64 v.kind, .int .i64 v.signer, .int .i64 v.choice] : Array Value)[k]? = some (.int .i64 x) := by
  have : ((five v).map (Value.int .i64))[k]? = some (.int .i64 x) := by rw [List.getElem?_map, h]; rfl
  simpa [five] using this


set_option maxRecDepth 100000 in
set_option maxHeartbeats 4000000 in
theorem vLess_p {a b : VoteS} (ha : a.Fit) (hb : b.Fit) (w : World) (hp : ¬ a.parent = b.parent) : Calls Try.prog 73 #[voteV a, voteV b] w fun e w' => e = .returned (.bool (lessV a b)) ∧ Upd NoF w w' := by
  have HZ := Lib.hid (show lessV a b = lessN a.parent b.parent from by unfold lessV; rw [if_neg hp])
  have hne : ∀ w, (binOp .neq 33 (nameV a.parent) (nameV b.parent)).run Try.prog w = .ok (.bool true) w := fun w => by rw [name_neq _ _ ha.parent hb.parent, beq_eq_false_iff_ne.2 hp]; rfl
  have CL := hLess_any a.parent b.parent ha.parent hb.parent
  obtain ⟨pa, hpa⟩ : ∃ pa, nameV a.parent = .agg pa := ⟨_, rfl⟩
  obtain ⟨pb, hpb⟩ : ∃ pb, nameV b.parent = .agg pb := ⟨_, rfl⟩
  rw [hpa, hpb] at hne CL
  have HCL := Lib.hid CL
  have HPA := Lib.hid hpa
  have HPB := Lib.hid hpb
  have HA := Lib.hid ha
  have HB := Lib.hid hb
  have B1 := Lib.hid ((Blk.new w 35 (voteCells a).toArray).alloc (.cells (voteCells b).toArray 35))
  have B2 := Lib.hid (show Blk ((w.alloc (.cells (voteCells a).toArray 35)).alloc (.cells (voteCells b).toArray 35)) (w.heap.size + 1) 35 (voteCells b).toArray from by have := Blk.new (w.alloc (.cells (voteCells a).toArray 35)) 35 (voteCells b).toArray; simpa using this)
  clear hpa hpb ha hb hp CL
  generalize lessV a b = Z at HZ ⊢
  go_enter Try.func73, Try.ntmps73
  go_wp2_with (first
    | (refine wpList_load_name rfl (.tmp 8) rfl (w.heap.size) 6 rfl a.parent HA.out.parent (range_part B1.out (fun j u hu => by have := vc_parent HA.out j u hu; simpa using this)) (.agg pa) HPA.out ?_)
    | (refine wpList_load_name rfl (.tmp 10) rfl (w.heap.size + 1) 6 rfl b.parent HB.out.parent (range_part B2.out (fun j u hu => by have := vc_parent HB.out j u hu; simpa using this)) (.agg pb) HPB.out ?_)
    | (refine wpList_load_name rfl (.tmp 13) rfl (w.heap.size) 6 rfl a.parent HA.out.parent (range_part B1.out (fun j u hu => by have := vc_parent HA.out j u hu; simpa using this)) (.agg pa) HPA.out ?_)
    | (refine wpList_load_name rfl (.tmp 15) rfl (w.heap.size + 1) 6 rfl b.parent HB.out.parent (range_part B2.out (fun j u hu => by have := vc_parent HB.out j u hu; simpa using this)) (.agg pb) HPB.out ?_))
  refine (HCL.out _).mono ?_
  rintro e w1 ⟨rfl, hu1⟩
  have U1 := Lib.hid hu1
  clear hu1
  go_wp2
  go_ret
  exact ⟨retb HZ.out.symm, (((Upd.refl NoF w).alloc _).alloc _).trans U1.out (fun _ _ h => h)⟩

set_option maxRecDepth 100000 in
set_option maxHeartbeats 4000000 in
theorem vLess_q {a b : VoteS} (ha : a.Fit) (hb : b.Fit) (w : World) (hp : a.parent = b.parent) : Calls Try.prog 73 #[voteV a, voteV b] w fun e w' => e = .returned (.bool (lessV a b)) ∧ Upd NoF w w' := by
  have hne : ∀ w, (binOp .neq 33 (nameV a.parent) (nameV b.parent)).run Try.prog w = .ok (.bool false) w := fun w => by rw [name_neq _ _ ha.parent hb.parent, hp]; simp
  have hnv : ∀ w, (binOp .neq 33 (nameV a.value) (nameV b.value)).run Try.prog w = .ok (.bool (!(a.value == b.value))) w := fun w => name_neq _ _ ha.value hb.value w
  have CL := hLess_any a.value b.value ha.value hb.value
  obtain ⟨pa, hpa⟩ : ∃ pa, nameV a.parent = .agg pa := ⟨_, rfl⟩
  obtain ⟨pb, hpb⟩ : ∃ pb, nameV b.parent = .agg pb := ⟨_, rfl⟩
  obtain ⟨va, hva⟩ : ∃ pa, nameV a.value = .agg pa := ⟨_, rfl⟩
  obtain ⟨vb, hvb⟩ : ∃ pb, nameV b.value = .agg pb := ⟨_, rfl⟩
  rw [hpa, hpb] at hne
  rw [hva, hvb] at hnv CL
  have HCL := Lib.hid CL
  have HNV := Lib.hid hnv
  have HPA := Lib.hid hpa
  have HPB := Lib.hid hpb
  have HVA := Lib.hid hva
  have HVB := Lib.hid hvb
  have HA := Lib.hid ha
  have HB := Lib.hid hb
  have HP := Lib.hid hp
  have B1 := Lib.hid ((Blk.new w 35 (voteCells a).toArray).alloc (.cells (voteCells b).toArray 35))
  have B2 := Lib.hid (show Blk ((w.alloc (.cells (voteCells a).toArray 35)).alloc (.cells (voteCells b).toArray 35)) (w.heap.size + 1) 35 (voteCells b).toArray from by have := Blk.new (w.alloc (.cells (voteCells a).toArray 35)) 35 (voteCells b).toArray; simpa using this)
  have x0 : (voteCells a)[0]? = some (.int .i64 a.kind) := vc0 a
  have y0 : (voteCells b)[0]? = some (.int .i64 b.kind) := vc0 b
  have x1 : (voteCells a)[1]? = some (.int .i64 a.slot) := vc1 a
  have y1 : (voteCells b)[1]? = some (.int .i64 b.slot) := vc1 b
  have x2 : (voteCells a)[2]? = some (.int .i64 a.round) := vc2 a
  have y2 : (voteCells b)[2]? = some (.int .i64 b.round) := vc2 b
  have x3 : (voteCells a)[3]? = some (.int .i64 a.choice) := vc3 a
  have y3 : (voteCells b)[3]? = some (.int .i64 b.choice) := vc3 b
  have x4 : (voteCells a)[4]? = some (.int .i64 a.signer) := vc4 a
  have y4 : (voteCells b)[4]? = some (.int .i64 b.signer) := vc4 b
  have x5 : (voteCells a)[5]? = some (.int .i64 a.support) := vc5 a
  have y5 : (voteCells b)[5]? = some (.int .i64 b.support) := vc5 b
  clear hpa hpb ha hb hp hva hvb hnv CL
  go_enter Try.func73, Try.ntmps73
  go_wp2_with (first
    | (refine wpList_load_name rfl (.tmp 8) rfl (w.heap.size) 6 rfl a.parent HA.out.parent (range_part B1.out (fun j u hu => by have := vc_parent HA.out j u hu; simpa using this)) (.agg pa) HPA.out ?_)
    | (refine wpList_load_name rfl (.tmp 10) rfl (w.heap.size + 1) 6 rfl b.parent HB.out.parent (range_part B2.out (fun j u hu => by have := vc_parent HB.out j u hu; simpa using this)) (.agg pb) HPB.out ?_))
  obtain ⟨W, hW⟩ : ∃ W, W = ((((w.alloc (.cells (voteCells a).toArray 35)).alloc (.cells (voteCells b).toArray 35)).alloc (.cells #[.int .i64 a.slot, .int .i64 a.round, .int .i64 a.kind, .int .i64 a.signer, .int .i64 a.choice] 124)).alloc (.cells #[.int .i64 b.slot, .int .i64 b.round, .int .i64 b.kind, .int .i64 b.signer, .int .i64 b.choice] 124)) := ⟨_, rfl⟩
  rw [← hW]
  have hb1 : Blk W w.heap.size 35 (voteCells a).toArray := by rw [hW]; exact (B1.out.alloc _).alloc _
  have hb2 : Blk W (w.heap.size + 1) 35 (voteCells b).toArray := by rw [hW]; exact (B2.out.alloc _).alloc _
  have hb3 : Blk W (w.heap.size + 1 + 1) 124 #[.int .i64 a.slot, .int .i64 a.round, .int .i64 a.kind, .int .i64 a.signer, .int .i64 a.choice] := by
    rw [hW]
    have := (Blk.new ((w.alloc (.cells (voteCells a).toArray 35)).alloc (.cells (voteCells b).toArray 35)) 124 #[.int .i64 a.slot, .int .i64 a.round, .int .i64 a.kind, .int .i64 a.signer, .int .i64 a.choice]).alloc (.cells #[.int .i64 b.slot, .int .i64 b.round, .int .i64 b.kind, .int .i64 b.signer, .int .i64 b.choice] 124)
    simpa using this
  have hb4 : Blk W (w.heap.size + 1 + 1 + 1) 124 #[.int .i64 b.slot, .int .i64 b.round, .int .i64 b.kind, .int .i64 b.signer, .int .i64 b.choice] := by
    rw [hW]
    have := Blk.new (((w.alloc (.cells (voteCells a).toArray 35)).alloc (.cells (voteCells b).toArray 35)).alloc (.cells #[.int .i64 a.slot, .int .i64 a.round, .int .i64 a.kind, .int .i64 a.signer, .int .i64 a.choice] 124)) 124 #[.int .i64 b.slot, .int .i64 b.round, .int .i64 b.kind, .int .i64 b.signer, .int .i64 b.choice]
    simpa using this
  have UW := Lib.hid (show Upd NoF w W from by rw [hW]; exact ((((Upd.refl NoF w).alloc _).alloc _).alloc _).alloc _)
  have BW1 := Lib.hid hb1
  have BW2 := Lib.hid hb2
  have BW3 := Lib.hid hb3
  have BW4 := Lib.hid hb4
  have s1 : W.cell? ⟨w.heap.size, 5, none⟩ = some (.int .i64 a.support) := (hb1.cell 5).trans (by simpa using vc5 a)
  have s2 : W.cell? ⟨w.heap.size + 1, 5, none⟩ = some (.int .i64 b.support) := (hb2.cell 5).trans (by simpa using vc5 b)
  clear hW hb1 hb2 hb3 hb4 x0 y0 x1 y1 x2 y2 x3 y3 x4 y4 x5 y5 B1 B2 hne
  go_loopw [7, 40] (fun _ i wr => LsRel a b W i wr) (fun _ i _ => 5 - (intOf i).toNat)
  case atStart => exact ⟨0, 0, by omega, rfl, fun j h => absurd h (by omega), rfl⟩
  case round =>
    obtain ⟨k, q, hk, rfl, heq, rfl⟩ := hrel
    by_cases hlt : k < 5
    · obtain ⟨x, hx⟩ : ∃ x, (five a)[k]? = some x := ⟨_, List.getElem?_eq_getElem hlt⟩
      obtain ⟨y, hy⟩ : ∃ y, (five b)[k]? = some y := ⟨_, List.getElem?_eq_getElem hlt⟩
      have cx : W.cell? ⟨w.heap.size + 1 + 1, k, none⟩ = some (.int .i64 x) := (BW3.out.cell k).trans (five_cell a hx)
      have cy : W.cell? ⟨w.heap.size + 1 + 1 + 1, k, none⟩ = some (.int .i64 y) := (BW4.out.cell k).trans (five_cell b hy)
      have t1 : decide ((k : Int) < 5) = true := by simp; omega
      have t1' : decide (k < 5) = true := by simp; omega
      have q0 : (0 : Int) ≤ (k : Int) := by omega
      have q1 : (k : Int) < 5 := by omega
      by_cases hxy : x = y
      · subst hxy
        have HR := Lib.hid (show ∀ j, j < k + 1 → (five a)[j]? = (five b)[j]? from fun j hj => by
          rcases Nat.lt_or_ge j k with h | h
          · exact heq j h
          · obtain rfl : j = k := by omega
            rw [hx, hy])
        clear hx hy heq
        go_wp2
        go_quiet (fail)
        go_wp2
        go_roundw
        case rel => exact ⟨k + 1, _, by omega, by go_num, HR.out, rfl⟩
        case measure => simp [intOf]; omega
      · have HZ := Lib.hid (lessV_at HP.out heq hx hy hxy)
        have t2 : (x == y) = false := by simpa using hxy
        have t2' : (x != y) = true := by simpa using hxy
        clear hx hy heq hxy
        go_wp2
        go_quiet (fail)
        go_wp2
        go_quiet (fail)
        go_wp2
        go_ret
        exact ⟨retb HZ.out.symm, ((UW.out.drewN _).drewN _).drewN _⟩
    · obtain rfl : k = 5 := by omega
      have HZ := Lib.hid (lessV_val HP.out heq)
      clear heq hk hlt
      by_cases hv : a.value = b.value
      · have hnv : ∀ w, (binOp .neq 33 (.agg va) (.agg vb)).run Try.prog w = .ok (.bool false) w := fun w => by rw [HNV.out w, hv]; simp
        have HV := Lib.hid hv
        clear hv
        go_wp2_with (first
          | (refine wpList_load_name rfl (.tmp 58) rfl (w.heap.size) 14 rfl a.value HA.out.value (range_part (BW1.out.drewN q) (fun j u hu => by have := vc_value HA.out j u hu; simpa using this)) (.agg va) HVA.out ?_)
          | (refine wpList_load_name rfl (.tmp 60) rfl (w.heap.size + 1) 14 rfl b.value HB.out.value (range_part (BW2.out.drewN q) (fun j u hu => by have := vc_value HB.out j u hu; simpa using this)) (.agg vb) HVB.out ?_))
        go_ret
        exact ⟨retb (by rw [HZ.out, if_pos HV.out]), UW.out.drewN _⟩
      · have hnv : ∀ w, (binOp .neq 33 (.agg va) (.agg vb)).run Try.prog w = .ok (.bool true) w := fun w => by rw [HNV.out w, beq_eq_false_iff_ne.2 hv]; rfl
        have HV := Lib.hid hv
        clear hv
        go_wp2_with (first
          | (refine wpList_load_name rfl (.tmp 58) rfl (w.heap.size) 14 rfl a.value HA.out.value (range_part (BW1.out.drewN q) (fun j u hu => by have := vc_value HA.out j u hu; simpa using this)) (.agg va) HVA.out ?_)
          | (refine wpList_load_name rfl (.tmp 60) rfl (w.heap.size + 1) 14 rfl b.value HB.out.value (range_part (BW2.out.drewN q) (fun j u hu => by have := vc_value HB.out j u hu; simpa using this)) (.agg vb) HVB.out ?_)
          | (refine wpList_load_name rfl (.tmp 63) rfl (w.heap.size) 14 rfl a.value HA.out.value (range_part (BW1.out.drewN q) (fun j u hu => by have := vc_value HA.out j u hu; simpa using this)) (.agg va) HVA.out ?_)
          | (refine wpList_load_name rfl (.tmp 65) rfl (w.heap.size + 1) 14 rfl b.value HB.out.value (range_part (BW2.out.drewN q) (fun j u hu => by have := vc_value HB.out j u hu; simpa using this)) (.agg vb) HVB.out ?_))
        refine (HCL.out _).mono ?_
        rintro e w1 ⟨rfl, hu1⟩
        have U1 := Lib.hid hu1
        clear hu1
        go_wp2
        go_ret
        exact ⟨retb (by rw [HZ.out, if_neg HV.out]), (UW.out.drewN _).trans U1.out (fun _ _ h => h)⟩

theorem vLess_any {a b : VoteS} (ha : a.Fit) (hb : b.Fit) (w : World) : Calls Try.prog 73 #[voteV a, voteV b] w fun e w' => e = .returned (.bool (lessV a b)) ∧ Upd NoF w w' := by
  by_cases hp : a.parent = b.parent
  · exact vLess_q ha hb w hp
  · exact vLess_p ha hb w hp


set_option maxRecDepth 100000 in
set_option maxHeartbeats 4000000 in
theorem rLess_p {a b : VoteS} (ha : a.Fit) (hb : b.Fit) (w : World) (hp : ¬ a.parent = b.parent) : Calls Try.prog 57 #[voteV a, voteV b] w fun e w' => e = .returned (.bool (lessV a b)) ∧ Upd NoF w w' := by
  have HZ := Lib.hid (show lessV a b = lessN a.parent b.parent from by unfold lessV; rw [if_neg hp])
  have hne : ∀ w, (binOp .neq 33 (nameV a.parent) (nameV b.parent)).run Try.prog w = .ok (.bool true) w := fun w => by rw [name_neq _ _ ha.parent hb.parent, beq_eq_false_iff_ne.2 hp]; rfl
  have CL := r1Less_any a.parent b.parent ha.parent hb.parent
  obtain ⟨pa, hpa⟩ : ∃ pa, nameV a.parent = .agg pa := ⟨_, rfl⟩
  obtain ⟨pb, hpb⟩ : ∃ pb, nameV b.parent = .agg pb := ⟨_, rfl⟩
  rw [hpa, hpb] at hne CL
  have HCL := Lib.hid CL
  have HPA := Lib.hid hpa
  have HPB := Lib.hid hpb
  have HA := Lib.hid ha
  have HB := Lib.hid hb
  have B1 := Lib.hid ((Blk.new w 35 (voteCells a).toArray).alloc (.cells (voteCells b).toArray 35))
  have B2 := Lib.hid (show Blk ((w.alloc (.cells (voteCells a).toArray 35)).alloc (.cells (voteCells b).toArray 35)) (w.heap.size + 1) 35 (voteCells b).toArray from by have := Blk.new (w.alloc (.cells (voteCells a).toArray 35)) 35 (voteCells b).toArray; simpa using this)
  clear hpa hpb ha hb hp CL
  generalize lessV a b = Z at HZ ⊢
  go_enter Try.func57, Try.ntmps57
  go_wp2_with (first
    | (refine wpList_load_name rfl (.tmp 8) rfl (w.heap.size) 6 rfl a.parent HA.out.parent (range_part B1.out (fun j u hu => by have := vc_parent HA.out j u hu; simpa using this)) (.agg pa) HPA.out ?_)
    | (refine wpList_load_name rfl (.tmp 10) rfl (w.heap.size + 1) 6 rfl b.parent HB.out.parent (range_part B2.out (fun j u hu => by have := vc_parent HB.out j u hu; simpa using this)) (.agg pb) HPB.out ?_)
    | (refine wpList_load_name rfl (.tmp 13) rfl (w.heap.size) 6 rfl a.parent HA.out.parent (range_part B1.out (fun j u hu => by have := vc_parent HA.out j u hu; simpa using this)) (.agg pa) HPA.out ?_)
    | (refine wpList_load_name rfl (.tmp 15) rfl (w.heap.size + 1) 6 rfl b.parent HB.out.parent (range_part B2.out (fun j u hu => by have := vc_parent HB.out j u hu; simpa using this)) (.agg pb) HPB.out ?_))
  refine (HCL.out _).mono ?_
  rintro e w1 ⟨rfl, hu1⟩
  have U1 := Lib.hid hu1
  clear hu1
  go_wp2
  go_ret
  exact ⟨retb HZ.out.symm, (((Upd.refl NoF w).alloc _).alloc _).trans U1.out (fun _ _ h => h)⟩

set_option maxRecDepth 100000 in
set_option maxHeartbeats 4000000 in
theorem rLess_q {a b : VoteS} (ha : a.Fit) (hb : b.Fit) (w : World) (hp : a.parent = b.parent) : Calls Try.prog 57 #[voteV a, voteV b] w fun e w' => e = .returned (.bool (lessV a b)) ∧ Upd NoF w w' := by
  have hne : ∀ w, (binOp .neq 33 (nameV a.parent) (nameV b.parent)).run Try.prog w = .ok (.bool false) w := fun w => by rw [name_neq _ _ ha.parent hb.parent, hp]; simp
  have hnv : ∀ w, (binOp .neq 33 (nameV a.value) (nameV b.value)).run Try.prog w = .ok (.bool (!(a.value == b.value))) w := fun w => name_neq _ _ ha.value hb.value w
  have CL := r1Less_any a.value b.value ha.value hb.value
  obtain ⟨pa, hpa⟩ : ∃ pa, nameV a.parent = .agg pa := ⟨_, rfl⟩
  obtain ⟨pb, hpb⟩ : ∃ pb, nameV b.parent = .agg pb := ⟨_, rfl⟩
  obtain ⟨va, hva⟩ : ∃ pa, nameV a.value = .agg pa := ⟨_, rfl⟩
  obtain ⟨vb, hvb⟩ : ∃ pb, nameV b.value = .agg pb := ⟨_, rfl⟩
  rw [hpa, hpb] at hne
  rw [hva, hvb] at hnv CL
  have HCL := Lib.hid CL
  have HNV := Lib.hid hnv
  have HPA := Lib.hid hpa
  have HPB := Lib.hid hpb
  have HVA := Lib.hid hva
  have HVB := Lib.hid hvb
  have HA := Lib.hid ha
  have HB := Lib.hid hb
  have HP := Lib.hid hp
  have B1 := Lib.hid ((Blk.new w 35 (voteCells a).toArray).alloc (.cells (voteCells b).toArray 35))
  have B2 := Lib.hid (show Blk ((w.alloc (.cells (voteCells a).toArray 35)).alloc (.cells (voteCells b).toArray 35)) (w.heap.size + 1) 35 (voteCells b).toArray from by have := Blk.new (w.alloc (.cells (voteCells a).toArray 35)) 35 (voteCells b).toArray; simpa using this)
  have x0 : (voteCells a)[0]? = some (.int .i64 a.kind) := vc0 a
  have y0 : (voteCells b)[0]? = some (.int .i64 b.kind) := vc0 b
  have x1 : (voteCells a)[1]? = some (.int .i64 a.slot) := vc1 a
  have y1 : (voteCells b)[1]? = some (.int .i64 b.slot) := vc1 b
  have x2 : (voteCells a)[2]? = some (.int .i64 a.round) := vc2 a
  have y2 : (voteCells b)[2]? = some (.int .i64 b.round) := vc2 b
  have x3 : (voteCells a)[3]? = some (.int .i64 a.choice) := vc3 a
  have y3 : (voteCells b)[3]? = some (.int .i64 b.choice) := vc3 b
  have x4 : (voteCells a)[4]? = some (.int .i64 a.signer) := vc4 a
  have y4 : (voteCells b)[4]? = some (.int .i64 b.signer) := vc4 b
  have x5 : (voteCells a)[5]? = some (.int .i64 a.support) := vc5 a
  have y5 : (voteCells b)[5]? = some (.int .i64 b.support) := vc5 b
  clear hpa hpb ha hb hp hva hvb hnv CL
  go_enter Try.func57, Try.ntmps57
  go_wp2_with (first
    | (refine wpList_load_name rfl (.tmp 8) rfl (w.heap.size) 6 rfl a.parent HA.out.parent (range_part B1.out (fun j u hu => by have := vc_parent HA.out j u hu; simpa using this)) (.agg pa) HPA.out ?_)
    | (refine wpList_load_name rfl (.tmp 10) rfl (w.heap.size + 1) 6 rfl b.parent HB.out.parent (range_part B2.out (fun j u hu => by have := vc_parent HB.out j u hu; simpa using this)) (.agg pb) HPB.out ?_))
  obtain ⟨W, hW⟩ : ∃ W, W = ((((w.alloc (.cells (voteCells a).toArray 35)).alloc (.cells (voteCells b).toArray 35)).alloc (.cells #[.int .i64 a.slot, .int .i64 a.round, .int .i64 a.kind, .int .i64 a.signer, .int .i64 a.choice] 124)).alloc (.cells #[.int .i64 b.slot, .int .i64 b.round, .int .i64 b.kind, .int .i64 b.signer, .int .i64 b.choice] 124)) := ⟨_, rfl⟩
  rw [← hW]
  have hb1 : Blk W w.heap.size 35 (voteCells a).toArray := by rw [hW]; exact (B1.out.alloc _).alloc _
  have hb2 : Blk W (w.heap.size + 1) 35 (voteCells b).toArray := by rw [hW]; exact (B2.out.alloc _).alloc _
  have hb3 : Blk W (w.heap.size + 1 + 1) 124 #[.int .i64 a.slot, .int .i64 a.round, .int .i64 a.kind, .int .i64 a.signer, .int .i64 a.choice] := by
    rw [hW]
    have := (Blk.new ((w.alloc (.cells (voteCells a).toArray 35)).alloc (.cells (voteCells b).toArray 35)) 124 #[.int .i64 a.slot, .int .i64 a.round, .int .i64 a.kind, .int .i64 a.signer, .int .i64 a.choice]).alloc (.cells #[.int .i64 b.slot, .int .i64 b.round, .int .i64 b.kind, .int .i64 b.signer, .int .i64 b.choice] 124)
    simpa using this
  have hb4 : Blk W (w.heap.size + 1 + 1 + 1) 124 #[.int .i64 b.slot, .int .i64 b.round, .int .i64 b.kind, .int .i64 b.signer, .int .i64 b.choice] := by
    rw [hW]
    have := Blk.new (((w.alloc (.cells (voteCells a).toArray 35)).alloc (.cells (voteCells b).toArray 35)).alloc (.cells #[.int .i64 a.slot, .int .i64 a.round, .int .i64 a.kind, .int .i64 a.signer, .int .i64 a.choice] 124)) 124 #[.int .i64 b.slot, .int .i64 b.round, .int .i64 b.kind, .int .i64 b.signer, .int .i64 b.choice]
    simpa using this
  have UW := Lib.hid (show Upd NoF w W from by rw [hW]; exact ((((Upd.refl NoF w).alloc _).alloc _).alloc _).alloc _)
  have BW1 := Lib.hid hb1
  have BW2 := Lib.hid hb2
  have BW3 := Lib.hid hb3
  have BW4 := Lib.hid hb4
  have s1 : W.cell? ⟨w.heap.size, 5, none⟩ = some (.int .i64 a.support) := (hb1.cell 5).trans (by simpa using vc5 a)
  have s2 : W.cell? ⟨w.heap.size + 1, 5, none⟩ = some (.int .i64 b.support) := (hb2.cell 5).trans (by simpa using vc5 b)
  clear hW hb1 hb2 hb3 hb4 x0 y0 x1 y1 x2 y2 x3 y3 x4 y4 x5 y5 B1 B2 hne
  go_loopw [7] (fun i wr => LsRel a b W i wr) (fun i _ => 5 - (intOf i).toNat)
  case atStart => exact ⟨0, 0, by omega, rfl, fun j h => absurd h (by omega), rfl⟩
  case round =>
    obtain ⟨k, q, hk, rfl, heq, rfl⟩ := hrel
    by_cases hlt : k < 5
    · obtain ⟨x, hx⟩ : ∃ x, (five a)[k]? = some x := ⟨_, List.getElem?_eq_getElem hlt⟩
      obtain ⟨y, hy⟩ : ∃ y, (five b)[k]? = some y := ⟨_, List.getElem?_eq_getElem hlt⟩
      have cx : W.cell? ⟨w.heap.size + 1 + 1, k, none⟩ = some (.int .i64 x) := (BW3.out.cell k).trans (five_cell a hx)
      have cy : W.cell? ⟨w.heap.size + 1 + 1 + 1, k, none⟩ = some (.int .i64 y) := (BW4.out.cell k).trans (five_cell b hy)
      have t1 : decide ((k : Int) < 5) = true := by simp; omega
      have t1' : decide (k < 5) = true := by simp; omega
      have q0 : (0 : Int) ≤ (k : Int) := by omega
      have q1 : (k : Int) < 5 := by omega
      by_cases hxy : x = y
      · subst hxy
        have HR := Lib.hid (show ∀ j, j < k + 1 → (five a)[j]? = (five b)[j]? from fun j hj => by
          rcases Nat.lt_or_ge j k with h | h
          · exact heq j h
          · obtain rfl : j = k := by omega
            rw [hx, hy])
        clear hx hy heq
        go_wp2
        go_quiet (fail)
        go_wp2
        go_roundw
        case rel => exact ⟨k + 1, _, by omega, by go_num, HR.out, rfl⟩
        case measure => simp [intOf]; omega
      · have HZ := Lib.hid (lessV_at HP.out heq hx hy hxy)
        have t2 : (x == y) = false := by simpa using hxy
        have t2' : (x != y) = true := by simpa using hxy
        clear hx hy heq hxy
        go_wp2
        go_quiet (fail)
        go_wp2
        go_quiet (fail)
        go_wp2
        go_ret
        exact ⟨retb HZ.out.symm, ((UW.out.drewN _).drewN _).drewN _⟩
    · obtain rfl : k = 5 := by omega
      have HZ := Lib.hid (lessV_val HP.out heq)
      clear heq hk hlt
      by_cases hv : a.value = b.value
      · have hnv : ∀ w, (binOp .neq 33 (.agg va) (.agg vb)).run Try.prog w = .ok (.bool false) w := fun w => by rw [HNV.out w, hv]; simp
        have HV := Lib.hid hv
        clear hv
        go_wp2_with (first
          | (refine wpList_load_name rfl (.tmp 58) rfl (w.heap.size) 14 rfl a.value HA.out.value (range_part (BW1.out.drewN q) (fun j u hu => by have := vc_value HA.out j u hu; simpa using this)) (.agg va) HVA.out ?_)
          | (refine wpList_load_name rfl (.tmp 60) rfl (w.heap.size + 1) 14 rfl b.value HB.out.value (range_part (BW2.out.drewN q) (fun j u hu => by have := vc_value HB.out j u hu; simpa using this)) (.agg vb) HVB.out ?_))
        go_ret
        exact ⟨retb (by rw [HZ.out, if_pos HV.out]), UW.out.drewN _⟩
      · have hnv : ∀ w, (binOp .neq 33 (.agg va) (.agg vb)).run Try.prog w = .ok (.bool true) w := fun w => by rw [HNV.out w, beq_eq_false_iff_ne.2 hv]; rfl
        have HV := Lib.hid hv
        clear hv
        go_wp2_with (first
          | (refine wpList_load_name rfl (.tmp 58) rfl (w.heap.size) 14 rfl a.value HA.out.value (range_part (BW1.out.drewN q) (fun j u hu => by have := vc_value HA.out j u hu; simpa using this)) (.agg va) HVA.out ?_)
          | (refine wpList_load_name rfl (.tmp 60) rfl (w.heap.size + 1) 14 rfl b.value HB.out.value (range_part (BW2.out.drewN q) (fun j u hu => by have := vc_value HB.out j u hu; simpa using this)) (.agg vb) HVB.out ?_)
          | (refine wpList_load_name rfl (.tmp 63) rfl (w.heap.size) 14 rfl a.value HA.out.value (range_part (BW1.out.drewN q) (fun j u hu => by have := vc_value HA.out j u hu; simpa using this)) (.agg va) HVA.out ?_)
          | (refine wpList_load_name rfl (.tmp 65) rfl (w.heap.size + 1) 14 rfl b.value HB.out.value (range_part (BW2.out.drewN q) (fun j u hu => by have := vc_value HB.out j u hu; simpa using this)) (.agg vb) HVB.out ?_))
        refine (HCL.out _).mono ?_
        rintro e w1 ⟨rfl, hu1⟩
        have U1 := Lib.hid hu1
        clear hu1
        go_wp2
        go_ret
        exact ⟨retb (by rw [HZ.out, if_neg HV.out]), (UW.out.drewN _).trans U1.out (fun _ _ h => h)⟩

theorem rLess_any {a b : VoteS} (ha : a.Fit) (hb : b.Fit) (w : World) : Calls Try.prog 57 #[voteV a, voteV b] w fun e w' => e = .returned (.bool (lessV a b)) ∧ Upd NoF w w' := by
  by_cases hp : a.parent = b.parent
  · exact rLess_q ha hb w hp
  · exact rLess_p ha hb w hp
end

section
open Go.ChangeShapes Go.WideShapes Go.ChangeAt Go.RowKit

theorem own : ownKnob Try.prog.godebug = none := by kernel_rfl
theorem laid : laidOutB Try.prog = true := by kernel_rfl

theorem trodAll_below {H : Type} {enc : TypeId × Value → H} {W W' : World} (hb : Below W.heap.size W W') : ∀ {ts : List TypeId} {vs : List Value} {ds : List (DataW H)} {ps : List MemPlace},
    DataW.TrodAll enc Try.prog W 0 (fun _ => true) true ts vs ds ps → (∀ x ∈ ps, x.block < W.heap.size) → (∀ t ∈ ts, Try.prog.readableRec t = true ∧ t < Try.prog.types.size) →
    DataW.TrodAll enc Try.prog W' 0 (fun b => decide (b < W.heap.size)) true ts vs ds ps
  | [], vs, ds, ps, h, _, _ => by
    obtain ⟨rfl, rfl, rfl⟩ := trodAll_nil h
    exact trodAll_mk0
  | t :: ts, vs, ds, ps, h, hlt, hr => by
    obtain ⟨v, vs0, d, ds0, p, ps0, rfl, rfl, rfl, h0, r0⟩ := trodAll_cons h
    obtain ⟨hr1, hr2⟩ := hr t (by simp)
    exact trodAll_cons_mk (Below.trod laid hr1 hr2 h0 hb (fun x hx => hlt x (by simp [hx]))) (trodAll_below hb r0 (fun x hx => hlt x (by simp [hx])) (fun t ht => hr t (by simp [ht])))

/-- The row's post of a statement that returned true and turned nothing that was there. -/
theorem law_post {H : Type} {enc : TypeId × Value → H} {f : Func} {s : ChangeSpec} {W W' : World} {args : Array Value} {ds gs : List (DataW H)} {before : List MemPlace} (hv : s.vars = []) (hres : f.resultTypes = #[4])
    (hr : ∀ t ∈ f.params.toList, Try.prog.readableRec t = true ∧ t < Try.prog.types.size) (hfn : (s.fn H (ds ++ gs)).results = [.lit (.bool true)] ∧ (s.fn H (ds ++ gs)).args = ds ∧ (s.fn H (ds ++ gs)).vars = [])
    (hW : DataW.Whole enc Try.prog f.params.toList s.vars false W args.toList ds gs before) (hb : Below W.heap.size W W') : s.post enc Try.prog f false true false false W args (.bool true) W' := by
  have hW0 := hW
  have hlt : ∀ p ∈ before, p.block < W.heap.size := fun p hp => hW.lt p hp
  obtain ⟨p, q, hA, hV, rfl, _, _⟩ := hW
  rw [hv] at hV
  obtain ⟨rfl, rfl⟩ := trodVars_none hV
  refine ⟨ds, [], p ++ [], [], p, [], hW0, ?_, ?_, ?_, World.keptBut_mono (fun x hx => ⟨hx, .inr (.inl (by simpa using hx))⟩) (hb.frame (· ∈ p ++ [])), fun h => by cases h⟩
  · rw [hfn.1, hres]
    exact trodAll_cons_mk (shut_bool Try.underlying4 true) trodAll_mk0
  · rw [hfn.2.1]
    exact trodAll_below hb hA (fun x hx => hlt x (by simp [hx])) hr
  · rw [hv, hfn.2.2]
    exact rfl
end

section
open Go.ChangeShapes Go.WideShapes Go.ChangeAt Go.RowKit

/-- The blocks that were made since w. -/
def Ab (w : World) : Nat → Prop := fun k => w.heap.size ≤ k
theorem Upd.ab {w wi wj : World} {F : Nat → Prop} (h : Upd (Ab w) w wi) (h2 : Upd F wi wj) (hF : ∀ k, F k → w.heap.size ≤ k) : Upd (Ab w) w wj := h.trans h2 (fun k _ f => hF k f)

theorem spot_of_cell {w : World} {a : Addr} {v : Value} (h : w.cell? a = some v) : a.spot = none := by
  unfold World.cell? at h
  split at h
  · split at h
    · cases h
    · rename_i hs; simpa using hs
  · cases h
theorem add_form {a : Addr} (hs : a.spot = none) (i : Nat) : a.add i = ⟨a.block, a.off + i, none⟩ := by
  obtain ⟨b, o, s⟩ := a
  simp only at hs
  subst hs
  unfold Addr.add
  split <;> simp_all

/-- Cells that were there stay, while only new blocks are written. -/
theorem Rd.ab {w : World} {size : Nat} {v : Value} {n : Nat} {xs : List Value} (h : Rd w size v n xs) : RdF (Ab w) w size v n xs := by
  intro w' hu
  obtain ⟨A, c, rfl, hn, hc, hl, hA⟩ := h
  refine ⟨A, c, rfl, hn, hc, hl, fun h0 => ?_⟩
  obtain ⟨g, o, rfl, hx⟩ := hA h0
  refine ⟨g, o, rfl, fun j u hj => hu.cell (hx j u hj) ?_⟩
  have := block_lt_of_cell (hx j u hj)
  simp only [Ab]
  simp only at this
  omega

section
variable {H : Type} {enc : TypeId × Value → H} {W : World} {v : Value} {d : DataW H} {p : List MemPlace}

theorem cells_u8 : Try.prog.cellsOf 5 = 1 := by kernel_rfl
theorem cells_int : Try.prog.cellsOf 3 = 1 := by kernel_rfl
theorem cells_bytes : Try.prog.cellsOf 36 = 1 := by kernel_rfl

theorem open_nums {t e : TypeId} {k : IntKind} (ht : Try.prog.underlying t = some (.slice e)) (he : Try.prog.underlying e = some (.int k)) (hc : Try.prog.cellsOf e = 1) {fuel : Nat} {base : Nat} {spare : Nat → Bool} {held : Bool} {x : DataW H × List MemPlace}
    (h : DataW.trod enc Try.prog W base spare held fuel t [v] = some x) : ∃ zs : List Int, Rd W 1 v zs.length (zs.map (Value.int k)) ∧ ∀ z ∈ zs, (Lit.int k z).wf = true := by
  rcases open_ints ht he hc h with ⟨hcs, hx⟩ | ⟨a, len, cap, zs, hcs, _, hl, hm, hz, hx, hcell, hwz⟩
  · injection hcs with hcs
    subst hcs
    exact ⟨[], Rd.nil W 1, by simp⟩
  · injection hcs with hcs
    subst hcs
    have hlen : (zs.take len).length = len := by
      rw [List.length_take]
      split at hz <;> omega
    refine ⟨zs.take len, ⟨some a, cap, by rw [hlen], by omega, hm, by simp, fun h0 => ?_⟩, fun z hz' => hwz z (List.mem_of_mem_take hz')⟩
    have hlz : len ≤ zs.length := by split at hz <;> omega
    have h00 : W.cell? (a.add 0) = some (.int k (zs.getD 0 0)) := hcell 0 (by omega)
    have hs : a.spot = none := by
      have := spot_of_cell h00
      revert this
      unfold Addr.add
      simp
    refine ⟨a.block, a.off, by cases a; simp_all, fun j u hj => ?_⟩
    rw [List.getElem?_map] at hj
    have hjl : j < len := by
      rcases Nat.lt_or_ge j len with h | h
      · exact h
      · rw [List.getElem?_eq_none (by omega)] at hj; cases hj
    have := hcell j (by omega)
    rw [add_form hs] at this
    rw [this]
    rw [List.getElem?_take, if_pos hjl, List.getElem?_eq_getElem (by omega)] at hj
    simp only [Option.map_some, Option.some.injEq] at hj
    rw [← hj]
    simp [List.getElem?_eq_getElem (show j < zs.length by omega)]

set_option maxRecDepth 100000 in
theorem wf_u8 {z : Int} (h : (Lit.int .u8 z).wf = true) : 0 ≤ z ∧ z < 256 := by
  have := bounds_u8 h
  omega
theorem bytes_of_u8 {zs : List Int} (h : ∀ z ∈ zs, (Lit.int .u8 z).wf = true) : zs.map (Value.int .u8) = (zs.map (fun z => UInt8.ofNat z.toNat)).map byteV := by
  rw [List.map_map]
  refine List.map_congr_left (fun z hz => ?_)
  obtain ⟨h1, h2⟩ := wf_u8 (h z hz)
  have : (UInt8.ofNat z.toNat).toNat = z.toNat := by simp; omega
  simp only [Function.comp, byteV, this]
  rw [Int.toNat_of_nonneg h1]

theorem open_bytes_of {fuel base : Nat} {spare : Nat → Bool} {held : Bool} {x : DataW H × List MemPlace} (h : DataW.trod enc Try.prog W base spare held fuel 36 [v] = some x) : ∃ bs : List UInt8, Rd W 1 v bs.length (bs.map byteV) := by
  obtain ⟨zs, h1, h2⟩ := open_nums (v := v) Try.underlying36 Try.underlying5 cells_u8 h
  refine ⟨zs.map (fun z => UInt8.ofNat z.toNat), ?_⟩
  rw [← bytes_of_u8 h2, List.length_map]
  exact h1

set_option maxRecDepth 100000 in
theorem wf_i64 {z : Int} (h : (Lit.int .i64 z).wf = true) : -9223372036854775808 ≤ z ∧ z ≤ 9223372036854775807 := by
  have := bounds_i64 h
  omega

/-- The cells of a slice of whatever element type of one cell. -/
theorem open_cells {t e : TypeId} (ht : Try.prog.underlying t = some (.slice e)) (hc : Try.prog.cellsOf e = 1) {fuel base : Nat} {spare : Nat → Bool} {held : Bool} {x : DataW H × List MemPlace} (h : DataW.trod enc Try.prog W base spare held fuel t [v] = some x) :
    ∃ vs : List Value, Rd W 1 v vs.length vs ∧ ∀ u ∈ vs, ∃ n y, DataW.trod enc Try.prog W base spare held n e [u] = some y := by
  rcases Go.Deep.open_slice ht h with ⟨hcs, hx⟩ | ⟨a, len, cap, m, n, D, Pl, hcs, _, hl, hm, hz, hx, hi⟩
  · injection hcs with hcs
    subst hcs
    exact ⟨[], Rd.nil W 1, by simp⟩
  · injection hcs with hcs
    subst hcs
    have hlm : len ≤ m := by split at hz <;> omega
    have hex : ∀ i, i < len → ∃ u, W.cell? (a.add i) = some u ∧ DataW.trod enc Try.prog W base spare held n e [u] = some (D i, Pl i) := by
      intro i hilt
      obtain ⟨cs', h1, h2⟩ := hi i (by omega)
      rw [hc] at h1
      obtain ⟨_, hcl, hat⟩ := World.cells?_some h1
      have h00 := hat 0 (by omega)
      obtain ⟨u, rfl⟩ : ∃ u, cs' = [u] := by
        match cs', hcl with
        | [u], _ => exact ⟨u, rfl⟩
      rw [Go.Deep.add_add] at h00
      exact ⟨u, by simpa using h00, h2⟩
    have hspot : 0 < len → a.spot = none := by
      intro h0
      obtain ⟨u, h1, _⟩ := hex 0 h0
      have := spot_of_cell h1
      revert this
      unfold Addr.add
      simp
    refine ⟨(List.range len).map (fun i => (W.cell? (a.add i)).getD undef), ⟨some a, cap, by simp, by simpa using hl, hm, by simp, fun h0 => ?_⟩, ?_⟩
    · have hs := hspot (by simpa using h0)
      refine ⟨a.block, a.off, by cases a; simp_all, fun j u hj => ?_⟩
      rw [List.getElem?_map] at hj
      have hjl : j < len := by
        rcases Nat.lt_or_ge j len with h | h
        · exact h
        · rw [List.getElem?_eq_none (by simpa using h)] at hj; cases hj
      obtain ⟨u', h1, _⟩ := hex j hjl
      rw [List.getElem?_range hjl] at hj
      simp only [Option.map_some, Option.some.injEq, h1, Option.getD_some] at hj
      subst hj
      rw [add_form hs] at h1
      exact h1
    · intro u hu
      obtain ⟨i, hi', rfl⟩ := List.mem_map.1 hu
      obtain ⟨u', h1, h2⟩ := hex i (by simpa using hi')
      rw [h1]
      exact ⟨n, _, h2⟩

/-- A slice of slices of bytes. -/
def RdBB (F : Nat → Prop) (w : World) (v : Value) (l : List (List UInt8)) : Prop :=
  ∃ vs : List Value, vs.length = l.length ∧ RdF F w 1 v l.length vs ∧ ∀ (i : Nat) b, l[i]? = some b → ∃ u, vs[i]? = some u ∧ RdB F w u b

end
end

section
open Go.ChangeShapes Go.WideShapes Go.ChangeAt Go.RowKit

section
variable {H : Type} {enc : TypeId × Value → H} {W : World} {v : Value} {d : DataW H} {p : List MemPlace}

theorem flatten_at {rows : List (List Value)} {k : Nat} (hk : ∀ r ∈ rows, r.length = k) {i j : Nat} {r : List Value} (hr : rows[i]? = some r) (hj : j < k) : rows.flatten[i * k + j]? = r[j]? := by
  induction rows generalizing i with
  | nil => cases hr
  | cons y l ih =>
    have hy := hk y (by simp)
    rw [List.flatten_cons]
    cases i with
    | zero =>
      simp at hr
      subst hr
      rw [List.getElem?_append_left (by omega)]
      simp
    | succ i =>
      rw [List.getElem?_append_right (by rw [hy, Nat.succ_mul]; omega), hy, show (i + 1) * k + j - k = i * k + j by rw [Nat.succ_mul]; omega]
      exact ih (fun r hr => hk r (by simp [hr])) (by simpa using hr)
theorem flatten_len {rows : List (List Value)} {k : Nat} (hk : ∀ r ∈ rows, r.length = k) : rows.flatten.length = rows.length * k := by
  induction rows with
  | nil => simp
  | cons y l ih =>
    rw [List.flatten_cons, List.length_append, ih (fun r hr => hk r (by simp [hr])), hk y (by simp), List.length_cons, Nat.succ_mul]
    omega

end
end
end Go.Proofs.Ytbgificdilpdcaa
