/- The reference disk's crash: plain facts. No condition. -/
import Derived.Test.YtmapijpphnlcmaaRefC
import Derived.Test.YtmapijpphnlcmaaSpec2
namespace Go.Proofs.Ytmapijpphnlcmaa
open Go.RowKit Go.Maps

theorem below_drop (picks : List Int) (i n : Nat) : below (picks.drop i) n = ((((picks[i]?.getD 0) % (n : Int)).toNat), picks.drop (i + 1)) := by
  by_cases h : i < picks.length
  · rw [List.drop_eq_getElem_cons h]
    simp [below, h]
  · rw [List.drop_eq_nil_of_le (by omega), List.drop_eq_nil_of_le (by omega)]
    simp [below, h]

theorem flip_map {c : List UInt8} {b : UInt8} (hb : c[c.length - 1]? = some b) : (c.map byteV).set (c.length - 1) (byteV (b ^^^ 255)) = (flipLast c).map byteV := by
  unfold flipLast
  rw [← List.map_set]
  congr 1
  apply List.ext_getElem?
  intro i
  rw [List.getElem?_set, List.getElem?_modify]
  have hl := (List.getElem?_eq_some_iff.1 hb).1
  split
  · rename_i h
    subst h
    rw [hb]
    simp
  · simp

theorem zeroLast_zero (c : List UInt8) : zeroLast 0 c = c := by simp [zeroLast]
theorem zeroLast_len {j : Nat} {c : List UInt8} (h : j ≤ c.length) : (zeroLast j c).length = c.length := by simp [zeroLast]; omega
theorem zero_map {c : List UInt8} {j : Nat} (h : j < c.length) : ((zeroLast j c).map byteV).set (c.length - 1 - j) (byteV 0) = (zeroLast (j + 1) c).map byteV := by
  rw [← List.map_set]
  congr 1
  unfold zeroLast
  have e1 : c.take (c.length - j) = c.take (c.length - (j + 1)) ++ [c[c.length - (j + 1)]] := by
    rw [show c.length - j = c.length - (j + 1) + 1 by omega, List.take_succ_eq_append_getElem (by omega)]
  rw [e1, List.append_assoc, List.set_append_right _ _ (by simp; omega)]
  congr 1
  rw [show c.length - 1 - j - (c.take (c.length - (j + 1))).length = 0 by simp; omega]
  rfl
end Go.Proofs.Ytmapijpphnlcmaa
