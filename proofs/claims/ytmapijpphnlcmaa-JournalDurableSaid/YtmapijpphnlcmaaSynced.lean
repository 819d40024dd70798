/- DiskSynced, the plain part: what a crash keeps of a file. No condition. -/
import Derived.Test.YtmapijpphnlcmaaSpec2
namespace Go.Proofs.Ytmapijpphnlcmaa
open Go

theorem take_flipLast (n : Nat) (c : List UInt8) (h : n < c.length) : (flipLast c).take n = c.take n := by
  apply List.ext_getElem?
  intro i
  unfold flipLast
  rw [List.getElem?_take, List.getElem?_take, List.getElem?_modify]
  split
  · have : ¬ (c.length - 1 = i) := by omega
    simp [this]
  · rfl
theorem take_zeroLast (n k : Nat) (c : List UInt8) (h : n + k ≤ c.length) : (zeroLast k c).take n = c.take n := by
  unfold zeroLast
  rw [List.take_append_of_le_length (by simp; omega), List.take_take]
  congr 1
  omega

theorem crashF_keeps (picks : List Int) (f : FSt) (h : f.dur ≤ f.c.length) : f.dur ≤ (crashF picks f).1.c.length ∧ (crashF picks f).1.c.length ≤ f.c.length ∧ (crashF picks f).1.c.take f.dur = f.c.take f.dur := by
  unfold crashF
  split
  · exact ⟨h, Nat.le_refl _, rfl⟩
  · rename_i ht
    have hb := below_lt picks (f.c.length - f.dur + 1) (by omega)
    generalize below picks (f.c.length - f.dur + 1) = k at hb
    simp only
    have hl : (f.c.take (f.dur + k.1)).length = f.dur + k.1 := by simp; omega
    have ht2 : (f.c.take (f.dur + k.1)).take f.dur = f.c.take f.dur := by rw [List.take_take]; congr 1; omega
    unfold damaged
    split
    · rename_i hc
      refine ⟨by simp [flipLast]; omega, by simp [flipLast]; omega, ?_⟩
      rw [take_flipLast _ _ (by omega), ht2]
    · split
      · refine ⟨by simp [zeroLast]; omega, by simp [zeroLast]; omega, ?_⟩
        rw [take_zeroLast _ _ _ (by omega), ht2]
      · exact ⟨by omega, by omega, ht2⟩

/-- The state of the disk behind k rounds. -/
def flat (l : List (List UInt8)) (k : Nat) : List UInt8 := (l.take k).flatten
def synDur (l : List (List UInt8)) (at_ k : Nat) : Nat := if at_ < k then (flat l at_).length else 0
def synS (nm : List UInt8) (l : List (List UInt8)) (at_ k : Nat) : DSt := ⟨if k = 0 then [] else [(nm, ⟨flat l k, synDur l at_ k⟩)], false, false, 0⟩
def synSafe (l : List (List UInt8)) (at_ k : Nat) : List UInt8 := if at_ < k then flat l at_ else []

theorem flat_succ (l : List (List UInt8)) (k : Nat) (b : List UInt8) (h : l[k]? = some b) : flat l (k + 1) = flat l k ++ b := by
  obtain ⟨hlt, rfl⟩ := List.getElem?_eq_some_iff.1 h
  unfold flat
  rw [List.take_succ_eq_append_getElem hlt, List.flatten_append]
  simp
theorem flat_zero (l : List (List UInt8)) : flat l 0 = [] := rfl
theorem flat_take (l : List (List UInt8)) (a k : Nat) (h : a ≤ k) : (flat l k).take (flat l a).length = flat l a := by
  unfold flat
  have : l.take k = l.take a ++ (l.take k).drop a := by
    rw [show l.take a = (l.take k).take a by rw [List.take_take]; congr 1; omega]
    exact (List.take_append_drop a _).symm
  rw [this, List.flatten_append]
  exact List.take_left
theorem flat_le (l : List (List UInt8)) (a k : Nat) (h : a ≤ k) : (flat l a).length ≤ (flat l k).length := by
  have := congrArg List.length (flat_take l a k h)
  simp at this
  omega

/-- A round without the sync. -/
theorem syn_append (nm : List UInt8) (hn : nm ≠ []) (l : List (List UInt8)) (a k : Nat) (b : List UInt8) (h : l[k]? = some b) (hne : k ≠ a) : sAppend (synS nm l a k) nm b = (0, synS nm l a (k + 1)) := by
  have hd : synDur l a (k + 1) = synDur l a k := by
    unfold synDur
    by_cases h1 : a < k
    · rw [if_pos h1, if_pos (by omega)]
    · rw [if_neg h1, if_neg (by omega)]
  have h0 : k = 0 → synDur l a k = 0 := by rintro rfl; simp [synDur]
  by_cases hk : k = 0
  · subst hk
    simp [sAppend, synS, hn, getF, withFile, insF, setF, wrS, wrB, wrL, hd, h0, flat_succ l 0 b h, flat_zero]
  · simp [sAppend, synS, hn, hk, getF, withFile, setF, wrS, wrB, wrL, hd, flat_succ l k b h]
/-- The round with the sync. -/
theorem syn_sync (nm : List UInt8) (hn : nm ≠ []) (l : List (List UInt8)) (a : Nat) (b : List UInt8) (h : l[a]? = some b) :
    (sSync (synS nm l a a) nm).1 = (if a = 0 then 6 else 0) ∧ sAppend (sSync (synS nm l a a) nm).2 nm b = (0, synS nm l a (a + 1)) := by
  by_cases hk : a = 0
  · subst hk
    simp [sSync, sChange, sAppend, synS, hn, getF, withFile, insF, setF, wrS, wrB, wrL, flat_succ l 0 b h, flat_zero, synDur]
  · simp [sSync, sChange, sAppend, synS, hn, hk, getF, withFile, setF, wrS, wrB, wrL, flat_succ l a b h, synDur]

theorem syn_len (nm : List UInt8) (l : List (List UInt8)) (a k : Nat) : ((getF (synS nm l a k).fs nm).getD ⟨[], 0⟩).c.length ≤ (flat l k).length ∧ (synS nm l a k).fs.length ≤ 1 := by
  by_cases hk : k = 0
  · simp [synS, hk, getF]
  · simp [synS, hk, getF]
theorem syn_len2 (nm : List UInt8) (hn : nm ≠ []) (l : List (List UInt8)) (a : Nat) : ((getF (sSync (synS nm l a a) nm).2.fs nm).getD ⟨[], 0⟩).c.length ≤ (flat l a).length ∧ (sSync (synS nm l a a) nm).2.fs.length ≤ 1 := by
  by_cases hk : a = 0
  · simp [sSync, sChange, synS, hn, hk, getF]
  · simp [sSync, sChange, synS, hn, hk, getF, wrS, wrB, wrL, setF]

/-- What is read behind the crash. -/
theorem syn_end (nm : List UInt8) (hn : nm ≠ []) (l : List (List UInt8)) (a : Nat) (hk : 0 < l.length) (picks : List Int) : ∃ c, sRead (sCrash (synS nm l a l.length) picks) nm = (c, 0) ∧
    (synSafe l a l.length).length ≤ c.length ∧ c.length ≤ (flat l l.length).length ∧ c.take (synSafe l a l.length).length = synSafe l a l.length := by
  have hd : synDur l a l.length ≤ (flat l l.length).length := by
    unfold synDur
    split
    · exact flat_le l a _ (by omega)
    · omega
  have hs : (synSafe l a l.length).length = synDur l a l.length := by
    unfold synSafe synDur
    split <;> rfl
  have ht : (flat l l.length).take (synDur l a l.length) = synSafe l a l.length := by
    unfold synDur synSafe
    split
    · exact flat_take l a _ (by omega)
    · simp
  obtain ⟨h1, h2, h3⟩ := crashF_keeps picks ⟨flat l l.length, synDur l a l.length⟩ hd
  refine ⟨(crashF picks ⟨flat l l.length, synDur l a l.length⟩).1.c, ?_, by rw [hs]; exact h1, h2, by rw [hs, h3]; exact ht⟩
  have hk' : l.length ≠ 0 := by omega
  simp only [sRead, sCrash, synS, if_neg hn, if_neg hk', crashL, getF]
  simp
theorem syn_end0 (nm : List UInt8) (hn : nm ≠ []) (l : List (List UInt8)) (a : Nat) (hk : l.length = 0) (picks : List Int) : sRead (sCrash (synS nm l a l.length) picks) nm = ([], 6) := by
  simp [sRead, sCrash, synS, hn, hk, crashL, getF]
theorem syn_crash_len (nm : List UInt8) (l : List (List UInt8)) (a k : Nat) : (synS nm l a k).fs.length ≤ 1 := by
  by_cases hk : k = 0 <;> simp [synS, hk]
end Go.Proofs.Ytmapijpphnlcmaa
