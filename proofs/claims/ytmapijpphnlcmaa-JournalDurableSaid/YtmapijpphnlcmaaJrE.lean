/- JournalDurable on plain data. No condition. -/
import Derived.Test.YtmapijpphnlcmaaJrD
import Derived.Test.YtmapijpphnlcmaaSynced
namespace Go.Proofs.Ytmapijpphnlcmaa
open Go.RowKit

/-- The file of the journal behind t appended and sf synced records. -/
def dfs (l : List (List UInt8)) (t sf : Nat) : FS := if t = 0 then [] else [([106], ⟨framesF 0 (l.take t), (framesF 0 (l.take sf)).length⟩)]

theorem framesF_take_succ (l : List (List UInt8)) (k : Nat) (b : List UInt8) (h : l[k]? = some b) : framesF 0 (l.take (k + 1)) = framesF 0 (l.take k) ++ frameS k b := by
  have hlt := (List.getElem?_eq_some_iff.1 h).1
  rw [List.take_add_one, h, show (some b).toList = [b] from rfl, framesF_snoc]
  simp [show min k l.length = k by omega]

theorem dur_append (l : List (List UInt8)) (k sf left : Nat) (b : List UInt8) (h : l[k]? = some b) (hs : sf ≤ k) : sAppend ⟨dfs l k sf, false, true, left⟩ [106] (frameS k b) = (if wrB true left then 0 else 103, ⟨dfs l (k + 1) sf, !wrB true left, true, wrL true left⟩) := by
  by_cases hk : k = 0
  · subst hk
    obtain rfl : sf = 0 := by omega
    have := framesF_take_succ l 0 b h
    simp [sAppend, dfs, getF, withFile, insF, setF, wrS, this, framesF]
  · simp [sAppend, dfs, hk, getF, withFile, setF, wrS, framesF_take_succ l k b h]
theorem dur_sync_yes (l : List (List UInt8)) (t sf left : Nat) (ht : ¬ t = 0) (hw : wrB true left = true) : sSync ⟨dfs l t sf, false, true, left⟩ [106] = (0, ⟨dfs l t t, false, true, wrL true left⟩) := by
  simp [sSync, sChange, dfs, ht, getF, setF, wrS, hw]
theorem dur_sync_no (l : List (List UInt8)) (t sf left : Nat) (ht : ¬ t = 0) (hw : wrB true left = false) : sSync ⟨dfs l t sf, false, true, left⟩ [106] = (103, ⟨dfs l t sf, true, true, wrL true left⟩) := by
  simp [sSync, sChange, dfs, ht, getF, wrS, hw]

theorem framesF_prefix (l : List (List UInt8)) (sf t : Nat) (h : sf ≤ t) : ∃ q, framesF 0 (l.take t) = framesF 0 (l.take sf) ++ q := by
  induction t with
  | zero =>
    obtain rfl : sf = 0 := by omega
    exact ⟨[], by simp⟩
  | succ t ih =>
    rcases Nat.lt_or_ge sf (t + 1) with hlt | hge
    · obtain ⟨q, hq⟩ := ih (by omega)
      cases hb : l[t]? with
      | none => exact ⟨q, by rw [List.take_add_one, hb]; simpa using hq⟩
      | some b => exact ⟨q ++ frameS t b, by rw [framesF_take_succ l t b hb, hq, List.append_assoc]⟩
    · obtain rfl : sf = t + 1 := by omega
      exact ⟨[], by simp⟩
theorem framesF_len (L : List (List UInt8)) (i m : Nat) (h : ∀ r ∈ L, r.length ≤ m) : (framesF i L).length ≤ L.length * (12 + m) := by
  induction L generalizing i with
  | nil => simp [framesF]
  | cons r L ih =>
    have h1 := ih (i + 1) (fun x hx => h x (by simp [hx]))
    have h2 := h r (by simp)
    have h3 : (frameS i r).length = 12 + r.length := by simp [frameS, beB_len, jsumS_len]; omega
    rw [framesF, List.length_append, h3, List.length_cons, Nat.succ_mul]
    omega

/-- What is read behind the crash. -/
theorem dur_crash (l : List (List UInt8)) (t sf : Nat) (hs : sf ≤ t) (off armed : Bool) (left : Nat) (picks : List Int) : ∃ c code, sRead (sCrash ⟨dfs l t sf, off, armed, left⟩ picks) [106] = (c, code) ∧ (code = 0 ∨ code = 6) ∧ (∃ q, c = framesF 0 (l.take sf) ++ q) ∧ c.length ≤ (framesF 0 (l.take t)).length := by
  by_cases ht : t = 0
  · subst ht
    obtain rfl : sf = 0 := by omega
    exact ⟨[], 6, by simp [sRead, sCrash, dfs, crashL, getF], .inr rfl, ⟨[], by simp [framesF]⟩, by simp⟩
  · obtain ⟨q, hq⟩ := framesF_prefix l sf t hs
    have hd : (framesF 0 (l.take sf)).length ≤ (framesF 0 (l.take t)).length := by rw [hq]; simp
    obtain ⟨h1, h2, h3⟩ := crashF_keeps picks ⟨framesF 0 (l.take t), (framesF 0 (l.take sf)).length⟩ hd
    refine ⟨(crashF picks ⟨framesF 0 (l.take t), (framesF 0 (l.take sf)).length⟩).1.c, 0, by simp [sRead, sCrash, dfs, ht, crashL, getF], .inl rfl, ⟨(crashF picks ⟨framesF 0 (l.take t), (framesF 0 (l.take sf)).length⟩).1.c.drop (framesF 0 (l.take sf)).length, ?_⟩, h2⟩
    have h4 : (crashF picks ⟨framesF 0 (l.take t), (framesF 0 (l.take sf)).length⟩).1.c.take (framesF 0 (l.take sf)).length = framesF 0 (l.take sf) := by
      have h5 : (framesF 0 (l.take t)).take (framesF 0 (l.take sf)).length = framesF 0 (l.take sf) := by rw [hq, List.take_left]
      exact h3.trans h5
    generalize (crashF picks ⟨framesF 0 (l.take t), (framesF 0 (l.take sf)).length⟩).1.c = x at h4
    have h5 := List.take_append_drop (framesF 0 (l.take sf)).length x
    rw [h4] at h5
    exact h5.symm

theorem parseF_len (bs : List UInt8) : ∀ (f : Nat) (l : List (List UInt8)) (a : Nat), l.length ≤ (parseF bs f l a).1.length
  | 0, l, a => Nat.le_refl _
  | f + 1, l, a => by
    rw [parseF]
    cases hs : parseStep bs a l.length with
    | none => exact Nat.le_refl _
    | some x =>
      obtain ⟨r, a'⟩ := x
      have := parseF_len bs f (l ++ [r]) a'
      simp at this ⊢
      omega
/-- The frames that were synced are parsed. -/
theorem dur_parse (L : List (List UInt8)) (q : List UInt8) (h : ∀ r ∈ L, r.length ≤ 65536) : L.length ≤ (parseS (framesF 0 L ++ q)).1.length := by
  have hl : L.length ≤ (framesF 0 L ++ q).length + 1 := by
    have : L.length ≤ (framesF 0 L).length := by
      have : ∀ (L : List (List UInt8)) (i : Nat), L.length ≤ (framesF i L).length := by
        intro L
        induction L with
        | nil => simp
        | cons r L ih =>
          intro i
          have h1 := ih (i + 1)
          have h3 : (frameS i r).length = 12 + r.length := by simp [frameS, beB_len, jsumS_len]; omega
          rw [framesF, List.length_append, h3, List.length_cons]
          omega
      exact this L 0
    simp
    omega
  have := parse_frames L [] q [] ((framesF 0 L ++ q).length + 1 - L.length) h
  simp only [List.nil_append, List.length_nil] at this
  unfold parseS
  rw [show (framesF 0 L ++ q).length + 1 = ((framesF 0 L ++ q).length + 1 - L.length) + L.length by omega, this]
  exact parseF_len _ _ L _

/-- Open on a disk that works. -/
theorem sOpen_ok (s : DSt) (nm : List UInt8) (hn : nm ≠ []) (h1 : s.off = false) (h2 : s.armed = false) : ∃ s', sOpen s nm = (0, s', (parseS (sRead s nm).1).1) := by
  obtain ⟨fs, off, armed, left⟩ := s
  simp only at h1 h2
  subst h1 h2
  cases hg : getF fs nm with
  | none =>
    have hr : sRead ⟨fs, false, false, left⟩ nm = ([], 6) := by simp [sRead, hn, hg]
    exact ⟨_, by rw [sOpen_none hr, hr, parse_nil]⟩
  | some f =>
    have hr : sRead ⟨fs, false, false, left⟩ nm = (f.c, 0) := by simp [sRead, hn, hg]
    obtain ⟨p, hp⟩ : ∃ p, parseS f.c = p := ⟨_, rfl⟩
    obtain ⟨l, n⟩ := p
    have hsync : ∀ fs', getF fs' nm ≠ none → ∃ s', sSync ⟨fs', false, false, left⟩ nm = (0, s') := fun fs' h => by
      cases hg' : getF fs' nm with
      | none => exact absurd hg' h
      | some f' => exact ⟨{ wrS ⟨fs', false, false, left⟩ with fs := setF nm ⟨f'.c, f'.c.length⟩ fs' }, by simp [sSync, sChange, hn, hg', wrB]⟩
    by_cases hlt : n < f.c.length
    · have ht : sTruncate ⟨fs, false, false, left⟩ nm n = (0, ⟨setF nm ⟨f.c.take (cutAt n f.c.length), min f.dur (cutAt n f.c.length)⟩ fs, false, false, left⟩) := by simp [sTruncate, sChange, hn, hg, wrB, wrS, wrL]
      obtain ⟨s', hs⟩ := hsync (setF nm ⟨f.c.take (cutAt n f.c.length), min f.dur (cutAt n f.c.length)⟩ fs) (by
        unfold getF at hg ⊢
        obtain ⟨p, hp1, hp2⟩ := Option.map_eq_some_iff.1 hg
        have hpm := List.mem_of_find?_eq_some hp1
        have hpn : p.1 = nm := by simpa using List.find?_some hp1
        intro hnone
        rw [Option.map_eq_none_iff, List.find?_eq_none] at hnone
        exact hnone (p.1, ⟨f.c.take (cutAt n f.c.length), min f.dur (cutAt n f.c.length)⟩) (List.mem_map.2 ⟨p, hpm, by simp [hpn]⟩) (by simp [hpn]))
      refine ⟨s', ?_⟩
      rw [sOpen_cut hr hp hlt, ht, hr, hp]
      simp [hs]
    · obtain ⟨s', hs⟩ := hsync fs (by rw [hg]; simp)
      refine ⟨s', ?_⟩
      rw [sOpen_whole hr hp hlt, hr, hp]
      simp [hs]
end Go.Proofs.Ytmapijpphnlcmaa
