/- The crash, file by file. No condition. -/
import Derived.Test.YtmapijpphnlcmaaSpec
namespace Go.Proofs.Ytmapijpphnlcmaa
open Go

def crashRun : List Int → FS → Nat → FS × List Int
  | ps, fs, 0 => (fs, ps)
  | ps, [], _ + 1 => ([], ps)
  | ps, (nm, f) :: l, i + 1 => ((nm, (crashF ps f).1) :: (crashRun (crashF ps f).2 l i).1, (crashRun (crashF ps f).2 l i).2)

theorem crashRun_zero (ps : List Int) (fs : FS) : crashRun ps fs 0 = (fs, ps) := by cases fs <;> rfl

theorem crashRun_len : ∀ (i : Nat) (ps : List Int) (fs : FS), (crashRun ps fs i).1.length = fs.length
  | 0, ps, fs => by rw [crashRun_zero]
  | i + 1, ps, [] => rfl
  | i + 1, ps, (nm, f) :: l => by simp [crashRun, crashRun_len i]

theorem crashRun_names : ∀ (i : Nat) (ps : List Int) (fs : FS), (crashRun ps fs i).1.map (·.1) = fs.map (·.1)
  | 0, ps, fs => by rw [crashRun_zero]
  | i + 1, ps, [] => rfl
  | i + 1, ps, (nm, f) :: l => by simp [crashRun, crashRun_names i]

theorem crashRun_at : ∀ (i : Nat) (ps : List Int) (fs : FS), (crashRun ps fs i).1[i]? = fs[i]?
  | 0, ps, fs => by rw [crashRun_zero]
  | i + 1, ps, [] => rfl
  | i + 1, ps, (nm, f) :: l => by simp [crashRun, crashRun_at i]

theorem crashRun_succ : ∀ (i : Nat) (ps : List Int) (fs : FS) (nm : List UInt8) (f : FSt), fs[i]? = some (nm, f) →
    crashRun ps fs (i + 1) = ((crashRun ps fs i).1.set i (nm, (crashF (crashRun ps fs i).2 f).1), (crashF (crashRun ps fs i).2 f).2)
  | 0, ps, [], nm, f, h => by cases h
  | 0, ps, (nm', f') :: l, nm, f, h => by
    simp at h
    obtain ⟨rfl, rfl⟩ := h
    simp [crashRun, crashRun_zero]
  | i + 1, ps, [], nm, f, h => by cases h
  | i + 1, ps, (nm', f') :: l, nm, f, h => by
    have := crashRun_succ i (crashF ps f').2 l nm f (by simpa using h)
    rw [show crashRun ps ((nm', f') :: l) (i + 1 + 1) = ((nm', (crashF ps f').1) :: (crashRun (crashF ps f').2 l (i + 1)).1, (crashRun (crashF ps f').2 l (i + 1)).2) from rfl, this]
    rfl

theorem crashRun_all : ∀ (fs : FS) (ps : List Int), (crashRun ps fs fs.length).1 = crashL ps fs
  | [], ps => rfl
  | (nm, f) :: l, ps => by simp [crashRun, crashL, crashRun_all l]

theorem setF_set {fs : FS} {i : Nat} {nm : List UInt8} {f0 f : FSt} (hp : fs.Pairwise (fun a b => a.1 ≠ b.1)) (h : fs[i]? = some (nm, f0)) : setF nm f fs = fs.set i (nm, f) := by
  induction fs generalizing i with
  | nil => rfl
  | cons y l ih =>
    rw [List.pairwise_cons] at hp
    cases i with
    | zero =>
      simp at h
      subst h
      simp only [setF, List.map_cons, List.set_cons_zero]
      congr 1
      · simp
      · have : ∀ p ∈ l, (if p.1 == nm then (p.1, f) else p) = p := fun p hp' => by
          have := hp.1 p hp'
          simp only at this
          simp [Ne.symm this]
        calc l.map (fun p => if p.1 == nm then (p.1, f) else p) = l.map id := List.map_congr_left this
          _ = l := by simp
    | succ i =>
      simp at h
      have hne : y.1 ≠ nm := hp.1 (nm, f0) (List.mem_of_getElem? h)
      simp only [setF, List.map_cons, List.set_cons_succ]
      have := ih hp.2 h
      simp only [setF] at this
      rw [this]
      simp [hne]

theorem below_lt (picks : List Int) (n : Nat) (h : 0 < n) : (below picks n).1 < n := by
  unfold below
  split
  · exact h
  · rename_i p _
    have h1 := Int.emod_nonneg p (b := n) (by omega)
    have h2 := Int.emod_lt_of_pos p (b := n) (by omega)
    simp only
    omega
theorem below_sub (picks : List Int) (n : Nat) : ∀ z ∈ (below picks n).2, z ∈ picks := by
  unfold below
  split
  · simp
  · intro z hz; simp at hz ⊢; exact .inr hz
theorem crashF_sub (picks : List Int) (f : FSt) : ∀ z ∈ (crashF picks f).2, z ∈ picks := by
  unfold crashF
  split
  · intro z hz; exact hz
  · intro z hz
    simp only at hz
    exact below_sub _ _ z (below_sub _ _ z hz)
theorem crashRun_sub : ∀ (i : Nat) (ps : List Int) (fs : FS), ∀ z ∈ (crashRun ps fs i).2, z ∈ ps
  | 0, ps, fs => by rw [crashRun_zero]; exact fun z hz => hz
  | i + 1, ps, [] => fun z hz => hz
  | i + 1, ps, (nm, f) :: l => fun z hz => crashF_sub ps f z (crashRun_sub i _ l z hz)
end Go.Proofs.Ytmapijpphnlcmaa
