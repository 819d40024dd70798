/- The reference disk: Crash. Conditions: every durable part lies within its file; the number of files. -/
import Derived.Test.YtmapijpphnlcmaaRefD
import Derived.BigRegion
namespace Go.Proofs.Ytmapijpphnlcmaa
open Go.RowKit Go.Maps

/-- k files have been through the crash. -/
def CrR (w : World) (m : Nat) (lv lv' : Value) (R : List RRec) (picks : List Int) (at_ i : Value) (wr : World) : Prop :=
  ∃ (k a : Nat) (R' : List RRec), k ≤ R.length ∧ i = .int .i64 k ∧ at_ = .int .i64 a ∧ a ≤ 2 * k ∧ RefL wr m false false 0 lv' R' ∧ R'.map absRR = (crashRun picks (R.map absRR) k).1 ∧ (crashRun picks (R.map absRR) k).2 = picks.drop a ∧
    Upd (fun j => j = m) w wr ∧ ∀ j, refFoot m lv' R' j → refFoot m lv R j ∨ w.heap.size ≤ j

def RCrashPost (w : World) (m : Nat) (lv : Value) (R : List RRec) (picks : List Int) (e : Ending) (w' : World) : Prop :=
  e = .returned (.tuple #[]) ∧ ∃ lv' R', RefL w' m false false 0 lv' R' ∧ R'.map absRR = crashL picks (R.map absRR) ∧ Upd (fun j => j = m) w w' ∧ ∀ j, refFoot m lv' R' j → refFoot m lv R j ∨ w.heap.size ≤ j

section
variable {w wr w' : World} {m : Nat} {off armed : Bool} {left : Nat} {lv lv' : Value} {R R' : List RRec} {picks : List Int}

theorem CrR.len {k : Nat} (h : R'.map absRR = (crashRun picks (R.map absRR) k).1) : R'.length = R.length := by
  have := congrArg List.length h
  rw [crashRun_len] at this
  simpa using this

theorem CrR.at_ {k : Nat} {r : RRec} (h : R'.map absRR = (crashRun picks (R.map absRR) k).1) (hr : R'[k]? = some r) : (R.map absRR)[k]? = some (r.nm, ⟨r.c, r.dur⟩) := by
  have h1 := crashRun_at k picks (R.map absRR)
  rw [← h, List.getElem?_map, hr] at h1
  exact h1.symm

/-- One more file, nothing to do. -/
theorem CrR.skip {k a : Nat} {r : RRec} (hk : k < R.length) (ha : a ≤ 2 * k) (hD : RefL w' m false false 0 lv' R') (h1 : R'.map absRR = (crashRun picks (R.map absRR) k).1) (h2 : (crashRun picks (R.map absRR) k).2 = picks.drop a) (hr : R'[k]? = some r) (h0 : r.c.length - r.dur = 0)
    (hU : Upd (fun j => j = m) w w') (hF : ∀ j, refFoot m lv' R' j → refFoot m lv R j ∨ w.heap.size ≤ j) : CrR w m lv lv' R picks (.int .i64 a) (.int .i64 ((k + 1 : Nat) : Int)) w' := by
  have hs := crashRun_succ k picks (R.map absRR) r.nm ⟨r.c, r.dur⟩ (CrR.at_ h1 hr)
  have hc : ∀ ps, crashF ps ⟨r.c, r.dur⟩ = (⟨r.c, r.dur⟩, ps) := fun ps => by simp [crashF, h0]
  rw [hc] at hs
  refine ⟨k + 1, a, R', by omega, rfl, rfl, by omega, hD, ?_, by rw [hs]; exact h2, hU, hF⟩
  rw [hs, ← h1]
  simp only
  apply List.ext_getElem?
  intro i
  rw [List.getElem?_set]
  split
  · rename_i h
    subst h
    have : k < (R'.map absRR).length := by rw [List.length_map]; exact (List.getElem?_eq_some_iff.1 hr).1
    rw [if_pos this, List.getElem?_map, hr]
    rfl
  · rfl

/-- One more file, its content made anew. -/
theorem CrR.turn {k a : Nat} {r : RRec} {cv : Value} {c' : List UInt8} {g cl : Nat} {w6 : World} (hk : k < R.length) (ha : a ≤ 2 * k) (hlv : lv' = .slice (some ⟨g, 0, none⟩) R'.length cl) (hD : RefL w6 m false false 0 lv' R') (h1 : R'.map absRR = (crashRun picks (R.map absRR) k).1) (h2 : (crashRun picks (R.map absRR) k).2 = picks.drop a) (hr : R'[k]? = some r)
    (h0 : ¬ r.c.length - r.dur = 0) (ho : Own w6 5 1 cv c'.length (c'.map byteV)) (hcl : c'.length ≤ 1099511627776)
    (hc : c' = damaged ((picks[a + 1]?.getD 0 % 3).toNat) ((picks[a]?.getD 0 % ((r.c.length - r.dur + 1 : Nat) : Int)).toNat) (r.c.take (r.dur + (picks[a]?.getD 0 % ((r.c.length - r.dur + 1 : Nat) : Int)).toNat)))
    (hcn : c'.length = r.dur + (picks[a]?.getD 0 % ((r.c.length - r.dur + 1 : Nat) : Int)).toNat)
    (hU : Upd (fun j => j = m) w w6) (hg : w.heap.size ≤ g) (hF : ∀ j, refFoot m lv' R' j → refFoot m lv R j ∨ w.heap.size ≤ j) (hN : ∀ j, OwnB cv j → w.heap.size ≤ j) :
    CrR w m lv lv' R picks (.int .i64 ((a + 2 : Nat) : Int)) (.int .i64 ((k + 1 : Nat) : Int)) ((w6.setCell ⟨g, k * 3 + 1, none⟩ cv).setCell ⟨g, k * 3 + 2, none⟩ (.int .i64 (c'.length : Int))) := by
  subst hlv
  have hk' : k < R'.length := (List.getElem?_eq_some_iff.1 hr).1
  have hs := crashRun_succ k picks (R.map absRR) r.nm ⟨r.c, r.dur⟩ (CrR.at_ h1 hr)
  have hcr : crashF (picks.drop a) ⟨r.c, r.dur⟩ = (⟨c', c'.length⟩, picks.drop (a + 2)) := by
    unfold crashF
    simp only [h0, if_false]
    rw [below_drop]
    simp only
    rw [below_drop]
    simp only
    rw [hcn, hc]
    rfl
  rw [h2, hcr] at hs
  have hD1 := hD.setCont hr cv c' ho hcl
  have hx : (R'.set k { r with cv := cv, c := c' })[k]? = some { r with cv := cv, c := c' } := by simp [hk']
  have hD1' : RefL (w6.setCell ⟨g, k * 3 + 1, none⟩ cv) m false false 0 (.slice (some ⟨g, 0, none⟩) (R'.set k { r with cv := cv, c := c' }).length cl) (R'.set k { r with cv := cv, c := c' }) := by rw [List.length_set]; exact hD1
  have hD2 := hD1'.setDur hx c'.length
  rw [List.length_set] at hD2
  refine ⟨k + 1, a + 2, _, by omega, rfl, rfl, by omega, hD2, ?_, by rw [hs], (hU.setCell (p := ⟨g, k * 3 + 1, none⟩) (.inr hg) _).setCell (p := ⟨g, k * 3 + 2, none⟩) (.inr hg) _, ?_⟩
  · rw [hs, ← h1]
    simp [List.map_set, absRR]
  · rintro j (hj | hj | ⟨x, hx, hj⟩)
    · exact .inl (.inl hj)
    · exact hF j (.inr (.inl hj))
    · rcases mem_set hx with rfl | hx
      · exact .inr (hN j hj)
      · rcases mem_set hx with rfl | hx
        · exact .inr (hN j hj)
        · exact hF j (.inr (.inr ⟨x, hx, hj⟩))
end
end Go.Proofs.Ytmapijpphnlcmaa
