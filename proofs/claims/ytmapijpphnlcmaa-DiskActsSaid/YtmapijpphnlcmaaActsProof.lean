/- DiskActs returns true for every list of acts: any sequence of calls, with power failures and crashes, returns the documented errors and leaves the documented files. No condition. -/
import Derived.Test.YtmapijpphnlcmaaActs7
namespace Go.Proofs.Ytmapijpphnlcmaa
open Go.ChangeShapes Go.WideShapes Go.ChangeAt Go.RowKit

set_option maxRecDepth 100000 in
theorem dacts_lifted (os : Os) (started : os.Started) (H : Type) (enc : TypeId × Value → H) :
    ReturnsInHanded {} Try.checked os 6 .any (Rows.diskActsSpec.pre6 enc Try.prog Try.f6 Rows.diskActsRow.domain false) (Rows.diskActsSpec.post enc Try.prog Try.f6 false true false false) := by
  refine returnsInHanded_of_change (C := Try.checked) own started (by kernel_rfl) Try.func6
    (ChangeSpec.witness6 (enc := enc) (C := Try.checked) false ⟨#[], #[.slice none 0 0], []⟩ 8 (by kernel_rfl) (by kernel_rfl) (by kernel_rfl) (by kernel_rfl)) ?_
  intro W base args ds gs before hval0 hW hcnd _
  have hval : ∀ (j : Nat) t v, Try.f6.params[j]? = some t → args[j]? = some v → Value.okWide Try.prog W .any base t v := hval0
  have hW' := hW
  obtain ⟨p, q, hA0, hV, rfl, hfz, hnd⟩ := hW
  have hA : DataW.TrodAll enc Try.prog W 0 (fun _ => true) true Try.f6.params.toList args.toList ds p := hA0
  rw [Try.params6] at hA hval
  obtain ⟨v0, vs0, d0, ds0, p0, q0, hargs, rfl, rfl, h0, r0⟩ := trodAll_cons hA
  obtain ⟨rfl, rfl, rfl⟩ := trodAll_nil r0
  obtain rfl : args = #[v0] := by cases args; simp_all
  have hgs : gs = [] := (trodVars_none hV).1
  subst hgs
  obtain ⟨l, hl⟩ := open_acts (hval 0 38 v0 rfl rfl) h0
  refine (acts_any hl).mono fun e W' ⟨he, hu⟩ => ?_
  subst he
  exact ⟨_, rfl, law_post rfl rfl (by decide +kernel) ⟨rfl, rfl, rfl⟩ hW' (hu.below (Nat.le_refl _) (fun k hk h => by simp only [Ab] at h; omega))⟩

theorem dacts_over : Rows.diskActsRow.holds Try.pinned (OpenSpec.ofChange Rows.diskActsSpec) :=
  OpenClaim.holds_of_wide 6 Try.f6 rfl rfl rfl rfl rfl rfl rfl ⟨rfl, rfl, rfl, rfl, rfl⟩ rfl rfl rfl rfl rfl (by kernel_rfl) Try.func6 (by kernel_rfl)
    (of_decide_eq_true (by kernel_rfl)) (by unfold Func.isWrapper; first | (rw [if_pos (by decide +kernel)]; kernel_rfl) | (rw [if_neg (by decide +kernel)]; exact ⟨rfl, rfl⟩))
    (fun os started H enc _ => dacts_lifted os started H enc)

theorem diskActs_holds : Rows.DiskActsSaid := dacts_over
#print axioms diskActs_holds
end Go.Proofs.Ytmapijpphnlcmaa
