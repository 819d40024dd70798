/- JournalActs returns true for every list of acts: any sequence of calls, with power failures, crashes and bytes that others append, returns the documented errors and records. No condition. -/
import Derived.Test.YtmapijpphnlcmaaMj7
import Derived.Test.YtmapijpphnlcmaaFrame
namespace Go.Proofs.Ytmapijpphnlcmaa
section
open Go.ChangeShapes Go.WideShapes Go.ChangeAt Go.RowKit

set_option maxRecDepth 100000 in
theorem jactsp_lifted (os : Os) (started : os.Started) (H : Type) (enc : TypeId × Value → H) :
    ReturnsInHanded {} Try.checked os 8 .any (Rows.journalActsSpec.pre6 enc Try.prog Try.f8 Rows.journalActsRow.domain false) (Rows.journalActsSpec.post enc Try.prog Try.f8 false true false false) := by
  refine returnsInHanded_of_change (C := Try.checked) own started (by kernel_rfl) Try.func8
    (ChangeSpec.witness6 (enc := enc) (C := Try.checked) false ⟨#[], #[.slice none 0 0], []⟩ 8 (by kernel_rfl) (by kernel_rfl) (by kernel_rfl) (by kernel_rfl)) ?_
  intro W base args ds gs before hval0 hW hcnd _
  have hval : ∀ (j : Nat) t v, Try.f8.params[j]? = some t → args[j]? = some v → Value.okWide Try.prog W .any base t v := hval0
  have hW' := hW
  obtain ⟨p, q, hA0, hV, rfl, hfz, hnd⟩ := hW
  have hA : DataW.TrodAll enc Try.prog W 0 (fun _ => true) true Try.f8.params.toList args.toList ds p := hA0
  rw [Try.params8] at hA hval
  obtain ⟨v0, vs0, d0, ds0, p0, q0, hargs, rfl, rfl, h0, r0⟩ := trodAll_cons hA
  obtain ⟨rfl, rfl, rfl⟩ := trodAll_nil r0
  obtain rfl : args = #[v0] := by cases args; simp_all
  have hgs : gs = [] := (trodVars_none hV).1
  subst hgs
  obtain ⟨l, hl⟩ := open_actsJ (hval 0 52 v0 rfl rfl) h0
  refine (jacts_law hl).mono fun e W' ⟨he, hu⟩ => ?_
  subst he
  exact ⟨_, rfl, law_post rfl rfl (by decide +kernel) ⟨rfl, rfl, rfl⟩ hW' (hu.below (Nat.le_refl _) (fun k hk h => h))⟩

theorem jactsp_over : Rows.journalActsRow.holds Try.pinned (OpenSpec.ofChange Rows.journalActsSpec) :=
  OpenClaim.holds_of_wide 8 Try.f8 rfl rfl rfl rfl rfl rfl rfl ⟨rfl, rfl, rfl, rfl, rfl⟩ rfl rfl rfl rfl rfl (by kernel_rfl) Try.func8 (by kernel_rfl)
    (of_decide_eq_true (by kernel_rfl)) (by unfold Func.isWrapper; first | (rw [if_pos (by decide +kernel)]; kernel_rfl) | (rw [if_neg (by decide +kernel)]; exact ⟨rfl, rfl⟩))
    (fun os started H enc _ => jactsp_lifted os started H enc)

theorem journalActs_holds : Rows.JournalActsSaid := jactsp_over
#print axioms journalActs_holds
end
end Go.Proofs.Ytmapijpphnlcmaa
