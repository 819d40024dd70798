/- SnapshotSets returns true for every three views: Union and Equal are as documented, and Union is commutative, associative and idempotent. No condition. -/
import Derived.Test.YtbgificdilpdcaaJn27
import Derived.Test.YtbgificdilpdcaaSized2
import Derived.Test.YtbgificdilpdcaaJn6
namespace Go.Proofs.Ytbgificdilpdcaa
open Go.ChangeShapes Go.WideShapes Go.ChangeAt Go.RowKit

set_option maxRecDepth 100000 in
theorem ssets_lifted (os : Os) (started : os.Started) (H : Type) (enc : TypeId × Value → H) :
    ReturnsInHanded {} Try.checked os 3 .any (Rows.snapshotSetsSpec.pre6 enc Try.prog Try.f3 Rows.snapshotSetsRow.domain false) (Rows.snapshotSetsSpec.post enc Try.prog Try.f3 false true false false) := by
  refine returnsInHanded_of_change_sized (C := Try.checked) own started (by kernel_rfl) Try.func3
    (ChangeSpec.witness6 (enc := enc) (C := Try.checked) false ⟨#[], #[.agg #[.slice none 0 0, .slice none 0 0], .agg #[.slice none 0 0, .slice none 0 0], .agg #[.slice none 0 0, .slice none 0 0]], []⟩ 8 (by kernel_rfl) (by kernel_rfl) (by kernel_rfl) (by kernel_rfl)) ?_
  intro W base args ds gs before hval0 hW hcnd hsz _
  have hval : ∀ (j : Nat) t v, Try.f3.params[j]? = some t → args[j]? = some v → Value.okWide Try.prog W .any base t v := hval0
  have hW' := hW
  obtain ⟨p, q, hA0, hV, rfl, hfz, hnd⟩ := hW
  have hA : DataW.TrodAll enc Try.prog W 0 (fun _ => true) true Try.f3.params.toList args.toList ds p := hA0
  have hsz' : (DataW.weightsEach Try.prog (Try.f3.params.toList ++ Rows.snapshotSetsSpec.plain.varTypes Try.prog) (ds ++ gs)).all (· ≤ reachBytes) = true := hsz
  rw [Try.params3] at hA hval hsz'
  obtain ⟨v0, vs0, d0, ds0, p0, q0, hargs, rfl, rfl, h0, r0⟩ := trodAll_cons hA
  obtain ⟨v1, vs1, d1, ds1, p1, q1, rfl, rfl, rfl, h1, r1⟩ := trodAll_cons r0
  obtain ⟨v2, vs2, d2, ds2, p2, q2, rfl, rfl, rfl, h2, r2⟩ := trodAll_cons r1
  obtain ⟨rfl, rfl, rfl⟩ := trodAll_nil r2
  obtain rfl : args = #[v0, v1, v2] := by cases args; simp_all
  have hgs : gs = [] := (trodVars_none hV).1
  subst hgs
  obtain ⟨a0, b0, V0, rfl, hb0, s01, s02, l0⟩ := open_view_len (hval 0 25 v0 rfl rfl) h0 (fun q hq => by
    have := List.all_eq_true.1 hsz' q (DataW.weights_mem_each (j := 0) rfl rfl q hq)
    simpa using this)
  obtain ⟨a1, b1, V1, rfl, hb1, s11, s12, l1⟩ := open_view_len (hval 1 25 v1 rfl rfl) h1 (fun q hq => by
    have := List.all_eq_true.1 hsz' q (DataW.weights_mem_each (j := 1) rfl rfl q hq)
    simpa using this)
  obtain ⟨a2, b2, V2, rfl, hb2, s21, s22, l2⟩ := open_view_len (hval 2 25 v2 rfl rfl) h2 (fun q hq => by
    have := List.all_eq_true.1 hsz' q (DataW.weights_mem_each (j := 2) rfl rfl q hq)
    simpa using this)
  refine (sets_law hb0 hb1 hb2 s01 s02 s11 s12 s21 s22 l0 l1 l2).mono fun e W' ⟨he, hu⟩ => ?_
  subst he
  exact ⟨_, rfl, law_post rfl rfl (by decide +kernel) ⟨rfl, rfl, rfl⟩ hW' (hu.below (Nat.le_refl _) (fun k hk h => h))⟩

theorem ssets_over : Rows.snapshotSetsRow.holds Try.pinned (OpenSpec.ofChange Rows.snapshotSetsSpec) :=
  OpenClaim.holds_of_wide 3 Try.f3 rfl rfl rfl rfl rfl rfl rfl ⟨rfl, rfl, rfl, rfl, rfl⟩ rfl rfl rfl rfl rfl (by kernel_rfl) Try.func3 (by kernel_rfl)
    (of_decide_eq_true (by kernel_rfl)) (by unfold Func.isWrapper; first | (rw [if_pos (by decide +kernel)]; kernel_rfl) | (rw [if_neg (by decide +kernel)]; exact ⟨rfl, rfl⟩))
    (fun os started H enc _ => ssets_lifted os started H enc)

theorem snapshotSets_holds : Rows.SnapshotSetsSaid := ssets_over
#print axioms snapshotSets_holds
end Go.Proofs.Ytbgificdilpdcaa
