/- SnapshotDecode returns true for every byte string: Decode returns the documented view or error, and accepts only the encoding of what it returns. No condition. -/
import Derived.Test.YtbgificdilpdcaaGreatJn26
import Derived.Test.YtbgificdilpdcaaGreatJn11
namespace Go.Proofs.YtbgificdilpdcaaGreat
open Go.ChangeShapes Go.WideShapes Go.ChangeAt Go.RowKit

set_option maxRecDepth 100000 in
theorem sdec_lifted (os : Os) (started : os.Started) (H : Type) (enc : TypeId × Value → H) :
    ReturnsInHanded {} Tryz.checked os 4 .any (Rows.snapshotDecodeSpec.pre6 enc Tryz.prog Tryz.f4 Rows.snapshotDecodeRow.domain false) (Rows.snapshotDecodeSpec.post enc Tryz.prog Tryz.f4 false true false false) := by
  refine returnsInHanded_of_change (C := Tryz.checked) own started (by kernel_rfl) Tryz.func4
    (ChangeSpec.witness6 (enc := enc) (C := Tryz.checked) false ⟨#[], #[.slice none 0 0], []⟩ 8 (by kernel_rfl) (by kernel_rfl) (by kernel_rfl) (by kernel_rfl)) ?_
  intro W base args ds gs before hval0 hW hcnd _
  have hval : ∀ (j : Nat) t v, Tryz.f4.params[j]? = some t → args[j]? = some v → Value.okWide Tryz.prog W .any base t v := hval0
  have hW' := hW
  obtain ⟨p, q, hA0, hV, rfl, hfz, hnd⟩ := hW
  have hA : DataW.TrodAll enc Tryz.prog W 0 (fun _ => true) true Tryz.f4.params.toList args.toList ds p := hA0
  rw [Tryz.params4] at hA hval
  obtain ⟨v0, vs0, d0, ds0, p0, q0, hargs, rfl, rfl, h0, r0⟩ := trodAll_cons hA
  obtain ⟨rfl, rfl, rfl⟩ := trodAll_nil r0
  obtain rfl : args = #[v0] := by cases args; simp_all
  have hgs : gs = [] := (trodVars_none hV).1
  subst hgs
  obtain ⟨bs, hb⟩ := open_bytes (hval 0 28 v0 rfl rfl) h0
  refine (decode_law hb.now).mono fun e W' ⟨he, hu⟩ => ?_
  subst he
  exact ⟨_, rfl, law_post rfl rfl (by decide +kernel) ⟨rfl, rfl, rfl⟩ hW' (hu.below (Nat.le_refl _) (fun k hk h => h))⟩

theorem sdec_over : Rows.snapshotDecodeRow.holds Tryz.pinned (OpenSpec.ofChange Rows.snapshotDecodeSpec) :=
  OpenClaim.holds_of_wide 4 Tryz.f4 rfl rfl rfl rfl rfl rfl rfl ⟨rfl, rfl, rfl, rfl, rfl⟩ rfl rfl rfl rfl rfl (by kernel_rfl) Tryz.func4 (by kernel_rfl)
    (of_decide_eq_true (by kernel_rfl)) (by unfold Func.isWrapper; first | (rw [if_pos (by decide +kernel)]; kernel_rfl) | (rw [if_neg (by decide +kernel)]; exact ⟨rfl, rfl⟩))
    (fun os started H enc _ => sdec_lifted os started H enc)

theorem snapshotDecode_holds : Rows.SnapshotDecodeSaid := sdec_over
#print axioms snapshotDecode_holds
end Go.Proofs.YtbgificdilpdcaaGreat
