/- SnapshotEncode returns true for every view: Encode returns the documented bytes or error, and Decode inverts it. No condition. -/
import Derived.Test.YtbgificdilpdcaaGreatJn25
import Derived.Test.YtbgificdilpdcaaGreatJn11
namespace Go.Proofs.YtbgificdilpdcaaGreat
open Go.ChangeShapes Go.WideShapes Go.ChangeAt Go.RowKit

set_option maxRecDepth 100000 in
theorem senc_lifted (os : Os) (started : os.Started) (H : Type) (enc : TypeId × Value → H) :
    ReturnsInHanded {} Tryz.checked os 3 .any (Rows.snapshotEncodeSpec.pre6 enc Tryz.prog Tryz.f3 Rows.snapshotEncodeRow.domain false) (Rows.snapshotEncodeSpec.post enc Tryz.prog Tryz.f3 false true false false) := by
  refine returnsInHanded_of_change_sized (C := Tryz.checked) own started (by kernel_rfl) Tryz.func3
    (ChangeSpec.witness6 (enc := enc) (C := Tryz.checked) false ⟨#[], #[.agg #[.slice none 0 0, .slice none 0 0]], []⟩ 8 (by kernel_rfl) (by kernel_rfl) (by kernel_rfl) (by kernel_rfl)) ?_
  intro W base args ds gs before hval0 hW hcnd hsz _
  have hval : ∀ (j : Nat) t v, Tryz.f3.params[j]? = some t → args[j]? = some v → Value.okWide Tryz.prog W .any base t v := hval0
  have hW' := hW
  obtain ⟨p, q, hA0, hV, rfl, hfz, hnd⟩ := hW
  have hA : DataW.TrodAll enc Tryz.prog W 0 (fun _ => true) true Tryz.f3.params.toList args.toList ds p := hA0
  have hsz' : (DataW.weightsEach Tryz.prog (Tryz.f3.params.toList ++ Rows.snapshotEncodeSpec.plain.varTypes Tryz.prog) (ds ++ gs)).all (· ≤ reachBytes) = true := hsz
  rw [Tryz.params3] at hA hval hsz'
  obtain ⟨v0, vs0, d0, ds0, p0, q0, hargs, rfl, rfl, h0, r0⟩ := trodAll_cons hA
  obtain ⟨rfl, rfl, rfl⟩ := trodAll_nil r0
  obtain rfl : args = #[v0] := by cases args; simp_all
  have hgs : gs = [] := (trodVars_none hV).1
  subst hgs
  obtain ⟨a, b, V, rfl, hb, hs1, hs2⟩ := open_view_sized (hval 0 25 v0 rfl rfl) h0 (fun q hq => by
    have := List.all_eq_true.1 hsz' q (DataW.weights_mem_each (j := 0) rfl rfl q hq)
    simpa using this)
  refine (encode_law hb hs1 hs2).mono fun e W' ⟨he, hu⟩ => ?_
  subst he
  exact ⟨_, rfl, law_post rfl rfl (by decide +kernel) ⟨rfl, rfl, rfl⟩ hW' (hu.below (Nat.le_refl _) (fun k hk h => h))⟩

theorem senc_over : Rows.snapshotEncodeRow.holds Tryz.pinned (OpenSpec.ofChange Rows.snapshotEncodeSpec) :=
  OpenClaim.holds_of_wide 3 Tryz.f3 rfl rfl rfl rfl rfl rfl rfl ⟨rfl, rfl, rfl, rfl, rfl⟩ rfl rfl rfl rfl rfl (by kernel_rfl) Tryz.func3 (by kernel_rfl)
    (of_decide_eq_true (by kernel_rfl)) (by unfold Func.isWrapper; first | (rw [if_pos (by decide +kernel)]; kernel_rfl) | (rw [if_neg (by decide +kernel)]; exact ⟨rfl, rfl⟩))
    (fun os started H enc _ => senc_lifted os started H enc)

theorem snapshotEncode_holds : Rows.SnapshotEncodeSaid := senc_over
#print axioms snapshotEncode_holds
end Go.Proofs.YtbgificdilpdcaaGreat
