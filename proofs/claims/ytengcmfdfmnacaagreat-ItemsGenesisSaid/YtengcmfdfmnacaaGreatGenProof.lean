/- ItemsGenesis returns true for every genesis. No condition. -/
import Derived.Test.YtengcmfdfmnacaaGreatJn27
namespace Go.Proofs.YtengcmfdfmnacaaGreat
open Go.ChangeShapes Go.WideShapes Go.ChangeAt Go.RowKit

theorem gen_over : Rows.itemsGenesisRow.holds Tryz.pinned (OpenSpec.ofChange Rows.itemsGenesisSpec) :=
  OpenClaim.holds_of_wide 3 Tryz.f3 rfl rfl rfl rfl rfl rfl rfl ⟨rfl, rfl, rfl, rfl, rfl⟩ rfl rfl rfl rfl rfl (by kernel_rfl) Tryz.func3 itemsGenesis_facts
    (of_decide_eq_true (by kernel_rfl)) (by unfold Func.isWrapper; first | (rw [if_pos (by decide +kernel)]; kernel_rfl) | (rw [if_neg (by decide +kernel)]; exact ⟨rfl, rfl⟩))
    (fun os started H enc _ => gen_lifted os started H enc)

theorem itemsGenesis_holds : Rows.ItemsGenesisSaid := gen_over
#print axioms itemsGenesis_holds
end Go.Proofs.YtengcmfdfmnacaaGreat
