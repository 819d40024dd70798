/- ItemsGraph returns true for every list of items and every two names. No condition. -/
import Derived.Test.YtengcmfdfmnacaaGreatJn26
namespace Go.Proofs.YtengcmfdfmnacaaGreat
open Go.ChangeShapes Go.WideShapes Go.ChangeAt Go.RowKit

theorem graph_over : Rows.itemsGraphRow.holds Tryz.pinned (OpenSpec.ofChange Rows.itemsGraphSpec) :=
  OpenClaim.holds_of_wide 4 Tryz.f4 rfl rfl rfl rfl rfl rfl rfl ⟨rfl, rfl, rfl, rfl, rfl⟩ rfl rfl rfl rfl rfl (by kernel_rfl) Tryz.func4 itemsGraph_facts
    (of_decide_eq_true (by kernel_rfl)) (by unfold Func.isWrapper; first | (rw [if_pos (by decide +kernel)]; kernel_rfl) | (rw [if_neg (by decide +kernel)]; exact ⟨rfl, rfl⟩))
    (fun os started H enc _ => graph_lifted os started H enc)

theorem itemsGraph_holds : Rows.ItemsGraphSaid := graph_over
#print axioms itemsGraph_holds
end Go.Proofs.YtengcmfdfmnacaaGreat
