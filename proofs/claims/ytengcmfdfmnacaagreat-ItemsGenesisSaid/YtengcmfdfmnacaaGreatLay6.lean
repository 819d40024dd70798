/- slices.Reverse of names is the function of which the kit proves that it reverses, laid at this seat's numbers by the tools of the kit. No condition. -/
import Derived.Shelf.SlicesQ.Reverse
import Derived.Ground.SlgnProg
import Derived.Test.YtengcmfdfmnacaaGreatProg
namespace Go.Proofs
open Go.Shelf
def Tryz.revNames_ren : Go.Shelf.Ren := ⟨fun | 35 => 82 | n => n, fun | 22 => 22 | 23 => 28 | 3 => 3 | 4 => 4 | 0 => 0 | n => n, fun | n => n⟩
theorem Tryz.revNames : Go.Proofs.SlLaysE0.n35 Tryz.prog Tryz.revNames_ren := {
  mixed := by kernel_rfl
  f35 := ⟨Tryz.f82.name, by decide, Tryz.func82.trans (congrArg some (by kernel_rfl))⟩
  t0 := Tryz.underlying0
  a0 := Tryz.isAgg0
  z0 := Tryz.sizeOf0
  v0 := Tryz.zeroValue0
  t3 := Tryz.underlying3
  a3 := Tryz.isAgg3
  z3 := Tryz.sizeOf3
  v3 := Tryz.zeroValue3
  t4 := Tryz.underlying4
  a4 := Tryz.isAgg4
  z4 := Tryz.sizeOf4
  v4 := Tryz.zeroValue4
  t22 := Tryz.underlying22
  a22 := Tryz.isAgg22
  z22 := Tryz.sizeOf22
  v22 := Tryz.zeroValue22 }
end Go.Proofs
