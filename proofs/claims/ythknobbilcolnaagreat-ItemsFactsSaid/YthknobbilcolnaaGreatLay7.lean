/- Contracts of the library functions that this seat reaches (sort.SliceStable), laid at this seat's numbers by the tools of the kit. No condition beyond those each theorem states. -/
import Derived.Shelf.Small.Bits
import Derived.Shelf.Strconv.Itoa0
import Derived.Ground.GgsProg
import Derived.Shelf.GgSortFunc.Insertion
import Derived.Shelf.GgSortFunc.Small
import Derived.Shelf.GgSortFunc.InsertionK
import Derived.Shelf.GgSortFunc.SmallK
import Derived.Shelf.GgSortFunc.Tiny
import Derived.Shelf.GgSortFunc.Compose
import Derived.Shelf.GgSortFunc.LotD
import Derived.Ground.GgtProg
import Derived.Shelf.GgSortMore.Stable
import Derived.Shelf.SlSortFuncK.ComposeK
import Derived.Test.YthknobbilcolnaaGreatProg
namespace Go.Proofs
open Go.Shelf
def Tryz.laysGt8_ren : Go.Shelf.Ren := ⟨fun | 8 => 76 | 13 => 125 | 14 => 126 | 16 => 128 | 15 => 127 | 29 => 199 | 30 => 200 | 42 => 248 | 49 => 294 | n => n, fun | 20 => 20 | 26 => 152 | 36 => 222 | 0 => 0 | 38 => 224 | 42 => 228 | 3 => 3 | 4 => 4 | 47 => 110 | 17 => 17 | 33 => 219 | 34 => 220 | 89 => 395 | 12 => 12 | 56 => 170 | 82 => 388 | 5 => 5 | 83 => 389 | 84 => 390 | 85 => 391 | 86 => 392 | 87 => 393 | n => n, fun | n => n⟩
theorem Tryz.laysGt8 : Go.Proofs.LaysGt.n8 Tryz.prog Tryz.laysGt8_ren := {
  mixed := by kernel_rfl
  f8 := Tryz.func76.trans (congrArg some (by kernel_rfl))
  f13 := Tryz.func125.trans (congrArg some (by kernel_rfl))
  f14 := Tryz.func126.trans (congrArg some (by kernel_rfl))
  f15 := Tryz.func127.trans (congrArg some (by kernel_rfl))
  f16 := Tryz.func128.trans (congrArg some (by kernel_rfl))
  f29 := Tryz.func199.trans (congrArg some (by kernel_rfl))
  f30 := Tryz.func200.trans (congrArg some (by kernel_rfl))
  f42 := Tryz.func248.trans (congrArg some (by kernel_rfl))
  f49 := Tryz.func294.trans (congrArg some (by kernel_rfl))
  t0 := Tryz.underlying0
  a0 := Tryz.isAgg0
  z0 := Tryz.sizeOf0
  v0 := Tryz.zeroValue0
  i0 := by kernel_rfl
  t3 := Tryz.underlying3
  a3 := Tryz.isAgg3
  z3 := Tryz.sizeOf3
  v3 := Tryz.zeroValue3
  i3 := by kernel_rfl
  t4 := Tryz.underlying4
  a4 := Tryz.isAgg4
  z4 := Tryz.sizeOf4
  v4 := Tryz.zeroValue4
  i4 := by kernel_rfl
  t5 := Tryz.underlying5
  a5 := Tryz.isAgg5
  z5 := Tryz.sizeOf5
  v5 := Tryz.zeroValue5
  i5 := by kernel_rfl
  t12 := Tryz.underlying12
  a12 := Tryz.isAgg12
  z12 := Tryz.sizeOf12
  v12 := Tryz.zeroValue12
  i12 := by kernel_rfl
  t17 := Tryz.underlying17
  a17 := Tryz.isAgg17
  z17 := Tryz.sizeOf17
  v17 := Tryz.zeroValue17
  i17 := by kernel_rfl
  t20 := Tryz.underlying20
  a20 := Tryz.isAgg20
  z20 := Tryz.sizeOf20
  v20 := Tryz.zeroValue20
  i20 := by kernel_rfl
  t26 := Tryz.underlying152
  a26 := Tryz.isAgg152
  z26 := Tryz.sizeOf152
  v26 := Tryz.zeroValue152
  i26 := by kernel_rfl
  t33 := Tryz.underlying219
  a33 := Tryz.isAgg219
  z33 := Tryz.sizeOf219
  v33 := Tryz.zeroValue219
  i33 := by kernel_rfl
  t34 := Tryz.underlying220
  a34 := Tryz.isAgg220
  z34 := Tryz.sizeOf220
  v34 := Tryz.zeroValue220
  i34 := by kernel_rfl
  t36 := Tryz.underlying222
  a36 := Tryz.isAgg222
  z36 := Tryz.sizeOf222
  v36 := Tryz.zeroValue222
  i36 := by kernel_rfl
  t38 := Tryz.underlying224
  a38 := Tryz.isAgg224
  z38 := Tryz.sizeOf224
  v38 := Tryz.zeroValue224
  i38 := by kernel_rfl
  t42 := Tryz.underlying228
  a42 := Tryz.isAgg228
  z42 := Tryz.sizeOf228
  v42 := Tryz.zeroValue228
  i42 := by kernel_rfl
  t47 := Tryz.underlying110
  a47 := Tryz.isAgg110
  z47 := Tryz.sizeOf110
  v47 := Tryz.zeroValue110
  i47 := by kernel_rfl
  t56 := Tryz.underlying170
  a56 := Tryz.isAgg170
  z56 := Tryz.sizeOf170
  v56 := Tryz.zeroValue170
  i56 := by kernel_rfl
  t82 := Tryz.underlying388
  a82 := Tryz.isAgg388
  z82 := Tryz.sizeOf388
  v82 := Tryz.zeroValue388
  i82 := by kernel_rfl
  t83 := Tryz.underlying389
  a83 := Tryz.isAgg389
  z83 := Tryz.sizeOf389
  v83 := Tryz.zeroValue389
  i83 := by kernel_rfl
  t84 := Tryz.underlying390
  a84 := Tryz.isAgg390
  z84 := Tryz.sizeOf390
  v84 := Tryz.zeroValue390
  i84 := by kernel_rfl
  t85 := Tryz.underlying391
  a85 := Tryz.isAgg391
  z85 := Tryz.sizeOf391
  v85 := Tryz.zeroValue391
  i85 := by kernel_rfl
  t86 := Tryz.underlying392
  a86 := Tryz.isAgg392
  z86 := Tryz.sizeOf392
  v86 := Tryz.zeroValue392
  i86 := by kernel_rfl
  t87 := Tryz.underlying393
  a87 := Tryz.isAgg393
  z87 := Tryz.sizeOf393
  v87 := Tryz.zeroValue393
  i87 := by kernel_rfl
  t89 := Tryz.underlying395
  a89 := Tryz.isAgg395
  z89 := Tryz.sizeOf395
  v89 := Tryz.zeroValue395
  i89 := by kernel_rfl }
end Go.Proofs
