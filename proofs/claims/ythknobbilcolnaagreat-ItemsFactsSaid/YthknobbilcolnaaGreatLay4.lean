/- Contracts of the library functions that this seat reaches (sort.Slice, slices.Clone), laid at this seat's numbers by the tools of the kit. No condition beyond those each theorem states. -/
import Derived.Shelf.Small.Bits
import Derived.Shelf.Strconv.Itoa0
import Derived.Ground.GgsProg
import Derived.Shelf.GgSortFunc.Insertion
import Derived.Shelf.GgSortFunc.Small
import Derived.Shelf.GgSortFunc.InsertionK
import Derived.Shelf.GgSortFunc.SmallK
import Derived.Shelf.GgSortFunc.Tiny
import Derived.Shelf.GgSortFunc.Compose
import Derived.Shelf.GgSortFunc.LotD
import Derived.Ground.GgtProg
import Derived.Shelf.GgSortMore.Stable
import Derived.Shelf.SlSortFuncK.ComposeK
import Derived.Test.YthknobbilcolnaaGreatProg
namespace Go.Proofs
open Go.Shelf
def Tryz.laysGg6_ren : Go.Shelf.Ren := ⟨fun | 6 => 163 | 10 => 125 | 11 => 126 | 12 => 128 | 13 => 48 | 14 => 224 | 24 => 91 | 25 => 92 | 26 => 199 | 27 => 270 | 28 => 271 | 29 => 272 | 30 => 273 | 31 => 274 | 32 => 275 | 33 => 276 | 34 => 314 | 35 => 315 | 36 => 316 | 37 => 317 | 38 => 318 | 39 => 335 | n => n, fun | 20 => 20 | 26 => 152 | 35 => 222 | 0 => 0 | 37 => 224 | 3 => 3 | 41 => 110 | 44 => 228 | 49 => 170 | 51 => 116 | 4 => 4 | 54 => 333 | 53 => 332 | 58 => 142 | 5 => 5 | 9 => 9 | 60 => 361 | 64 => 238 | 66 => 376 | 67 => 298 | 17 => 17 | 32 => 219 | 33 => 220 | 82 => 395 | 12 => 12 | 75 => 388 | 76 => 389 | 77 => 390 | 78 => 391 | 79 => 392 | 80 => 393 | n => n, fun | n => n⟩
theorem Tryz.laysGg6 : Go.Proofs.LaysGg.n6 Tryz.prog Tryz.laysGg6_ren := {
  mixed := by kernel_rfl
  f6 := Tryz.func163.trans (congrArg some (by kernel_rfl))
  f10 := Tryz.func125.trans (congrArg some (by kernel_rfl))
  f11 := Tryz.func126.trans (congrArg some (by kernel_rfl))
  f12 := Tryz.func128.trans (congrArg some (by kernel_rfl))
  f13 := Tryz.func48.trans (congrArg some (by kernel_rfl))
  f14 := Tryz.func224.trans (congrArg some (by kernel_rfl))
  f24 := Tryz.func91.trans (congrArg some (by kernel_rfl))
  f25 := Tryz.func92.trans (congrArg some (by kernel_rfl))
  f26 := Tryz.func199.trans (congrArg some (by kernel_rfl))
  f27 := Tryz.func270.trans (congrArg some (by kernel_rfl))
  f28 := Tryz.func271.trans (congrArg some (by kernel_rfl))
  f29 := Tryz.func272.trans (congrArg some (by kernel_rfl))
  f30 := Tryz.func273.trans (congrArg some (by kernel_rfl))
  f31 := Tryz.func274.trans (congrArg some (by kernel_rfl))
  f32 := Tryz.func275.trans (congrArg some (by kernel_rfl))
  f33 := Tryz.func276.trans (congrArg some (by kernel_rfl))
  f34 := Tryz.func314.trans (congrArg some (by kernel_rfl))
  f35 := Tryz.func315.trans (congrArg some (by kernel_rfl))
  f36 := Tryz.func316.trans (congrArg some (by kernel_rfl))
  f37 := Tryz.func317.trans (congrArg some (by kernel_rfl))
  f38 := Tryz.func318.trans (congrArg some (by kernel_rfl))
  f39 := Tryz.func335.trans (congrArg some (by kernel_rfl))
  t0 := Tryz.underlying0
  a0 := Tryz.isAgg0
  z0 := Tryz.sizeOf0
  v0 := Tryz.zeroValue0
  i0 := by kernel_rfl
  t3 := Tryz.underlying3
  a3 := Tryz.isAgg3
  z3 := Tryz.sizeOf3
  v3 := Tryz.zeroValue3
  i3 := by kernel_rfl
  t4 := Tryz.underlying4
  a4 := Tryz.isAgg4
  z4 := Tryz.sizeOf4
  v4 := Tryz.zeroValue4
  i4 := by kernel_rfl
  t5 := Tryz.underlying5
  a5 := Tryz.isAgg5
  z5 := Tryz.sizeOf5
  v5 := Tryz.zeroValue5
  i5 := by kernel_rfl
  t9 := Tryz.underlying9
  a9 := Tryz.isAgg9
  z9 := Tryz.sizeOf9
  v9 := Tryz.zeroValue9
  i9 := by kernel_rfl
  t12 := Tryz.underlying12
  a12 := Tryz.isAgg12
  z12 := Tryz.sizeOf12
  v12 := Tryz.zeroValue12
  i12 := by kernel_rfl
  t17 := Tryz.underlying17
  a17 := Tryz.isAgg17
  z17 := Tryz.sizeOf17
  v17 := Tryz.zeroValue17
  i17 := by kernel_rfl
  t20 := Tryz.underlying20
  a20 := Tryz.isAgg20
  z20 := Tryz.sizeOf20
  v20 := Tryz.zeroValue20
  i20 := by kernel_rfl
  t26 := Tryz.underlying152
  a26 := Tryz.isAgg152
  z26 := Tryz.sizeOf152
  v26 := Tryz.zeroValue152
  i26 := by kernel_rfl
  t32 := Tryz.underlying219
  a32 := Tryz.isAgg219
  z32 := Tryz.sizeOf219
  v32 := Tryz.zeroValue219
  i32 := by kernel_rfl
  t33 := Tryz.underlying220
  a33 := Tryz.isAgg220
  z33 := Tryz.sizeOf220
  v33 := Tryz.zeroValue220
  i33 := by kernel_rfl
  t35 := Tryz.underlying222
  a35 := Tryz.isAgg222
  z35 := Tryz.sizeOf222
  v35 := Tryz.zeroValue222
  i35 := by kernel_rfl
  t37 := Tryz.underlying224
  a37 := Tryz.isAgg224
  z37 := Tryz.sizeOf224
  v37 := Tryz.zeroValue224
  i37 := by kernel_rfl
  t41 := Tryz.underlying110
  a41 := Tryz.isAgg110
  z41 := Tryz.sizeOf110
  v41 := Tryz.zeroValue110
  i41 := by kernel_rfl
  t44 := Tryz.underlying228
  a44 := Tryz.isAgg228
  z44 := Tryz.sizeOf228
  v44 := Tryz.zeroValue228
  i44 := by kernel_rfl
  t49 := Tryz.underlying170
  a49 := Tryz.isAgg170
  z49 := Tryz.sizeOf170
  v49 := Tryz.zeroValue170
  i49 := by kernel_rfl
  t51 := Tryz.underlying116
  a51 := Tryz.isAgg116
  z51 := Tryz.sizeOf116
  v51 := Tryz.zeroValue116
  i51 := by kernel_rfl
  t53 := Tryz.underlying332
  a53 := Tryz.isAgg332
  z53 := Tryz.sizeOf332
  v53 := Tryz.zeroValue332
  i53 := by kernel_rfl
  t54 := Tryz.underlying333
  a54 := Tryz.isAgg333
  z54 := Tryz.sizeOf333
  v54 := Tryz.zeroValue333
  i54 := by kernel_rfl
  t58 := Tryz.underlying142
  a58 := Tryz.isAgg142
  z58 := Tryz.sizeOf142
  v58 := Tryz.zeroValue142
  i58 := by kernel_rfl
  t60 := Tryz.underlying361
  a60 := Tryz.isAgg361
  z60 := Tryz.sizeOf361
  v60 := Tryz.zeroValue361
  i60 := by kernel_rfl
  t64 := Tryz.underlying238
  a64 := Tryz.isAgg238
  z64 := Tryz.sizeOf238
  v64 := Tryz.zeroValue238
  i64 := by kernel_rfl
  t66 := Tryz.underlying376
  a66 := Tryz.isAgg376
  z66 := Tryz.sizeOf376
  v66 := Tryz.zeroValue376
  i66 := by kernel_rfl
  t67 := Tryz.underlying298
  a67 := Tryz.isAgg298
  z67 := Tryz.sizeOf298
  v67 := Tryz.zeroValue298
  i67 := by kernel_rfl
  t75 := Tryz.underlying388
  a75 := Tryz.isAgg388
  z75 := Tryz.sizeOf388
  v75 := Tryz.zeroValue388
  i75 := by kernel_rfl
  t76 := Tryz.underlying389
  a76 := Tryz.isAgg389
  z76 := Tryz.sizeOf389
  v76 := Tryz.zeroValue389
  i76 := by kernel_rfl
  t77 := Tryz.underlying390
  a77 := Tryz.isAgg390
  z77 := Tryz.sizeOf390
  v77 := Tryz.zeroValue390
  i77 := by kernel_rfl
  t78 := Tryz.underlying391
  a78 := Tryz.isAgg391
  z78 := Tryz.sizeOf391
  v78 := Tryz.zeroValue391
  i78 := by kernel_rfl
  t79 := Tryz.underlying392
  a79 := Tryz.isAgg392
  z79 := Tryz.sizeOf392
  v79 := Tryz.zeroValue392
  i79 := by kernel_rfl
  t80 := Tryz.underlying393
  a80 := Tryz.isAgg393
  z80 := Tryz.sizeOf393
  v80 := Tryz.zeroValue393
  i80 := by kernel_rfl
  t82 := Tryz.underlying395
  a82 := Tryz.isAgg395
  z82 := Tryz.sizeOf395
  v82 := Tryz.zeroValue395
  i82 := by kernel_rfl }
end Go.Proofs
