/- Contracts of the library functions that this seat reaches (sort.Slice, slices.Clone), laid at this seat's numbers by the tools of the kit. No condition beyond those each theorem states. -/
import Derived.Shelf.Small.Bits
import Derived.Shelf.Small.Wraps
import Derived.Shelf.Strconv.Itoa0
import Derived.Ground.GgsProg
import Derived.Shelf.GgSortFunc.Insertion
import Derived.Shelf.GgSortFunc.Small
import Derived.Shelf.GgSortFunc.InsertionK
import Derived.Shelf.GgSortFunc.SmallK
import Derived.Shelf.GgSortFunc.Tiny
import Derived.Shelf.GgSortFunc.Compose
import Derived.Shelf.GgSortFunc.LotD
import Derived.Ground.Names2Prog
import Derived.Shelf.Slices.Clone
import Derived.Shelf.Slices.SearchI
import Derived.Shelf.SlSortFunc.Xorshift
import Derived.Shelf.SlSortFuncK.ComposeK
import Derived.Shelf.SlSortFuncK.SiftDownK
import Derived.Shelf.SlSortFuncK.HeapSortK
import Derived.Shelf.SlSortFuncK.PartialInsertionK
import Derived.Shelf.SlSortFuncK.LotDK
import Derived.Shelf.SlSortFuncK.PivotK
import Derived.Shelf.SlSortFuncK.PartitionK
import Derived.Shelf.SlSortFuncK.PdqK
import Derived.Ground.SlbCloneProg
import Derived.Shelf.Bytes.SlClone
import Derived.Test.YtengcmfdfmnacaaGreatProg
namespace Go.Proofs
open Go.Shelf
def Tryz.lays125_ren : Go.Shelf.Ren := ⟨fun | 125 => 75 | 128 => 123 | 129 => 124 | n => n, fun | 46 => 132 | 3 => 3 | 51 => 186 | 53 => 105 | 4 => 4 | 5 => 5 | 9 => 9 | n => n, fun | n => n⟩
theorem Tryz.lays125 : Go.Proofs.Lays.n125 Tryz.prog Tryz.lays125_ren := {
  mixed := by kernel_rfl
  f125 := Tryz.func75.trans (congrArg some (by kernel_rfl))
  f128 := Tryz.func123.trans (congrArg some (by kernel_rfl))
  f129 := Tryz.func124.trans (congrArg some (by kernel_rfl))
  t3 := Tryz.underlying3
  a3 := Tryz.isAgg3
  z3 := Tryz.sizeOf3
  v3 := Tryz.zeroValue3
  t4 := Tryz.underlying4
  a4 := Tryz.isAgg4
  z4 := Tryz.sizeOf4
  v4 := Tryz.zeroValue4
  t5 := Tryz.underlying5
  a5 := Tryz.isAgg5
  z5 := Tryz.sizeOf5
  v5 := Tryz.zeroValue5
  t9 := Tryz.underlying9
  a9 := Tryz.isAgg9
  z9 := Tryz.sizeOf9
  v9 := Tryz.zeroValue9
  t46 := Tryz.underlying132
  a46 := Tryz.isAgg132
  z46 := Tryz.sizeOf132
  v46 := Tryz.zeroValue132
  t51 := Tryz.underlying186
  a51 := Tryz.isAgg186
  z51 := Tryz.sizeOf186
  v51 := Tryz.zeroValue186
  t53 := Tryz.underlying105
  a53 := Tryz.isAgg105
  z53 := Tryz.sizeOf105
  v53 := Tryz.zeroValue105 }
def Tryz.lays122_ren : Go.Shelf.Ren := ⟨fun | 122 => 188 | 215 => 222 | n => n, fun | 3 => 3 | 4 => 4 | n => n, fun | n => n⟩
theorem Tryz.lays122 : Go.Proofs.Lays.n122 Tryz.prog Tryz.lays122_ren := {
  mixed := by kernel_rfl
  f122 := Tryz.func188.trans (congrArg some (by kernel_rfl))
  f215 := Tryz.func222.trans (congrArg some (by kernel_rfl))
  t3 := Tryz.underlying3
  a3 := Tryz.isAgg3
  z3 := Tryz.sizeOf3
  v3 := Tryz.zeroValue3
  t4 := Tryz.underlying4
  a4 := Tryz.isAgg4
  z4 := Tryz.sizeOf4
  v4 := Tryz.zeroValue4 }
def Tryz.laysGg6_ren : Go.Shelf.Ren := ⟨fun | 6 => 168 | 10 => 195 | 11 => 196 | 12 => 197 | 13 => 75 | 14 => 198 | 24 => 123 | 25 => 124 | 26 => 242 | 27 => 243 | 28 => 244 | 29 => 245 | 30 => 246 | 31 => 247 | 32 => 248 | 33 => 249 | 34 => 279 | 35 => 280 | 36 => 281 | 37 => 282 | 38 => 283 | 39 => 299 | n => n, fun | 20 => 20 | 26 => 239 | 35 => 266 | 0 => 0 | 37 => 268 | 3 => 3 | 41 => 132 | 44 => 273 | 49 => 186 | 51 => 105 | 4 => 4 | 54 => 298 | 53 => 297 | 58 => 136 | 5 => 5 | 9 => 9 | 60 => 327 | 64 => 224 | 66 => 342 | 67 => 258 | 17 => 17 | 32 => 263 | 33 => 264 | 82 => 374 | 12 => 12 | 75 => 367 | 76 => 368 | 77 => 369 | 78 => 370 | 79 => 371 | 80 => 372 | n => n, fun | n => n⟩
theorem Tryz.laysGg6 : Go.Proofs.LaysGg.n6 Tryz.prog Tryz.laysGg6_ren := {
  mixed := by kernel_rfl
  f6 := Tryz.func168.trans (congrArg some (by kernel_rfl))
  f10 := Tryz.func195.trans (congrArg some (by kernel_rfl))
  f11 := Tryz.func196.trans (congrArg some (by kernel_rfl))
  f12 := Tryz.func197.trans (congrArg some (by kernel_rfl))
  f13 := Tryz.func75.trans (congrArg some (by kernel_rfl))
  f14 := Tryz.func198.trans (congrArg some (by kernel_rfl))
  f24 := Tryz.func123.trans (congrArg some (by kernel_rfl))
  f25 := Tryz.func124.trans (congrArg some (by kernel_rfl))
  f26 := Tryz.func242.trans (congrArg some (by kernel_rfl))
  f27 := Tryz.func243.trans (congrArg some (by kernel_rfl))
  f28 := Tryz.func244.trans (congrArg some (by kernel_rfl))
  f29 := Tryz.func245.trans (congrArg some (by kernel_rfl))
  f30 := Tryz.func246.trans (congrArg some (by kernel_rfl))
  f31 := Tryz.func247.trans (congrArg some (by kernel_rfl))
  f32 := Tryz.func248.trans (congrArg some (by kernel_rfl))
  f33 := Tryz.func249.trans (congrArg some (by kernel_rfl))
  f34 := Tryz.func279.trans (congrArg some (by kernel_rfl))
  f35 := Tryz.func280.trans (congrArg some (by kernel_rfl))
  f36 := Tryz.func281.trans (congrArg some (by kernel_rfl))
  f37 := Tryz.func282.trans (congrArg some (by kernel_rfl))
  f38 := Tryz.func283.trans (congrArg some (by kernel_rfl))
  f39 := Tryz.func299.trans (congrArg some (by kernel_rfl))
  t0 := Tryz.underlying0
  a0 := Tryz.isAgg0
  z0 := Tryz.sizeOf0
  v0 := Tryz.zeroValue0
  i0 := by kernel_rfl
  t3 := Tryz.underlying3
  a3 := Tryz.isAgg3
  z3 := Tryz.sizeOf3
  v3 := Tryz.zeroValue3
  i3 := by kernel_rfl
  t4 := Tryz.underlying4
  a4 := Tryz.isAgg4
  z4 := Tryz.sizeOf4
  v4 := Tryz.zeroValue4
  i4 := by kernel_rfl
  t5 := Tryz.underlying5
  a5 := Tryz.isAgg5
  z5 := Tryz.sizeOf5
  v5 := Tryz.zeroValue5
  i5 := by kernel_rfl
  t9 := Tryz.underlying9
  a9 := Tryz.isAgg9
  z9 := Tryz.sizeOf9
  v9 := Tryz.zeroValue9
  i9 := by kernel_rfl
  t12 := Tryz.underlying12
  a12 := Tryz.isAgg12
  z12 := Tryz.sizeOf12
  v12 := Tryz.zeroValue12
  i12 := by kernel_rfl
  t17 := Tryz.underlying17
  a17 := Tryz.isAgg17
  z17 := Tryz.sizeOf17
  v17 := Tryz.zeroValue17
  i17 := by kernel_rfl
  t20 := Tryz.underlying20
  a20 := Tryz.isAgg20
  z20 := Tryz.sizeOf20
  v20 := Tryz.zeroValue20
  i20 := by kernel_rfl
  t26 := Tryz.underlying239
  a26 := Tryz.isAgg239
  z26 := Tryz.sizeOf239
  v26 := Tryz.zeroValue239
  i26 := by kernel_rfl
  t32 := Tryz.underlying263
  a32 := Tryz.isAgg263
  z32 := Tryz.sizeOf263
  v32 := Tryz.zeroValue263
  i32 := by kernel_rfl
  t33 := Tryz.underlying264
  a33 := Tryz.isAgg264
  z33 := Tryz.sizeOf264
  v33 := Tryz.zeroValue264
  i33 := by kernel_rfl
  t35 := Tryz.underlying266
  a35 := Tryz.isAgg266
  z35 := Tryz.sizeOf266
  v35 := Tryz.zeroValue266
  i35 := by kernel_rfl
  t37 := Tryz.underlying268
  a37 := Tryz.isAgg268
  z37 := Tryz.sizeOf268
  v37 := Tryz.zeroValue268
  i37 := by kernel_rfl
  t41 := Tryz.underlying132
  a41 := Tryz.isAgg132
  z41 := Tryz.sizeOf132
  v41 := Tryz.zeroValue132
  i41 := by kernel_rfl
  t44 := Tryz.underlying273
  a44 := Tryz.isAgg273
  z44 := Tryz.sizeOf273
  v44 := Tryz.zeroValue273
  i44 := by kernel_rfl
  t49 := Tryz.underlying186
  a49 := Tryz.isAgg186
  z49 := Tryz.sizeOf186
  v49 := Tryz.zeroValue186
  i49 := by kernel_rfl
  t51 := Tryz.underlying105
  a51 := Tryz.isAgg105
  z51 := Tryz.sizeOf105
  v51 := Tryz.zeroValue105
  i51 := by kernel_rfl
  t53 := Tryz.underlying297
  a53 := Tryz.isAgg297
  z53 := Tryz.sizeOf297
  v53 := Tryz.zeroValue297
  i53 := by kernel_rfl
  t54 := Tryz.underlying298
  a54 := Tryz.isAgg298
  z54 := Tryz.sizeOf298
  v54 := Tryz.zeroValue298
  i54 := by kernel_rfl
  t58 := Tryz.underlying136
  a58 := Tryz.isAgg136
  z58 := Tryz.sizeOf136
  v58 := Tryz.zeroValue136
  i58 := by kernel_rfl
  t60 := Tryz.underlying327
  a60 := Tryz.isAgg327
  z60 := Tryz.sizeOf327
  v60 := Tryz.zeroValue327
  i60 := by kernel_rfl
  t64 := Tryz.underlying224
  a64 := Tryz.isAgg224
  z64 := Tryz.sizeOf224
  v64 := Tryz.zeroValue224
  i64 := by kernel_rfl
  t66 := Tryz.underlying342
  a66 := Tryz.isAgg342
  z66 := Tryz.sizeOf342
  v66 := Tryz.zeroValue342
  i66 := by kernel_rfl
  t67 := Tryz.underlying258
  a67 := Tryz.isAgg258
  z67 := Tryz.sizeOf258
  v67 := Tryz.zeroValue258
  i67 := by kernel_rfl
  t75 := Tryz.underlying367
  a75 := Tryz.isAgg367
  z75 := Tryz.sizeOf367
  v75 := Tryz.zeroValue367
  i75 := by kernel_rfl
  t76 := Tryz.underlying368
  a76 := Tryz.isAgg368
  z76 := Tryz.sizeOf368
  v76 := Tryz.zeroValue368
  i76 := by kernel_rfl
  t77 := Tryz.underlying369
  a77 := Tryz.isAgg369
  z77 := Tryz.sizeOf369
  v77 := Tryz.zeroValue369
  i77 := by kernel_rfl
  t78 := Tryz.underlying370
  a78 := Tryz.isAgg370
  z78 := Tryz.sizeOf370
  v78 := Tryz.zeroValue370
  i78 := by kernel_rfl
  t79 := Tryz.underlying371
  a79 := Tryz.isAgg371
  z79 := Tryz.sizeOf371
  v79 := Tryz.zeroValue371
  i79 := by kernel_rfl
  t80 := Tryz.underlying372
  a80 := Tryz.isAgg372
  z80 := Tryz.sizeOf372
  v80 := Tryz.zeroValue372
  i80 := by kernel_rfl
  t82 := Tryz.underlying374
  a82 := Tryz.isAgg374
  z82 := Tryz.sizeOf374
  v82 := Tryz.zeroValue374
  i82 := by kernel_rfl }
theorem Tryz.bits_Len (x : Int) (w : World) (h0 : 0 ≤ x) (h1 : x ≤ 18446744073709551615) :
    Calls Tryz.prog 75 #[.int .u64 x] w fun e w' => e = .returned (.int .i64 (Lib.bitLen x.toNat)) ∧ w' = w := Any.bits_Len Tryz.lays125 x w h0 h1
open Go.RowKit in
theorem Tryz.cmp_Compare_int (x y : Int) (w : World) :
    Calls Tryz.prog 188 #[.int .i64 x, .int .i64 y] w fun e w' => e = .returned (.int .i64 (Lib.compareInt x y)) ∧ w' = w := Any.cmp_Compare_int Tryz.lays122 x y w
end Go.Proofs
