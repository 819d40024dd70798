/- Closed facts of types and functions. No condition. -/
import Derived.Test.YthknobbilcolnaaGreatProg
import Derived.Test.YthknobbilcolnaaGreatJn11
import Derived.KernelRfl
namespace Go.Proofs.YthknobbilcolnaaGreat
@[simp] theorem sz2 : szT Tryz.prog 2 = some 1 := by kernel_rfl
@[simp] theorem row2 : rowT Tryz.prog 2 = some (false, 1) := by kernel_rfl
@[simp] theorem kn2 : kndT Tryz.prog 2 = some .i64 := by kernel_rfl
@[simp] theorem sz3 : szT Tryz.prog 3 = some 1 := by kernel_rfl
@[simp] theorem row3 : rowT Tryz.prog 3 = some (false, 1) := by kernel_rfl
@[simp] theorem kn3 : kndT Tryz.prog 3 = some .i64 := by kernel_rfl
@[simp] theorem sz4 : szT Tryz.prog 4 = some 1 := by kernel_rfl
@[simp] theorem row4 : rowT Tryz.prog 4 = some (false, 1) := by kernel_rfl
@[simp] theorem sz5 : szT Tryz.prog 5 = some 1 := by kernel_rfl
@[simp] theorem row5 : rowT Tryz.prog 5 = some (false, 1) := by kernel_rfl
@[simp] theorem kn5 : kndT Tryz.prog 5 = some .u8 := by kernel_rfl
@[simp] theorem sz6 : szT Tryz.prog 6 = some 1 := by kernel_rfl
@[simp] theorem row6 : rowT Tryz.prog 6 = some (false, 1) := by kernel_rfl
@[simp] theorem kn6 : kndT Tryz.prog 6 = some .u8 := by kernel_rfl
@[simp] theorem sz7 : szT Tryz.prog 7 = some 4 := by kernel_rfl
@[simp] theorem row7 : rowT Tryz.prog 7 = some (true, 4) := by kernel_rfl
@[simp] theorem fl7_0 : fldT Tryz.prog 7 0 = some 0 := by kernel_rfl
@[simp] theorem fl7_1 : fldT Tryz.prog 7 1 = some 1 := by kernel_rfl
@[simp] theorem fl7_2 : fldT Tryz.prog 7 2 = some 2 := by kernel_rfl
@[simp] theorem fl7_3 : fldT Tryz.prog 7 3 = some 3 := by kernel_rfl
@[simp] theorem sz8 : szT Tryz.prog 8 = some 4 := by kernel_rfl
@[simp] theorem row8 : rowT Tryz.prog 8 = some (true, 4) := by kernel_rfl
@[simp] theorem fl8_0 : fldT Tryz.prog 8 0 = some 0 := by kernel_rfl
@[simp] theorem fl8_1 : fldT Tryz.prog 8 1 = some 1 := by kernel_rfl
@[simp] theorem fl8_2 : fldT Tryz.prog 8 2 = some 2 := by kernel_rfl
@[simp] theorem fl8_3 : fldT Tryz.prog 8 3 = some 3 := by kernel_rfl
@[simp] theorem sz9 : szT Tryz.prog 9 = some 1 := by kernel_rfl
@[simp] theorem row9 : rowT Tryz.prog 9 = some (false, 1) := by kernel_rfl
@[simp] theorem sz10 : szT Tryz.prog 10 = some 1 := by kernel_rfl
@[simp] theorem row10 : rowT Tryz.prog 10 = some (false, 1) := by kernel_rfl
@[simp] theorem sz11 : szT Tryz.prog 11 = some 1 := by kernel_rfl
@[simp] theorem row11 : rowT Tryz.prog 11 = some (false, 1) := by kernel_rfl
@[simp] theorem sz12 : szT Tryz.prog 12 = some 1 := by kernel_rfl
@[simp] theorem row12 : rowT Tryz.prog 12 = some (false, 1) := by kernel_rfl
@[simp] theorem kn12 : kndT Tryz.prog 12 = some .u64 := by kernel_rfl
@[simp] theorem sz13 : szT Tryz.prog 13 = some 2 := by kernel_rfl
@[simp] theorem row13 : rowT Tryz.prog 13 = some (true, 2) := by kernel_rfl
@[simp] theorem fl13_0 : fldT Tryz.prog 13 0 = some 0 := by kernel_rfl
@[simp] theorem fl13_1 : fldT Tryz.prog 13 1 = some 1 := by kernel_rfl
@[simp] theorem sz14 : szT Tryz.prog 14 = some 2 := by kernel_rfl
@[simp] theorem row14 : rowT Tryz.prog 14 = some (true, 2) := by kernel_rfl
@[simp] theorem fl14_0 : fldT Tryz.prog 14 0 = some 0 := by kernel_rfl
@[simp] theorem fl14_1 : fldT Tryz.prog 14 1 = some 1 := by kernel_rfl
@[simp] theorem sz15 : szT Tryz.prog 15 = some 1 := by kernel_rfl
@[simp] theorem row15 : rowT Tryz.prog 15 = some (false, 1) := by kernel_rfl
@[simp] theorem sz16 : szT Tryz.prog 16 = some 1 := by kernel_rfl
@[simp] theorem row16 : rowT Tryz.prog 16 = some (false, 1) := by kernel_rfl
@[simp] theorem sz17 : szT Tryz.prog 17 = some 1 := by kernel_rfl
@[simp] theorem row17 : rowT Tryz.prog 17 = some (false, 1) := by kernel_rfl
@[simp] theorem sz18 : szT Tryz.prog 18 = some 1 := by kernel_rfl
@[simp] theorem row18 : rowT Tryz.prog 18 = some (true, 1) := by kernel_rfl
@[simp] theorem fl18_0 : fldT Tryz.prog 18 0 = some 0 := by kernel_rfl
@[simp] theorem sz19 : szT Tryz.prog 19 = some 1 := by kernel_rfl
@[simp] theorem row19 : rowT Tryz.prog 19 = some (true, 1) := by kernel_rfl
@[simp] theorem fl19_0 : fldT Tryz.prog 19 0 = some 0 := by kernel_rfl
@[simp] theorem sz21 : szT Tryz.prog 21 = some 1 := by kernel_rfl
@[simp] theorem row21 : rowT Tryz.prog 21 = some (false, 1) := by kernel_rfl
@[simp] theorem kn21 : kndT Tryz.prog 21 = some .i32 := by kernel_rfl
@[simp] theorem sz22 : szT Tryz.prog 22 = some 1 := by kernel_rfl
@[simp] theorem row22 : rowT Tryz.prog 22 = some (false, 1) := by kernel_rfl
@[simp] theorem el22 : elT Tryz.prog 22 = some (34, 8, 8) := by kernel_rfl
@[simp] theorem ez22 : ezT Tryz.prog 22 = some (34, 8, 8, 8) := by kernel_rfl
@[simp] theorem zl34 : zlT Tryz.prog 34 = some 8 := by kernel_rfl
@[simp] theorem sz23 : szT Tryz.prog 23 = some 1 := by kernel_rfl
@[simp] theorem row23 : rowT Tryz.prog 23 = some (false, 1) := by kernel_rfl
@[simp] theorem el23 : elT Tryz.prog 23 = some (3, 1, 8) := by kernel_rfl
@[simp] theorem ez23 : ezT Tryz.prog 23 = some (3, 1, 8, 1) := by kernel_rfl
@[simp] theorem zl3 : zlT Tryz.prog 3 = some 1 := by kernel_rfl
@[simp] theorem sz24 : szT Tryz.prog 24 = some 5 := by kernel_rfl
@[simp] theorem row24 : rowT Tryz.prog 24 = some (true, 5) := by kernel_rfl
@[simp] theorem fl24_0 : fldT Tryz.prog 24 0 = some 0 := by kernel_rfl
@[simp] theorem fl24_1 : fldT Tryz.prog 24 1 = some 1 := by kernel_rfl
@[simp] theorem fl24_2 : fldT Tryz.prog 24 2 = some 2 := by kernel_rfl
@[simp] theorem fl24_3 : fldT Tryz.prog 24 3 = some 3 := by kernel_rfl
@[simp] theorem fl24_4 : fldT Tryz.prog 24 4 = some 4 := by kernel_rfl
@[simp] theorem sz25 : szT Tryz.prog 25 = some 5 := by kernel_rfl
@[simp] theorem row25 : rowT Tryz.prog 25 = some (true, 5) := by kernel_rfl
@[simp] theorem fl25_0 : fldT Tryz.prog 25 0 = some 0 := by kernel_rfl
@[simp] theorem fl25_1 : fldT Tryz.prog 25 1 = some 1 := by kernel_rfl
@[simp] theorem fl25_2 : fldT Tryz.prog 25 2 = some 2 := by kernel_rfl
@[simp] theorem fl25_3 : fldT Tryz.prog 25 3 = some 3 := by kernel_rfl
@[simp] theorem fl25_4 : fldT Tryz.prog 25 4 = some 4 := by kernel_rfl
@[simp] theorem sz26 : szT Tryz.prog 26 = some 1 := by kernel_rfl
@[simp] theorem row26 : rowT Tryz.prog 26 = some (false, 1) := by kernel_rfl
@[simp] theorem el26 : elT Tryz.prog 26 = some (38, 23, 88) := by kernel_rfl
@[simp] theorem ez26 : ezT Tryz.prog 26 = some (38, 23, 88, 23) := by kernel_rfl
@[simp] theorem zl38 : zlT Tryz.prog 38 = some 23 := by kernel_rfl
@[simp] theorem sz27 : szT Tryz.prog 27 = some 1 := by kernel_rfl
@[simp] theorem row27 : rowT Tryz.prog 27 = some (false, 1) := by kernel_rfl
@[simp] theorem el27 : elT Tryz.prog 27 = some (31, 1, 24) := by kernel_rfl
@[simp] theorem ez27 : ezT Tryz.prog 27 = some (31, 1, 24, 1) := by kernel_rfl
@[simp] theorem zl31 : zlT Tryz.prog 31 = some 1 := by kernel_rfl
@[simp] theorem sz28 : szT Tryz.prog 28 = some 2 := by kernel_rfl
@[simp] theorem row28 : rowT Tryz.prog 28 = some (true, 2) := by kernel_rfl
@[simp] theorem fl28_0 : fldT Tryz.prog 28 0 = some 0 := by kernel_rfl
@[simp] theorem fl28_1 : fldT Tryz.prog 28 1 = some 1 := by kernel_rfl
@[simp] theorem sz29 : szT Tryz.prog 29 = some 2 := by kernel_rfl
@[simp] theorem row29 : rowT Tryz.prog 29 = some (true, 2) := by kernel_rfl
@[simp] theorem fl29_0 : fldT Tryz.prog 29 0 = some 0 := by kernel_rfl
@[simp] theorem fl29_1 : fldT Tryz.prog 29 1 = some 1 := by kernel_rfl
@[simp] theorem sz31 : szT Tryz.prog 31 = some 1 := by kernel_rfl
@[simp] theorem row31 : rowT Tryz.prog 31 = some (false, 1) := by kernel_rfl
@[simp] theorem el31 : elT Tryz.prog 31 = some (5, 1, 1) := by kernel_rfl
@[simp] theorem ez31 : ezT Tryz.prog 31 = some (5, 1, 1, 1) := by kernel_rfl
@[simp] theorem zl5 : zlT Tryz.prog 5 = some 1 := by kernel_rfl
@[simp] theorem sz32 : szT Tryz.prog 32 = some 1 := by kernel_rfl
@[simp] theorem row32 : rowT Tryz.prog 32 = some (false, 1) := by kernel_rfl
@[simp] theorem kn32 : kndT Tryz.prog 32 = some .i64 := by kernel_rfl
@[simp] theorem sz33 : szT Tryz.prog 33 = some 8 := by kernel_rfl
@[simp] theorem row33 : rowT Tryz.prog 33 = some (true, 8) := by kernel_rfl
@[simp] theorem are33 : areT Tryz.prog 33 = some (8, 5, 1) := by kernel_rfl
@[simp] theorem ar33 : arT Tryz.prog 33 = some (8, 1) := by kernel_rfl
@[simp] theorem sz34 : szT Tryz.prog 34 = some 8 := by kernel_rfl
@[simp] theorem row34 : rowT Tryz.prog 34 = some (true, 8) := by kernel_rfl
@[simp] theorem are34 : areT Tryz.prog 34 = some (8, 5, 1) := by kernel_rfl
@[simp] theorem ar34 : arT Tryz.prog 34 = some (8, 1) := by kernel_rfl
@[simp] theorem sz35 : szT Tryz.prog 35 = some 22 := by kernel_rfl
@[simp] theorem row35 : rowT Tryz.prog 35 = some (true, 22) := by kernel_rfl
@[simp] theorem fl35_0 : fldT Tryz.prog 35 0 = some 0 := by kernel_rfl
@[simp] theorem fl35_1 : fldT Tryz.prog 35 1 = some 1 := by kernel_rfl
@[simp] theorem fl35_2 : fldT Tryz.prog 35 2 = some 2 := by kernel_rfl
@[simp] theorem fl35_3 : fldT Tryz.prog 35 3 = some 3 := by kernel_rfl
@[simp] theorem fl35_4 : fldT Tryz.prog 35 4 = some 4 := by kernel_rfl
@[simp] theorem fl35_5 : fldT Tryz.prog 35 5 = some 5 := by kernel_rfl
@[simp] theorem fl35_6 : fldT Tryz.prog 35 6 = some 6 := by kernel_rfl
@[simp] theorem fl35_7 : fldT Tryz.prog 35 7 = some 14 := by kernel_rfl
@[simp] theorem sz36 : szT Tryz.prog 36 = some 22 := by kernel_rfl
@[simp] theorem row36 : rowT Tryz.prog 36 = some (true, 22) := by kernel_rfl
@[simp] theorem fl36_0 : fldT Tryz.prog 36 0 = some 0 := by kernel_rfl
@[simp] theorem fl36_1 : fldT Tryz.prog 36 1 = some 1 := by kernel_rfl
@[simp] theorem fl36_2 : fldT Tryz.prog 36 2 = some 2 := by kernel_rfl
@[simp] theorem fl36_3 : fldT Tryz.prog 36 3 = some 3 := by kernel_rfl
@[simp] theorem fl36_4 : fldT Tryz.prog 36 4 = some 4 := by kernel_rfl
@[simp] theorem fl36_5 : fldT Tryz.prog 36 5 = some 5 := by kernel_rfl
@[simp] theorem fl36_6 : fldT Tryz.prog 36 6 = some 6 := by kernel_rfl
@[simp] theorem fl36_7 : fldT Tryz.prog 36 7 = some 14 := by kernel_rfl
@[simp] theorem sz37 : szT Tryz.prog 37 = some 23 := by kernel_rfl
@[simp] theorem row37 : rowT Tryz.prog 37 = some (true, 23) := by kernel_rfl
@[simp] theorem fl37_0 : fldT Tryz.prog 37 0 = some 0 := by kernel_rfl
@[simp] theorem fl37_1 : fldT Tryz.prog 37 1 = some 22 := by kernel_rfl
@[simp] theorem sz38 : szT Tryz.prog 38 = some 23 := by kernel_rfl
@[simp] theorem row38 : rowT Tryz.prog 38 = some (true, 23) := by kernel_rfl
@[simp] theorem fl38_0 : fldT Tryz.prog 38 0 = some 0 := by kernel_rfl
@[simp] theorem fl38_1 : fldT Tryz.prog 38 1 = some 22 := by kernel_rfl
@[simp] theorem sz40 : szT Tryz.prog 40 = some 1 := by kernel_rfl
@[simp] theorem row40 : rowT Tryz.prog 40 = some (false, 1) := by kernel_rfl
@[simp] theorem el40 : elT Tryz.prog 40 = some (36, 22, 64) := by kernel_rfl
@[simp] theorem ez40 : ezT Tryz.prog 40 = some (36, 22, 64, 22) := by kernel_rfl
@[simp] theorem zl36 : zlT Tryz.prog 36 = some 22 := by kernel_rfl
@[simp] theorem sz41 : szT Tryz.prog 41 = some 3 := by kernel_rfl
@[simp] theorem row41 : rowT Tryz.prog 41 = some (true, 3) := by kernel_rfl
@[simp] theorem fl41_0 : fldT Tryz.prog 41 0 = some 0 := by kernel_rfl
@[simp] theorem fl41_1 : fldT Tryz.prog 41 1 = some 1 := by kernel_rfl
@[simp] theorem fl41_2 : fldT Tryz.prog 41 2 = some 2 := by kernel_rfl
@[simp] theorem sz42 : szT Tryz.prog 42 = some 3 := by kernel_rfl
@[simp] theorem row42 : rowT Tryz.prog 42 = some (true, 3) := by kernel_rfl
@[simp] theorem fl42_0 : fldT Tryz.prog 42 0 = some 0 := by kernel_rfl
@[simp] theorem fl42_1 : fldT Tryz.prog 42 1 = some 1 := by kernel_rfl
@[simp] theorem fl42_2 : fldT Tryz.prog 42 2 = some 2 := by kernel_rfl
@[simp] theorem sz45 : szT Tryz.prog 45 = some 1 := by kernel_rfl
@[simp] theorem row45 : rowT Tryz.prog 45 = some (false, 1) := by kernel_rfl
@[simp] theorem el45 : elT Tryz.prog 45 = some (217, 9, 16) := by kernel_rfl
@[simp] theorem ez45 : ezT Tryz.prog 45 = some (217, 9, 16, 9) := by kernel_rfl
@[simp] theorem zl217 : zlT Tryz.prog 217 = some 9 := by kernel_rfl
@[simp] theorem sz46 : szT Tryz.prog 46 = some 1 := by kernel_rfl
@[simp] theorem row46 : rowT Tryz.prog 46 = some (false, 1) := by kernel_rfl
@[simp] theorem el46 : elT Tryz.prog 46 = some (120, 11, 32) := by kernel_rfl
@[simp] theorem ez46 : ezT Tryz.prog 46 = some (120, 11, 32, 11) := by kernel_rfl
@[simp] theorem zl120 : zlT Tryz.prog 120 = some 11 := by kernel_rfl
@[simp] theorem sz47 : szT Tryz.prog 47 = some 1 := by kernel_rfl
@[simp] theorem row47 : rowT Tryz.prog 47 = some (false, 1) := by kernel_rfl
@[simp] theorem el47 : elT Tryz.prog 47 = some (244, 19, 40) := by kernel_rfl
@[simp] theorem ez47 : ezT Tryz.prog 47 = some (244, 19, 40, 19) := by kernel_rfl
@[simp] theorem zl244 : zlT Tryz.prog 244 = some 19 := by kernel_rfl
@[simp] theorem sz48 : szT Tryz.prog 48 = some 5 := by kernel_rfl
@[simp] theorem row48 : rowT Tryz.prog 48 = some (true, 5) := by kernel_rfl
@[simp] theorem fl48_0 : fldT Tryz.prog 48 0 = some 0 := by kernel_rfl
@[simp] theorem fl48_1 : fldT Tryz.prog 48 1 = some 1 := by kernel_rfl
@[simp] theorem fl48_2 : fldT Tryz.prog 48 2 = some 2 := by kernel_rfl
@[simp] theorem fl48_3 : fldT Tryz.prog 48 3 = some 3 := by kernel_rfl
@[simp] theorem fl48_4 : fldT Tryz.prog 48 4 = some 4 := by kernel_rfl
@[simp] theorem sz49 : szT Tryz.prog 49 = some 5 := by kernel_rfl
@[simp] theorem row49 : rowT Tryz.prog 49 = some (true, 5) := by kernel_rfl
@[simp] theorem fl49_0 : fldT Tryz.prog 49 0 = some 0 := by kernel_rfl
@[simp] theorem fl49_1 : fldT Tryz.prog 49 1 = some 1 := by kernel_rfl
@[simp] theorem fl49_2 : fldT Tryz.prog 49 2 = some 2 := by kernel_rfl
@[simp] theorem fl49_3 : fldT Tryz.prog 49 3 = some 3 := by kernel_rfl
@[simp] theorem fl49_4 : fldT Tryz.prog 49 4 = some 4 := by kernel_rfl
@[simp] theorem sz50 : szT Tryz.prog 50 = some 1 := by kernel_rfl
@[simp] theorem row50 : rowT Tryz.prog 50 = some (false, 1) := by kernel_rfl
@[simp] theorem el50 : elT Tryz.prog 50 = some (205, 4, 64) := by kernel_rfl
@[simp] theorem ez50 : ezT Tryz.prog 50 = some (205, 4, 64, 4) := by kernel_rfl
@[simp] theorem zl205 : zlT Tryz.prog 205 = some 4 := by kernel_rfl
@[simp] theorem sz51 : szT Tryz.prog 51 = some 1 := by kernel_rfl
@[simp] theorem row51 : rowT Tryz.prog 51 = some (false, 1) := by kernel_rfl
@[simp] theorem el51 : elT Tryz.prog 51 = some (210, 4, 48) := by kernel_rfl
@[simp] theorem ez51 : ezT Tryz.prog 51 = some (210, 4, 48, 4) := by kernel_rfl
@[simp] theorem zl210 : zlT Tryz.prog 210 = some 4 := by kernel_rfl
@[simp] theorem sz52 : szT Tryz.prog 52 = some 28 := by kernel_rfl
@[simp] theorem row52 : rowT Tryz.prog 52 = some (true, 28) := by kernel_rfl
@[simp] theorem fl52_0 : fldT Tryz.prog 52 0 = some 0 := by kernel_rfl
@[simp] theorem fl52_1 : fldT Tryz.prog 52 1 = some 8 := by kernel_rfl
@[simp] theorem fl52_2 : fldT Tryz.prog 52 2 = some 9 := by kernel_rfl
@[simp] theorem fl52_3 : fldT Tryz.prog 52 3 = some 10 := by kernel_rfl
@[simp] theorem fl52_4 : fldT Tryz.prog 52 4 = some 18 := by kernel_rfl
@[simp] theorem fl52_5 : fldT Tryz.prog 52 5 = some 19 := by kernel_rfl
@[simp] theorem fl52_6 : fldT Tryz.prog 52 6 = some 20 := by kernel_rfl
@[simp] theorem fl52_7 : fldT Tryz.prog 52 7 = some 21 := by kernel_rfl
@[simp] theorem fl52_8 : fldT Tryz.prog 52 8 = some 26 := by kernel_rfl
@[simp] theorem fl52_9 : fldT Tryz.prog 52 9 = some 27 := by kernel_rfl
@[simp] theorem sz53 : szT Tryz.prog 53 = some 28 := by kernel_rfl
@[simp] theorem row53 : rowT Tryz.prog 53 = some (true, 28) := by kernel_rfl
@[simp] theorem fl53_0 : fldT Tryz.prog 53 0 = some 0 := by kernel_rfl
@[simp] theorem fl53_1 : fldT Tryz.prog 53 1 = some 8 := by kernel_rfl
@[simp] theorem fl53_2 : fldT Tryz.prog 53 2 = some 9 := by kernel_rfl
@[simp] theorem fl53_3 : fldT Tryz.prog 53 3 = some 10 := by kernel_rfl
@[simp] theorem fl53_4 : fldT Tryz.prog 53 4 = some 18 := by kernel_rfl
@[simp] theorem fl53_5 : fldT Tryz.prog 53 5 = some 19 := by kernel_rfl
@[simp] theorem fl53_6 : fldT Tryz.prog 53 6 = some 20 := by kernel_rfl
@[simp] theorem fl53_7 : fldT Tryz.prog 53 7 = some 21 := by kernel_rfl
@[simp] theorem fl53_8 : fldT Tryz.prog 53 8 = some 26 := by kernel_rfl
@[simp] theorem fl53_9 : fldT Tryz.prog 53 9 = some 27 := by kernel_rfl
@[simp] theorem sz54 : szT Tryz.prog 54 = some 1 := by kernel_rfl
@[simp] theorem row54 : rowT Tryz.prog 54 = some (false, 1) := by kernel_rfl
@[simp] theorem kn54 : kndT Tryz.prog 54 = some .i64 := by kernel_rfl
@[simp] theorem sz57 : szT Tryz.prog 57 = some 1 := by kernel_rfl
@[simp] theorem row57 : rowT Tryz.prog 57 = some (false, 1) := by kernel_rfl
@[simp] theorem el57 : elT Tryz.prog 57 = some (53, 28, 240) := by kernel_rfl
@[simp] theorem ez57 : ezT Tryz.prog 57 = some (53, 28, 240, 28) := by kernel_rfl
@[simp] theorem zl53 : zlT Tryz.prog 53 = some 28 := by kernel_rfl
@[simp] theorem sz61 : szT Tryz.prog 61 = some 9 := by kernel_rfl
@[simp] theorem row61 : rowT Tryz.prog 61 = some (true, 9) := by kernel_rfl
@[simp] theorem fl61_0 : fldT Tryz.prog 61 0 = some 0 := by kernel_rfl
@[simp] theorem fl61_1 : fldT Tryz.prog 61 1 = some 1 := by kernel_rfl
@[simp] theorem sz62 : szT Tryz.prog 62 = some 9 := by kernel_rfl
@[simp] theorem row62 : rowT Tryz.prog 62 = some (true, 9) := by kernel_rfl
@[simp] theorem fl62_0 : fldT Tryz.prog 62 0 = some 0 := by kernel_rfl
@[simp] theorem fl62_1 : fldT Tryz.prog 62 1 = some 1 := by kernel_rfl
@[simp] theorem sz63 : szT Tryz.prog 63 = some 1 := by kernel_rfl
@[simp] theorem row63 : rowT Tryz.prog 63 = some (false, 1) := by kernel_rfl
@[simp] theorem el63 : elT Tryz.prog 63 = some (62, 9, 16) := by kernel_rfl
@[simp] theorem ez63 : ezT Tryz.prog 63 = some (62, 9, 16, 9) := by kernel_rfl
@[simp] theorem zl62 : zlT Tryz.prog 62 = some 9 := by kernel_rfl
@[simp] theorem sz64 : szT Tryz.prog 64 = some 9 := by kernel_rfl
@[simp] theorem row64 : rowT Tryz.prog 64 = some (true, 9) := by kernel_rfl
@[simp] theorem fl64_0 : fldT Tryz.prog 64 0 = some 0 := by kernel_rfl
@[simp] theorem fl64_1 : fldT Tryz.prog 64 1 = some 8 := by kernel_rfl
@[simp] theorem sz65 : szT Tryz.prog 65 = some 9 := by kernel_rfl
@[simp] theorem row65 : rowT Tryz.prog 65 = some (true, 9) := by kernel_rfl
@[simp] theorem fl65_0 : fldT Tryz.prog 65 0 = some 0 := by kernel_rfl
@[simp] theorem fl65_1 : fldT Tryz.prog 65 1 = some 8 := by kernel_rfl
@[simp] theorem sz79 : szT Tryz.prog 79 = some 1 := by kernel_rfl
@[simp] theorem row79 : rowT Tryz.prog 79 = some (false, 1) := by kernel_rfl
@[simp] theorem el79 : elT Tryz.prog 79 = some (107, 46, 176) := by kernel_rfl
@[simp] theorem ez79 : ezT Tryz.prog 79 = some (107, 46, 176, 46) := by kernel_rfl
@[simp] theorem zl107 : zlT Tryz.prog 107 = some 46 := by kernel_rfl
@[simp] theorem sz87 : szT Tryz.prog 87 = some 1 := by kernel_rfl
@[simp] theorem row87 : rowT Tryz.prog 87 = some (false, 1) := by kernel_rfl
@[simp] theorem sz96 : szT Tryz.prog 96 = some 2 := by kernel_rfl
@[simp] theorem row96 : rowT Tryz.prog 96 = some (true, 2) := by kernel_rfl
@[simp] theorem fl96_0 : fldT Tryz.prog 96 0 = some 0 := by kernel_rfl
@[simp] theorem fl96_1 : fldT Tryz.prog 96 1 = some 1 := by kernel_rfl
@[simp] theorem sz97 : szT Tryz.prog 97 = some 2 := by kernel_rfl
@[simp] theorem row97 : rowT Tryz.prog 97 = some (true, 2) := by kernel_rfl
@[simp] theorem fl97_0 : fldT Tryz.prog 97 0 = some 0 := by kernel_rfl
@[simp] theorem fl97_1 : fldT Tryz.prog 97 1 = some 1 := by kernel_rfl
@[simp] theorem sz106 : szT Tryz.prog 106 = some 46 := by kernel_rfl
@[simp] theorem row106 : rowT Tryz.prog 106 = some (true, 46) := by kernel_rfl
@[simp] theorem fl106_0 : fldT Tryz.prog 106 0 = some 0 := by kernel_rfl
@[simp] theorem fl106_1 : fldT Tryz.prog 106 1 = some 23 := by kernel_rfl
@[simp] theorem sz107 : szT Tryz.prog 107 = some 46 := by kernel_rfl
@[simp] theorem row107 : rowT Tryz.prog 107 = some (true, 46) := by kernel_rfl
@[simp] theorem fl107_0 : fldT Tryz.prog 107 0 = some 0 := by kernel_rfl
@[simp] theorem fl107_1 : fldT Tryz.prog 107 1 = some 23 := by kernel_rfl
@[simp] theorem sz110 : szT Tryz.prog 110 = some 1 := by kernel_rfl
@[simp] theorem row110 : rowT Tryz.prog 110 = some (false, 1) := by kernel_rfl
@[simp] theorem kn110 : kndT Tryz.prog 110 = some .u64 := by kernel_rfl
@[simp] theorem sz116 : szT Tryz.prog 116 = some 1 := by kernel_rfl
@[simp] theorem row116 : rowT Tryz.prog 116 = some (false, 1) := by kernel_rfl
@[simp] theorem kn116 : kndT Tryz.prog 116 = some .u64 := by kernel_rfl
@[simp] theorem sz117 : szT Tryz.prog 117 = some 10 := by kernel_rfl
@[simp] theorem row117 : rowT Tryz.prog 117 = some (true, 10) := by kernel_rfl
@[simp] theorem fl117_0 : fldT Tryz.prog 117 0 = some 0 := by kernel_rfl
@[simp] theorem fl117_1 : fldT Tryz.prog 117 1 = some 1 := by kernel_rfl
@[simp] theorem fl117_2 : fldT Tryz.prog 117 2 = some 2 := by kernel_rfl
@[simp] theorem sz118 : szT Tryz.prog 118 = some 10 := by kernel_rfl
@[simp] theorem row118 : rowT Tryz.prog 118 = some (true, 10) := by kernel_rfl
@[simp] theorem fl118_0 : fldT Tryz.prog 118 0 = some 0 := by kernel_rfl
@[simp] theorem fl118_1 : fldT Tryz.prog 118 1 = some 1 := by kernel_rfl
@[simp] theorem fl118_2 : fldT Tryz.prog 118 2 = some 2 := by kernel_rfl
@[simp] theorem sz119 : szT Tryz.prog 119 = some 11 := by kernel_rfl
@[simp] theorem row119 : rowT Tryz.prog 119 = some (true, 11) := by kernel_rfl
@[simp] theorem fl119_0 : fldT Tryz.prog 119 0 = some 0 := by kernel_rfl
@[simp] theorem fl119_1 : fldT Tryz.prog 119 1 = some 10 := by kernel_rfl
@[simp] theorem sz120 : szT Tryz.prog 120 = some 11 := by kernel_rfl
@[simp] theorem row120 : rowT Tryz.prog 120 = some (true, 11) := by kernel_rfl
@[simp] theorem fl120_0 : fldT Tryz.prog 120 0 = some 0 := by kernel_rfl
@[simp] theorem fl120_1 : fldT Tryz.prog 120 1 = some 10 := by kernel_rfl
@[simp] theorem sz125 : szT Tryz.prog 125 = some 8 := by kernel_rfl
@[simp] theorem row125 : rowT Tryz.prog 125 = some (true, 8) := by kernel_rfl
@[simp] theorem fl125_0 : fldT Tryz.prog 125 0 = some 0 := by kernel_rfl
@[simp] theorem fl125_1 : fldT Tryz.prog 125 1 = some 5 := by kernel_rfl
@[simp] theorem fl125_2 : fldT Tryz.prog 125 2 = some 6 := by kernel_rfl
@[simp] theorem fl125_3 : fldT Tryz.prog 125 3 = some 7 := by kernel_rfl
@[simp] theorem sz126 : szT Tryz.prog 126 = some 8 := by kernel_rfl
@[simp] theorem row126 : rowT Tryz.prog 126 = some (true, 8) := by kernel_rfl
@[simp] theorem fl126_0 : fldT Tryz.prog 126 0 = some 0 := by kernel_rfl
@[simp] theorem fl126_1 : fldT Tryz.prog 126 1 = some 5 := by kernel_rfl
@[simp] theorem fl126_2 : fldT Tryz.prog 126 2 = some 6 := by kernel_rfl
@[simp] theorem fl126_3 : fldT Tryz.prog 126 3 = some 7 := by kernel_rfl
@[simp] theorem sz135 : szT Tryz.prog 135 = some 1 := by kernel_rfl
@[simp] theorem row135 : rowT Tryz.prog 135 = some (true, 1) := by kernel_rfl
@[simp] theorem fl135_0 : fldT Tryz.prog 135 0 = some 0 := by kernel_rfl
@[simp] theorem sz136 : szT Tryz.prog 136 = some 1 := by kernel_rfl
@[simp] theorem row136 : rowT Tryz.prog 136 = some (true, 1) := by kernel_rfl
@[simp] theorem fl136_0 : fldT Tryz.prog 136 0 = some 0 := by kernel_rfl
@[simp] theorem sz155 : szT Tryz.prog 155 = some 460 := by kernel_rfl
@[simp] theorem row155 : rowT Tryz.prog 155 = some (true, 460) := by kernel_rfl
@[simp] theorem are155 : areT Tryz.prog 155 = some (10, 107, 46) := by kernel_rfl
@[simp] theorem ar155 : arT Tryz.prog 155 = some (10, 46) := by kernel_rfl
@[simp] theorem sz156 : szT Tryz.prog 156 = some 10 := by kernel_rfl
@[simp] theorem row156 : rowT Tryz.prog 156 = some (true, 10) := by kernel_rfl
@[simp] theorem are156 : areT Tryz.prog 156 = some (10, 4, 1) := by kernel_rfl
@[simp] theorem ar156 : arT Tryz.prog 156 = some (10, 1) := by kernel_rfl
@[simp] theorem sz158 : szT Tryz.prog 158 = some 12 := by kernel_rfl
@[simp] theorem row158 : rowT Tryz.prog 158 = some (true, 12) := by kernel_rfl
@[simp] theorem fl158_0 : fldT Tryz.prog 158 0 = some 0 := by kernel_rfl
@[simp] theorem fl158_1 : fldT Tryz.prog 158 1 = some 1 := by kernel_rfl
@[simp] theorem fl158_2 : fldT Tryz.prog 158 2 = some 2 := by kernel_rfl
@[simp] theorem fl158_3 : fldT Tryz.prog 158 3 = some 3 := by kernel_rfl
@[simp] theorem fl158_4 : fldT Tryz.prog 158 4 = some 4 := by kernel_rfl
@[simp] theorem sz159 : szT Tryz.prog 159 = some 12 := by kernel_rfl
@[simp] theorem row159 : rowT Tryz.prog 159 = some (true, 12) := by kernel_rfl
@[simp] theorem fl159_0 : fldT Tryz.prog 159 0 = some 0 := by kernel_rfl
@[simp] theorem fl159_1 : fldT Tryz.prog 159 1 = some 1 := by kernel_rfl
@[simp] theorem fl159_2 : fldT Tryz.prog 159 2 = some 2 := by kernel_rfl
@[simp] theorem fl159_3 : fldT Tryz.prog 159 3 = some 3 := by kernel_rfl
@[simp] theorem fl159_4 : fldT Tryz.prog 159 4 = some 4 := by kernel_rfl
@[simp] theorem sz163 : szT Tryz.prog 163 = some 1 := by kernel_rfl
@[simp] theorem row163 : rowT Tryz.prog 163 = some (false, 1) := by kernel_rfl
@[simp] theorem kn163 : kndT Tryz.prog 163 = some .i64 := by kernel_rfl
@[simp] theorem sz170 : szT Tryz.prog 170 = some 1 := by kernel_rfl
@[simp] theorem row170 : rowT Tryz.prog 170 = some (false, 1) := by kernel_rfl
@[simp] theorem kn170 : kndT Tryz.prog 170 = some .u32 := by kernel_rfl
@[simp] theorem sz181 : szT Tryz.prog 181 = some 2 := by kernel_rfl
@[simp] theorem row181 : rowT Tryz.prog 181 = some (true, 2) := by kernel_rfl
@[simp] theorem fl181_0 : fldT Tryz.prog 181 0 = some 0 := by kernel_rfl
@[simp] theorem fl181_1 : fldT Tryz.prog 181 1 = some 1 := by kernel_rfl
@[simp] theorem sz182 : szT Tryz.prog 182 = some 2 := by kernel_rfl
@[simp] theorem row182 : rowT Tryz.prog 182 = some (true, 2) := by kernel_rfl
@[simp] theorem fl182_0 : fldT Tryz.prog 182 0 = some 0 := by kernel_rfl
@[simp] theorem fl182_1 : fldT Tryz.prog 182 1 = some 1 := by kernel_rfl
@[simp] theorem sz188 : szT Tryz.prog 188 = some 1 := by kernel_rfl
@[simp] theorem row188 : rowT Tryz.prog 188 = some (false, 1) := by kernel_rfl
@[simp] theorem sz192 : szT Tryz.prog 192 = some 10 := by kernel_rfl
@[simp] theorem row192 : rowT Tryz.prog 192 = some (true, 10) := by kernel_rfl
@[simp] theorem fl192_0 : fldT Tryz.prog 192 0 = some 0 := by kernel_rfl
@[simp] theorem fl192_1 : fldT Tryz.prog 192 1 = some 1 := by kernel_rfl
@[simp] theorem fl192_2 : fldT Tryz.prog 192 2 = some 9 := by kernel_rfl
@[simp] theorem sz193 : szT Tryz.prog 193 = some 10 := by kernel_rfl
@[simp] theorem row193 : rowT Tryz.prog 193 = some (true, 10) := by kernel_rfl
@[simp] theorem fl193_0 : fldT Tryz.prog 193 0 = some 0 := by kernel_rfl
@[simp] theorem fl193_1 : fldT Tryz.prog 193 1 = some 1 := by kernel_rfl
@[simp] theorem fl193_2 : fldT Tryz.prog 193 2 = some 9 := by kernel_rfl
@[simp] theorem sz194 : szT Tryz.prog 194 = some 1 := by kernel_rfl
@[simp] theorem row194 : rowT Tryz.prog 194 = some (false, 1) := by kernel_rfl
@[simp] theorem el194 : elT Tryz.prog 194 = some (199, 11, 32) := by kernel_rfl
@[simp] theorem ez194 : ezT Tryz.prog 194 = some (199, 11, 32, 11) := by kernel_rfl
@[simp] theorem zl199 : zlT Tryz.prog 199 = some 11 := by kernel_rfl
@[simp] theorem sz198 : szT Tryz.prog 198 = some 11 := by kernel_rfl
@[simp] theorem row198 : rowT Tryz.prog 198 = some (true, 11) := by kernel_rfl
@[simp] theorem fl198_0 : fldT Tryz.prog 198 0 = some 0 := by kernel_rfl
@[simp] theorem fl198_1 : fldT Tryz.prog 198 1 = some 1 := by kernel_rfl
@[simp] theorem fl198_2 : fldT Tryz.prog 198 2 = some 2 := by kernel_rfl
@[simp] theorem fl198_3 : fldT Tryz.prog 198 3 = some 3 := by kernel_rfl
@[simp] theorem sz199 : szT Tryz.prog 199 = some 11 := by kernel_rfl
@[simp] theorem row199 : rowT Tryz.prog 199 = some (true, 11) := by kernel_rfl
@[simp] theorem fl199_0 : fldT Tryz.prog 199 0 = some 0 := by kernel_rfl
@[simp] theorem fl199_1 : fldT Tryz.prog 199 1 = some 1 := by kernel_rfl
@[simp] theorem fl199_2 : fldT Tryz.prog 199 2 = some 2 := by kernel_rfl
@[simp] theorem fl199_3 : fldT Tryz.prog 199 3 = some 3 := by kernel_rfl
@[simp] theorem sz201 : szT Tryz.prog 201 = some 1 := by kernel_rfl
@[simp] theorem row201 : rowT Tryz.prog 201 = some (false, 1) := by kernel_rfl
@[simp] theorem el201 : elT Tryz.prog 201 = some (266, 23, 104) := by kernel_rfl
@[simp] theorem ez201 : ezT Tryz.prog 201 = some (266, 23, 104, 23) := by kernel_rfl
@[simp] theorem zl266 : zlT Tryz.prog 266 = some 23 := by kernel_rfl
@[simp] theorem sz202 : szT Tryz.prog 202 = some 3 := by kernel_rfl
@[simp] theorem row202 : rowT Tryz.prog 202 = some (true, 3) := by kernel_rfl
@[simp] theorem fl202_0 : fldT Tryz.prog 202 0 = some 0 := by kernel_rfl
@[simp] theorem fl202_1 : fldT Tryz.prog 202 1 = some 1 := by kernel_rfl
@[simp] theorem fl202_2 : fldT Tryz.prog 202 2 = some 2 := by kernel_rfl
@[simp] theorem sz203 : szT Tryz.prog 203 = some 3 := by kernel_rfl
@[simp] theorem row203 : rowT Tryz.prog 203 = some (true, 3) := by kernel_rfl
@[simp] theorem fl203_0 : fldT Tryz.prog 203 0 = some 0 := by kernel_rfl
@[simp] theorem fl203_1 : fldT Tryz.prog 203 1 = some 1 := by kernel_rfl
@[simp] theorem fl203_2 : fldT Tryz.prog 203 2 = some 2 := by kernel_rfl
@[simp] theorem sz204 : szT Tryz.prog 204 = some 4 := by kernel_rfl
@[simp] theorem row204 : rowT Tryz.prog 204 = some (true, 4) := by kernel_rfl
@[simp] theorem fl204_0 : fldT Tryz.prog 204 0 = some 0 := by kernel_rfl
@[simp] theorem fl204_1 : fldT Tryz.prog 204 1 = some 3 := by kernel_rfl
@[simp] theorem sz205 : szT Tryz.prog 205 = some 4 := by kernel_rfl
@[simp] theorem row205 : rowT Tryz.prog 205 = some (true, 4) := by kernel_rfl
@[simp] theorem fl205_0 : fldT Tryz.prog 205 0 = some 0 := by kernel_rfl
@[simp] theorem fl205_1 : fldT Tryz.prog 205 1 = some 3 := by kernel_rfl
@[simp] theorem sz209 : szT Tryz.prog 209 = some 4 := by kernel_rfl
@[simp] theorem row209 : rowT Tryz.prog 209 = some (true, 4) := by kernel_rfl
@[simp] theorem fl209_0 : fldT Tryz.prog 209 0 = some 0 := by kernel_rfl
@[simp] theorem fl209_1 : fldT Tryz.prog 209 1 = some 1 := by kernel_rfl
@[simp] theorem fl209_2 : fldT Tryz.prog 209 2 = some 2 := by kernel_rfl
@[simp] theorem fl209_3 : fldT Tryz.prog 209 3 = some 3 := by kernel_rfl
@[simp] theorem sz210 : szT Tryz.prog 210 = some 4 := by kernel_rfl
@[simp] theorem row210 : rowT Tryz.prog 210 = some (true, 4) := by kernel_rfl
@[simp] theorem fl210_0 : fldT Tryz.prog 210 0 = some 0 := by kernel_rfl
@[simp] theorem fl210_1 : fldT Tryz.prog 210 1 = some 1 := by kernel_rfl
@[simp] theorem fl210_2 : fldT Tryz.prog 210 2 = some 2 := by kernel_rfl
@[simp] theorem fl210_3 : fldT Tryz.prog 210 3 = some 3 := by kernel_rfl
@[simp] theorem sz216 : szT Tryz.prog 216 = some 9 := by kernel_rfl
@[simp] theorem row216 : rowT Tryz.prog 216 = some (true, 9) := by kernel_rfl
@[simp] theorem fl216_0 : fldT Tryz.prog 216 0 = some 0 := by kernel_rfl
@[simp] theorem fl216_1 : fldT Tryz.prog 216 1 = some 1 := by kernel_rfl
@[simp] theorem sz217 : szT Tryz.prog 217 = some 9 := by kernel_rfl
@[simp] theorem row217 : rowT Tryz.prog 217 = some (true, 9) := by kernel_rfl
@[simp] theorem fl217_0 : fldT Tryz.prog 217 0 = some 0 := by kernel_rfl
@[simp] theorem fl217_1 : fldT Tryz.prog 217 1 = some 1 := by kernel_rfl
@[simp] theorem sz219 : szT Tryz.prog 219 = some 1 := by kernel_rfl
@[simp] theorem row219 : rowT Tryz.prog 219 = some (false, 1) := by kernel_rfl
@[simp] theorem sz220 : szT Tryz.prog 220 = some 1 := by kernel_rfl
@[simp] theorem row220 : rowT Tryz.prog 220 = some (false, 1) := by kernel_rfl
@[simp] theorem kn220 : kndT Tryz.prog 220 = some .u64 := by kernel_rfl
@[simp] theorem sz221 : szT Tryz.prog 221 = some 3 := by kernel_rfl
@[simp] theorem row221 : rowT Tryz.prog 221 = some (true, 3) := by kernel_rfl
@[simp] theorem fl221_0 : fldT Tryz.prog 221 0 = some 0 := by kernel_rfl
@[simp] theorem fl221_1 : fldT Tryz.prog 221 1 = some 1 := by kernel_rfl
@[simp] theorem fl221_2 : fldT Tryz.prog 221 2 = some 2 := by kernel_rfl
@[simp] theorem sz222 : szT Tryz.prog 222 = some 3 := by kernel_rfl
@[simp] theorem row222 : rowT Tryz.prog 222 = some (true, 3) := by kernel_rfl
@[simp] theorem fl222_0 : fldT Tryz.prog 222 0 = some 0 := by kernel_rfl
@[simp] theorem fl222_1 : fldT Tryz.prog 222 1 = some 1 := by kernel_rfl
@[simp] theorem fl222_2 : fldT Tryz.prog 222 2 = some 2 := by kernel_rfl
@[simp] theorem sz227 : szT Tryz.prog 227 = some 2 := by kernel_rfl
@[simp] theorem row227 : rowT Tryz.prog 227 = some (true, 2) := by kernel_rfl
@[simp] theorem fl227_0 : fldT Tryz.prog 227 0 = some 0 := by kernel_rfl
@[simp] theorem fl227_1 : fldT Tryz.prog 227 1 = some 1 := by kernel_rfl
@[simp] theorem sz228 : szT Tryz.prog 228 = some 2 := by kernel_rfl
@[simp] theorem row228 : rowT Tryz.prog 228 = some (true, 2) := by kernel_rfl
@[simp] theorem fl228_0 : fldT Tryz.prog 228 0 = some 0 := by kernel_rfl
@[simp] theorem fl228_1 : fldT Tryz.prog 228 1 = some 1 := by kernel_rfl
@[simp] theorem sz233 : szT Tryz.prog 233 = some 5 := by kernel_rfl
@[simp] theorem row233 : rowT Tryz.prog 233 = some (true, 5) := by kernel_rfl
@[simp] theorem are233 : areT Tryz.prog 233 = some (5, 3, 1) := by kernel_rfl
@[simp] theorem ar233 : arT Tryz.prog 233 = some (5, 1) := by kernel_rfl
@[simp] theorem sz234 : szT Tryz.prog 234 = some 1 := by kernel_rfl
@[simp] theorem row234 : rowT Tryz.prog 234 = some (false, 1) := by kernel_rfl
@[simp] theorem kn234 : kndT Tryz.prog 234 = some .u64 := by kernel_rfl
@[simp] theorem sz238 : szT Tryz.prog 238 = some 1 := by kernel_rfl
@[simp] theorem row238 : rowT Tryz.prog 238 = some (false, 1) := by kernel_rfl
@[simp] theorem sz243 : szT Tryz.prog 243 = some 19 := by kernel_rfl
@[simp] theorem row243 : rowT Tryz.prog 243 = some (true, 19) := by kernel_rfl
@[simp] theorem fl243_0 : fldT Tryz.prog 243 0 = some 0 := by kernel_rfl
@[simp] theorem fl243_1 : fldT Tryz.prog 243 1 = some 8 := by kernel_rfl
@[simp] theorem fl243_2 : fldT Tryz.prog 243 2 = some 16 := by kernel_rfl
@[simp] theorem fl243_3 : fldT Tryz.prog 243 3 = some 17 := by kernel_rfl
@[simp] theorem fl243_4 : fldT Tryz.prog 243 4 = some 18 := by kernel_rfl
@[simp] theorem sz244 : szT Tryz.prog 244 = some 19 := by kernel_rfl
@[simp] theorem row244 : rowT Tryz.prog 244 = some (true, 19) := by kernel_rfl
@[simp] theorem fl244_0 : fldT Tryz.prog 244 0 = some 0 := by kernel_rfl
@[simp] theorem fl244_1 : fldT Tryz.prog 244 1 = some 8 := by kernel_rfl
@[simp] theorem fl244_2 : fldT Tryz.prog 244 2 = some 16 := by kernel_rfl
@[simp] theorem fl244_3 : fldT Tryz.prog 244 3 = some 17 := by kernel_rfl
@[simp] theorem fl244_4 : fldT Tryz.prog 244 4 = some 18 := by kernel_rfl
@[simp] theorem sz250 : szT Tryz.prog 250 = some 1 := by kernel_rfl
@[simp] theorem row250 : rowT Tryz.prog 250 = some (false, 1) := by kernel_rfl
@[simp] theorem sz255 : szT Tryz.prog 255 = some 3 := by kernel_rfl
@[simp] theorem row255 : rowT Tryz.prog 255 = some (true, 3) := by kernel_rfl
@[simp] theorem fl255_0 : fldT Tryz.prog 255 0 = some 0 := by kernel_rfl
@[simp] theorem fl255_1 : fldT Tryz.prog 255 1 = some 1 := by kernel_rfl
@[simp] theorem fl255_2 : fldT Tryz.prog 255 2 = some 2 := by kernel_rfl
@[simp] theorem sz256 : szT Tryz.prog 256 = some 3 := by kernel_rfl
@[simp] theorem row256 : rowT Tryz.prog 256 = some (true, 3) := by kernel_rfl
@[simp] theorem fl256_0 : fldT Tryz.prog 256 0 = some 0 := by kernel_rfl
@[simp] theorem fl256_1 : fldT Tryz.prog 256 1 = some 1 := by kernel_rfl
@[simp] theorem fl256_2 : fldT Tryz.prog 256 2 = some 2 := by kernel_rfl
@[simp] theorem sz265 : szT Tryz.prog 265 = some 23 := by kernel_rfl
@[simp] theorem row265 : rowT Tryz.prog 265 = some (true, 23) := by kernel_rfl
@[simp] theorem fl265_0 : fldT Tryz.prog 265 0 = some 0 := by kernel_rfl
@[simp] theorem fl265_1 : fldT Tryz.prog 265 1 = some 1 := by kernel_rfl
@[simp] theorem fl265_2 : fldT Tryz.prog 265 2 = some 2 := by kernel_rfl
@[simp] theorem fl265_3 : fldT Tryz.prog 265 3 = some 3 := by kernel_rfl
@[simp] theorem fl265_4 : fldT Tryz.prog 265 4 = some 4 := by kernel_rfl
@[simp] theorem fl265_5 : fldT Tryz.prog 265 5 = some 5 := by kernel_rfl
@[simp] theorem fl265_6 : fldT Tryz.prog 265 6 = some 13 := by kernel_rfl
@[simp] theorem fl265_7 : fldT Tryz.prog 265 7 = some 21 := by kernel_rfl
@[simp] theorem fl265_8 : fldT Tryz.prog 265 8 = some 22 := by kernel_rfl
@[simp] theorem sz266 : szT Tryz.prog 266 = some 23 := by kernel_rfl
@[simp] theorem row266 : rowT Tryz.prog 266 = some (true, 23) := by kernel_rfl
@[simp] theorem fl266_0 : fldT Tryz.prog 266 0 = some 0 := by kernel_rfl
@[simp] theorem fl266_1 : fldT Tryz.prog 266 1 = some 1 := by kernel_rfl
@[simp] theorem fl266_2 : fldT Tryz.prog 266 2 = some 2 := by kernel_rfl
@[simp] theorem fl266_3 : fldT Tryz.prog 266 3 = some 3 := by kernel_rfl
@[simp] theorem fl266_4 : fldT Tryz.prog 266 4 = some 4 := by kernel_rfl
@[simp] theorem fl266_5 : fldT Tryz.prog 266 5 = some 5 := by kernel_rfl
@[simp] theorem fl266_6 : fldT Tryz.prog 266 6 = some 13 := by kernel_rfl
@[simp] theorem fl266_7 : fldT Tryz.prog 266 7 = some 21 := by kernel_rfl
@[simp] theorem fl266_8 : fldT Tryz.prog 266 8 = some 22 := by kernel_rfl
@[simp] theorem sz273 : szT Tryz.prog 273 = some 14 := by kernel_rfl
@[simp] theorem row273 : rowT Tryz.prog 273 = some (true, 14) := by kernel_rfl
@[simp] theorem fl273_0 : fldT Tryz.prog 273 0 = some 0 := by kernel_rfl
@[simp] theorem fl273_1 : fldT Tryz.prog 273 1 = some 5 := by kernel_rfl
@[simp] theorem fl273_2 : fldT Tryz.prog 273 2 = some 10 := by kernel_rfl
@[simp] theorem fl273_3 : fldT Tryz.prog 273 3 = some 13 := by kernel_rfl
@[simp] theorem sz274 : szT Tryz.prog 274 = some 14 := by kernel_rfl
@[simp] theorem row274 : rowT Tryz.prog 274 = some (true, 14) := by kernel_rfl
@[simp] theorem fl274_0 : fldT Tryz.prog 274 0 = some 0 := by kernel_rfl
@[simp] theorem fl274_1 : fldT Tryz.prog 274 1 = some 5 := by kernel_rfl
@[simp] theorem fl274_2 : fldT Tryz.prog 274 2 = some 10 := by kernel_rfl
@[simp] theorem fl274_3 : fldT Tryz.prog 274 3 = some 13 := by kernel_rfl
@[simp] theorem sz288 : szT Tryz.prog 288 = some 1 := by kernel_rfl
@[simp] theorem row288 : rowT Tryz.prog 288 = some (true, 1) := by kernel_rfl
@[simp] theorem fl288_0 : fldT Tryz.prog 288 0 = some 0 := by kernel_rfl
@[simp] theorem sz289 : szT Tryz.prog 289 = some 1 := by kernel_rfl
@[simp] theorem row289 : rowT Tryz.prog 289 = some (true, 1) := by kernel_rfl
@[simp] theorem fl289_0 : fldT Tryz.prog 289 0 = some 0 := by kernel_rfl
@[simp] theorem sz290 : szT Tryz.prog 290 = some 1 := by kernel_rfl
@[simp] theorem row290 : rowT Tryz.prog 290 = some (false, 1) := by kernel_rfl
@[simp] theorem sz297 : szT Tryz.prog 297 = some 1 := by kernel_rfl
@[simp] theorem row297 : rowT Tryz.prog 297 = some (false, 1) := by kernel_rfl
@[simp] theorem sz329 : szT Tryz.prog 329 = some 3 := by kernel_rfl
@[simp] theorem row329 : rowT Tryz.prog 329 = some (true, 3) := by kernel_rfl
@[simp] theorem fl329_0 : fldT Tryz.prog 329 0 = some 0 := by kernel_rfl
@[simp] theorem fl329_1 : fldT Tryz.prog 329 1 = some 1 := by kernel_rfl
@[simp] theorem fl329_2 : fldT Tryz.prog 329 2 = some 2 := by kernel_rfl
@[simp] theorem sz330 : szT Tryz.prog 330 = some 3 := by kernel_rfl
@[simp] theorem row330 : rowT Tryz.prog 330 = some (true, 3) := by kernel_rfl
@[simp] theorem fl330_0 : fldT Tryz.prog 330 0 = some 0 := by kernel_rfl
@[simp] theorem fl330_1 : fldT Tryz.prog 330 1 = some 1 := by kernel_rfl
@[simp] theorem fl330_2 : fldT Tryz.prog 330 2 = some 2 := by kernel_rfl
@[simp] theorem sz332 : szT Tryz.prog 332 = some 1 := by kernel_rfl
@[simp] theorem row332 : rowT Tryz.prog 332 = some (false, 1) := by kernel_rfl
@[simp] theorem kn332 : kndT Tryz.prog 332 = some .i64 := by kernel_rfl
@[simp] theorem sz360 : szT Tryz.prog 360 = some 1 := by kernel_rfl
@[simp] theorem row360 : rowT Tryz.prog 360 = some (false, 1) := by kernel_rfl
@[simp] theorem sz361 : szT Tryz.prog 361 = some 1 := by kernel_rfl
@[simp] theorem row361 : rowT Tryz.prog 361 = some (false, 1) := by kernel_rfl
@[simp] theorem kn361 : kndT Tryz.prog 361 = some .u64 := by kernel_rfl
@[simp] theorem sz376 : szT Tryz.prog 376 = some 1 := by kernel_rfl
@[simp] theorem row376 : rowT Tryz.prog 376 = some (false, 1) := by kernel_rfl
@[simp] theorem sz380 : szT Tryz.prog 380 = some 16 := by kernel_rfl
@[simp] theorem row380 : rowT Tryz.prog 380 = some (true, 16) := by kernel_rfl
@[simp] theorem are380 : areT Tryz.prog 380 = some (16, 5, 1) := by kernel_rfl
@[simp] theorem ar380 : arT Tryz.prog 380 = some (16, 1) := by kernel_rfl
@[simp] theorem sz383 : szT Tryz.prog 383 = some 4 := by kernel_rfl
@[simp] theorem row383 : rowT Tryz.prog 383 = some (true, 4) := by kernel_rfl
@[simp] theorem fl383_0 : fldT Tryz.prog 383 0 = some 0 := by kernel_rfl
@[simp] theorem fl383_1 : fldT Tryz.prog 383 1 = some 1 := by kernel_rfl
@[simp] theorem fl383_2 : fldT Tryz.prog 383 2 = some 2 := by kernel_rfl
@[simp] theorem fl383_3 : fldT Tryz.prog 383 3 = some 3 := by kernel_rfl
@[simp] theorem sz384 : szT Tryz.prog 384 = some 4 := by kernel_rfl
@[simp] theorem row384 : rowT Tryz.prog 384 = some (true, 4) := by kernel_rfl
@[simp] theorem fl384_0 : fldT Tryz.prog 384 0 = some 0 := by kernel_rfl
@[simp] theorem fl384_1 : fldT Tryz.prog 384 1 = some 1 := by kernel_rfl
@[simp] theorem fl384_2 : fldT Tryz.prog 384 2 = some 2 := by kernel_rfl
@[simp] theorem fl384_3 : fldT Tryz.prog 384 3 = some 3 := by kernel_rfl
@[simp] theorem sz385 : szT Tryz.prog 385 = some 0 := by kernel_rfl
@[simp] theorem row385 : rowT Tryz.prog 385 = some (true, 0) := by kernel_rfl
@[simp] theorem are385 : areT Tryz.prog 385 = some (0, 16, 1) := by kernel_rfl
@[simp] theorem ar385 : arT Tryz.prog 385 = some (0, 1) := by kernel_rfl
@[simp] theorem sz386 : szT Tryz.prog 386 = some 0 := by kernel_rfl
@[simp] theorem row386 : rowT Tryz.prog 386 = some (true, 0) := by kernel_rfl
@[simp] theorem sz387 : szT Tryz.prog 387 = some 0 := by kernel_rfl
@[simp] theorem row387 : rowT Tryz.prog 387 = some (true, 0) := by kernel_rfl
@[simp] theorem sz388 : szT Tryz.prog 388 = some 1 := by kernel_rfl
@[simp] theorem row388 : rowT Tryz.prog 388 = some (false, 1) := by kernel_rfl
@[simp] theorem kn388 : kndT Tryz.prog 388 = some .u8 := by kernel_rfl
@[simp] theorem sz389 : szT Tryz.prog 389 = some 1 := by kernel_rfl
@[simp] theorem row389 : rowT Tryz.prog 389 = some (false, 1) := by kernel_rfl
@[simp] theorem kn389 : kndT Tryz.prog 389 = some .u8 := by kernel_rfl
@[simp] theorem sz391 : szT Tryz.prog 391 = some 1 := by kernel_rfl
@[simp] theorem row391 : rowT Tryz.prog 391 = some (false, 1) := by kernel_rfl
@[simp] theorem sz392 : szT Tryz.prog 392 = some 1 := by kernel_rfl
@[simp] theorem row392 : rowT Tryz.prog 392 = some (false, 1) := by kernel_rfl
@[simp] theorem kn392 : kndT Tryz.prog 392 = some .i32 := by kernel_rfl
@[simp] theorem sz393 : szT Tryz.prog 393 = some 1 := by kernel_rfl
@[simp] theorem row393 : rowT Tryz.prog 393 = some (false, 1) := by kernel_rfl
@[simp] theorem kn393 : kndT Tryz.prog 393 = some .i32 := by kernel_rfl
@[simp] theorem sz394 : szT Tryz.prog 394 = some 11 := by kernel_rfl
@[simp] theorem row394 : rowT Tryz.prog 394 = some (true, 11) := by kernel_rfl
@[simp] theorem fl394_0 : fldT Tryz.prog 394 0 = some 0 := by kernel_rfl
@[simp] theorem fl394_1 : fldT Tryz.prog 394 1 = some 1 := by kernel_rfl
@[simp] theorem fl394_2 : fldT Tryz.prog 394 2 = some 2 := by kernel_rfl
@[simp] theorem fl394_3 : fldT Tryz.prog 394 3 = some 3 := by kernel_rfl
@[simp] theorem fl394_4 : fldT Tryz.prog 394 4 = some 4 := by kernel_rfl
@[simp] theorem fl394_5 : fldT Tryz.prog 394 5 = some 5 := by kernel_rfl
@[simp] theorem fl394_6 : fldT Tryz.prog 394 6 = some 6 := by kernel_rfl
@[simp] theorem fl394_7 : fldT Tryz.prog 394 7 = some 7 := by kernel_rfl
@[simp] theorem fl394_8 : fldT Tryz.prog 394 8 = some 8 := by kernel_rfl
@[simp] theorem fl394_9 : fldT Tryz.prog 394 9 = some 9 := by kernel_rfl
@[simp] theorem fl394_10 : fldT Tryz.prog 394 10 = some 10 := by kernel_rfl
@[simp] theorem sz395 : szT Tryz.prog 395 = some 11 := by kernel_rfl
@[simp] theorem row395 : rowT Tryz.prog 395 = some (true, 11) := by kernel_rfl
@[simp] theorem fl395_0 : fldT Tryz.prog 395 0 = some 0 := by kernel_rfl
@[simp] theorem fl395_1 : fldT Tryz.prog 395 1 = some 1 := by kernel_rfl
@[simp] theorem fl395_2 : fldT Tryz.prog 395 2 = some 2 := by kernel_rfl
@[simp] theorem fl395_3 : fldT Tryz.prog 395 3 = some 3 := by kernel_rfl
@[simp] theorem fl395_4 : fldT Tryz.prog 395 4 = some 4 := by kernel_rfl
@[simp] theorem fl395_5 : fldT Tryz.prog 395 5 = some 5 := by kernel_rfl
@[simp] theorem fl395_6 : fldT Tryz.prog 395 6 = some 6 := by kernel_rfl
@[simp] theorem fl395_7 : fldT Tryz.prog 395 7 = some 7 := by kernel_rfl
@[simp] theorem fl395_8 : fldT Tryz.prog 395 8 = some 8 := by kernel_rfl
@[simp] theorem fl395_9 : fldT Tryz.prog 395 9 = some 9 := by kernel_rfl
@[simp] theorem fl395_10 : fldT Tryz.prog 395 10 = some 10 := by kernel_rfl
@[simp] theorem sz397 : szT Tryz.prog 397 = some 2 := by kernel_rfl
@[simp] theorem row397 : rowT Tryz.prog 397 = some (true, 2) := by kernel_rfl
@[simp] theorem fl397_0 : fldT Tryz.prog 397 0 = some 0 := by kernel_rfl
@[simp] theorem fl397_1 : fldT Tryz.prog 397 1 = some 1 := by kernel_rfl
@[simp] theorem sz398 : szT Tryz.prog 398 = some 2 := by kernel_rfl
@[simp] theorem row398 : rowT Tryz.prog 398 = some (true, 2) := by kernel_rfl
@[simp] theorem fl398_0 : fldT Tryz.prog 398 0 = some 0 := by kernel_rfl
@[simp] theorem fl398_1 : fldT Tryz.prog 398 1 = some 1 := by kernel_rfl
@[simp] theorem ze3 : zeroA Tryz.prog 3 = some (.c (.int .i64 0)) := by kernel_rfl
@[simp] theorem ze5 : zeroA Tryz.prog 5 = some (.c (.int .u8 0)) := by kernel_rfl
@[simp] theorem ze23 : zeroA Tryz.prog 23 = some (.c (.slice none 0 0)) := by kernel_rfl
@[simp] theorem ze25 : zeroA Tryz.prog 25 = some (.agg [.c (.int .i64 0), .c (.int .i64 0), .c (.slice none 0 0), .c (.slice none 0 0), .c (.slice none 0 0)]) := by kernel_rfl
@[simp] theorem ze26 : zeroA Tryz.prog 26 = some (.c (.slice none 0 0)) := by kernel_rfl
@[simp] theorem ze32 : zeroA Tryz.prog 32 = some (.c (.int .i64 0)) := by kernel_rfl
@[simp] theorem ze34 : zeroA Tryz.prog 34 = some (.agg [.c (.int .u8 0), .c (.int .u8 0), .c (.int .u8 0), .c (.int .u8 0), .c (.int .u8 0), .c (.int .u8 0), .c (.int .u8 0), .c (.int .u8 0)]) := by kernel_rfl
@[simp] theorem ze36 : zeroA Tryz.prog 36 = some (.agg [.c (.int .i64 0), .c (.int .i64 0), .c (.int .i64 0), .c (.int .i64 0), .c (.int .i64 0), .c (.int .i64 0), .c (.int .u8 0), .c (.int .u8 0), .c (.int .u8 0), .c (.int .u8 0), .c (.int .u8 0), .c (.int .u8 0), .c (.int .u8 0), .c (.int .u8 0), .c (.int .u8 0), .c (.int .u8 0), .c (.int .u8 0), .c (.int .u8 0), .c (.int .u8 0), .c (.int .u8 0), .c (.int .u8 0), .c (.int .u8 0)]) := by kernel_rfl
@[simp] theorem ze38 : zeroA Tryz.prog 38 = some (.agg [.c (.int .i64 0), .c (.int .i64 0), .c (.int .i64 0), .c (.int .i64 0), .c (.int .i64 0), .c (.int .i64 0), .c (.int .u8 0), .c (.int .u8 0), .c (.int .u8 0), .c (.int .u8 0), .c (.int .u8 0), .c (.int .u8 0), .c (.int .u8 0), .c (.int .u8 0), .c (.int .u8 0), .c (.int .u8 0), .c (.int .u8 0), .c (.int .u8 0), .c (.int .u8 0), .c (.int .u8 0), .c (.int .u8 0), .c (.int .u8 0), .c (.slice none 0 0)]) := by kernel_rfl
@[simp] theorem ze40 : zeroA Tryz.prog 40 = some (.c (.slice none 0 0)) := by kernel_rfl
@[simp] theorem ze42 : zeroA Tryz.prog 42 = some (.agg [.c (.slice none 0 0), .c (.int .i64 0), .c (.slice none 0 0)]) := by kernel_rfl
@[simp] theorem ze49 : zeroA Tryz.prog 49 = some (.agg [.c (.slice none 0 0), .c (.slice none 0 0), .c (.slice none 0 0), .c (.slice none 0 0), .c (.int .i64 0)]) := by kernel_rfl
@[simp] theorem ze53 : zeroA Tryz.prog 53 = some (.agg [.c (.int .u8 0), .c (.int .u8 0), .c (.int .u8 0), .c (.int .u8 0), .c (.int .u8 0), .c (.int .u8 0), .c (.int .u8 0), .c (.int .u8 0), .c (.int .i64 0), .c (.int .i64 0), .c (.int .u8 0), .c (.int .u8 0), .c (.int .u8 0), .c (.int .u8 0), .c (.int .u8 0), .c (.int .u8 0), .c (.int .u8 0), .c (.int .u8 0), .c (.slice none 0 0), .c (.slice none 0 0), .c (.int .i64 0), .c (.slice none 0 0), .c (.slice none 0 0), .c (.slice none 0 0), .c (.slice none 0 0), .c (.int .i64 0), .c (.slice none 0 0), .c (.slice none 0 0)]) := by kernel_rfl
@[simp] theorem ze62 : zeroA Tryz.prog 62 = some (.agg [.c (.int .i64 0), .c (.int .u8 0), .c (.int .u8 0), .c (.int .u8 0), .c (.int .u8 0), .c (.int .u8 0), .c (.int .u8 0), .c (.int .u8 0), .c (.int .u8 0)]) := by kernel_rfl
@[simp] theorem ze65 : zeroA Tryz.prog 65 = some (.agg [.c (.int .u8 0), .c (.int .u8 0), .c (.int .u8 0), .c (.int .u8 0), .c (.int .u8 0), .c (.int .u8 0), .c (.int .u8 0), .c (.int .u8 0), .c (.slice none 0 0)]) := by kernel_rfl
@[simp] theorem ze107 : zeroA Tryz.prog 107 = some (.agg [.c (.int .i64 0), .c (.int .i64 0), .c (.int .i64 0), .c (.int .i64 0), .c (.int .i64 0), .c (.int .i64 0), .c (.int .u8 0), .c (.int .u8 0), .c (.int .u8 0), .c (.int .u8 0), .c (.int .u8 0), .c (.int .u8 0), .c (.int .u8 0), .c (.int .u8 0), .c (.int .u8 0), .c (.int .u8 0), .c (.int .u8 0), .c (.int .u8 0), .c (.int .u8 0), .c (.int .u8 0), .c (.int .u8 0), .c (.int .u8 0), .c (.slice none 0 0), .c (.int .i64 0), .c (.int .i64 0), .c (.int .i64 0), .c (.int .i64 0), .c (.int .i64 0), .c (.int .i64 0), .c (.int .u8 0), .c (.int .u8 0), .c (.int .u8 0), .c (.int .u8 0), .c (.int .u8 0), .c (.int .u8 0), .c (.int .u8 0), .c (.int .u8 0), .c (.int .u8 0), .c (.int .u8 0), .c (.int .u8 0), .c (.int .u8 0), .c (.int .u8 0), .c (.int .u8 0), .c (.int .u8 0), .c (.int .u8 0), .c (.slice none 0 0)]) := by kernel_rfl
@[simp] theorem ze118 : zeroA Tryz.prog 118 = some (.agg [.c (.int .i64 0), .c (.int .i64 0), .c (.int .u8 0), .c (.int .u8 0), .c (.int .u8 0), .c (.int .u8 0), .c (.int .u8 0), .c (.int .u8 0), .c (.int .u8 0), .c (.int .u8 0)]) := by kernel_rfl
@[simp] theorem ze120 : zeroA Tryz.prog 120 = some (.agg [.c (.int .i64 0), .c (.int .i64 0), .c (.int .u8 0), .c (.int .u8 0), .c (.int .u8 0), .c (.int .u8 0), .c (.int .u8 0), .c (.int .u8 0), .c (.int .u8 0), .c (.int .u8 0), .c (.int .i64 0)]) := by kernel_rfl
@[simp] theorem ze126 : zeroA Tryz.prog 126 = some (.agg [.c (.int .i64 0), .c (.int .i64 0), .c (.slice none 0 0), .c (.slice none 0 0), .c (.slice none 0 0), .c (.slice none 0 0), .c (.map none), .c (.map none)]) := by kernel_rfl
@[simp] theorem ze136 : zeroA Tryz.prog 136 = some (.agg [.c (.slice none 0 0)]) := by kernel_rfl
@[simp] theorem ze155 : zeroA Tryz.prog 155 = some (.agg [.c (.int .i64 0), .c (.int .i64 0), .c (.int .i64 0), .c (.int .i64 0), .c (.int .i64 0), .c (.int .i64 0), .c (.int .u8 0), .c (.int .u8 0), .c (.int .u8 0), .c (.int .u8 0), .c (.int .u8 0), .c (.int .u8 0), .c (.int .u8 0), .c (.int .u8 0), .c (.int .u8 0), .c (.int .u8 0), .c (.int .u8 0), .c (.int .u8 0), .c (.int .u8 0), .c (.int .u8 0), .c (.int .u8 0), .c (.int .u8 0), .c (.slice none 0 0), .c (.int .i64 0), .c (.int .i64 0), .c (.int .i64 0), .c (.int .i64 0), .c (.int .i64 0), .c (.int .i64 0), .c (.int .u8 0), .c (.int .u8 0), .c (.int .u8 0), .c (.int .u8 0), .c (.int .u8 0), .c (.int .u8 0), .c (.int .u8 0), .c (.int .u8 0), .c (.int .u8 0), .c (.int .u8 0), .c (.int .u8 0), .c (.int .u8 0), .c (.int .u8 0), .c (.int .u8 0), .c (.int .u8 0), .c (.int .u8 0), .c (.slice none 0 0), .c (.int .i64 0), .c (.int .i64 0), .c (.int .i64 0), .c (.int .i64 0), .c (.int .i64 0), .c (.int .i64 0), .c (.int .u8 0), .c (.int .u8 0), .c (.int .u8 0), .c (.int .u8 0), .c (.int .u8 0), .c (.int .u8 0), .c (.int .u8 0), .c (.int .u8 0), .c (.int .u8 0), .c (.int .u8 0), .c (.int .u8 0), .c (.int .u8 0), .c (.int .u8 0), .c (.int .u8 0), .c (.int .u8 0), .c (.int .u8 0), .c (.slice none 0 0), .c (.int .i64 0), .c (.int .i64 0), .c (.int .i64 0), .c (.int .i64 0), .c (.int .i64 0), .c (.int .i64 0), .c (.int .u8 0), .c (.int .u8 0), .c (.int .u8 0), .c (.int .u8 0), .c (.int .u8 0), .c (.int .u8 0), .c (.int .u8 0), .c (.int .u8 0), .c (.int .u8 0), .c (.int .u8 0), .c (.int .u8 0), .c (.int .u8 0), .c (.int .u8 0), .c (.int .u8 0), .c (.int .u8 0), .c (.int .u8 0), .c (.slice none 0 0), .c (.int .i64 0), .c (.int .i64 0), .c (.int .i64 0), .c (.int .i64 0), .c (.int .i64 0), .c (.int .i64 0), .c (.int .u8 0), .c (.int .u8 0), .c (.int .u8 0), .c (.int .u8 0), .c (.int .u8 0), .c (.int .u8 0), .c (.int .u8 0), .c (.int .u8 0), .c (.int .u8 0), .c (.int .u8 0), .c (.int .u8 0), .c (.int .u8 0), .c (.int .u8 0), .c (.int .u8 0), .c (.int .u8 0), .c (.int .u8 0), .c (.slice none 0 0), .c (.int .i64 0), .c (.int .i64 0), .c (.int .i64 0), .c (.int .i64 0), .c (.int .i64 0), .c (.int .i64 0), .c (.int .u8 0), .c (.int .u8 0), .c (.int .u8 0), .c (.int .u8 0), .c (.int .u8 0), .c (.int .u8 0), .c (.int .u8 0), .c (.int .u8 0), .c (.int .u8 0), .c (.int .u8 0), .c (.int .u8 0), .c (.int .u8 0), .c (.int .u8 0), .c (.int .u8 0), .c (.int .u8 0), .c (.int .u8 0), .c (.slice none 0 0), .c (.int .i64 0), .c (.int .i64 0), .c (.int .i64 0), .c (.int .i64 0), .c (.int .i64 0), .c (.int .i64 0), .c (.int .u8 0), .c (.int .u8 0), .c (.int .u8 0), .c (.int .u8 0), .c (.int .u8 0), .c (.int .u8 0), .c (.int .u8 0), .c (.int .u8 0), .c (.int .u8 0), .c (.int .u8 0), .c (.int .u8 0), .c (.int .u8 0), .c (.int .u8 0), .c (.int .u8 0), .c (.int .u8 0), .c (.int .u8 0), .c (.slice none 0 0), .c (.int .i64 0), .c (.int .i64 0), .c (.int .i64 0), .c (.int .i64 0), .c (.int .i64 0), .c (.int .i64 0), .c (.int .u8 0), .c (.int .u8 0), .c (.int .u8 0), .c (.int .u8 0), .c (.int .u8 0), .c (.int .u8 0), .c (.int .u8 0), .c (.int .u8 0), .c (.int .u8 0), .c (.int .u8 0), .c (.int .u8 0), .c (.int .u8 0), .c (.int .u8 0), .c (.int .u8 0), .c (.int .u8 0), .c (.int .u8 0), .c (.slice none 0 0), .c (.int .i64 0), .c (.int .i64 0), .c (.int .i64 0), .c (.int .i64 0), .c (.int .i64 0), .c (.int .i64 0), .c (.int .u8 0), .c (.int .u8 0), .c (.int .u8 0), .c (.int .u8 0), .c (.int .u8 0), .c (.int .u8 0), .c (.int .u8 0), .c (.int .u8 0), .c (.int .u8 0), .c (.int .u8 0), .c (.int .u8 0), .c (.int .u8 0), .c (.int .u8 0), .c (.int .u8 0), .c (.int .u8 0), .c (.int .u8 0), .c (.slice none 0 0), .c (.int .i64 0), .c (.int .i64 0), .c (.int .i64 0), .c (.int .i64 0), .c (.int .i64 0), .c (.int .i64 0), .c (.int .u8 0), .c (.int .u8 0), .c (.int .u8 0), .c (.int .u8 0), .c (.int .u8 0), .c (.int .u8 0), .c (.int .u8 0), .c (.int .u8 0), .c (.int .u8 0), .c (.int .u8 0), .c (.int .u8 0), .c (.int .u8 0), .c (.int .u8 0), .c (.int .u8 0), .c (.int .u8 0), .c (.int .u8 0), .c (.slice none 0 0), .c (.int .i64 0), .c (.int .i64 0), .c (.int .i64 0), .c (.int .i64 0), .c (.int .i64 0), .c (.int .i64 0), .c (.int .u8 0), .c (.int .u8 0), .c (.int .u8 0), .c (.int .u8 0), .c (.int .u8 0), .c (.int .u8 0), .c (.int .u8 0), .c (.int .u8 0), .c (.int .u8 0), .c (.int .u8 0), .c (.int .u8 0), .c (.int .u8 0), .c (.int .u8 0), .c (.int .u8 0), .c (.int .u8 0), .c (.int .u8 0), .c (.slice none 0 0), .c (.int .i64 0), .c (.int .i64 0), .c (.int .i64 0), .c (.int .i64 0), .c (.int .i64 0), .c (.int .i64 0), .c (.int .u8 0), .c (.int .u8 0), .c (.int .u8 0), .c (.int .u8 0), .c (.int .u8 0), .c (.int .u8 0), .c (.int .u8 0), .c (.int .u8 0), .c (.int .u8 0), .c (.int .u8 0), .c (.int .u8 0), .c (.int .u8 0), .c (.int .u8 0), .c (.int .u8 0), .c (.int .u8 0), .c (.int .u8 0), .c (.slice none 0 0), .c (.int .i64 0), .c (.int .i64 0), .c (.int .i64 0), .c (.int .i64 0), .c (.int .i64 0), .c (.int .i64 0), .c (.int .u8 0), .c (.int .u8 0), .c (.int .u8 0), .c (.int .u8 0), .c (.int .u8 0), .c (.int .u8 0), .c (.int .u8 0), .c (.int .u8 0), .c (.int .u8 0), .c (.int .u8 0), .c (.int .u8 0), .c (.int .u8 0), .c (.int .u8 0), .c (.int .u8 0), .c (.int .u8 0), .c (.int .u8 0), .c (.slice none 0 0), .c (.int .i64 0), .c (.int .i64 0), .c (.int .i64 0), .c (.int .i64 0), .c (.int .i64 0), .c (.int .i64 0), .c (.int .u8 0), .c (.int .u8 0), .c (.int .u8 0), .c (.int .u8 0), .c (.int .u8 0), .c (.int .u8 0), .c (.int .u8 0), .c (.int .u8 0), .c (.int .u8 0), .c (.int .u8 0), .c (.int .u8 0), .c (.int .u8 0), .c (.int .u8 0), .c (.int .u8 0), .c (.int .u8 0), .c (.int .u8 0), .c (.slice none 0 0), .c (.int .i64 0), .c (.int .i64 0), .c (.int .i64 0), .c (.int .i64 0), .c (.int .i64 0), .c (.int .i64 0), .c (.int .u8 0), .c (.int .u8 0), .c (.int .u8 0), .c (.int .u8 0), .c (.int .u8 0), .c (.int .u8 0), .c (.int .u8 0), .c (.int .u8 0), .c (.int .u8 0), .c (.int .u8 0), .c (.int .u8 0), .c (.int .u8 0), .c (.int .u8 0), .c (.int .u8 0), .c (.int .u8 0), .c (.int .u8 0), .c (.slice none 0 0), .c (.int .i64 0), .c (.int .i64 0), .c (.int .i64 0), .c (.int .i64 0), .c (.int .i64 0), .c (.int .i64 0), .c (.int .u8 0), .c (.int .u8 0), .c (.int .u8 0), .c (.int .u8 0), .c (.int .u8 0), .c (.int .u8 0), .c (.int .u8 0), .c (.int .u8 0), .c (.int .u8 0), .c (.int .u8 0), .c (.int .u8 0), .c (.int .u8 0), .c (.int .u8 0), .c (.int .u8 0), .c (.int .u8 0), .c (.int .u8 0), .c (.slice none 0 0), .c (.int .i64 0), .c (.int .i64 0), .c (.int .i64 0), .c (.int .i64 0), .c (.int .i64 0), .c (.int .i64 0), .c (.int .u8 0), .c (.int .u8 0), .c (.int .u8 0), .c (.int .u8 0), .c (.int .u8 0), .c (.int .u8 0), .c (.int .u8 0), .c (.int .u8 0), .c (.int .u8 0), .c (.int .u8 0), .c (.int .u8 0), .c (.int .u8 0), .c (.int .u8 0), .c (.int .u8 0), .c (.int .u8 0), .c (.int .u8 0), .c (.slice none 0 0), .c (.int .i64 0), .c (.int .i64 0), .c (.int .i64 0), .c (.int .i64 0), .c (.int .i64 0), .c (.int .i64 0), .c (.int .u8 0), .c (.int .u8 0), .c (.int .u8 0), .c (.int .u8 0), .c (.int .u8 0), .c (.int .u8 0), .c (.int .u8 0), .c (.int .u8 0), .c (.int .u8 0), .c (.int .u8 0), .c (.int .u8 0), .c (.int .u8 0), .c (.int .u8 0), .c (.int .u8 0), .c (.int .u8 0), .c (.int .u8 0), .c (.slice none 0 0), .c (.int .i64 0), .c (.int .i64 0), .c (.int .i64 0), .c (.int .i64 0), .c (.int .i64 0), .c (.int .i64 0), .c (.int .u8 0), .c (.int .u8 0), .c (.int .u8 0), .c (.int .u8 0), .c (.int .u8 0), .c (.int .u8 0), .c (.int .u8 0), .c (.int .u8 0), .c (.int .u8 0), .c (.int .u8 0), .c (.int .u8 0), .c (.int .u8 0), .c (.int .u8 0), .c (.int .u8 0), .c (.int .u8 0), .c (.int .u8 0), .c (.slice none 0 0), .c (.int .i64 0), .c (.int .i64 0), .c (.int .i64 0), .c (.int .i64 0), .c (.int .i64 0), .c (.int .i64 0), .c (.int .u8 0), .c (.int .u8 0), .c (.int .u8 0), .c (.int .u8 0), .c (.int .u8 0), .c (.int .u8 0), .c (.int .u8 0), .c (.int .u8 0), .c (.int .u8 0), .c (.int .u8 0), .c (.int .u8 0), .c (.int .u8 0), .c (.int .u8 0), .c (.int .u8 0), .c (.int .u8 0), .c (.int .u8 0), .c (.slice none 0 0)]) := by kernel_rfl
@[simp] theorem ze156 : zeroA Tryz.prog 156 = some (.agg [.c (.bool false), .c (.bool false), .c (.bool false), .c (.bool false), .c (.bool false), .c (.bool false), .c (.bool false), .c (.bool false), .c (.bool false), .c (.bool false)]) := by kernel_rfl
@[simp] theorem ze159 : zeroA Tryz.prog 159 = some (.agg [.c (.int .i64 0), .c (.int .i64 0), .c (.int .i64 0), .c (.int .i64 0), .c (.int .u8 0), .c (.int .u8 0), .c (.int .u8 0), .c (.int .u8 0), .c (.int .u8 0), .c (.int .u8 0), .c (.int .u8 0), .c (.int .u8 0)]) := by kernel_rfl
@[simp] theorem ze172 : zeroA Tryz.prog 172 = some (.c .nilFunc) := by kernel_rfl
@[simp] theorem ze182 : zeroA Tryz.prog 182 = some (.agg [.c (.int .u64 0), .c (.int .u64 0)]) := by kernel_rfl
@[simp] theorem ze193 : zeroA Tryz.prog 193 = some (.agg [.c (.int .i64 0), .c (.int .u8 0), .c (.int .u8 0), .c (.int .u8 0), .c (.int .u8 0), .c (.int .u8 0), .c (.int .u8 0), .c (.int .u8 0), .c (.int .u8 0), .c (.int .i64 0)]) := by kernel_rfl
@[simp] theorem ze194 : zeroA Tryz.prog 194 = some (.c (.slice none 0 0)) := by kernel_rfl
@[simp] theorem ze199 : zeroA Tryz.prog 199 = some (.agg [.c (.int .i64 0), .c (.int .i64 0), .c (.int .i64 0), .c (.int .u8 0), .c (.int .u8 0), .c (.int .u8 0), .c (.int .u8 0), .c (.int .u8 0), .c (.int .u8 0), .c (.int .u8 0), .c (.int .u8 0)]) := by kernel_rfl
@[simp] theorem ze203 : zeroA Tryz.prog 203 = some (.agg [.c (.int .i64 0), .c (.int .i64 0), .c (.slice none 0 0)]) := by kernel_rfl
@[simp] theorem ze205 : zeroA Tryz.prog 205 = some (.agg [.c (.int .i64 0), .c (.int .i64 0), .c (.slice none 0 0), .c (.slice none 0 0)]) := by kernel_rfl
@[simp] theorem ze210 : zeroA Tryz.prog 210 = some (.agg [.c (.int .i64 0), .c (.slice none 0 0), .c (.int .i64 0), .c (.int .i64 0)]) := by kernel_rfl
@[simp] theorem ze217 : zeroA Tryz.prog 217 = some (.agg [.c (.int .i64 0), .c (.int .u8 0), .c (.int .u8 0), .c (.int .u8 0), .c (.int .u8 0), .c (.int .u8 0), .c (.int .u8 0), .c (.int .u8 0), .c (.int .u8 0)]) := by kernel_rfl
@[simp] theorem ze228 : zeroA Tryz.prog 228 = some (.agg [.c .nilFunc, .c .nilFunc]) := by kernel_rfl
@[simp] theorem ze233 : zeroA Tryz.prog 233 = some (.agg [.c (.int .i64 0), .c (.int .i64 0), .c (.int .i64 0), .c (.int .i64 0), .c (.int .i64 0)]) := by kernel_rfl
@[simp] theorem ze234 : zeroA Tryz.prog 234 = some (.c (.int .u64 0)) := by kernel_rfl
@[simp] theorem ze244 : zeroA Tryz.prog 244 = some (.agg [.c (.int .u8 0), .c (.int .u8 0), .c (.int .u8 0), .c (.int .u8 0), .c (.int .u8 0), .c (.int .u8 0), .c (.int .u8 0), .c (.int .u8 0), .c (.int .u8 0), .c (.int .u8 0), .c (.int .u8 0), .c (.int .u8 0), .c (.int .u8 0), .c (.int .u8 0), .c (.int .u8 0), .c (.int .u8 0), .c (.int .i64 0), .c (.int .i64 0), .c (.int .i64 0)]) := by kernel_rfl
@[simp] theorem ze256 : zeroA Tryz.prog 256 = some (.agg [.c (.slice none 0 0), .c (.int .i64 0), .c (.bool false)]) := by kernel_rfl
@[simp] theorem ze266 : zeroA Tryz.prog 266 = some (.agg [.c (.int .i64 0), .c (.int .i64 0), .c (.int .i64 0), .c (.int .i64 0), .c (.int .i64 0), .c (.int .u8 0), .c (.int .u8 0), .c (.int .u8 0), .c (.int .u8 0), .c (.int .u8 0), .c (.int .u8 0), .c (.int .u8 0), .c (.int .u8 0), .c (.int .u8 0), .c (.int .u8 0), .c (.int .u8 0), .c (.int .u8 0), .c (.int .u8 0), .c (.int .u8 0), .c (.int .u8 0), .c (.int .u8 0), .c (.slice none 0 0), .c (.slice none 0 0)]) := by kernel_rfl
@[simp] theorem ze360 : zeroA Tryz.prog 360 = some (.c (.pointer none)) := by kernel_rfl
@[simp] theorem ze361 : zeroA Tryz.prog 361 = some (.c (.int .u64 0)) := by kernel_rfl
@[simp] theorem ze380 : zeroA Tryz.prog 380 = some (.agg [.c (.int .u8 0), .c (.int .u8 0), .c (.int .u8 0), .c (.int .u8 0), .c (.int .u8 0), .c (.int .u8 0), .c (.int .u8 0), .c (.int .u8 0), .c (.int .u8 0), .c (.int .u8 0), .c (.int .u8 0), .c (.int .u8 0), .c (.int .u8 0), .c (.int .u8 0), .c (.int .u8 0), .c (.int .u8 0)]) := by kernel_rfl
@[simp] theorem bl25 : bldT Tryz.prog 25 = some (.fields [(0, 1), (1, 1), (2, 1), (3, 1), (4, 1)]) := by kernel_rfl
@[simp] theorem bl34 : bldT Tryz.prog 34 = some (.elems 1) := by kernel_rfl
@[simp] theorem bl36 : bldT Tryz.prog 36 = some (.fields [(0, 1), (1, 1), (2, 1), (3, 1), (4, 1), (5, 1), (6, 8), (14, 8)]) := by kernel_rfl
@[simp] theorem bl38 : bldT Tryz.prog 38 = some (.fields [(0, 22), (22, 1)]) := by kernel_rfl
@[simp] theorem bl42 : bldT Tryz.prog 42 = some (.fields [(0, 1), (1, 1), (2, 1)]) := by kernel_rfl
@[simp] theorem bl49 : bldT Tryz.prog 49 = some (.fields [(0, 1), (1, 1), (2, 1), (3, 1), (4, 1)]) := by kernel_rfl
@[simp] theorem bl53 : bldT Tryz.prog 53 = some (.fields [(0, 8), (8, 1), (9, 1), (10, 8), (18, 1), (19, 1), (20, 1), (21, 5), (26, 1), (27, 1)]) := by kernel_rfl
@[simp] theorem bl62 : bldT Tryz.prog 62 = some (.fields [(0, 1), (1, 8)]) := by kernel_rfl
@[simp] theorem bl65 : bldT Tryz.prog 65 = some (.fields [(0, 8), (8, 1)]) := by kernel_rfl
@[simp] theorem bl97 : bldT Tryz.prog 97 = some (.fields [(0, 1), (1, 1)]) := by kernel_rfl
@[simp] theorem bl107 : bldT Tryz.prog 107 = some (.fields [(0, 23), (23, 23)]) := by kernel_rfl
@[simp] theorem bl118 : bldT Tryz.prog 118 = some (.fields [(0, 1), (1, 1), (2, 8)]) := by kernel_rfl
@[simp] theorem bl120 : bldT Tryz.prog 120 = some (.fields [(0, 10), (10, 1)]) := by kernel_rfl
@[simp] theorem bl126 : bldT Tryz.prog 126 = some (.fields [(0, 5), (5, 1), (6, 1), (7, 1)]) := by kernel_rfl
@[simp] theorem bl136 : bldT Tryz.prog 136 = some (.fields [(0, 1)]) := by kernel_rfl
@[simp] theorem bl159 : bldT Tryz.prog 159 = some (.fields [(0, 1), (1, 1), (2, 1), (3, 1), (4, 8)]) := by kernel_rfl
@[simp] theorem bl182 : bldT Tryz.prog 182 = some (.fields [(0, 1), (1, 1)]) := by kernel_rfl
@[simp] theorem bl193 : bldT Tryz.prog 193 = some (.fields [(0, 1), (1, 8), (9, 1)]) := by kernel_rfl
@[simp] theorem bl199 : bldT Tryz.prog 199 = some (.fields [(0, 1), (1, 1), (2, 1), (3, 8)]) := by kernel_rfl
@[simp] theorem bl203 : bldT Tryz.prog 203 = some (.fields [(0, 1), (1, 1), (2, 1)]) := by kernel_rfl
@[simp] theorem bl205 : bldT Tryz.prog 205 = some (.fields [(0, 3), (3, 1)]) := by kernel_rfl
@[simp] theorem bl210 : bldT Tryz.prog 210 = some (.fields [(0, 1), (1, 1), (2, 1), (3, 1)]) := by kernel_rfl
@[simp] theorem bl228 : bldT Tryz.prog 228 = some (.fields [(0, 1), (1, 1)]) := by kernel_rfl
@[simp] theorem bl233 : bldT Tryz.prog 233 = some (.elems 1) := by kernel_rfl
@[simp] theorem bl244 : bldT Tryz.prog 244 = some (.fields [(0, 8), (8, 8), (16, 1), (17, 1), (18, 1)]) := by kernel_rfl
@[simp] theorem bl256 : bldT Tryz.prog 256 = some (.fields [(0, 1), (1, 1), (2, 1)]) := by kernel_rfl
@[simp] theorem bl266 : bldT Tryz.prog 266 = some (.fields [(0, 1), (1, 1), (2, 1), (3, 1), (4, 1), (5, 8), (13, 8), (21, 1), (22, 1)]) := by kernel_rfl
@[simp] theorem bl274 : bldT Tryz.prog 274 = some (.fields [(0, 5), (5, 5), (10, 3), (13, 1)]) := by kernel_rfl
@[simp] theorem bl330 : bldT Tryz.prog 330 = some (.fields [(0, 1), (1, 1), (2, 1)]) := by kernel_rfl
@[simp] theorem cb2 : callable Tryz.prog 2 = true := by kernel_rfl
@[simp] theorem cb3 : callable Tryz.prog 3 = true := by kernel_rfl
@[simp] theorem cb4 : callable Tryz.prog 4 = true := by kernel_rfl
@[simp] theorem cb5 : callable Tryz.prog 5 = true := by kernel_rfl
@[simp] theorem cb6 : callable Tryz.prog 6 = true := by kernel_rfl
@[simp] theorem cb7 : callable Tryz.prog 7 = true := by kernel_rfl
@[simp] theorem cb8 : callable Tryz.prog 8 = true := by kernel_rfl
@[simp] theorem cb9 : callable Tryz.prog 9 = true := by kernel_rfl
@[simp] theorem cb10 : callable Tryz.prog 10 = true := by kernel_rfl
@[simp] theorem cb11 : callable Tryz.prog 11 = true := by kernel_rfl
@[simp] theorem cb12 : callable Tryz.prog 12 = true := by kernel_rfl
@[simp] theorem cb13 : callable Tryz.prog 13 = true := by kernel_rfl
@[simp] theorem cb14 : callable Tryz.prog 14 = true := by kernel_rfl
@[simp] theorem cb15 : callable Tryz.prog 15 = true := by kernel_rfl
@[simp] theorem cb16 : callable Tryz.prog 16 = true := by kernel_rfl
@[simp] theorem cb17 : callable Tryz.prog 17 = true := by kernel_rfl
@[simp] theorem cb18 : callable Tryz.prog 18 = true := by kernel_rfl
@[simp] theorem cb19 : callable Tryz.prog 19 = true := by kernel_rfl
@[simp] theorem cb20 : callable Tryz.prog 20 = true := by kernel_rfl
@[simp] theorem cb21 : callable Tryz.prog 21 = true := by kernel_rfl
@[simp] theorem cb22 : callable Tryz.prog 22 = true := by kernel_rfl
@[simp] theorem cb23 : callable Tryz.prog 23 = true := by kernel_rfl
@[simp] theorem cb24 : callable Tryz.prog 24 = true := by kernel_rfl
@[simp] theorem cb25 : callable Tryz.prog 25 = true := by kernel_rfl
@[simp] theorem cb26 : callable Tryz.prog 26 = true := by kernel_rfl
@[simp] theorem cb27 : callable Tryz.prog 27 = true := by kernel_rfl
@[simp] theorem cb28 : callable Tryz.prog 28 = true := by kernel_rfl
@[simp] theorem cb29 : callable Tryz.prog 29 = true := by kernel_rfl
@[simp] theorem cb30 : callable Tryz.prog 30 = true := by kernel_rfl
@[simp] theorem cb31 : callable Tryz.prog 31 = true := by kernel_rfl
@[simp] theorem cb32 : callable Tryz.prog 32 = true := by kernel_rfl
@[simp] theorem cb33 : callable Tryz.prog 33 = true := by kernel_rfl
@[simp] theorem cb34 : callable Tryz.prog 34 = true := by kernel_rfl
@[simp] theorem cb35 : callable Tryz.prog 35 = true := by kernel_rfl
@[simp] theorem cb36 : callable Tryz.prog 36 = true := by kernel_rfl
@[simp] theorem cb37 : callable Tryz.prog 37 = true := by kernel_rfl
@[simp] theorem cb38 : callable Tryz.prog 38 = true := by kernel_rfl
@[simp] theorem cb39 : callable Tryz.prog 39 = true := by kernel_rfl
@[simp] theorem cb40 : callable Tryz.prog 40 = true := by kernel_rfl
@[simp] theorem cb41 : callable Tryz.prog 41 = true := by kernel_rfl
@[simp] theorem cb42 : callable Tryz.prog 42 = true := by kernel_rfl
@[simp] theorem cb43 : callable Tryz.prog 43 = true := by kernel_rfl
@[simp] theorem cb44 : callable Tryz.prog 44 = true := by kernel_rfl
@[simp] theorem cb45 : callable Tryz.prog 45 = true := by kernel_rfl
@[simp] theorem cb46 : callable Tryz.prog 46 = true := by kernel_rfl
@[simp] theorem cb47 : callable Tryz.prog 47 = true := by kernel_rfl
@[simp] theorem cb48 : callable Tryz.prog 48 = true := by kernel_rfl
@[simp] theorem cb50 : callable Tryz.prog 50 = true := by kernel_rfl
@[simp] theorem cb51 : callable Tryz.prog 51 = true := by kernel_rfl
@[simp] theorem cb52 : callable Tryz.prog 52 = true := by kernel_rfl
@[simp] theorem cb53 : callable Tryz.prog 53 = true := by kernel_rfl
@[simp] theorem cb54 : callable Tryz.prog 54 = true := by kernel_rfl
@[simp] theorem cb55 : callable Tryz.prog 55 = true := by kernel_rfl
@[simp] theorem cb56 : callable Tryz.prog 56 = true := by kernel_rfl
@[simp] theorem cb57 : callable Tryz.prog 57 = true := by kernel_rfl
@[simp] theorem cb58 : callable Tryz.prog 58 = true := by kernel_rfl
@[simp] theorem cb59 : callable Tryz.prog 59 = true := by kernel_rfl
@[simp] theorem cb60 : callable Tryz.prog 60 = true := by kernel_rfl
@[simp] theorem cb61 : callable Tryz.prog 61 = true := by kernel_rfl
@[simp] theorem cb62 : callable Tryz.prog 62 = true := by kernel_rfl
@[simp] theorem cb63 : callable Tryz.prog 63 = true := by kernel_rfl
@[simp] theorem cb64 : callable Tryz.prog 64 = true := by kernel_rfl
@[simp] theorem cb65 : callable Tryz.prog 65 = true := by kernel_rfl
@[simp] theorem cb66 : callable Tryz.prog 66 = true := by kernel_rfl
@[simp] theorem cb67 : callable Tryz.prog 67 = true := by kernel_rfl
@[simp] theorem cb68 : callable Tryz.prog 68 = true := by kernel_rfl
@[simp] theorem cb69 : callable Tryz.prog 69 = true := by kernel_rfl
@[simp] theorem cb70 : callable Tryz.prog 70 = true := by kernel_rfl
@[simp] theorem cb71 : callable Tryz.prog 71 = true := by kernel_rfl
@[simp] theorem cb72 : callable Tryz.prog 72 = true := by kernel_rfl
@[simp] theorem cb73 : callable Tryz.prog 73 = true := by kernel_rfl
@[simp] theorem cb74 : callable Tryz.prog 74 = true := by kernel_rfl
@[simp] theorem cb75 : callable Tryz.prog 75 = true := by kernel_rfl
@[simp] theorem cb76 : callable Tryz.prog 76 = true := by kernel_rfl
@[simp] theorem cb77 : callable Tryz.prog 77 = true := by kernel_rfl
@[simp] theorem cb78 : callable Tryz.prog 78 = true := by kernel_rfl
@[simp] theorem cb79 : callable Tryz.prog 79 = true := by kernel_rfl
@[simp] theorem cb80 : callable Tryz.prog 80 = true := by kernel_rfl
@[simp] theorem cb81 : callable Tryz.prog 81 = true := by kernel_rfl
@[simp] theorem cb82 : callable Tryz.prog 82 = true := by kernel_rfl
@[simp] theorem cb83 : callable Tryz.prog 83 = true := by kernel_rfl
@[simp] theorem cb84 : callable Tryz.prog 84 = true := by kernel_rfl
@[simp] theorem cb85 : callable Tryz.prog 85 = true := by kernel_rfl
@[simp] theorem cb86 : callable Tryz.prog 86 = true := by kernel_rfl
@[simp] theorem cb87 : callable Tryz.prog 87 = true := by kernel_rfl
@[simp] theorem cb88 : callable Tryz.prog 88 = true := by kernel_rfl
@[simp] theorem cb89 : callable Tryz.prog 89 = true := by kernel_rfl
@[simp] theorem cb90 : callable Tryz.prog 90 = true := by kernel_rfl
@[simp] theorem cb91 : callable Tryz.prog 91 = true := by kernel_rfl
@[simp] theorem cb92 : callable Tryz.prog 92 = true := by kernel_rfl
@[simp] theorem cb93 : callable Tryz.prog 93 = true := by kernel_rfl
@[simp] theorem cb94 : callable Tryz.prog 94 = true := by kernel_rfl
@[simp] theorem cb95 : callable Tryz.prog 95 = true := by kernel_rfl
@[simp] theorem cb96 : callable Tryz.prog 96 = true := by kernel_rfl
@[simp] theorem cb97 : callable Tryz.prog 97 = true := by kernel_rfl
@[simp] theorem cb98 : callable Tryz.prog 98 = true := by kernel_rfl
@[simp] theorem cb99 : callable Tryz.prog 99 = true := by kernel_rfl
@[simp] theorem cb100 : callable Tryz.prog 100 = true := by kernel_rfl
@[simp] theorem cb101 : callable Tryz.prog 101 = true := by kernel_rfl
@[simp] theorem cb102 : callable Tryz.prog 102 = true := by kernel_rfl
@[simp] theorem cb103 : callable Tryz.prog 103 = true := by kernel_rfl
@[simp] theorem cb104 : callable Tryz.prog 104 = true := by kernel_rfl
@[simp] theorem cb105 : callable Tryz.prog 105 = true := by kernel_rfl
@[simp] theorem cb106 : callable Tryz.prog 106 = true := by kernel_rfl
@[simp] theorem cb107 : callable Tryz.prog 107 = true := by kernel_rfl
@[simp] theorem cb108 : callable Tryz.prog 108 = true := by kernel_rfl
@[simp] theorem cb109 : callable Tryz.prog 109 = true := by kernel_rfl
@[simp] theorem cb110 : callable Tryz.prog 110 = true := by kernel_rfl
@[simp] theorem cb111 : callable Tryz.prog 111 = true := by kernel_rfl
@[simp] theorem cb112 : callable Tryz.prog 112 = true := by kernel_rfl
@[simp] theorem cb113 : callable Tryz.prog 113 = true := by kernel_rfl
@[simp] theorem cb114 : callable Tryz.prog 114 = true := by kernel_rfl
@[simp] theorem cb115 : callable Tryz.prog 115 = true := by kernel_rfl
@[simp] theorem cb116 : callable Tryz.prog 116 = true := by kernel_rfl
@[simp] theorem cb117 : callable Tryz.prog 117 = true := by kernel_rfl
@[simp] theorem cb118 : callable Tryz.prog 118 = true := by kernel_rfl
@[simp] theorem cb119 : callable Tryz.prog 119 = true := by kernel_rfl
@[simp] theorem cb120 : callable Tryz.prog 120 = true := by kernel_rfl
@[simp] theorem cb121 : callable Tryz.prog 121 = true := by kernel_rfl
@[simp] theorem cb122 : callable Tryz.prog 122 = true := by kernel_rfl
@[simp] theorem cb123 : callable Tryz.prog 123 = true := by kernel_rfl
@[simp] theorem cb124 : callable Tryz.prog 124 = true := by kernel_rfl
@[simp] theorem cb127 : callable Tryz.prog 127 = true := by kernel_rfl
@[simp] theorem cb129 : callable Tryz.prog 129 = true := by kernel_rfl
@[simp] theorem cb130 : callable Tryz.prog 130 = true := by kernel_rfl
@[simp] theorem cb131 : callable Tryz.prog 131 = true := by kernel_rfl
@[simp] theorem cb132 : callable Tryz.prog 132 = true := by kernel_rfl
@[simp] theorem cb133 : callable Tryz.prog 133 = true := by kernel_rfl
@[simp] theorem cb134 : callable Tryz.prog 134 = true := by kernel_rfl
@[simp] theorem cb135 : callable Tryz.prog 135 = true := by kernel_rfl
@[simp] theorem cb136 : callable Tryz.prog 136 = true := by kernel_rfl
@[simp] theorem cb137 : callable Tryz.prog 137 = true := by kernel_rfl
@[simp] theorem cb138 : callable Tryz.prog 138 = true := by kernel_rfl
@[simp] theorem cb139 : callable Tryz.prog 139 = true := by kernel_rfl
@[simp] theorem cb140 : callable Tryz.prog 140 = true := by kernel_rfl
@[simp] theorem cb141 : callable Tryz.prog 141 = true := by kernel_rfl
@[simp] theorem cb142 : callable Tryz.prog 142 = true := by kernel_rfl
@[simp] theorem cb143 : callable Tryz.prog 143 = true := by kernel_rfl
@[simp] theorem cb144 : callable Tryz.prog 144 = true := by kernel_rfl
@[simp] theorem cb145 : callable Tryz.prog 145 = true := by kernel_rfl
@[simp] theorem cb146 : callable Tryz.prog 146 = true := by kernel_rfl
@[simp] theorem cb147 : callable Tryz.prog 147 = true := by kernel_rfl
@[simp] theorem cb149 : callable Tryz.prog 149 = true := by kernel_rfl
@[simp] theorem cb150 : callable Tryz.prog 150 = true := by kernel_rfl
@[simp] theorem cb151 : callable Tryz.prog 151 = true := by kernel_rfl
@[simp] theorem cb152 : callable Tryz.prog 152 = true := by kernel_rfl
@[simp] theorem cb153 : callable Tryz.prog 153 = true := by kernel_rfl
@[simp] theorem cb154 : callable Tryz.prog 154 = true := by kernel_rfl
@[simp] theorem cb155 : callable Tryz.prog 155 = true := by kernel_rfl
@[simp] theorem cb156 : callable Tryz.prog 156 = true := by kernel_rfl
@[simp] theorem cb157 : callable Tryz.prog 157 = true := by kernel_rfl
@[simp] theorem cb158 : callable Tryz.prog 158 = true := by kernel_rfl
@[simp] theorem cb159 : callable Tryz.prog 159 = true := by kernel_rfl
@[simp] theorem cb160 : callable Tryz.prog 160 = true := by kernel_rfl
@[simp] theorem cb161 : callable Tryz.prog 161 = true := by kernel_rfl
@[simp] theorem cb162 : callable Tryz.prog 162 = true := by kernel_rfl
@[simp] theorem cb163 : callable Tryz.prog 163 = true := by kernel_rfl
@[simp] theorem cb164 : callable Tryz.prog 164 = true := by kernel_rfl
@[simp] theorem cb165 : callable Tryz.prog 165 = true := by kernel_rfl
@[simp] theorem cb166 : callable Tryz.prog 166 = true := by kernel_rfl
@[simp] theorem cb167 : callable Tryz.prog 167 = true := by kernel_rfl
@[simp] theorem cb168 : callable Tryz.prog 168 = true := by kernel_rfl
@[simp] theorem cb169 : callable Tryz.prog 169 = true := by kernel_rfl
@[simp] theorem cb170 : callable Tryz.prog 170 = true := by kernel_rfl
@[simp] theorem cb171 : callable Tryz.prog 171 = true := by kernel_rfl
@[simp] theorem cb172 : callable Tryz.prog 172 = true := by kernel_rfl
@[simp] theorem cb173 : callable Tryz.prog 173 = true := by kernel_rfl
@[simp] theorem cb174 : callable Tryz.prog 174 = true := by kernel_rfl
@[simp] theorem cb175 : callable Tryz.prog 175 = true := by kernel_rfl
@[simp] theorem cb176 : callable Tryz.prog 176 = true := by kernel_rfl
@[simp] theorem cb177 : callable Tryz.prog 177 = true := by kernel_rfl
@[simp] theorem cb178 : callable Tryz.prog 178 = true := by kernel_rfl
@[simp] theorem cb179 : callable Tryz.prog 179 = true := by kernel_rfl
@[simp] theorem cb180 : callable Tryz.prog 180 = true := by kernel_rfl
@[simp] theorem cb181 : callable Tryz.prog 181 = true := by kernel_rfl
@[simp] theorem cb182 : callable Tryz.prog 182 = true := by kernel_rfl
@[simp] theorem cb183 : callable Tryz.prog 183 = true := by kernel_rfl
@[simp] theorem cb184 : callable Tryz.prog 184 = true := by kernel_rfl
@[simp] theorem cb185 : callable Tryz.prog 185 = true := by kernel_rfl
@[simp] theorem cb186 : callable Tryz.prog 186 = true := by kernel_rfl
@[simp] theorem cb187 : callable Tryz.prog 187 = true := by kernel_rfl
@[simp] theorem cb188 : callable Tryz.prog 188 = true := by kernel_rfl
@[simp] theorem cb189 : callable Tryz.prog 189 = true := by kernel_rfl
@[simp] theorem cb199 : callable Tryz.prog 199 = true := by kernel_rfl
@[simp] theorem cb200 : callable Tryz.prog 200 = true := by kernel_rfl
@[simp] theorem cb201 : callable Tryz.prog 201 = true := by kernel_rfl
@[simp] theorem cb202 : callable Tryz.prog 202 = true := by kernel_rfl
@[simp] theorem cb203 : callable Tryz.prog 203 = true := by kernel_rfl
@[simp] theorem cb204 : callable Tryz.prog 204 = true := by kernel_rfl
@[simp] theorem cb205 : callable Tryz.prog 205 = true := by kernel_rfl
@[simp] theorem cb206 : callable Tryz.prog 206 = true := by kernel_rfl
@[simp] theorem cb207 : callable Tryz.prog 207 = true := by kernel_rfl
@[simp] theorem cb208 : callable Tryz.prog 208 = true := by kernel_rfl
@[simp] theorem cb209 : callable Tryz.prog 209 = true := by kernel_rfl
@[simp] theorem cb210 : callable Tryz.prog 210 = true := by kernel_rfl
@[simp] theorem cb211 : callable Tryz.prog 211 = true := by kernel_rfl
@[simp] theorem cb212 : callable Tryz.prog 212 = true := by kernel_rfl
@[simp] theorem cb213 : callable Tryz.prog 213 = true := by kernel_rfl
@[simp] theorem cb214 : callable Tryz.prog 214 = true := by kernel_rfl
@[simp] theorem cb215 : callable Tryz.prog 215 = true := by kernel_rfl
@[simp] theorem cb216 : callable Tryz.prog 216 = true := by kernel_rfl
@[simp] theorem cb217 : callable Tryz.prog 217 = true := by kernel_rfl
@[simp] theorem cb218 : callable Tryz.prog 218 = true := by kernel_rfl
@[simp] theorem cb219 : callable Tryz.prog 219 = true := by kernel_rfl
@[simp] theorem cb220 : callable Tryz.prog 220 = true := by kernel_rfl
@[simp] theorem cb221 : callable Tryz.prog 221 = true := by kernel_rfl
@[simp] theorem cb222 : callable Tryz.prog 222 = true := by kernel_rfl
@[simp] theorem cb223 : callable Tryz.prog 223 = true := by kernel_rfl
@[simp] theorem cb224 : callable Tryz.prog 224 = true := by kernel_rfl
@[simp] theorem cb225 : callable Tryz.prog 225 = true := by kernel_rfl
@[simp] theorem cb226 : callable Tryz.prog 226 = true := by kernel_rfl
@[simp] theorem cb227 : callable Tryz.prog 227 = true := by kernel_rfl
@[simp] theorem cb228 : callable Tryz.prog 228 = true := by kernel_rfl
@[simp] theorem cb229 : callable Tryz.prog 229 = true := by kernel_rfl
@[simp] theorem cb230 : callable Tryz.prog 230 = true := by kernel_rfl
@[simp] theorem cb231 : callable Tryz.prog 231 = true := by kernel_rfl
@[simp] theorem cb232 : callable Tryz.prog 232 = true := by kernel_rfl
@[simp] theorem cb233 : callable Tryz.prog 233 = true := by kernel_rfl
@[simp] theorem cb234 : callable Tryz.prog 234 = true := by kernel_rfl
@[simp] theorem cb235 : callable Tryz.prog 235 = true := by kernel_rfl
@[simp] theorem cb236 : callable Tryz.prog 236 = true := by kernel_rfl
@[simp] theorem cb237 : callable Tryz.prog 237 = true := by kernel_rfl
@[simp] theorem cb238 : callable Tryz.prog 238 = true := by kernel_rfl
@[simp] theorem cb239 : callable Tryz.prog 239 = true := by kernel_rfl
@[simp] theorem cb240 : callable Tryz.prog 240 = true := by kernel_rfl
@[simp] theorem cb241 : callable Tryz.prog 241 = true := by kernel_rfl
@[simp] theorem cb242 : callable Tryz.prog 242 = true := by kernel_rfl
@[simp] theorem cb243 : callable Tryz.prog 243 = true := by kernel_rfl
@[simp] theorem cb244 : callable Tryz.prog 244 = true := by kernel_rfl
@[simp] theorem cb245 : callable Tryz.prog 245 = true := by kernel_rfl
@[simp] theorem cb246 : callable Tryz.prog 246 = true := by kernel_rfl
@[simp] theorem cb247 : callable Tryz.prog 247 = true := by kernel_rfl
@[simp] theorem cb248 : callable Tryz.prog 248 = true := by kernel_rfl
@[simp] theorem cb249 : callable Tryz.prog 249 = true := by kernel_rfl
@[simp] theorem cb250 : callable Tryz.prog 250 = true := by kernel_rfl
@[simp] theorem cb251 : callable Tryz.prog 251 = true := by kernel_rfl
@[simp] theorem cb252 : callable Tryz.prog 252 = true := by kernel_rfl
@[simp] theorem cb253 : callable Tryz.prog 253 = true := by kernel_rfl
@[simp] theorem cb254 : callable Tryz.prog 254 = true := by kernel_rfl
@[simp] theorem cb255 : callable Tryz.prog 255 = true := by kernel_rfl
@[simp] theorem cb256 : callable Tryz.prog 256 = true := by kernel_rfl
@[simp] theorem cb257 : callable Tryz.prog 257 = true := by kernel_rfl
@[simp] theorem cb258 : callable Tryz.prog 258 = true := by kernel_rfl
@[simp] theorem cb259 : callable Tryz.prog 259 = true := by kernel_rfl
@[simp] theorem cb260 : callable Tryz.prog 260 = true := by kernel_rfl
@[simp] theorem cb261 : callable Tryz.prog 261 = true := by kernel_rfl
@[simp] theorem cb262 : callable Tryz.prog 262 = true := by kernel_rfl
@[simp] theorem cb263 : callable Tryz.prog 263 = true := by kernel_rfl
@[simp] theorem cb264 : callable Tryz.prog 264 = true := by kernel_rfl
@[simp] theorem cb265 : callable Tryz.prog 265 = true := by kernel_rfl
@[simp] theorem cb266 : callable Tryz.prog 266 = true := by kernel_rfl
@[simp] theorem cb267 : callable Tryz.prog 267 = true := by kernel_rfl
@[simp] theorem cb268 : callable Tryz.prog 268 = true := by kernel_rfl
@[simp] theorem cb269 : callable Tryz.prog 269 = true := by kernel_rfl
@[simp] theorem cb270 : callable Tryz.prog 270 = true := by kernel_rfl
@[simp] theorem cb271 : callable Tryz.prog 271 = true := by kernel_rfl
@[simp] theorem cb272 : callable Tryz.prog 272 = true := by kernel_rfl
@[simp] theorem cb273 : callable Tryz.prog 273 = true := by kernel_rfl
@[simp] theorem cb274 : callable Tryz.prog 274 = true := by kernel_rfl
@[simp] theorem cb275 : callable Tryz.prog 275 = true := by kernel_rfl
@[simp] theorem cb276 : callable Tryz.prog 276 = true := by kernel_rfl
@[simp] theorem cb277 : callable Tryz.prog 277 = true := by kernel_rfl
@[simp] theorem cb278 : callable Tryz.prog 278 = true := by kernel_rfl
@[simp] theorem cb279 : callable Tryz.prog 279 = true := by kernel_rfl
@[simp] theorem cb280 : callable Tryz.prog 280 = true := by kernel_rfl
@[simp] theorem cb281 : callable Tryz.prog 281 = true := by kernel_rfl
@[simp] theorem cb282 : callable Tryz.prog 282 = true := by kernel_rfl
@[simp] theorem cb283 : callable Tryz.prog 283 = true := by kernel_rfl
@[simp] theorem cb284 : callable Tryz.prog 284 = true := by kernel_rfl
@[simp] theorem cb285 : callable Tryz.prog 285 = true := by kernel_rfl
@[simp] theorem cb286 : callable Tryz.prog 286 = true := by kernel_rfl
@[simp] theorem cb287 : callable Tryz.prog 287 = true := by kernel_rfl
@[simp] theorem cb289 : callable Tryz.prog 289 = true := by kernel_rfl
@[simp] theorem cb290 : callable Tryz.prog 290 = true := by kernel_rfl
@[simp] theorem cb291 : callable Tryz.prog 291 = true := by kernel_rfl
@[simp] theorem cb292 : callable Tryz.prog 292 = true := by kernel_rfl
@[simp] theorem cb293 : callable Tryz.prog 293 = true := by kernel_rfl
@[simp] theorem cb294 : callable Tryz.prog 294 = true := by kernel_rfl
@[simp] theorem cb295 : callable Tryz.prog 295 = true := by kernel_rfl
@[simp] theorem cb296 : callable Tryz.prog 296 = true := by kernel_rfl
@[simp] theorem cb297 : callable Tryz.prog 297 = true := by kernel_rfl
@[simp] theorem cb298 : callable Tryz.prog 298 = true := by kernel_rfl
@[simp] theorem cb299 : callable Tryz.prog 299 = true := by kernel_rfl
@[simp] theorem cb300 : callable Tryz.prog 300 = true := by kernel_rfl
@[simp] theorem cb301 : callable Tryz.prog 301 = true := by kernel_rfl
@[simp] theorem cb302 : callable Tryz.prog 302 = true := by kernel_rfl
@[simp] theorem cb303 : callable Tryz.prog 303 = true := by kernel_rfl
@[simp] theorem cb304 : callable Tryz.prog 304 = true := by kernel_rfl
@[simp] theorem cb305 : callable Tryz.prog 305 = true := by kernel_rfl
@[simp] theorem cb306 : callable Tryz.prog 306 = true := by kernel_rfl
@[simp] theorem cb307 : callable Tryz.prog 307 = true := by kernel_rfl
@[simp] theorem cb308 : callable Tryz.prog 308 = true := by kernel_rfl
@[simp] theorem cb309 : callable Tryz.prog 309 = true := by kernel_rfl
@[simp] theorem cb310 : callable Tryz.prog 310 = true := by kernel_rfl
@[simp] theorem cb311 : callable Tryz.prog 311 = true := by kernel_rfl
@[simp] theorem cb312 : callable Tryz.prog 312 = true := by kernel_rfl
@[simp] theorem cb313 : callable Tryz.prog 313 = true := by kernel_rfl
@[simp] theorem cb314 : callable Tryz.prog 314 = true := by kernel_rfl
@[simp] theorem cb315 : callable Tryz.prog 315 = true := by kernel_rfl
@[simp] theorem cb316 : callable Tryz.prog 316 = true := by kernel_rfl
@[simp] theorem cb317 : callable Tryz.prog 317 = true := by kernel_rfl
@[simp] theorem cb318 : callable Tryz.prog 318 = true := by kernel_rfl
@[simp] theorem cb319 : callable Tryz.prog 319 = true := by kernel_rfl
@[simp] theorem cb320 : callable Tryz.prog 320 = true := by kernel_rfl
@[simp] theorem cb321 : callable Tryz.prog 321 = true := by kernel_rfl
@[simp] theorem cb322 : callable Tryz.prog 322 = true := by kernel_rfl
@[simp] theorem cb323 : callable Tryz.prog 323 = true := by kernel_rfl
@[simp] theorem cb324 : callable Tryz.prog 324 = true := by kernel_rfl
@[simp] theorem cb326 : callable Tryz.prog 326 = true := by kernel_rfl
@[simp] theorem cb327 : callable Tryz.prog 327 = true := by kernel_rfl
@[simp] theorem cb328 : callable Tryz.prog 328 = true := by kernel_rfl
@[simp] theorem cb329 : callable Tryz.prog 329 = true := by kernel_rfl
@[simp] theorem cb330 : callable Tryz.prog 330 = true := by kernel_rfl
@[simp] theorem cb331 : callable Tryz.prog 331 = true := by kernel_rfl
@[simp] theorem cb332 : callable Tryz.prog 332 = true := by kernel_rfl
@[simp] theorem cb333 : callable Tryz.prog 333 = true := by kernel_rfl
@[simp] theorem cb334 : callable Tryz.prog 334 = true := by kernel_rfl
@[simp] theorem cb335 : callable Tryz.prog 335 = true := by kernel_rfl
@[simp] theorem cb336 : callable Tryz.prog 336 = true := by kernel_rfl
@[simp] theorem cb337 : callable Tryz.prog 337 = true := by kernel_rfl
@[simp] theorem cb338 : callable Tryz.prog 338 = true := by kernel_rfl
@[simp] theorem cb339 : callable Tryz.prog 339 = true := by kernel_rfl
end Go.Proofs.YthknobbilcolnaaGreat
