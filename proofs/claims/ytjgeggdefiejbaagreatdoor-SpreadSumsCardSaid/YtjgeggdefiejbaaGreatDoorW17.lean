/-
  What functions of the program compute, stated as contracts over plain data; the conditions of each stand in its own statement.
-/
import Derived.Test.YtjgeggdefiejbaaGreatDoorW12
import Derived.Test.YtjgeggdefiejbaaGreatDoorW07
import Derived.KernelRfl
import Derived.Test.YtjgeggdefiejbaaGreatDoorChecked
import Derived.Lib.SlicesCompact
namespace Go.Proofs
open Go Go.Tr
@[simp] theorem lf3 : lf Tryz.prog 3 = some 0 := by kernel_rfl
@[simp] theorem shp3 : shp Tryz.prog 3 = some false := by kernel_rfl
@[simp] theorem szO3 : szO Tryz.prog 3 = some 1 := by kernel_rfl
@[simp] theorem knd3 : knd Tryz.prog 3 = some .i64 := by kernel_rfl
@[simp] theorem byO3 : byO Tryz.prog 3 = some 8 := by kernel_rfl
@[simp] theorem zrO3 : zrO Tryz.prog 3 = some (Value.int .i64 0) := by kernel_rfl
@[simp] theorem shp4 : shp Tryz.prog 4 = some false := by kernel_rfl
@[simp] theorem szO4 : szO Tryz.prog 4 = some 1 := by kernel_rfl
@[simp] theorem byO4 : byO Tryz.prog 4 = some 1 := by kernel_rfl
@[simp] theorem zrO4 : zrO Tryz.prog 4 = some (Value.bool false) := by kernel_rfl
@[simp] theorem u8K5 : u8K Tryz.prog 5 = true := by kernel_rfl
@[simp] theorem shp5 : shp Tryz.prog 5 = some false := by kernel_rfl
@[simp] theorem szO5 : szO Tryz.prog 5 = some 1 := by kernel_rfl
@[simp] theorem knd5 : knd Tryz.prog 5 = some .u8 := by kernel_rfl
@[simp] theorem byO5 : byO Tryz.prog 5 = some 1 := by kernel_rfl
@[simp] theorem zrO5 : zrO Tryz.prog 5 = some (Value.int .u8 0) := by kernel_rfl
@[simp] theorem lf9 : lf Tryz.prog 9 = some 2 := by kernel_rfl
@[simp] theorem shp9 : shp Tryz.prog 9 = some false := by kernel_rfl
@[simp] theorem szO9 : szO Tryz.prog 9 = some 1 := by kernel_rfl
@[simp] theorem isStr9 : isStr Tryz.prog 9 = true := by kernel_rfl
@[simp] theorem shp22 : shp Tryz.prog 22 = some false := by kernel_rfl
@[simp] theorem szO22 : szO Tryz.prog 22 = some 1 := by kernel_rfl
@[simp] theorem slE22 : slE Tryz.prog 22 = some 3 := by kernel_rfl
@[simp] theorem byO22 : byO Tryz.prog 22 = some 24 := by kernel_rfl
@[simp] theorem zrO22 : zrO Tryz.prog 22 = some (Value.slice none 0 0) := by kernel_rfl
@[simp] theorem shp25 : shp Tryz.prog 25 = some false := by kernel_rfl
@[simp] theorem szO25 : szO Tryz.prog 25 = some 1 := by kernel_rfl
@[simp] theorem slE25 : slE Tryz.prog 25 = some 52 := by kernel_rfl
@[simp] theorem shp26 : shp Tryz.prog 26 = some false := by kernel_rfl
@[simp] theorem szO26 : szO Tryz.prog 26 = some 1 := by kernel_rfl
@[simp] theorem slE26 : slE Tryz.prog 26 = some 125 := by kernel_rfl
@[simp] theorem shp28 : shp Tryz.prog 28 = some true := by kernel_rfl
@[simp] theorem szO28 : szO Tryz.prog 28 = some 2 := by kernel_rfl
@[simp] theorem fld0_28 : fld Tryz.prog 28 0 = some (0, 25) := by kernel_rfl
@[simp] theorem fld1_28 : fld Tryz.prog 28 1 = some (1, 26) := by kernel_rfl
@[simp] theorem stF28 : stF Tryz.prog 28 = some [(0, 1), (1, 1)] := by kernel_rfl
@[simp] theorem zrO28 : zrO Tryz.prog 28 = some (Value.agg #[.slice none 0 0, .slice none 0 0]) := by kernel_rfl
@[simp] theorem shp29 : shp Tryz.prog 29 = some false := by kernel_rfl
@[simp] theorem szO29 : szO Tryz.prog 29 = some 1 := by kernel_rfl
@[simp] theorem slE29 : slE Tryz.prog 29 = some 39 := by kernel_rfl
@[simp] theorem shp31 : shp Tryz.prog 31 = some true := by kernel_rfl
@[simp] theorem szO31 : szO Tryz.prog 31 = some 3 := by kernel_rfl
@[simp] theorem fld0_31 : fld Tryz.prog 31 0 = some (0, 3) := by kernel_rfl
@[simp] theorem fld1_31 : fld Tryz.prog 31 1 = some (1, 3) := by kernel_rfl
@[simp] theorem fld2_31 : fld Tryz.prog 31 2 = some (2, 29) := by kernel_rfl
@[simp] theorem stF31 : stF Tryz.prog 31 = some [(0, 1), (1, 1), (2, 1)] := by kernel_rfl
@[simp] theorem zrO31 : zrO Tryz.prog 31 = some (Value.agg #[.int .i64 0, .int .i64 0, .slice none 0 0]) := by kernel_rfl
@[simp] theorem shp32 : shp Tryz.prog 32 = some false := by kernel_rfl
@[simp] theorem szO32 : szO Tryz.prog 32 = some 1 := by kernel_rfl
@[simp] theorem slE32 : slE Tryz.prog 32 = some 37 := by kernel_rfl
@[simp] theorem zrO32 : zrO Tryz.prog 32 = some (Value.slice none 0 0) := by kernel_rfl
@[simp] theorem shp35 : shp Tryz.prog 35 = some false := by kernel_rfl
@[simp] theorem szO35 : szO Tryz.prog 35 = some 1 := by kernel_rfl
@[simp] theorem slE35 : slE Tryz.prog 35 = some 95 := by kernel_rfl
@[simp] theorem shp37 : shp Tryz.prog 37 = some true := by kernel_rfl
@[simp] theorem szO37 : szO Tryz.prog 37 = some 4 := by kernel_rfl
@[simp] theorem fld0_37 : fld Tryz.prog 37 0 = some (0, 3) := by kernel_rfl
@[simp] theorem fld1_37 : fld Tryz.prog 37 1 = some (1, 3) := by kernel_rfl
@[simp] theorem fld2_37 : fld Tryz.prog 37 2 = some (2, 3) := by kernel_rfl
@[simp] theorem fld3_37 : fld Tryz.prog 37 3 = some (3, 35) := by kernel_rfl
@[simp] theorem stF37 : stF Tryz.prog 37 = some [(0, 1), (1, 1), (2, 1), (3, 1)] := by kernel_rfl
@[simp] theorem byO37 : byO Tryz.prog 37 = some 48 := by kernel_rfl
@[simp] theorem zrO37 : zrO Tryz.prog 37 = some (Value.agg #[.int .i64 0, .int .i64 0, .int .i64 0, .slice none 0 0]) := by kernel_rfl
@[simp] theorem shp39 : shp Tryz.prog 39 = some true := by kernel_rfl
@[simp] theorem szO39 : szO Tryz.prog 39 = some 2 := by kernel_rfl
@[simp] theorem fld0_39 : fld Tryz.prog 39 0 = some (0, 3) := by kernel_rfl
@[simp] theorem fld1_39 : fld Tryz.prog 39 1 = some (1, 3) := by kernel_rfl
@[simp] theorem stF39 : stF Tryz.prog 39 = some [(0, 1), (1, 1)] := by kernel_rfl
@[simp] theorem byO39 : byO Tryz.prog 39 = some 16 := by kernel_rfl
@[simp] theorem zrO39 : zrO Tryz.prog 39 = some (Value.agg #[.int .i64 0, .int .i64 0]) := by kernel_rfl
@[simp] theorem szO52 : szO Tryz.prog 52 = some 2 := by kernel_rfl
@[simp] theorem fld0_52 : fld Tryz.prog 52 0 = some (0, 3) := by kernel_rfl
@[simp] theorem fld1_52 : fld Tryz.prog 52 1 = some (1, 4) := by kernel_rfl
@[simp] theorem stF52 : stF Tryz.prog 52 = some [(0, 1), (1, 1)] := by kernel_rfl
@[simp] theorem byO52 : byO Tryz.prog 52 = some 16 := by kernel_rfl
@[simp] theorem zrO52 : zrO Tryz.prog 52 = some (Value.agg #[.int .i64 0, .bool false]) := by kernel_rfl
@[simp] theorem lf53 : lf Tryz.prog 53 = some 0 := by kernel_rfl
@[simp] theorem shp53 : shp Tryz.prog 53 = some false := by kernel_rfl
@[simp] theorem szO53 : szO Tryz.prog 53 = some 1 := by kernel_rfl
@[simp] theorem knd53 : knd Tryz.prog 53 = some .u64 := by kernel_rfl
@[simp] theorem zrO53 : zrO Tryz.prog 53 = some (Value.int .u64 0) := by kernel_rfl
@[simp] theorem eqFs55 : eqFs Tryz.prog 55 = some [(0, 3), (1, 3), (2, 3), (3, 3), (4, 3), (5, 3), (6, 3), (7, 3), (8, 53), (9, 9)] := by kernel_rfl
@[simp] theorem eqGd55 : eqGd Tryz.prog 55 = true := by kernel_rfl
@[simp] theorem shp55 : shp Tryz.prog 55 = some true := by kernel_rfl
@[simp] theorem szO55 : szO Tryz.prog 55 = some 10 := by kernel_rfl
@[simp] theorem fld0_55 : fld Tryz.prog 55 0 = some (0, 3) := by kernel_rfl
@[simp] theorem fld1_55 : fld Tryz.prog 55 1 = some (1, 3) := by kernel_rfl
@[simp] theorem fld2_55 : fld Tryz.prog 55 2 = some (2, 3) := by kernel_rfl
@[simp] theorem fld3_55 : fld Tryz.prog 55 3 = some (3, 3) := by kernel_rfl
@[simp] theorem fld4_55 : fld Tryz.prog 55 4 = some (4, 3) := by kernel_rfl
@[simp] theorem fld5_55 : fld Tryz.prog 55 5 = some (5, 3) := by kernel_rfl
@[simp] theorem fld6_55 : fld Tryz.prog 55 6 = some (6, 3) := by kernel_rfl
@[simp] theorem fld7_55 : fld Tryz.prog 55 7 = some (7, 3) := by kernel_rfl
@[simp] theorem fld8_55 : fld Tryz.prog 55 8 = some (8, 53) := by kernel_rfl
@[simp] theorem fld9_55 : fld Tryz.prog 55 9 = some (9, 9) := by kernel_rfl
@[simp] theorem stF55 : stF Tryz.prog 55 = some [(0, 1), (1, 1), (2, 1), (3, 1), (4, 1), (5, 1), (6, 1), (7, 1), (8, 1), (9, 1)] := by kernel_rfl
@[simp] theorem zrO55 : zrO Tryz.prog 55 = some (Value.agg #[.int .i64 0, .int .i64 0, .int .i64 0, .int .i64 0, .int .i64 0, .int .i64 0, .int .i64 0, .int .i64 0, .int .u64 0, .string ⟨#[]⟩]) := by kernel_rfl
@[simp] theorem shp56 : shp Tryz.prog 56 = some false := by kernel_rfl
@[simp] theorem szO56 : szO Tryz.prog 56 = some 1 := by kernel_rfl
@[simp] theorem slE56 : slE Tryz.prog 56 = some 61 := by kernel_rfl
@[simp] theorem zrO56 : zrO Tryz.prog 56 = some (Value.slice none 0 0) := by kernel_rfl
@[simp] theorem knd59 : knd Tryz.prog 59 = some .u64 := by kernel_rfl
@[simp] theorem eqFs61 : eqFs Tryz.prog 61 = some [(0, 3), (1, 3), (2, 3), (3, 3)] := by kernel_rfl
@[simp] theorem eqGd61 : eqGd Tryz.prog 61 = true := by kernel_rfl
@[simp] theorem shp61 : shp Tryz.prog 61 = some true := by kernel_rfl
@[simp] theorem szO61 : szO Tryz.prog 61 = some 4 := by kernel_rfl
@[simp] theorem fld0_61 : fld Tryz.prog 61 0 = some (0, 3) := by kernel_rfl
@[simp] theorem fld1_61 : fld Tryz.prog 61 1 = some (1, 3) := by kernel_rfl
@[simp] theorem fld3_61 : fld Tryz.prog 61 3 = some (3, 3) := by kernel_rfl
@[simp] theorem stF61 : stF Tryz.prog 61 = some [(0, 1), (1, 1), (2, 1), (3, 1)] := by kernel_rfl
@[simp] theorem byO61 : byO Tryz.prog 61 = some 32 := by kernel_rfl
@[simp] theorem zrO61 : zrO Tryz.prog 61 = some (Value.agg #[.int .i64 0, .int .i64 0, .int .i64 0, .int .i64 0]) := by kernel_rfl
@[simp] theorem slE70 : slE Tryz.prog 70 = some 32 := by kernel_rfl
@[simp] theorem slE72 : slE Tryz.prog 72 = some 55 := by kernel_rfl
@[simp] theorem szO83 : szO Tryz.prog 83 = some 2 := by kernel_rfl
@[simp] theorem arE83 : arE Tryz.prog 83 = some (2, 3) := by kernel_rfl
@[simp] theorem stF83 : stF Tryz.prog 83 = none := by kernel_rfl
@[simp] theorem arF83 : arF Tryz.prog 83 = some 1 := by kernel_rfl
@[simp] theorem zrO83 : zrO Tryz.prog 83 = some (Value.agg #[.int .i64 0, .int .i64 0]) := by kernel_rfl
@[simp] theorem szO84 : szO Tryz.prog 84 = some 4 := by kernel_rfl
@[simp] theorem arE84 : arE Tryz.prog 84 = some (2, 83) := by kernel_rfl
@[simp] theorem stF84 : stF Tryz.prog 84 = none := by kernel_rfl
@[simp] theorem arF84 : arF Tryz.prog 84 = some 2 := by kernel_rfl
@[simp] theorem zrO84 : zrO Tryz.prog 84 = some (Value.agg #[.int .i64 0, .int .i64 0, .int .i64 0, .int .i64 0]) := by kernel_rfl
@[simp] theorem slE85 : slE Tryz.prog 85 = some 22 := by kernel_rfl
@[simp] theorem shp95 : shp Tryz.prog 95 = some true := by kernel_rfl
@[simp] theorem szO95 : szO Tryz.prog 95 = some 2 := by kernel_rfl
@[simp] theorem fld0_95 : fld Tryz.prog 95 0 = some (0, 3) := by kernel_rfl
@[simp] theorem fld1_95 : fld Tryz.prog 95 1 = some (1, 22) := by kernel_rfl
@[simp] theorem stF95 : stF Tryz.prog 95 = some [(0, 1), (1, 1)] := by kernel_rfl
@[simp] theorem byO95 : byO Tryz.prog 95 = some 32 := by kernel_rfl
@[simp] theorem zrO95 : zrO Tryz.prog 95 = some (Value.agg #[.int .i64 0, .slice none 0 0]) := by kernel_rfl
@[simp] theorem slE100 : slE Tryz.prog 100 = some 104 := by kernel_rfl
@[simp] theorem shp104 : shp Tryz.prog 104 = some true := by kernel_rfl
@[simp] theorem szO104 : szO Tryz.prog 104 = some 3 := by kernel_rfl
@[simp] theorem fld2_104 : fld Tryz.prog 104 2 = some (2, 3) := by kernel_rfl
@[simp] theorem stF104 : stF Tryz.prog 104 = some [(0, 1), (1, 1), (2, 1)] := by kernel_rfl
@[simp] theorem byO104 : byO Tryz.prog 104 = some 24 := by kernel_rfl
@[simp] theorem zrO104 : zrO Tryz.prog 104 = some (Value.agg #[.int .i64 0, .int .i64 0, .int .i64 0]) := by kernel_rfl
@[simp] theorem shp105 : shp Tryz.prog 105 = some false := by kernel_rfl
@[simp] theorem szO105 : szO Tryz.prog 105 = some 1 := by kernel_rfl
@[simp] theorem slE105 : slE Tryz.prog 105 = some 138 := by kernel_rfl
@[simp] theorem shp106 : shp Tryz.prog 106 = some false := by kernel_rfl
@[simp] theorem szO106 : szO Tryz.prog 106 = some 1 := by kernel_rfl
@[simp] theorem slE106 : slE Tryz.prog 106 = some 158 := by kernel_rfl
@[simp] theorem shp107 : shp Tryz.prog 107 = some false := by kernel_rfl
@[simp] theorem szO107 : szO Tryz.prog 107 = some 1 := by kernel_rfl
@[simp] theorem slE107 : slE Tryz.prog 107 = some 140 := by kernel_rfl
@[simp] theorem shp109 : shp Tryz.prog 109 = some true := by kernel_rfl
@[simp] theorem szO109 : szO Tryz.prog 109 = some 3 := by kernel_rfl
@[simp] theorem fld0_109 : fld Tryz.prog 109 0 = some (0, 105) := by kernel_rfl
@[simp] theorem fld1_109 : fld Tryz.prog 109 1 = some (1, 106) := by kernel_rfl
@[simp] theorem fld2_109 : fld Tryz.prog 109 2 = some (2, 107) := by kernel_rfl
@[simp] theorem stF109 : stF Tryz.prog 109 = some [(0, 1), (1, 1), (2, 1)] := by kernel_rfl
@[simp] theorem zrO109 : zrO Tryz.prog 109 = some (Value.agg #[.slice none 0 0, .slice none 0 0, .slice none 0 0]) := by kernel_rfl
@[simp] theorem fld0_118 : fld Tryz.prog 118 0 = some (0, 22) := by kernel_rfl
@[simp] theorem fld1_118 : fld Tryz.prog 118 1 = some (1, 3) := by kernel_rfl
@[simp] theorem stF118 : stF Tryz.prog 118 = some [(0, 1), (1, 1)] := by kernel_rfl
@[simp] theorem zrO118 : zrO Tryz.prog 118 = some (Value.agg #[.slice none 0 0, .int .i64 0]) := by kernel_rfl
@[simp] theorem shp125 : shp Tryz.prog 125 = some true := by kernel_rfl
@[simp] theorem szO125 : szO Tryz.prog 125 = some 5 := by kernel_rfl
@[simp] theorem fld0_125 : fld Tryz.prog 125 0 = some (0, 3) := by kernel_rfl
@[simp] theorem fld1_125 : fld Tryz.prog 125 1 = some (1, 3) := by kernel_rfl
@[simp] theorem fld2_125 : fld Tryz.prog 125 2 = some (2, 3) := by kernel_rfl
@[simp] theorem fld3_125 : fld Tryz.prog 125 3 = some (3, 3) := by kernel_rfl
@[simp] theorem fld4_125 : fld Tryz.prog 125 4 = some (4, 3) := by kernel_rfl
@[simp] theorem stF125 : stF Tryz.prog 125 = some [(0, 1), (1, 1), (2, 1), (3, 1), (4, 1)] := by kernel_rfl
@[simp] theorem byO125 : byO Tryz.prog 125 = some 40 := by kernel_rfl
@[simp] theorem zrO125 : zrO Tryz.prog 125 = some (Value.agg #[.int .i64 0, .int .i64 0, .int .i64 0, .int .i64 0, .int .i64 0]) := by kernel_rfl
@[simp] theorem slE126 : slE Tryz.prog 126 = some 127 := by kernel_rfl
@[simp] theorem shp127 : shp Tryz.prog 127 = some false := by kernel_rfl
@[simp] theorem szO127 : szO Tryz.prog 127 = some 1 := by kernel_rfl
@[simp] theorem slE127 : slE Tryz.prog 127 = some 4 := by kernel_rfl
@[simp] theorem byO127 : byO Tryz.prog 127 = some 24 := by kernel_rfl
@[simp] theorem zrO127 : zrO Tryz.prog 127 = some (Value.slice none 0 0) := by kernel_rfl
@[simp] theorem shp138 : shp Tryz.prog 138 = some true := by kernel_rfl
@[simp] theorem szO138 : szO Tryz.prog 138 = some 11 := by kernel_rfl
@[simp] theorem fld0_138 : fld Tryz.prog 138 0 = some (0, 3) := by kernel_rfl
@[simp] theorem fld1_138 : fld Tryz.prog 138 1 = some (1, 55) := by kernel_rfl
@[simp] theorem stF138 : stF Tryz.prog 138 = some [(0, 1), (1, 10)] := by kernel_rfl
@[simp] theorem byO138 : byO Tryz.prog 138 = some 96 := by kernel_rfl
@[simp] theorem zrO138 : zrO Tryz.prog 138 = some (Value.agg #[.int .i64 0, .int .i64 0, .int .i64 0, .int .i64 0, .int .i64 0, .int .i64 0, .int .i64 0, .int .i64 0, .int .i64 0, .int .u64 0, .string ⟨#[]⟩]) := by kernel_rfl
@[simp] theorem shp140 : shp Tryz.prog 140 = some true := by kernel_rfl
@[simp] theorem szO140 : szO Tryz.prog 140 = some 2 := by kernel_rfl
@[simp] theorem fld0_140 : fld Tryz.prog 140 0 = some (0, 3) := by kernel_rfl
@[simp] theorem fld1_140 : fld Tryz.prog 140 1 = some (1, 53) := by kernel_rfl
@[simp] theorem stF140 : stF Tryz.prog 140 = some [(0, 1), (1, 1)] := by kernel_rfl
@[simp] theorem byO140 : byO Tryz.prog 140 = some 16 := by kernel_rfl
@[simp] theorem zrO140 : zrO Tryz.prog 140 = some (Value.agg #[.int .i64 0, .int .u64 0]) := by kernel_rfl
@[simp] theorem fld0_144 : fld Tryz.prog 144 0 = some (0, 22) := by kernel_rfl
@[simp] theorem fld1_144 : fld Tryz.prog 144 1 = some (1, 3) := by kernel_rfl
@[simp] theorem stF144 : stF Tryz.prog 144 = some [(0, 1), (1, 1)] := by kernel_rfl
@[simp] theorem zrO144 : zrO Tryz.prog 144 = some (Value.agg #[.slice none 0 0, .int .i64 0]) := by kernel_rfl
@[simp] theorem mapTy156 : mapTy Tryz.prog 156 = true := by kernel_rfl
@[simp] theorem mpK2_156 : mpK Tryz.prog 156 2 = some 3 := by kernel_rfl
@[simp] theorem eqFs158 : eqFs Tryz.prog 158 = some [(0, 3), (1, 3), (2, 53)] := by kernel_rfl
@[simp] theorem eqGd158 : eqGd Tryz.prog 158 = true := by kernel_rfl
@[simp] theorem shp158 : shp Tryz.prog 158 = some true := by kernel_rfl
@[simp] theorem szO158 : szO Tryz.prog 158 = some 3 := by kernel_rfl
@[simp] theorem fld0_158 : fld Tryz.prog 158 0 = some (0, 3) := by kernel_rfl
@[simp] theorem fld1_158 : fld Tryz.prog 158 1 = some (1, 3) := by kernel_rfl
@[simp] theorem stF158 : stF Tryz.prog 158 = some [(0, 1), (1, 1), (2, 1)] := by kernel_rfl
@[simp] theorem byO158 : byO Tryz.prog 158 = some 24 := by kernel_rfl
@[simp] theorem zrO158 : zrO Tryz.prog 158 = some (Value.agg #[.int .i64 0, .int .i64 0, .int .u64 0]) := by kernel_rfl
@[simp] theorem szO160 : szO Tryz.prog 160 = some 2 := by kernel_rfl
@[simp] theorem fld0_160 : fld Tryz.prog 160 0 = some (0, 3) := by kernel_rfl
@[simp] theorem fld1_160 : fld Tryz.prog 160 1 = some (1, 3) := by kernel_rfl
@[simp] theorem stF160 : stF Tryz.prog 160 = some [(0, 1), (1, 1)] := by kernel_rfl
@[simp] theorem zrO160 : zrO Tryz.prog 160 = some (Value.agg #[.int .i64 0, .int .i64 0]) := by kernel_rfl
@[simp] theorem szO165 : szO Tryz.prog 165 = some 11 := by kernel_rfl
@[simp] theorem fld1_165 : fld Tryz.prog 165 1 = some (1, 55) := by kernel_rfl
@[simp] theorem stF165 : stF Tryz.prog 165 = some [(0, 1), (1, 10)] := by kernel_rfl
@[simp] theorem zrO165 : zrO Tryz.prog 165 = some (Value.agg #[.slice none 0 0, .int .i64 0, .int .i64 0, .int .i64 0, .int .i64 0, .int .i64 0, .int .i64 0, .int .i64 0, .int .i64 0, .int .u64 0, .string ⟨#[]⟩]) := by kernel_rfl
@[simp] theorem shp167 : shp Tryz.prog 167 = some true := by kernel_rfl
@[simp] theorem szO167 : szO Tryz.prog 167 = some 12 := by kernel_rfl
@[simp] theorem fld0_167 : fld Tryz.prog 167 0 = some (0, 3) := by kernel_rfl
@[simp] theorem fld1_167 : fld Tryz.prog 167 1 = some (1, 165) := by kernel_rfl
@[simp] theorem stF167 : stF Tryz.prog 167 = some [(0, 1), (1, 11)] := by kernel_rfl
@[simp] theorem byO167 : byO Tryz.prog 167 = some 120 := by kernel_rfl
@[simp] theorem zrO167 : zrO Tryz.prog 167 = some (Value.agg #[.int .i64 0, .slice none 0 0, .int .i64 0, .int .i64 0, .int .i64 0, .int .i64 0, .int .i64 0, .int .i64 0, .int .i64 0, .int .i64 0, .int .u64 0, .string ⟨#[]⟩]) := by kernel_rfl
@[simp] theorem shp168 : shp Tryz.prog 168 = some false := by kernel_rfl
@[simp] theorem szO168 : szO Tryz.prog 168 = some 1 := by kernel_rfl
@[simp] theorem slE168 : slE Tryz.prog 168 = some 167 := by kernel_rfl
@[simp] theorem shp170 : shp Tryz.prog 170 = some true := by kernel_rfl
@[simp] theorem szO170 : szO Tryz.prog 170 = some 3 := by kernel_rfl
@[simp] theorem fld0_170 : fld Tryz.prog 170 0 = some (0, 53) := by kernel_rfl
@[simp] theorem fld1_170 : fld Tryz.prog 170 1 = some (1, 53) := by kernel_rfl
@[simp] theorem fld2_170 : fld Tryz.prog 170 2 = some (2, 168) := by kernel_rfl
@[simp] theorem stF170 : stF Tryz.prog 170 = some [(0, 1), (1, 1), (2, 1)] := by kernel_rfl
@[simp] theorem zrO170 : zrO Tryz.prog 170 = some (Value.agg #[.int .u64 0, .int .u64 0, .slice none 0 0]) := by kernel_rfl
@[simp] theorem shp173 : shp Tryz.prog 173 = some false := by kernel_rfl
@[simp] theorem knd173 : knd Tryz.prog 173 = some .u32 := by kernel_rfl
@[simp] theorem slE174 : slE Tryz.prog 174 = some 5 := by kernel_rfl
@[simp] theorem shp186 : shp Tryz.prog 186 = some true := by kernel_rfl
@[simp] theorem szO186 : szO Tryz.prog 186 = some 11 := by kernel_rfl
@[simp] theorem fld0_186 : fld Tryz.prog 186 0 = some (0, 3) := by kernel_rfl
@[simp] theorem fld1_186 : fld Tryz.prog 186 1 = some (1, 55) := by kernel_rfl
@[simp] theorem stF186 : stF Tryz.prog 186 = some [(0, 1), (1, 10)] := by kernel_rfl
@[simp] theorem byO186 : byO Tryz.prog 186 = some 96 := by kernel_rfl
@[simp] theorem zrO186 : zrO Tryz.prog 186 = some (Value.agg #[.int .i64 0, .int .i64 0, .int .i64 0, .int .i64 0, .int .i64 0, .int .i64 0, .int .i64 0, .int .i64 0, .int .i64 0, .int .u64 0, .string ⟨#[]⟩]) := by kernel_rfl
@[simp] theorem slE187 : slE Tryz.prog 187 = some 186 := by kernel_rfl
@[simp] theorem arE191 : arE Tryz.prog 191 = some (64, 5) := by kernel_rfl
@[simp] theorem mpE195 : mpE Tryz.prog 195 = some 4 := by kernel_rfl
@[simp] theorem mpE229 : mpE Tryz.prog 229 = some 53 := by kernel_rfl
@[simp] theorem fnOK13 : fnOK Tryz.prog 13 = true := by kernel_rfl
@[simp] theorem fnOK14 : fnOK Tryz.prog 14 = true := by kernel_rfl
@[simp] theorem fnOK15 : fnOK Tryz.prog 15 = true := by kernel_rfl
@[simp] theorem fnOK16 : fnOK Tryz.prog 16 = true := by kernel_rfl
@[simp] theorem fnOK17 : fnOK Tryz.prog 17 = true := by kernel_rfl
@[simp] theorem fnOK18 : fnOK Tryz.prog 18 = true := by kernel_rfl
@[simp] theorem fnOK19 : fnOK Tryz.prog 19 = true := by kernel_rfl
@[simp] theorem fnOK20 : fnOK Tryz.prog 20 = true := by kernel_rfl
@[simp] theorem fnOK21 : fnOK Tryz.prog 21 = true := by kernel_rfl
@[simp] theorem fnOK22 : fnOK Tryz.prog 22 = true := by kernel_rfl
@[simp] theorem fnOK23 : fnOK Tryz.prog 23 = true := by kernel_rfl
@[simp] theorem fnOK24 : fnOK Tryz.prog 24 = true := by kernel_rfl
@[simp] theorem fnOK25 : fnOK Tryz.prog 25 = true := by kernel_rfl
@[simp] theorem fnOK26 : fnOK Tryz.prog 26 = true := by kernel_rfl
@[simp] theorem fnOK27 : fnOK Tryz.prog 27 = true := by kernel_rfl
@[simp] theorem fnOK28 : fnOK Tryz.prog 28 = true := by kernel_rfl
@[simp] theorem fnOK29 : fnOK Tryz.prog 29 = true := by kernel_rfl
@[simp] theorem fnOK30 : fnOK Tryz.prog 30 = true := by kernel_rfl
@[simp] theorem fnOK31 : fnOK Tryz.prog 31 = true := by kernel_rfl
@[simp] theorem fnOK32 : fnOK Tryz.prog 32 = true := by kernel_rfl
@[simp] theorem fnOK33 : fnOK Tryz.prog 33 = true := by kernel_rfl
@[simp] theorem fnOK34 : fnOK Tryz.prog 34 = true := by kernel_rfl
@[simp] theorem fnOK35 : fnOK Tryz.prog 35 = true := by kernel_rfl
@[simp] theorem fnOK36 : fnOK Tryz.prog 36 = true := by kernel_rfl
@[simp] theorem fnOK37 : fnOK Tryz.prog 37 = true := by kernel_rfl
@[simp] theorem fnOK38 : fnOK Tryz.prog 38 = true := by kernel_rfl
@[simp] theorem fnOK39 : fnOK Tryz.prog 39 = true := by kernel_rfl
@[simp] theorem fnOK40 : fnOK Tryz.prog 40 = true := by kernel_rfl
@[simp] theorem fnOK41 : fnOK Tryz.prog 41 = true := by kernel_rfl
@[simp] theorem fnOK42 : fnOK Tryz.prog 42 = true := by kernel_rfl
@[simp] theorem fnOK43 : fnOK Tryz.prog 43 = true := by kernel_rfl
@[simp] theorem fnOK44 : fnOK Tryz.prog 44 = true := by kernel_rfl
@[simp] theorem fnOK45 : fnOK Tryz.prog 45 = true := by kernel_rfl
@[simp] theorem fnOK46 : fnOK Tryz.prog 46 = true := by kernel_rfl
@[simp] theorem fnOK47 : fnOK Tryz.prog 47 = true := by kernel_rfl
@[simp] theorem fnOK48 : fnOK Tryz.prog 48 = true := by kernel_rfl
@[simp] theorem fnOK49 : fnOK Tryz.prog 49 = true := by kernel_rfl
@[simp] theorem fnOK50 : fnOK Tryz.prog 50 = true := by kernel_rfl
@[simp] theorem fnOK51 : fnOK Tryz.prog 51 = true := by kernel_rfl
@[simp] theorem fnOK52 : fnOK Tryz.prog 52 = true := by kernel_rfl
@[simp] theorem fnOK53 : fnOK Tryz.prog 53 = true := by kernel_rfl
@[simp] theorem fnOK54 : fnOK Tryz.prog 54 = true := by kernel_rfl
@[simp] theorem fnOK55 : fnOK Tryz.prog 55 = true := by kernel_rfl
@[simp] theorem fnOK56 : fnOK Tryz.prog 56 = true := by kernel_rfl
@[simp] theorem fnOK57 : fnOK Tryz.prog 57 = true := by kernel_rfl
@[simp] theorem fnOK58 : fnOK Tryz.prog 58 = true := by kernel_rfl
@[simp] theorem fnOK59 : fnOK Tryz.prog 59 = true := by kernel_rfl
@[simp] theorem fnOK60 : fnOK Tryz.prog 60 = true := by kernel_rfl
@[simp] theorem fnOK61 : fnOK Tryz.prog 61 = true := by kernel_rfl
@[simp] theorem fnOK62 : fnOK Tryz.prog 62 = true := by kernel_rfl
@[simp] theorem fnOK63 : fnOK Tryz.prog 63 = true := by kernel_rfl
@[simp] theorem fnOK64 : fnOK Tryz.prog 64 = true := by kernel_rfl
@[simp] theorem fnOK65 : fnOK Tryz.prog 65 = true := by kernel_rfl
@[simp] theorem fnOK66 : fnOK Tryz.prog 66 = true := by kernel_rfl
@[simp] theorem fnOK67 : fnOK Tryz.prog 67 = true := by kernel_rfl
@[simp] theorem fnOK68 : fnOK Tryz.prog 68 = true := by kernel_rfl
@[simp] theorem fnOK69 : fnOK Tryz.prog 69 = true := by kernel_rfl
@[simp] theorem fnOK70 : fnOK Tryz.prog 70 = true := by kernel_rfl
@[simp] theorem fnOK71 : fnOK Tryz.prog 71 = true := by kernel_rfl
@[simp] theorem fnOK72 : fnOK Tryz.prog 72 = true := by kernel_rfl
@[simp] theorem fnOK73 : fnOK Tryz.prog 73 = true := by kernel_rfl
@[simp] theorem fnOK74 : fnOK Tryz.prog 74 = true := by kernel_rfl
@[simp] theorem fnOK75 : fnOK Tryz.prog 75 = true := by kernel_rfl
@[simp] theorem fnOK76 : fnOK Tryz.prog 76 = true := by kernel_rfl
@[simp] theorem fnOK77 : fnOK Tryz.prog 77 = true := by kernel_rfl
@[simp] theorem fnOK78 : fnOK Tryz.prog 78 = true := by kernel_rfl
@[simp] theorem fnOK80 : fnOK Tryz.prog 80 = true := by kernel_rfl
@[simp] theorem fnOK81 : fnOK Tryz.prog 81 = true := by kernel_rfl
@[simp] theorem fnOK82 : fnOK Tryz.prog 82 = true := by kernel_rfl
@[simp] theorem fnOK83 : fnOK Tryz.prog 83 = true := by kernel_rfl
@[simp] theorem fnOK84 : fnOK Tryz.prog 84 = true := by kernel_rfl
@[simp] theorem fnOK87 : fnOK Tryz.prog 87 = true := by kernel_rfl
@[simp] theorem fnOK88 : fnOK Tryz.prog 88 = true := by kernel_rfl
@[simp] theorem fnOK89 : fnOK Tryz.prog 89 = true := by kernel_rfl
@[simp] theorem fnOK90 : fnOK Tryz.prog 90 = true := by kernel_rfl
@[simp] theorem fnOK91 : fnOK Tryz.prog 91 = true := by kernel_rfl
@[simp] theorem fnOK92 : fnOK Tryz.prog 92 = true := by kernel_rfl
@[simp] theorem fnOK93 : fnOK Tryz.prog 93 = true := by kernel_rfl
@[simp] theorem fnOK94 : fnOK Tryz.prog 94 = true := by kernel_rfl
@[simp] theorem fnOK95 : fnOK Tryz.prog 95 = true := by kernel_rfl
@[simp] theorem fnOK96 : fnOK Tryz.prog 96 = true := by kernel_rfl
@[simp] theorem fnOK97 : fnOK Tryz.prog 97 = true := by kernel_rfl
@[simp] theorem fnOK98 : fnOK Tryz.prog 98 = true := by kernel_rfl
@[simp] theorem fnOK99 : fnOK Tryz.prog 99 = true := by kernel_rfl
@[simp] theorem fnOK100 : fnOK Tryz.prog 100 = true := by kernel_rfl
@[simp] theorem fnOK101 : fnOK Tryz.prog 101 = true := by kernel_rfl
@[simp] theorem fnOK102 : fnOK Tryz.prog 102 = true := by kernel_rfl
@[simp] theorem fnOK103 : fnOK Tryz.prog 103 = true := by kernel_rfl
@[simp] theorem fnOK104 : fnOK Tryz.prog 104 = true := by kernel_rfl
@[simp] theorem fnOK105 : fnOK Tryz.prog 105 = true := by kernel_rfl
@[simp] theorem fnOK108 : fnOK Tryz.prog 108 = true := by kernel_rfl
@[simp] theorem fnOK109 : fnOK Tryz.prog 109 = true := by kernel_rfl
@[simp] theorem fnOK110 : fnOK Tryz.prog 110 = true := by kernel_rfl
@[simp] theorem fnOK111 : fnOK Tryz.prog 111 = true := by kernel_rfl
@[simp] theorem fnOK112 : fnOK Tryz.prog 112 = true := by kernel_rfl
@[simp] theorem fnOK113 : fnOK Tryz.prog 113 = true := by kernel_rfl
@[simp] theorem fnOK114 : fnOK Tryz.prog 114 = true := by kernel_rfl
@[simp] theorem fnOK115 : fnOK Tryz.prog 115 = true := by kernel_rfl
@[simp] theorem fnOK116 : fnOK Tryz.prog 116 = true := by kernel_rfl
@[simp] theorem fnOK117 : fnOK Tryz.prog 117 = true := by kernel_rfl
@[simp] theorem fnOK118 : fnOK Tryz.prog 118 = true := by kernel_rfl
@[simp] theorem fnOK119 : fnOK Tryz.prog 119 = true := by kernel_rfl
@[simp] theorem fnOK120 : fnOK Tryz.prog 120 = true := by kernel_rfl
@[simp] theorem fnOK121 : fnOK Tryz.prog 121 = true := by kernel_rfl
@[simp] theorem fnOK122 : fnOK Tryz.prog 122 = true := by kernel_rfl
@[simp] theorem fnOK123 : fnOK Tryz.prog 123 = true := by kernel_rfl
@[simp] theorem fnOK124 : fnOK Tryz.prog 124 = true := by kernel_rfl
@[simp] theorem fnOK125 : fnOK Tryz.prog 125 = true := by kernel_rfl
@[simp] theorem fnOK126 : fnOK Tryz.prog 126 = true := by kernel_rfl
@[simp] theorem fnOK127 : fnOK Tryz.prog 127 = true := by kernel_rfl
@[simp] theorem fnOK128 : fnOK Tryz.prog 128 = true := by kernel_rfl
@[simp] theorem fnOK129 : fnOK Tryz.prog 129 = true := by kernel_rfl
@[simp] theorem fnOK130 : fnOK Tryz.prog 130 = true := by kernel_rfl
@[simp] theorem fnOK134 : fnOK Tryz.prog 134 = true := by kernel_rfl
@[simp] theorem fnOK135 : fnOK Tryz.prog 135 = true := by kernel_rfl
@[simp] theorem fnOK136 : fnOK Tryz.prog 136 = true := by kernel_rfl
@[simp] theorem fnOK137 : fnOK Tryz.prog 137 = true := by kernel_rfl
@[simp] theorem fnOK138 : fnOK Tryz.prog 138 = true := by kernel_rfl
@[simp] theorem fnOK139 : fnOK Tryz.prog 139 = true := by kernel_rfl
@[simp] theorem fnOK140 : fnOK Tryz.prog 140 = true := by kernel_rfl
@[simp] theorem fnOK141 : fnOK Tryz.prog 141 = true := by kernel_rfl
@[simp] theorem fnOK143 : fnOK Tryz.prog 143 = true := by kernel_rfl
@[simp] theorem fnOK144 : fnOK Tryz.prog 144 = true := by kernel_rfl
@[simp] theorem fnOK145 : fnOK Tryz.prog 145 = true := by kernel_rfl
@[simp] theorem fnOK146 : fnOK Tryz.prog 146 = true := by kernel_rfl
@[simp] theorem fnOK147 : fnOK Tryz.prog 147 = true := by kernel_rfl
@[simp] theorem fnOK148 : fnOK Tryz.prog 148 = true := by kernel_rfl
@[simp] theorem fnOK149 : fnOK Tryz.prog 149 = true := by kernel_rfl
@[simp] theorem fnOK150 : fnOK Tryz.prog 150 = true := by kernel_rfl
@[simp] theorem fnOK151 : fnOK Tryz.prog 151 = true := by kernel_rfl
@[simp] theorem fnOK152 : fnOK Tryz.prog 152 = true := by kernel_rfl
@[simp] theorem fnOK153 : fnOK Tryz.prog 153 = true := by kernel_rfl
@[simp] theorem fnOK154 : fnOK Tryz.prog 154 = true := by kernel_rfl
@[simp] theorem fnOK155 : fnOK Tryz.prog 155 = true := by kernel_rfl
@[simp] theorem fnOK156 : fnOK Tryz.prog 156 = true := by kernel_rfl
@[simp] theorem fnOK157 : fnOK Tryz.prog 157 = true := by kernel_rfl
@[simp] theorem fnOK158 : fnOK Tryz.prog 158 = true := by kernel_rfl
@[simp] theorem fnOK159 : fnOK Tryz.prog 159 = true := by kernel_rfl
@[simp] theorem fnOK160 : fnOK Tryz.prog 160 = true := by kernel_rfl
@[simp] theorem fnOK161 : fnOK Tryz.prog 161 = true := by kernel_rfl
@[simp] theorem fnOK162 : fnOK Tryz.prog 162 = true := by kernel_rfl
@[simp] theorem fnOK163 : fnOK Tryz.prog 163 = true := by kernel_rfl
@[simp] theorem fnOK164 : fnOK Tryz.prog 164 = true := by kernel_rfl
@[simp] theorem fnOK165 : fnOK Tryz.prog 165 = true := by kernel_rfl
@[simp] theorem fnOK166 : fnOK Tryz.prog 166 = true := by kernel_rfl
@[simp] theorem fnOK177 : fnOK Tryz.prog 177 = true := by kernel_rfl
@[simp] theorem fnOK178 : fnOK Tryz.prog 178 = true := by kernel_rfl
@[simp] theorem fnOK179 : fnOK Tryz.prog 179 = true := by kernel_rfl
@[simp] theorem fnOK188 : fnOK Tryz.prog 188 = true := by kernel_rfl
@[simp] theorem fnOK189 : fnOK Tryz.prog 189 = true := by kernel_rfl
@[simp] theorem fnOK190 : fnOK Tryz.prog 190 = true := by kernel_rfl
@[simp] theorem fnOK191 : fnOK Tryz.prog 191 = true := by kernel_rfl
@[simp] theorem fnOK192 : fnOK Tryz.prog 192 = true := by kernel_rfl
@[simp] theorem fnOK193 : fnOK Tryz.prog 193 = true := by kernel_rfl
@[simp] theorem fnOK194 : fnOK Tryz.prog 194 = true := by kernel_rfl
@[simp] theorem fnOK195 : fnOK Tryz.prog 195 = true := by kernel_rfl
@[simp] theorem fnOK196 : fnOK Tryz.prog 196 = true := by kernel_rfl
@[simp] theorem fnOK197 : fnOK Tryz.prog 197 = true := by kernel_rfl
@[simp] theorem fnOK198 : fnOK Tryz.prog 198 = true := by kernel_rfl
@[simp] theorem fnOK199 : fnOK Tryz.prog 199 = true := by kernel_rfl
@[simp] theorem fnOK208 : fnOK Tryz.prog 208 = true := by kernel_rfl
@[simp] theorem fnOK209 : fnOK Tryz.prog 209 = true := by kernel_rfl
@[simp] theorem mixed : Tryz.prog.follows .mixedOrders = true := by kernel_rfl
end Go.Proofs

set_option linter.unusedSimpArgs false
namespace Go.Proofs
open Go Go.Lib
theorem compact_inv (zs : List Int) (hs : zs.Pairwise (· ≤ ·)) : ∀ m, m ≤ zs.length → (compactUpTo zs.toArray m).Pairwise (· < ·) ∧ (∀ x, x ∈ compactUpTo zs.toArray m ↔ ∃ j, j < m ∧ zs[j]? = some x)
 | 0, _ => by simp [compactUpTo]
 | m + 1, hm => by
   obtain ⟨h1, h2⟩ := compact_inv zs hs m (by omega)
   have hget : ∀ j, j < zs.length → zs.toArray[j]! = zs.getD j 0 := fun j hj => by simp [List.getD, hj]
   rw [compactUpTo_succ]
   have hmz : zs[m]? = some (zs.getD m 0) := by simp [List.getD, show m < zs.length by omega]
   have hle : ∀ j, j < m → zs.getD j 0 ≤ zs.getD m 0 := fun j hj => by
    have := List.pairwise_iff_getElem.1 hs j m (by omega) (by omega) hj
    simpa [List.getD, show m < zs.length by omega, show j < zs.length by omega] using this
   cases hk : keeps zs.toArray m with
   | false =>
     have h3 : 0 < m ∧ zs.toArray[m]! = zs.toArray[m - 1]! := by
      have hk' : ¬ (m = 0 ∨ zs.toArray[m]! ≠ zs.toArray[m - 1]!) := by simpa only [keeps, decide_eq_false_iff_not] using hk
      exact ⟨Nat.pos_of_ne_zero fun e => hk' (.inl e), Classical.byContradiction fun e => hk' (.inr e)⟩
     rw [if_neg (by simp), List.append_nil]
     refine ⟨h1, fun x => ?_⟩
     rw [h2]
     constructor
     ·rintro ⟨j, hj, hx⟩; exact ⟨j, by omega, hx⟩
     ·rintro ⟨j, hj, hx⟩
      by_cases e : j = m
      ·subst e
       refine ⟨j - 1, by omega, ?_⟩
       have h4 := h3.2
       rw [hget j (by omega), hget (j - 1) (by omega)] at h4
       rw [hmz] at hx
       simp only [Option.some.injEq] at hx
       rw [← hx, h4]
       simp [List.getD, show j - 1 < zs.length by omega]
      ·exact ⟨j, by omega, hx⟩
   | true =>
     rw [if_pos rfl, hget m (by omega)]
     refine ⟨?_, fun x => ?_⟩
     ·rw [List.pairwise_append]
      refine ⟨h1, by simp, fun x hx y hy => ?_⟩
      simp at hy; subst hy
      obtain ⟨j, hj, hjx⟩ := (h2 x).1 hx
      have hxj : zs.getD j 0 = x := by simp [List.getD, hjx]
      have := hle j hj
      have hne : zs.getD (m - 1) 0 ≠ zs.getD m 0 := by
       simp only [keeps, Bool.or_eq_true, decide_eq_true_eq] at hk
       rcases hk with h | h
       ·omega
       ·rw [hget m (by omega), hget (m - 1) (by omega)] at h
        exact fun e => h e.symm
      have hj1 : zs.getD j 0 ≤ zs.getD (m - 1) 0 := by
       by_cases e : j = m - 1
       ·subst e; omega
       ·have := List.pairwise_iff_getElem.1 hs j (m - 1) (by omega) (by omega) (by omega)
        simpa [List.getD, show m - 1 < zs.length by omega, show j < zs.length by omega] using this
      have h5 := hle (m - 1) (by omega)
      rw [← hxj]
      show zs.getD j 0 < zs.getD m 0
      omega
     ·rw [List.mem_append, h2]
      simp only [List.mem_singleton]
      constructor
      ·rintro (⟨j, hj, hx⟩ | rfl)
       ·exact ⟨j, by omega, hx⟩
       ·exact ⟨m, by omega, hmz⟩
      ·rintro ⟨j, hj, hx⟩
       by_cases e : j = m
       ·subst e; rw [hmz] at hx; simp only [Option.some.injEq] at hx; exact .inr hx.symm
       ·exact .inl ⟨j, by omega, hx⟩
def insPos (n : Int) : List Int → Nat
 | [] => 0
 | y :: r => if y < n then insPos n r + 1 else 0
def insI (l : List Int) (n : Int) : List Int := if l[insPos n l]? = some n then l else l.take (insPos n l) ++ [n] ++ l.drop (insPos n l)
theorem insPos_le (n : Int) : ∀ l : List Int, insPos n l ≤ l.length
 | [] => Nat.le_refl _
 | y :: r => by
   have := insPos_le n r
   simp only [insPos, List.length_cons]
   split <;> omega
theorem insPos_take (n : Int) : ∀ (l : List Int), ∀ x ∈ l.take (insPos n l), x < n
 | [] => by simp
 | y :: r => by
   simp only [insPos]
   split
   ·rename_i h
    intro x hx
    simp at hx
    rcases hx with rfl | hx
    ·exact h
    ·exact insPos_take n r x hx
   ·simp
theorem insPos_at (n : Int) : ∀ (l : List Int) (x : Int), l[insPos n l]? = some x → n ≤ x
 | [], x, h => by simp at h
 | y :: r, x, h => by
   simp only [insPos] at h
   split at h
   ·exact insPos_at n r x (by simpa using h)
   ·simp at h; omega
theorem insI_asc {l : List Int} (n : Int) (h : l.Pairwise (· < ·)) : (insI l n).Pairwise (· < ·) ∧ ∀ x, x ∈ insI l n ↔ x ∈ l ∨ x = n := by
 unfold insI
 split
 ·rename_i he
  refine ⟨h, fun x => ⟨.inl, fun hx => hx.elim id fun e => by subst e; exact List.mem_of_getElem? he⟩⟩
 ·rename_i he
  have hl : l.take (insPos n l) ++ l.drop (insPos n l) = l := List.take_append_drop _ _
  have hp : (l.take (insPos n l) ++ l.drop (insPos n l)).Pairwise (· < ·) := by rw [hl]; exact h
  rw [List.pairwise_append] at hp
  have hd : ∀ x ∈ l.drop (insPos n l), n < x := fun x hx => by
   cases hc : l.drop (insPos n l) with
   | nil => rw [hc] at hx; simp at hx
   | cons y r =>
     have hy : l[insPos n l]? = some y := by
      have : (l.drop (insPos n l))[0]? = some y := by rw [hc]; rfl
      simpa using this
     have h1 := insPos_at n l y hy
     have h2 : y ≠ n := fun e => he (by rw [hy, e])
     rw [hc] at hx
     rcases List.mem_cons.1 hx with rfl | hx
     ·omega
     ·have := hp.2.1
      rw [hc, List.pairwise_cons] at this
      have := this.1 x hx
      omega
  refine ⟨?_, fun x => ?_⟩
  ·rw [List.append_assoc, List.pairwise_append]
   refine ⟨hp.1, by simpa using ⟨hd, hp.2.1⟩, fun a ha b hb => ?_⟩
   have h1 := insPos_take n l a ha
   simp at hb
   rcases hb with rfl | hb
   ·exact h1
   ·have := hd b hb; omega
  ·have : x ∈ l ↔ x ∈ l.take (insPos n l) ∨ x ∈ l.drop (insPos n l) := by rw [← List.mem_append, hl]
   rw [this]
   simp only [List.mem_append, List.mem_singleton]
   constructor
   ·rintro ((h | h) | h)
    ·exact .inl (.inl h)
    ·exact .inr h
    ·exact .inl (.inr h)
   ·rintro ((h | h) | h)
    ·exact .inl (.inl h)
    ·exact .inr h
    ·exact .inl (.inr h)
end Go.Proofs
