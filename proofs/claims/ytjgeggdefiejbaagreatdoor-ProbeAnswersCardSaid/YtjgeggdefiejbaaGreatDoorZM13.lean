/-
  What functions of the program compute, stated as contracts over plain data; the conditions of each stand in its own statement.
-/
import Derived.Test.YtjgeggdefiejbaaGreatDoorZM12
import Derived.Test.YtjgeggdefiejbaaGreatDoorZM07
import Derived.KernelRfl
import Derived.Test.YtjgeggdefiejbaaGreatDoorChecked
import Derived.ProofKit
import Derived.Shelf.SortM.SortNone
import Derived.Shelf.SortM.Plain
import Derived.Shelf.SlicesG.CompactI
namespace Go.Proofs
open Go Go.Tr
@[simp] theorem lf3 : lf Tryz.prog 3 = some 0 := by kernel_rfl
@[simp] theorem shp3 : shp Tryz.prog 3 = some false := by kernel_rfl
@[simp] theorem szO3 : szO Tryz.prog 3 = some 1 := by kernel_rfl
@[simp] theorem knd3 : knd Tryz.prog 3 = some .i64 := by kernel_rfl
@[simp] theorem byO3 : byO Tryz.prog 3 = some 8 := by kernel_rfl
@[simp] theorem zrO3 : zrO Tryz.prog 3 = some (Value.int .i64 0) := by kernel_rfl
@[simp] theorem shp4 : shp Tryz.prog 4 = some false := by kernel_rfl
@[simp] theorem szO4 : szO Tryz.prog 4 = some 1 := by kernel_rfl
@[simp] theorem byO4 : byO Tryz.prog 4 = some 1 := by kernel_rfl
@[simp] theorem zrO4 : zrO Tryz.prog 4 = some (Value.bool false) := by kernel_rfl
@[simp] theorem u8K5 : u8K Tryz.prog 5 = true := by kernel_rfl
@[simp] theorem shp5 : shp Tryz.prog 5 = some false := by kernel_rfl
@[simp] theorem szO5 : szO Tryz.prog 5 = some 1 := by kernel_rfl
@[simp] theorem knd5 : knd Tryz.prog 5 = some .u8 := by kernel_rfl
@[simp] theorem byO5 : byO Tryz.prog 5 = some 1 := by kernel_rfl
@[simp] theorem zrO5 : zrO Tryz.prog 5 = some (Value.int .u8 0) := by kernel_rfl
@[simp] theorem shp9 : shp Tryz.prog 9 = some false := by kernel_rfl
@[simp] theorem szO9 : szO Tryz.prog 9 = some 1 := by kernel_rfl
@[simp] theorem isStr9 : isStr Tryz.prog 9 = true := by kernel_rfl
@[simp] theorem shp22 : shp Tryz.prog 22 = some false := by kernel_rfl
@[simp] theorem szO22 : szO Tryz.prog 22 = some 1 := by kernel_rfl
@[simp] theorem slE22 : slE Tryz.prog 22 = some 3 := by kernel_rfl
@[simp] theorem shp25 : shp Tryz.prog 25 = some false := by kernel_rfl
@[simp] theorem szO25 : szO Tryz.prog 25 = some 1 := by kernel_rfl
@[simp] theorem slE25 : slE Tryz.prog 25 = some 52 := by kernel_rfl
@[simp] theorem shp26 : shp Tryz.prog 26 = some false := by kernel_rfl
@[simp] theorem szO26 : szO Tryz.prog 26 = some 1 := by kernel_rfl
@[simp] theorem slE26 : slE Tryz.prog 26 = some 125 := by kernel_rfl
@[simp] theorem shp28 : shp Tryz.prog 28 = some true := by kernel_rfl
@[simp] theorem szO28 : szO Tryz.prog 28 = some 2 := by kernel_rfl
@[simp] theorem fld0_28 : fld Tryz.prog 28 0 = some (0, 25) := by kernel_rfl
@[simp] theorem fld1_28 : fld Tryz.prog 28 1 = some (1, 26) := by kernel_rfl
@[simp] theorem zrO28 : zrO Tryz.prog 28 = some (Value.agg #[.slice none 0 0, .slice none 0 0]) := by kernel_rfl
@[simp] theorem shp29 : shp Tryz.prog 29 = some false := by kernel_rfl
@[simp] theorem szO29 : szO Tryz.prog 29 = some 1 := by kernel_rfl
@[simp] theorem slE29 : slE Tryz.prog 29 = some 39 := by kernel_rfl
@[simp] theorem shp31 : shp Tryz.prog 31 = some true := by kernel_rfl
@[simp] theorem szO31 : szO Tryz.prog 31 = some 3 := by kernel_rfl
@[simp] theorem fld0_31 : fld Tryz.prog 31 0 = some (0, 3) := by kernel_rfl
@[simp] theorem fld1_31 : fld Tryz.prog 31 1 = some (1, 3) := by kernel_rfl
@[simp] theorem fld2_31 : fld Tryz.prog 31 2 = some (2, 29) := by kernel_rfl
@[simp] theorem stF31 : stF Tryz.prog 31 = some [(0, 1), (1, 1), (2, 1)] := by kernel_rfl
@[simp] theorem zrO31 : zrO Tryz.prog 31 = some (Value.agg #[.int .i64 0, .int .i64 0, .slice none 0 0]) := by kernel_rfl
@[simp] theorem shp32 : shp Tryz.prog 32 = some false := by kernel_rfl
@[simp] theorem szO32 : szO Tryz.prog 32 = some 1 := by kernel_rfl
@[simp] theorem slE32 : slE Tryz.prog 32 = some 37 := by kernel_rfl
@[simp] theorem zrO32 : zrO Tryz.prog 32 = some (Value.slice none 0 0) := by kernel_rfl
@[simp] theorem shp35 : shp Tryz.prog 35 = some false := by kernel_rfl
@[simp] theorem szO35 : szO Tryz.prog 35 = some 1 := by kernel_rfl
@[simp] theorem slE35 : slE Tryz.prog 35 = some 95 := by kernel_rfl
@[simp] theorem shp37 : shp Tryz.prog 37 = some true := by kernel_rfl
@[simp] theorem szO37 : szO Tryz.prog 37 = some 4 := by kernel_rfl
@[simp] theorem fld0_37 : fld Tryz.prog 37 0 = some (0, 3) := by kernel_rfl
@[simp] theorem fld1_37 : fld Tryz.prog 37 1 = some (1, 3) := by kernel_rfl
@[simp] theorem fld2_37 : fld Tryz.prog 37 2 = some (2, 3) := by kernel_rfl
@[simp] theorem fld3_37 : fld Tryz.prog 37 3 = some (3, 35) := by kernel_rfl
@[simp] theorem stF37 : stF Tryz.prog 37 = some [(0, 1), (1, 1), (2, 1), (3, 1)] := by kernel_rfl
@[simp] theorem byO37 : byO Tryz.prog 37 = some 48 := by kernel_rfl
@[simp] theorem zrO37 : zrO Tryz.prog 37 = some (Value.agg #[.int .i64 0, .int .i64 0, .int .i64 0, .slice none 0 0]) := by kernel_rfl
@[simp] theorem shp39 : shp Tryz.prog 39 = some true := by kernel_rfl
@[simp] theorem szO39 : szO Tryz.prog 39 = some 2 := by kernel_rfl
@[simp] theorem fld0_39 : fld Tryz.prog 39 0 = some (0, 3) := by kernel_rfl
@[simp] theorem fld1_39 : fld Tryz.prog 39 1 = some (1, 3) := by kernel_rfl
@[simp] theorem stF39 : stF Tryz.prog 39 = some [(0, 1), (1, 1)] := by kernel_rfl
@[simp] theorem byO39 : byO Tryz.prog 39 = some 16 := by kernel_rfl
@[simp] theorem zrO39 : zrO Tryz.prog 39 = some (Value.agg #[.int .i64 0, .int .i64 0]) := by kernel_rfl
@[simp] theorem szO52 : szO Tryz.prog 52 = some 2 := by kernel_rfl
@[simp] theorem fld0_52 : fld Tryz.prog 52 0 = some (0, 3) := by kernel_rfl
@[simp] theorem fld1_52 : fld Tryz.prog 52 1 = some (1, 4) := by kernel_rfl
@[simp] theorem stF52 : stF Tryz.prog 52 = some [(0, 1), (1, 1)] := by kernel_rfl
@[simp] theorem byO52 : byO Tryz.prog 52 = some 16 := by kernel_rfl
@[simp] theorem zrO52 : zrO Tryz.prog 52 = some (Value.agg #[.int .i64 0, .bool false]) := by kernel_rfl
@[simp] theorem shp53 : shp Tryz.prog 53 = some false := by kernel_rfl
@[simp] theorem szO53 : szO Tryz.prog 53 = some 1 := by kernel_rfl
@[simp] theorem knd53 : knd Tryz.prog 53 = some .u64 := by kernel_rfl
@[simp] theorem zrO53 : zrO Tryz.prog 53 = some (Value.int .u64 0) := by kernel_rfl
@[simp] theorem shp55 : shp Tryz.prog 55 = some true := by kernel_rfl
@[simp] theorem szO55 : szO Tryz.prog 55 = some 10 := by kernel_rfl
@[simp] theorem fld0_55 : fld Tryz.prog 55 0 = some (0, 3) := by kernel_rfl
@[simp] theorem fld1_55 : fld Tryz.prog 55 1 = some (1, 3) := by kernel_rfl
@[simp] theorem fld2_55 : fld Tryz.prog 55 2 = some (2, 3) := by kernel_rfl
@[simp] theorem fld3_55 : fld Tryz.prog 55 3 = some (3, 3) := by kernel_rfl
@[simp] theorem fld4_55 : fld Tryz.prog 55 4 = some (4, 3) := by kernel_rfl
@[simp] theorem fld5_55 : fld Tryz.prog 55 5 = some (5, 3) := by kernel_rfl
@[simp] theorem fld6_55 : fld Tryz.prog 55 6 = some (6, 3) := by kernel_rfl
@[simp] theorem fld7_55 : fld Tryz.prog 55 7 = some (7, 3) := by kernel_rfl
@[simp] theorem fld8_55 : fld Tryz.prog 55 8 = some (8, 53) := by kernel_rfl
@[simp] theorem fld9_55 : fld Tryz.prog 55 9 = some (9, 9) := by kernel_rfl
@[simp] theorem stF55 : stF Tryz.prog 55 = some [(0, 1), (1, 1), (2, 1), (3, 1), (4, 1), (5, 1), (6, 1), (7, 1), (8, 1), (9, 1)] := by kernel_rfl
@[simp] theorem zrO55 : zrO Tryz.prog 55 = some (Value.agg #[.int .i64 0, .int .i64 0, .int .i64 0, .int .i64 0, .int .i64 0, .int .i64 0, .int .i64 0, .int .i64 0, .int .u64 0, .string ⟨#[]⟩]) := by kernel_rfl
@[simp] theorem shp56 : shp Tryz.prog 56 = some false := by kernel_rfl
@[simp] theorem szO56 : szO Tryz.prog 56 = some 1 := by kernel_rfl
@[simp] theorem slE56 : slE Tryz.prog 56 = some 61 := by kernel_rfl
@[simp] theorem zrO56 : zrO Tryz.prog 56 = some (Value.slice none 0 0) := by kernel_rfl
@[simp] theorem knd59 : knd Tryz.prog 59 = some .u64 := by kernel_rfl
@[simp] theorem eqFs61 : eqFs Tryz.prog 61 = some [(0, 3), (1, 3), (2, 3), (3, 3)] := by kernel_rfl
@[simp] theorem eqGd61 : eqGd Tryz.prog 61 = true := by kernel_rfl
@[simp] theorem shp61 : shp Tryz.prog 61 = some true := by kernel_rfl
@[simp] theorem szO61 : szO Tryz.prog 61 = some 4 := by kernel_rfl
@[simp] theorem fld0_61 : fld Tryz.prog 61 0 = some (0, 3) := by kernel_rfl
@[simp] theorem fld1_61 : fld Tryz.prog 61 1 = some (1, 3) := by kernel_rfl
@[simp] theorem fld3_61 : fld Tryz.prog 61 3 = some (3, 3) := by kernel_rfl
@[simp] theorem stF61 : stF Tryz.prog 61 = some [(0, 1), (1, 1), (2, 1), (3, 1)] := by kernel_rfl
@[simp] theorem byO61 : byO Tryz.prog 61 = some 32 := by kernel_rfl
@[simp] theorem zrO61 : zrO Tryz.prog 61 = some (Value.agg #[.int .i64 0, .int .i64 0, .int .i64 0, .int .i64 0]) := by kernel_rfl
@[simp] theorem slE70 : slE Tryz.prog 70 = some 32 := by kernel_rfl
@[simp] theorem slE72 : slE Tryz.prog 72 = some 55 := by kernel_rfl
@[simp] theorem shp95 : shp Tryz.prog 95 = some true := by kernel_rfl
@[simp] theorem szO95 : szO Tryz.prog 95 = some 2 := by kernel_rfl
@[simp] theorem fld0_95 : fld Tryz.prog 95 0 = some (0, 3) := by kernel_rfl
@[simp] theorem fld1_95 : fld Tryz.prog 95 1 = some (1, 22) := by kernel_rfl
@[simp] theorem stF95 : stF Tryz.prog 95 = some [(0, 1), (1, 1)] := by kernel_rfl
@[simp] theorem byO95 : byO Tryz.prog 95 = some 32 := by kernel_rfl
@[simp] theorem zrO95 : zrO Tryz.prog 95 = some (Value.agg #[.int .i64 0, .slice none 0 0]) := by kernel_rfl
@[simp] theorem shp105 : shp Tryz.prog 105 = some false := by kernel_rfl
@[simp] theorem szO105 : szO Tryz.prog 105 = some 1 := by kernel_rfl
@[simp] theorem slE105 : slE Tryz.prog 105 = some 138 := by kernel_rfl
@[simp] theorem shp106 : shp Tryz.prog 106 = some false := by kernel_rfl
@[simp] theorem szO106 : szO Tryz.prog 106 = some 1 := by kernel_rfl
@[simp] theorem slE106 : slE Tryz.prog 106 = some 158 := by kernel_rfl
@[simp] theorem shp107 : shp Tryz.prog 107 = some false := by kernel_rfl
@[simp] theorem szO107 : szO Tryz.prog 107 = some 1 := by kernel_rfl
@[simp] theorem slE107 : slE Tryz.prog 107 = some 140 := by kernel_rfl
@[simp] theorem shp109 : shp Tryz.prog 109 = some true := by kernel_rfl
@[simp] theorem szO109 : szO Tryz.prog 109 = some 3 := by kernel_rfl
@[simp] theorem fld0_109 : fld Tryz.prog 109 0 = some (0, 105) := by kernel_rfl
@[simp] theorem fld1_109 : fld Tryz.prog 109 1 = some (1, 106) := by kernel_rfl
@[simp] theorem fld2_109 : fld Tryz.prog 109 2 = some (2, 107) := by kernel_rfl
@[simp] theorem stF109 : stF Tryz.prog 109 = some [(0, 1), (1, 1), (2, 1)] := by kernel_rfl
@[simp] theorem zrO109 : zrO Tryz.prog 109 = some (Value.agg #[.slice none 0 0, .slice none 0 0, .slice none 0 0]) := by kernel_rfl
@[simp] theorem fld0_118 : fld Tryz.prog 118 0 = some (0, 22) := by kernel_rfl
@[simp] theorem fld1_118 : fld Tryz.prog 118 1 = some (1, 3) := by kernel_rfl
@[simp] theorem stF118 : stF Tryz.prog 118 = some [(0, 1), (1, 1)] := by kernel_rfl
@[simp] theorem zrO118 : zrO Tryz.prog 118 = some (Value.agg #[.slice none 0 0, .int .i64 0]) := by kernel_rfl
@[simp] theorem shp125 : shp Tryz.prog 125 = some true := by kernel_rfl
@[simp] theorem szO125 : szO Tryz.prog 125 = some 5 := by kernel_rfl
@[simp] theorem fld0_125 : fld Tryz.prog 125 0 = some (0, 3) := by kernel_rfl
@[simp] theorem fld1_125 : fld Tryz.prog 125 1 = some (1, 3) := by kernel_rfl
@[simp] theorem fld2_125 : fld Tryz.prog 125 2 = some (2, 3) := by kernel_rfl
@[simp] theorem fld3_125 : fld Tryz.prog 125 3 = some (3, 3) := by kernel_rfl
@[simp] theorem fld4_125 : fld Tryz.prog 125 4 = some (4, 3) := by kernel_rfl
@[simp] theorem stF125 : stF Tryz.prog 125 = some [(0, 1), (1, 1), (2, 1), (3, 1), (4, 1)] := by kernel_rfl
@[simp] theorem byO125 : byO Tryz.prog 125 = some 40 := by kernel_rfl
@[simp] theorem zrO125 : zrO Tryz.prog 125 = some (Value.agg #[.int .i64 0, .int .i64 0, .int .i64 0, .int .i64 0, .int .i64 0]) := by kernel_rfl
@[simp] theorem slE126 : slE Tryz.prog 126 = some 127 := by kernel_rfl
@[simp] theorem shp127 : shp Tryz.prog 127 = some false := by kernel_rfl
@[simp] theorem szO127 : szO Tryz.prog 127 = some 1 := by kernel_rfl
@[simp] theorem slE127 : slE Tryz.prog 127 = some 4 := by kernel_rfl
@[simp] theorem byO127 : byO Tryz.prog 127 = some 24 := by kernel_rfl
@[simp] theorem zrO127 : zrO Tryz.prog 127 = some (Value.slice none 0 0) := by kernel_rfl
@[simp] theorem shp138 : shp Tryz.prog 138 = some true := by kernel_rfl
@[simp] theorem szO138 : szO Tryz.prog 138 = some 11 := by kernel_rfl
@[simp] theorem fld0_138 : fld Tryz.prog 138 0 = some (0, 3) := by kernel_rfl
@[simp] theorem fld1_138 : fld Tryz.prog 138 1 = some (1, 55) := by kernel_rfl
@[simp] theorem stF138 : stF Tryz.prog 138 = some [(0, 1), (1, 10)] := by kernel_rfl
@[simp] theorem byO138 : byO Tryz.prog 138 = some 96 := by kernel_rfl
@[simp] theorem zrO138 : zrO Tryz.prog 138 = some (Value.agg #[.int .i64 0, .int .i64 0, .int .i64 0, .int .i64 0, .int .i64 0, .int .i64 0, .int .i64 0, .int .i64 0, .int .i64 0, .int .u64 0, .string ⟨#[]⟩]) := by kernel_rfl
@[simp] theorem shp140 : shp Tryz.prog 140 = some true := by kernel_rfl
@[simp] theorem szO140 : szO Tryz.prog 140 = some 2 := by kernel_rfl
@[simp] theorem fld0_140 : fld Tryz.prog 140 0 = some (0, 3) := by kernel_rfl
@[simp] theorem fld1_140 : fld Tryz.prog 140 1 = some (1, 53) := by kernel_rfl
@[simp] theorem stF140 : stF Tryz.prog 140 = some [(0, 1), (1, 1)] := by kernel_rfl
@[simp] theorem byO140 : byO Tryz.prog 140 = some 16 := by kernel_rfl
@[simp] theorem zrO140 : zrO Tryz.prog 140 = some (Value.agg #[.int .i64 0, .int .u64 0]) := by kernel_rfl
@[simp] theorem fld0_144 : fld Tryz.prog 144 0 = some (0, 22) := by kernel_rfl
@[simp] theorem fld1_144 : fld Tryz.prog 144 1 = some (1, 3) := by kernel_rfl
@[simp] theorem stF144 : stF Tryz.prog 144 = some [(0, 1), (1, 1)] := by kernel_rfl
@[simp] theorem zrO144 : zrO Tryz.prog 144 = some (Value.agg #[.slice none 0 0, .int .i64 0]) := by kernel_rfl
@[simp] theorem szO158 : szO Tryz.prog 158 = some 3 := by kernel_rfl
@[simp] theorem stF158 : stF Tryz.prog 158 = some [(0, 1), (1, 1), (2, 1)] := by kernel_rfl
@[simp] theorem byO158 : byO Tryz.prog 158 = some 24 := by kernel_rfl
@[simp] theorem zrO158 : zrO Tryz.prog 158 = some (Value.agg #[.int .i64 0, .int .i64 0, .int .u64 0]) := by kernel_rfl
@[simp] theorem szO165 : szO Tryz.prog 165 = some 11 := by kernel_rfl
@[simp] theorem fld1_165 : fld Tryz.prog 165 1 = some (1, 55) := by kernel_rfl
@[simp] theorem stF165 : stF Tryz.prog 165 = some [(0, 1), (1, 10)] := by kernel_rfl
@[simp] theorem zrO165 : zrO Tryz.prog 165 = some (Value.agg #[.slice none 0 0, .int .i64 0, .int .i64 0, .int .i64 0, .int .i64 0, .int .i64 0, .int .i64 0, .int .i64 0, .int .i64 0, .int .u64 0, .string ⟨#[]⟩]) := by kernel_rfl
@[simp] theorem shp167 : shp Tryz.prog 167 = some true := by kernel_rfl
@[simp] theorem szO167 : szO Tryz.prog 167 = some 12 := by kernel_rfl
@[simp] theorem fld0_167 : fld Tryz.prog 167 0 = some (0, 3) := by kernel_rfl
@[simp] theorem fld1_167 : fld Tryz.prog 167 1 = some (1, 165) := by kernel_rfl
@[simp] theorem stF167 : stF Tryz.prog 167 = some [(0, 1), (1, 11)] := by kernel_rfl
@[simp] theorem byO167 : byO Tryz.prog 167 = some 120 := by kernel_rfl
@[simp] theorem zrO167 : zrO Tryz.prog 167 = some (Value.agg #[.int .i64 0, .slice none 0 0, .int .i64 0, .int .i64 0, .int .i64 0, .int .i64 0, .int .i64 0, .int .i64 0, .int .i64 0, .int .i64 0, .int .u64 0, .string ⟨#[]⟩]) := by kernel_rfl
@[simp] theorem shp168 : shp Tryz.prog 168 = some false := by kernel_rfl
@[simp] theorem szO168 : szO Tryz.prog 168 = some 1 := by kernel_rfl
@[simp] theorem slE168 : slE Tryz.prog 168 = some 167 := by kernel_rfl
@[simp] theorem shp170 : shp Tryz.prog 170 = some true := by kernel_rfl
@[simp] theorem szO170 : szO Tryz.prog 170 = some 3 := by kernel_rfl
@[simp] theorem fld0_170 : fld Tryz.prog 170 0 = some (0, 53) := by kernel_rfl
@[simp] theorem fld1_170 : fld Tryz.prog 170 1 = some (1, 53) := by kernel_rfl
@[simp] theorem fld2_170 : fld Tryz.prog 170 2 = some (2, 168) := by kernel_rfl
@[simp] theorem stF170 : stF Tryz.prog 170 = some [(0, 1), (1, 1), (2, 1)] := by kernel_rfl
@[simp] theorem zrO170 : zrO Tryz.prog 170 = some (Value.agg #[.int .u64 0, .int .u64 0, .slice none 0 0]) := by kernel_rfl
@[simp] theorem slE174 : slE Tryz.prog 174 = some 5 := by kernel_rfl
@[simp] theorem shp186 : shp Tryz.prog 186 = some true := by kernel_rfl
@[simp] theorem szO186 : szO Tryz.prog 186 = some 11 := by kernel_rfl
@[simp] theorem fld0_186 : fld Tryz.prog 186 0 = some (0, 3) := by kernel_rfl
@[simp] theorem fld1_186 : fld Tryz.prog 186 1 = some (1, 55) := by kernel_rfl
@[simp] theorem stF186 : stF Tryz.prog 186 = some [(0, 1), (1, 10)] := by kernel_rfl
@[simp] theorem byO186 : byO Tryz.prog 186 = some 96 := by kernel_rfl
@[simp] theorem zrO186 : zrO Tryz.prog 186 = some (Value.agg #[.int .i64 0, .int .i64 0, .int .i64 0, .int .i64 0, .int .i64 0, .int .i64 0, .int .i64 0, .int .i64 0, .int .i64 0, .int .u64 0, .string ⟨#[]⟩]) := by kernel_rfl
@[simp] theorem slE187 : slE Tryz.prog 187 = some 186 := by kernel_rfl
@[simp] theorem arE191 : arE Tryz.prog 191 = some (64, 5) := by kernel_rfl
@[simp] theorem mpE195 : mpE Tryz.prog 195 = some 4 := by kernel_rfl
@[simp] theorem mpE229 : mpE Tryz.prog 229 = some 53 := by kernel_rfl
@[simp] theorem fnOK13 : fnOK Tryz.prog 13 = true := by kernel_rfl
@[simp] theorem fnOK14 : fnOK Tryz.prog 14 = true := by kernel_rfl
@[simp] theorem fnOK15 : fnOK Tryz.prog 15 = true := by kernel_rfl
@[simp] theorem fnOK16 : fnOK Tryz.prog 16 = true := by kernel_rfl
@[simp] theorem fnOK17 : fnOK Tryz.prog 17 = true := by kernel_rfl
@[simp] theorem fnOK18 : fnOK Tryz.prog 18 = true := by kernel_rfl
@[simp] theorem fnOK19 : fnOK Tryz.prog 19 = true := by kernel_rfl
@[simp] theorem fnOK20 : fnOK Tryz.prog 20 = true := by kernel_rfl
@[simp] theorem fnOK21 : fnOK Tryz.prog 21 = true := by kernel_rfl
@[simp] theorem fnOK22 : fnOK Tryz.prog 22 = true := by kernel_rfl
@[simp] theorem fnOK23 : fnOK Tryz.prog 23 = true := by kernel_rfl
@[simp] theorem fnOK24 : fnOK Tryz.prog 24 = true := by kernel_rfl
@[simp] theorem fnOK25 : fnOK Tryz.prog 25 = true := by kernel_rfl
@[simp] theorem fnOK26 : fnOK Tryz.prog 26 = true := by kernel_rfl
@[simp] theorem fnOK27 : fnOK Tryz.prog 27 = true := by kernel_rfl
@[simp] theorem fnOK28 : fnOK Tryz.prog 28 = true := by kernel_rfl
@[simp] theorem fnOK29 : fnOK Tryz.prog 29 = true := by kernel_rfl
@[simp] theorem fnOK30 : fnOK Tryz.prog 30 = true := by kernel_rfl
@[simp] theorem fnOK31 : fnOK Tryz.prog 31 = true := by kernel_rfl
@[simp] theorem fnOK32 : fnOK Tryz.prog 32 = true := by kernel_rfl
@[simp] theorem fnOK33 : fnOK Tryz.prog 33 = true := by kernel_rfl
@[simp] theorem fnOK34 : fnOK Tryz.prog 34 = true := by kernel_rfl
@[simp] theorem fnOK35 : fnOK Tryz.prog 35 = true := by kernel_rfl
@[simp] theorem fnOK36 : fnOK Tryz.prog 36 = true := by kernel_rfl
@[simp] theorem fnOK39 : fnOK Tryz.prog 39 = true := by kernel_rfl
@[simp] theorem fnOK42 : fnOK Tryz.prog 42 = true := by kernel_rfl
@[simp] theorem fnOK49 : fnOK Tryz.prog 49 = true := by kernel_rfl
@[simp] theorem fnOK51 : fnOK Tryz.prog 51 = true := by kernel_rfl
@[simp] theorem fnOK52 : fnOK Tryz.prog 52 = true := by kernel_rfl
@[simp] theorem fnOK53 : fnOK Tryz.prog 53 = true := by kernel_rfl
@[simp] theorem fnOK56 : fnOK Tryz.prog 56 = true := by kernel_rfl
@[simp] theorem fnOK59 : fnOK Tryz.prog 59 = true := by kernel_rfl
@[simp] theorem fnOK60 : fnOK Tryz.prog 60 = true := by kernel_rfl
@[simp] theorem fnOK61 : fnOK Tryz.prog 61 = true := by kernel_rfl
@[simp] theorem fnOK64 : fnOK Tryz.prog 64 = true := by kernel_rfl
@[simp] theorem fnOK65 : fnOK Tryz.prog 65 = true := by kernel_rfl
@[simp] theorem fnOK66 : fnOK Tryz.prog 66 = true := by kernel_rfl
@[simp] theorem fnOK67 : fnOK Tryz.prog 67 = true := by kernel_rfl
@[simp] theorem fnOK68 : fnOK Tryz.prog 68 = true := by kernel_rfl
@[simp] theorem fnOK69 : fnOK Tryz.prog 69 = true := by kernel_rfl
@[simp] theorem fnOK70 : fnOK Tryz.prog 70 = true := by kernel_rfl
@[simp] theorem fnOK71 : fnOK Tryz.prog 71 = true := by kernel_rfl
@[simp] theorem fnOK72 : fnOK Tryz.prog 72 = true := by kernel_rfl
@[simp] theorem fnOK73 : fnOK Tryz.prog 73 = true := by kernel_rfl
@[simp] theorem fnOK74 : fnOK Tryz.prog 74 = true := by kernel_rfl
@[simp] theorem fnOK75 : fnOK Tryz.prog 75 = true := by kernel_rfl
@[simp] theorem fnOK76 : fnOK Tryz.prog 76 = true := by kernel_rfl
@[simp] theorem fnOK77 : fnOK Tryz.prog 77 = true := by kernel_rfl
@[simp] theorem fnOK78 : fnOK Tryz.prog 78 = true := by kernel_rfl
@[simp] theorem fnOK80 : fnOK Tryz.prog 80 = true := by kernel_rfl
@[simp] theorem fnOK81 : fnOK Tryz.prog 81 = true := by kernel_rfl
@[simp] theorem fnOK82 : fnOK Tryz.prog 82 = true := by kernel_rfl
@[simp] theorem fnOK83 : fnOK Tryz.prog 83 = true := by kernel_rfl
@[simp] theorem fnOK84 : fnOK Tryz.prog 84 = true := by kernel_rfl
@[simp] theorem fnOK87 : fnOK Tryz.prog 87 = true := by kernel_rfl
@[simp] theorem fnOK88 : fnOK Tryz.prog 88 = true := by kernel_rfl
@[simp] theorem fnOK89 : fnOK Tryz.prog 89 = true := by kernel_rfl
@[simp] theorem fnOK90 : fnOK Tryz.prog 90 = true := by kernel_rfl
@[simp] theorem fnOK91 : fnOK Tryz.prog 91 = true := by kernel_rfl
@[simp] theorem fnOK92 : fnOK Tryz.prog 92 = true := by kernel_rfl
@[simp] theorem fnOK93 : fnOK Tryz.prog 93 = true := by kernel_rfl
@[simp] theorem fnOK100 : fnOK Tryz.prog 100 = true := by kernel_rfl
@[simp] theorem fnOK101 : fnOK Tryz.prog 101 = true := by kernel_rfl
@[simp] theorem fnOK102 : fnOK Tryz.prog 102 = true := by kernel_rfl
@[simp] theorem fnOK103 : fnOK Tryz.prog 103 = true := by kernel_rfl
@[simp] theorem fnOK104 : fnOK Tryz.prog 104 = true := by kernel_rfl
@[simp] theorem fnOK108 : fnOK Tryz.prog 108 = true := by kernel_rfl
@[simp] theorem fnOK109 : fnOK Tryz.prog 109 = true := by kernel_rfl
@[simp] theorem fnOK110 : fnOK Tryz.prog 110 = true := by kernel_rfl
@[simp] theorem fnOK111 : fnOK Tryz.prog 111 = true := by kernel_rfl
@[simp] theorem fnOK112 : fnOK Tryz.prog 112 = true := by kernel_rfl
@[simp] theorem fnOK113 : fnOK Tryz.prog 113 = true := by kernel_rfl
@[simp] theorem fnOK115 : fnOK Tryz.prog 115 = true := by kernel_rfl
@[simp] theorem fnOK116 : fnOK Tryz.prog 116 = true := by kernel_rfl
@[simp] theorem fnOK117 : fnOK Tryz.prog 117 = true := by kernel_rfl
@[simp] theorem fnOK118 : fnOK Tryz.prog 118 = true := by kernel_rfl
@[simp] theorem fnOK119 : fnOK Tryz.prog 119 = true := by kernel_rfl
@[simp] theorem fnOK120 : fnOK Tryz.prog 120 = true := by kernel_rfl
@[simp] theorem fnOK121 : fnOK Tryz.prog 121 = true := by kernel_rfl
@[simp] theorem fnOK122 : fnOK Tryz.prog 122 = true := by kernel_rfl
@[simp] theorem fnOK123 : fnOK Tryz.prog 123 = true := by kernel_rfl
@[simp] theorem fnOK124 : fnOK Tryz.prog 124 = true := by kernel_rfl
@[simp] theorem fnOK125 : fnOK Tryz.prog 125 = true := by kernel_rfl
@[simp] theorem fnOK126 : fnOK Tryz.prog 126 = true := by kernel_rfl
@[simp] theorem fnOK127 : fnOK Tryz.prog 127 = true := by kernel_rfl
@[simp] theorem fnOK128 : fnOK Tryz.prog 128 = true := by kernel_rfl
@[simp] theorem fnOK129 : fnOK Tryz.prog 129 = true := by kernel_rfl
@[simp] theorem fnOK130 : fnOK Tryz.prog 130 = true := by kernel_rfl
@[simp] theorem fnOK134 : fnOK Tryz.prog 134 = true := by kernel_rfl
@[simp] theorem fnOK135 : fnOK Tryz.prog 135 = true := by kernel_rfl
@[simp] theorem fnOK136 : fnOK Tryz.prog 136 = true := by kernel_rfl
@[simp] theorem fnOK137 : fnOK Tryz.prog 137 = true := by kernel_rfl
@[simp] theorem fnOK138 : fnOK Tryz.prog 138 = true := by kernel_rfl
@[simp] theorem fnOK139 : fnOK Tryz.prog 139 = true := by kernel_rfl
@[simp] theorem fnOK141 : fnOK Tryz.prog 141 = true := by kernel_rfl
@[simp] theorem fnOK143 : fnOK Tryz.prog 143 = true := by kernel_rfl
@[simp] theorem fnOK144 : fnOK Tryz.prog 144 = true := by kernel_rfl
@[simp] theorem fnOK145 : fnOK Tryz.prog 145 = true := by kernel_rfl
@[simp] theorem fnOK146 : fnOK Tryz.prog 146 = true := by kernel_rfl
@[simp] theorem fnOK147 : fnOK Tryz.prog 147 = true := by kernel_rfl
@[simp] theorem fnOK148 : fnOK Tryz.prog 148 = true := by kernel_rfl
@[simp] theorem fnOK149 : fnOK Tryz.prog 149 = true := by kernel_rfl
@[simp] theorem fnOK150 : fnOK Tryz.prog 150 = true := by kernel_rfl
@[simp] theorem fnOK151 : fnOK Tryz.prog 151 = true := by kernel_rfl
@[simp] theorem fnOK152 : fnOK Tryz.prog 152 = true := by kernel_rfl
@[simp] theorem fnOK153 : fnOK Tryz.prog 153 = true := by kernel_rfl
@[simp] theorem fnOK154 : fnOK Tryz.prog 154 = true := by kernel_rfl
@[simp] theorem fnOK155 : fnOK Tryz.prog 155 = true := by kernel_rfl
@[simp] theorem fnOK156 : fnOK Tryz.prog 156 = true := by kernel_rfl
@[simp] theorem fnOK157 : fnOK Tryz.prog 157 = true := by kernel_rfl
@[simp] theorem fnOK158 : fnOK Tryz.prog 158 = true := by kernel_rfl
@[simp] theorem fnOK159 : fnOK Tryz.prog 159 = true := by kernel_rfl
@[simp] theorem fnOK160 : fnOK Tryz.prog 160 = true := by kernel_rfl
@[simp] theorem fnOK161 : fnOK Tryz.prog 161 = true := by kernel_rfl
@[simp] theorem fnOK162 : fnOK Tryz.prog 162 = true := by kernel_rfl
@[simp] theorem fnOK163 : fnOK Tryz.prog 163 = true := by kernel_rfl
@[simp] theorem fnOK164 : fnOK Tryz.prog 164 = true := by kernel_rfl
@[simp] theorem fnOK165 : fnOK Tryz.prog 165 = true := by kernel_rfl
@[simp] theorem fnOK166 : fnOK Tryz.prog 166 = true := by kernel_rfl
@[simp] theorem fnOK177 : fnOK Tryz.prog 177 = true := by kernel_rfl
@[simp] theorem fnOK178 : fnOK Tryz.prog 178 = true := by kernel_rfl
@[simp] theorem fnOK179 : fnOK Tryz.prog 179 = true := by kernel_rfl
@[simp] theorem fnOK188 : fnOK Tryz.prog 188 = true := by kernel_rfl
@[simp] theorem fnOK189 : fnOK Tryz.prog 189 = true := by kernel_rfl
@[simp] theorem fnOK190 : fnOK Tryz.prog 190 = true := by kernel_rfl
@[simp] theorem fnOK191 : fnOK Tryz.prog 191 = true := by kernel_rfl
@[simp] theorem fnOK192 : fnOK Tryz.prog 192 = true := by kernel_rfl
@[simp] theorem fnOK193 : fnOK Tryz.prog 193 = true := by kernel_rfl
@[simp] theorem fnOK194 : fnOK Tryz.prog 194 = true := by kernel_rfl
@[simp] theorem fnOK195 : fnOK Tryz.prog 195 = true := by kernel_rfl
@[simp] theorem fnOK196 : fnOK Tryz.prog 196 = true := by kernel_rfl
@[simp] theorem fnOK197 : fnOK Tryz.prog 197 = true := by kernel_rfl
@[simp] theorem fnOK198 : fnOK Tryz.prog 198 = true := by kernel_rfl
@[simp] theorem fnOK199 : fnOK Tryz.prog 199 = true := by kernel_rfl
@[simp] theorem fnOK208 : fnOK Tryz.prog 208 = true := by kernel_rfl
@[simp] theorem fnOK209 : fnOK Tryz.prog 209 = true := by kernel_rfl
@[simp] theorem mixed : Tryz.prog.follows .mixedOrders = true := by kernel_rfl
end Go.Proofs

set_option linter.unusedSimpArgs false
namespace Go.Tr
open Go
inductive Ty where
 | int (k : IntKind)
 | bool
 | str
 | sl (e : Ty)
 | st (fs : List Ty)
mutual
def Ty.size : Ty → Nat
 | .st fs => Ty.sizes fs
 | _ => 1
def Ty.sizes : List Ty → Nat
 | [] => 0
 | f :: fs => f.size + Ty.sizes fs
end
mutual
def Ty.has : Ty → List D → Prop
 | .int k, ds => ∃ n, ds = [.int k n] ∧ (Lit.int k n).wf = true
 | .bool, ds => ∃ b, ds = [.bool b]
 | .str, ds => ∃ s : ByteArray, ds = [.str s] ∧ s.size ≤ maxLen
 | .sl e, ds => ∃ xs, ds = [.sl xs] ∧ xs.length ≤ maxLen ∧ ∀ x ∈ xs, e.has x
 | .st fs, ds => Ty.hass fs ds
def Ty.hass : List Ty → List D → Prop
 | [], ds => ds = []
 | f :: fs, ds => ∃ a b, ds = a ++ b ∧ f.has a ∧ Ty.hass fs b
end
mutual
def tyB (P : Program) : Ty → TypeId → Bool
 | .int k, t => match P.underlying t with | some (.int k') => decide (k' = k) | _ => false
 | .bool, t => match P.underlying t with | some .bool => true | _ => false
 | .str, t => match P.underlying t with | some .string => true | _ => false
 | .sl e, t => match P.underlying t with | some (.slice u) => tyB P e u && (decide (P.cellsOf u = e.size) && decide (0 < e.size)) | _ => false
 | .st fs, t => match P.underlying t with | some (.struct a) => tyFs P fs a.toList 0 && decide (P.cellsOf t = Ty.sizes fs) | _ => false
def tyFs (P : Program) : List Ty → List Field → Nat → Bool
 | [], [], _ => true
 | T :: fs, f :: l, o => decide (f.offset = o) && (decide (P.cellsOf f.type = T.size) && (tyB P T f.type && tyFs P fs l (o + T.size)))
 | _, _, _ => false
end
mutual
theorem Ty.has_len : ∀ (T : Ty) {ds : List D}, T.has ds → ds.length = T.size
 | .int k, ds, h => by simp only [Ty.has] at h; obtain ⟨n, rfl, _⟩ := h; simp [Ty.size]
 | .bool, ds, h => by simp only [Ty.has] at h; obtain ⟨n, rfl⟩ := h; simp [Ty.size]
 | .str, ds, h => by simp only [Ty.has] at h; obtain ⟨n, rfl, _⟩ := h; simp [Ty.size]
 | .sl e, ds, h => by simp only [Ty.has] at h; obtain ⟨n, rfl, _⟩ := h; simp [Ty.size]
 | .st fs, ds, h => by simp only [Ty.has] at h; simp only [Ty.size]; exact Ty.hass_len fs h
theorem Ty.hass_len : ∀ (fs : List Ty) {ds : List D}, Ty.hass fs ds → ds.length = Ty.sizes fs
 | [], ds, h => by simp only [Ty.hass] at h; subst h; simp [Ty.sizes]
 | f :: fs, ds, h => by
   simp only [Ty.hass] at h
   obtain ⟨a, b, rfl, h1, h2⟩ := h
   simp only [Ty.sizes, List.length_append, Ty.has_len f h1, Ty.hass_len fs h2]
end
theorem RelVs.app {E : En} : ∀ {a b : List TV} {us vs : List Value}, RelVs E a us → RelVs E b vs → RelVs E (a ++ b) (us ++ vs)
 | [], b, us, vs, h, g => by simp only [RelVs] at h; subst h; simpa using g
 | t :: a, b, us, vs, h, g => by
   simp only [RelVs] at h
   obtain ⟨u, us', rfl, h1, h2⟩ := h
   simp only [List.cons_append, RelVs]
   exact ⟨u, _, rfl, h1, RelVs.app h2 g⟩
theorem add_mk (b o m : Nat) : (⟨b, o, none⟩ : Addr).add m = ⟨b, o + m, none⟩ := by
 unfold Addr.add
 split
 ·rename_i h; subst h; rfl
 ·rfl
theorem cell_lt {w : World} {a : Addr} {v : Value} (h : w.cell? a = some v) : a.block < w.heap.size ∧ a.spot = none := by
 simp only [World.cell?] at h
 split at h
 ·rename_i hh
  refine ⟨(Array.getElem?_eq_some_iff.1 hh).1, ?_⟩
  cases hs : a.spot with
  | none => rfl
  | some s => simp [hs] at h
 ·simp at h
theorem cells_rep {w : World} {b : Nat} : ∀ {ds : List D} {vs : List Value} {o : Nat}, RelVs (inE w) (ds.map .d) vs → (∀ i, i < ds.length → w.cell? ⟨b, o + i, none⟩ = vs[i]?) → RepCells (inE w) b o ds
 | [], _, _, _, _ => by simp only [RepCells]
 | d :: ds, vs, o, h, hc => by
   simp only [List.map_cons, RelVs] at h
   obtain ⟨u, vs', rfl, h1, h2⟩ := h
   have h0 := hc 0 (by simp)
   simp only [Nat.add_zero, List.getElem?_cons_zero] at h0
   simp only [RepCells]
   refine ⟨⟨(cell_lt h0).1, u, h0, by simpa only [RelV] using h1⟩, cells_rep h2 fun i hi => ?_⟩
   have := hc (i + 1) (by simp; omega)
   rw [show o + (i + 1) = o + 1 + i by omega] at this
   simpa using this
theorem rows_build {E : En} {b k : Nat} {p : List D → Prop} : ∀ (n : Nat) {o : Nat}, (∀ i, i < n → ∃ ds, p ds ∧ ds.length = k ∧ RepCells E b (o + i * k) ds) → ∃ xs : List (List D), xs.length = n ∧ (∀ x ∈ xs, p x) ∧ RepRows E b k o xs
 | 0, o, _ => ⟨[], rfl, by simp, by simp only [RepRows]⟩
 | n + 1, o, h => by
   obtain ⟨d, h1, h2, h3⟩ := h 0 (by omega)
   obtain ⟨xs, g1, g2, g3⟩ := rows_build (p := p) n (o := o + k) fun i hi => by
    obtain ⟨ds, k1, k2, k3⟩ := h (i + 1) (by omega)
    refine ⟨ds, k1, k2, ?_⟩
    rw [show o + k + i * k = o + (i + 1) * k by rw [Nat.add_mul]; omega]
    exact k3
   refine ⟨d :: xs, by simp [g1], by simpa using ⟨h1, g2⟩, ?_⟩
   simp only [RepRows]
   exact ⟨h2, by simpa using h3, g3⟩
section
variable {H : Type} {enc : TypeId × Value → H} {P : Program} {w : World} {sp : Nat → Bool} {held : Bool}
mutual
theorem trod_has : ∀ (T : Ty) {t : TypeId} {fuel : Nat} {cs : List Value} {x : DataW H × List MemPlace}, tyB P T t = true → DataW.trod enc P w 0 sp held fuel t cs = some x → ∃ ds, T.has ds ∧ RelVs (inE w) (ds.map .d) cs
 | .int k, t, fuel, cs, x, hT, h => by
   simp only [tyB] at hT
   split at hT
   ·rename_i ht
    simp only [decide_eq_true_eq] at hT
    subst hT
    obtain ⟨n, rfl, _, hw⟩ := DataW.trod_int ht h
    exact ⟨[.int _ n], by simp only [Ty.has]; exact ⟨n, rfl, hw⟩, by simp [RelVs, RelV, Rep]⟩
   ·simp at hT
 | .bool, t, fuel, cs, x, hT, h => by
   simp only [tyB] at hT
   split at hT
   ·rename_i ht
    obtain ⟨n, rfl, _⟩ := DataW.trod_bool ht h
    exact ⟨[.bool n], by simp only [Ty.has]; exact ⟨n, rfl⟩, by simp [RelVs, RelV, Rep]⟩
   ·simp at hT
 | .str, t, fuel, cs, x, hT, h => by
   simp only [tyB] at hT
   split at hT
   ·rename_i ht
    obtain ⟨n, rfl, _, hw⟩ := DataW.trod_string ht h
    exact ⟨[.str n], by simp only [Ty.has]; exact ⟨n, rfl, hw⟩, by simp [RelVs, RelV, Rep]⟩
   ·simp at hT
 | .sl e, t, fuel, cs, x, hT, h => by
   simp only [tyB] at hT
   split at hT
   ·rename_i u ht
    simp only [Bool.and_eq_true, decide_eq_true_eq] at hT
    obtain ⟨hu, hk, hk0⟩ := hT
    rcases DataW.trod_slice ht h with ⟨rfl, _⟩ | ⟨a, len, cap, elems, rest, n, _, rfl, _, _, hl, hm, hlen, hel, _, _⟩
    ·exact ⟨[.sl []], by simp only [Ty.has]; exact ⟨[], rfl, by simp, by simp⟩, by simp only [List.map_cons, List.map_nil, RelVs, RelV, Rep]; exact ⟨_, _, rfl, .inl ⟨rfl, _, _, rfl⟩, rfl⟩⟩
    ·by_cases h0 : len = 0
     ·subst h0
      exact ⟨[.sl []], by simp only [Ty.has]; exact ⟨[], rfl, by simp, by simp⟩, by simp only [List.map_cons, List.map_nil, RelVs, RelV, Rep]; exact ⟨_, _, rfl, .inl ⟨rfl, _, _, rfl⟩, rfl⟩⟩
     ·have each : ∀ i, i < len → ∃ vs y, w.cells? 0 (a.add (i * P.cellsOf u)) (P.cellsOf u) = some vs ∧ DataW.trod enc P w 0 sp held n u vs = some y := fun i hi => by
       have h1 := hel i hi
       have h2 : elems[i]? = some elems[i] := List.getElem?_eq_getElem (by omega)
       rw [h2, Option.bind_eq_some_iff] at h1
       obtain ⟨vs, g1, g2⟩ := h1
       exact ⟨vs, _, g1, g2⟩
      have hspot : a.spot = none := by
       obtain ⟨vs, y, g1, _⟩ := each 0 (by omega)
       obtain ⟨_, g3, g4⟩ := World.cells?_some g1
       have g5 := g4 0 (by omega)
       have g6 : vs[0]? = some vs[0] := List.getElem?_eq_getElem (by omega)
       rw [g6] at g5
       simp only [Nat.zero_mul, Addr.add, if_true] at g5
       exact (cell_lt g5).2
      obtain ⟨b, o, s⟩ := a
      simp only at hspot
      subst hspot
      obtain ⟨xs, x1, x2, x3⟩ := rows_build (E := inE w) (b := b) (k := e.size) (p := e.has) len (o := o) fun i hi => by
       obtain ⟨vs, y, g1, g2⟩ := each i hi
       obtain ⟨ds, d1, d2⟩ := trod_has e hu g2
       obtain ⟨_, g3, g4⟩ := World.cells?_some g1
       refine ⟨ds, d1, e.has_len d1, cells_rep d2 fun j hj => ?_⟩
       rw [e.has_len d1] at hj
       have := g4 j (by omega)
       rw [add_mk, add_mk, hk] at this
       exact this
      exact ⟨[.sl xs], by simp only [Ty.has]; exact ⟨xs, rfl, by omega, x2⟩, by
       simp only [List.map_cons, List.map_nil, RelVs, RelV, Rep]
       exact ⟨_, _, rfl, .inr ⟨b, o, cap, e.size, by rw [x1], by omega, x3⟩, rfl⟩⟩
   ·simp at hT
 | .st fs, t, fuel, cs, x, hT, h => by
   simp only [tyB] at hT
   split at hT
   ·rename_i a ht
    simp only [Bool.and_eq_true, decide_eq_true_eq] at hT
    obtain ⟨hf, hs⟩ := hT
    obtain ⟨xs, n, _, _, hl, hlen, hel⟩ := DataW.trod_struct ht h
    obtain ⟨ds, d1, d2⟩ := trods_has fs (l := a.toList) (o := 0) (n := n) (cs := cs) hf (fun f hfm => by
     obtain ⟨i, hi⟩ := List.getElem?_of_mem hfm
     have hi' : a[i]? = some f := by simpa using hi
     have hlt : i < a.size := (Array.getElem?_eq_some_iff.1 hi').1
     exact ⟨xs[i], by rw [hel i f hi']; exact List.getElem?_eq_getElem (by omega)⟩)
    refine ⟨ds, by simpa only [Ty.has] using d1, ?_⟩
    rw [List.drop_zero, List.take_of_length_le (by omega)] at d2
    exact d2
   ·simp at hT
theorem trods_has : ∀ (fs : List Ty) {l : List Field} {o n : Nat} {cs : List Value}, tyFs P fs l o = true → (∀ f ∈ l, ∃ x, DataW.trod enc P w 0 sp held n f.type ((cs.drop f.offset).take (P.cellsOf f.type)) = some x) →
  ∃ ds, Ty.hass fs ds ∧ RelVs (inE w) (ds.map .d) ((cs.drop o).take (Ty.sizes fs))
 | [], l, o, n, cs, hT, h => ⟨[], by simp only [Ty.hass], by simp [RelVs, Ty.sizes]⟩
 | T :: fs, [], o, n, cs, hT, h => by simp [tyFs] at hT
 | T :: fs, f :: l, o, n, cs, hT, h => by
   simp only [tyFs, Bool.and_eq_true, decide_eq_true_eq] at hT
   obtain ⟨ho, hk, hu, hr⟩ := hT
   obtain ⟨x, hx⟩ := h f (by simp)
   rw [ho, hk] at hx
   obtain ⟨d1, a1, a2⟩ := trod_has T hu hx
   obtain ⟨d2, b1, b2⟩ := trods_has fs (o := o + T.size) hr fun g hg => h g (by simp [hg])
   refine ⟨d1 ++ d2, by simp only [Ty.hass]; exact ⟨_, _, rfl, a1, b1⟩, ?_⟩
   rw [List.map_append, Ty.sizes, List.take_add, List.drop_drop]
   exact RelVs.app a2 b2
end
def Ty.tv : Ty → List D → TV
 | .st _, ds => .agg (ds.map .d)
 | _, d :: _ => .d d
 | _, [] => .junk
theorem arg_rel (T : Ty) {t : TypeId} {r : Reach} {b0 : Nat} {v : Value} {d : DataW H} {ps : List MemPlace} (hT : tyB P T t = true) (hv : Value.okWide P w r b0 t v) (h : DataW.Trod enc P w 0 sp held t v d ps) :
  ∃ ds, T.has ds ∧ RelV (inE w) (T.tv ds) v := by
 obtain ⟨fuel, hf⟩ := h
 obtain ⟨ds, h1, h2⟩ := trod_has T hT hf
 refine ⟨ds, h1, ?_⟩
 cases T with
 | st fs =>
   simp only [tyB] at hT
   split at hT
   ·rename_i a ht
    obtain ⟨cs, rfl, _⟩ := WideShapes.okWide_struct ht hv
    simp only [Ty.tv, RelV]
    exact ⟨cs, rfl, by simpa [Value.cells] using h2⟩
   ·simp at hT
 | int k =>
   simp only [tyB] at hT
   split at hT
   ·rename_i ht
    obtain ⟨n, rfl⟩ := WideShapes.okWide_int ht hv
    simp only [Ty.has] at h1
    obtain ⟨m, rfl, _⟩ := h1
    simp [Value.cells, RelVs] at h2
    simpa [Ty.tv] using h2
   ·simp at hT
 | bool =>
   simp only [tyB] at hT
   split at hT
   ·rename_i ht
    obtain ⟨n, rfl⟩ := WideShapes.okWide_bool ht hv
    simp only [Ty.has] at h1
    obtain ⟨m, rfl⟩ := h1
    simp [Value.cells, RelVs] at h2
    simpa [Ty.tv] using h2
   ·simp at hT
 | str =>
   simp only [tyB] at hT
   split at hT
   ·rename_i ht
    obtain ⟨n, rfl⟩ := WideShapes.okWide_string ht hv
    simp only [Ty.has] at h1
    obtain ⟨m, rfl, _⟩ := h1
    simp [Value.cells, RelVs] at h2
    simpa [Ty.tv] using h2
   ·simp at hT
 | sl e =>
   simp only [tyB] at hT
   split at hT
   ·rename_i ht
    obtain ⟨a, len, cap, rfl⟩ := WideShapes.okWide_slice ht hv
    simp only [Ty.has] at h1
    obtain ⟨m, rfl, _⟩ := h1
    simp [Value.cells, RelVs] at h2
    simpa [Ty.tv] using h2
   ·simp at hT
end
end Go.Tr

namespace Go.Tr
open Go
theorem Contract.true {P : Program} {f : FuncId} {args : List TV} {ro : List (Nat × It)} (c : Contract P f args [] (.d (.bool true)) [] ro) {w : World} (hg : GlobW w) {us : List Value} (h : RelVs (inE w) args us) :
  Calls P f us.toArray w fun e w' => e = .returned (.bool true) ∧ RowKit.Below w.heap.size w w' :=
 (c.law hg h).mono fun e w' ⟨u, E', he, hr, hb⟩ => by
  simp only [RelV, Rep] at hr
  subst hr
  exact ⟨he, hb⟩
theorem has_ints {k : IntKind} {ds : List D} (h : (Ty.sl (.int k)).has ds) : ∃ l : List Int, ds = [.sl (l.map fun n => [.int k n])] ∧ l.length ≤ maxLen ∧ ∀ n ∈ l, (Lit.int k n).wf = true := by
 simp only [Ty.has] at h
 obtain ⟨xs, rfl, h1, h2⟩ := h
 have : ∀ (xs : List (List D)), (∀ x ∈ xs, ∃ n, x = [D.int k n] ∧ (Lit.int k n).wf = true) → ∃ l : List Int, xs = l.map (fun n => [D.int k n]) ∧ ∀ n ∈ l, (Lit.int k n).wf = true := by
  intro xs
  induction xs with
  | nil => exact fun _ => ⟨[], rfl, by simp⟩
  | cons x xs ih =>
    intro h
    obtain ⟨n, rfl, hn⟩ := h x (by simp)
    obtain ⟨l, rfl, hl⟩ := ih fun y hy => h y (by simp [hy])
    exact ⟨n :: l, rfl, by simpa using ⟨hn, hl⟩⟩
 obtain ⟨l, rfl, hl⟩ := this xs h2
 exact ⟨l, rfl, by simpa using h1, hl⟩
theorem wf_i64 {n : Int} (h : (Lit.int .i64 n).wf = true) : I64 n := by
 simp only [Lit.wf, Bool.and_eq_true, decide_eq_true_eq] at h
 have m1 : IntKind.i64.min = -9223372036854775808 := by decide
 have m2 : IntKind.i64.max = 9223372036854775807 := by decide
 exact ⟨by omega, by omega⟩
theorem wf_u64 {n : Int} (h : (Lit.int .u64 n).wf = true) : ∃ B : BitVec 64, n = tn B := by
 simp only [Lit.wf, Bool.and_eq_true, decide_eq_true_eq] at h
 have m1 : IntKind.u64.min = 0 := by decide
 have m2 : IntKind.u64.max = 18446744073709551615 := by decide
 refine ⟨BitVec.ofNat 64 n.toNat, ?_⟩
 simp only [tn, BitVec.toNat_ofNat]
 omega
def nrow (k : IntKind) (zs : List Int) : List (List D) := zs.map fun z => [.int k z]
@[simp] theorem nrow_len (k : IntKind) (zs : List Int) : (nrow k zs).length = zs.length := by simp [nrow]
@[simp] theorem ddn_len (k : IntKind) (zs : List Int) : (dd (nrow k zs)).length = zs.length := by simp [dd]
theorem rowrel_nums {E : En} {k : IntKind} : ∀ {zs : List Int} {us : List Value} {o : Nat}, (∀ i z, zs[i]? = some z → us[o + i]? = some (.int k z)) → RowRel E us 1 o (dd (nrow k zs))
 | [], _, _, _ => trivial
 | z :: zs, us, o, h => by
   refine ⟨rfl, ⟨⟨.int k z, by simpa using h 0 z rfl, rfl, by simp [RelV, Rep]⟩, trivial⟩, rowrel_nums fun i z hz => ?_⟩
   have := h (i + 1) z hz
   rwa [show o + (i + 1) = o + 1 + i by omega] at this
def inplR (k : IntKind) (F : List Int → List Int) (m : Option (List Int → Nat)) (zs : List Int) : TV :=
 match m with
 | none => .tup []
 | some m' => .d (.sl (nrow k ((F zs).take (m' zs))))
section
variable {P : Program} {A : Actv} {ops : Array Oper}
attribute [simp] inplR
end
end Go.Tr

namespace Go.Tr
open Go Go.Proofs Go.Shelf Go.Sort Go.Lib
theorem Contract.cases {P : Program} {f : FuncId} {args : List TV} {xs : List It} {r : TV} {xs' : List It} {ro : List (Nat × It)} (h : ∀ E us, RelVs E args us → ∃ args', RelVs E args' us ∧ Contract P f args' xs r xs' ro) : Contract P f args xs r xs' ro :=
 fun E us hH ha => by obtain ⟨args', h1, c⟩ := h E us ha; exact c E us hH h1
@[simp] theorem passs_ds (t : S) (ν : List Pl) : ∀ ds : List D, TV.passs t ν (ds.map .d) = some (ds.map .d)
 | [] => rfl
 | d :: ds => by simp [TV.passs, TV.pass, passs_ds t ν ds]
@[simp] theorem passCs_ds (t : S) : ∀ ds : List D, TV.passCs t (ds.map .d) = True
 | [] => by simp [TV.passCs]
 | d :: ds => by simp [TV.passCs, TV.passC, passCs_ds t ds]
@[simp] theorem rowss_ds : ∀ ds : List D, TV.rowss (ds.map .d) = []
 | [] => rfl
 | d :: ds => by simp [TV.rowss, TV.rows, rowss_ds ds]
@[simp] theorem backs_ds (ν : List Pl) (b : Nat) : ∀ ds : List D, TV.backs ν b (ds.map .d) = ds.map .d
 | [] => rfl
 | d :: ds => by simp [TV.backs, TV.back, backs_ds ν b ds]
@[simp] theorem backs_dd (ν : List Pl) (b : Nat) (xs : List (List D)) : (dd xs).map (TV.backs ν b) = dd xs := by
 simp only [dd, List.map_map]
 exact List.map_congr_left fun ds _ => backs_ds ν b ds
section
variable {α : Type} (f : α → D)
end
end Go.Tr
