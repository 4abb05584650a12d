/-
  Facts about the translated program: sizes, types, functions; each by evaluation in the kernel. No condition.
-/
import Derived.Test.YtkhneohilohhiaaT24
import Derived.KernelRfl
import Derived.Test.YtkhneohilohhiaaChecked
namespace Go.Proofs
open Go Go.Tr
@[simp] theorem shp0 : shp Try.prog 0 = some false := by kernel_rfl
@[simp] theorem szO0 : szO Try.prog 0 = some 1 := by kernel_rfl
@[simp] theorem byO0 : byO Try.prog 0 = some 0 := by kernel_rfl
@[simp] theorem shp1 : shp Try.prog 1 = some false := by kernel_rfl
@[simp] theorem szO1 : szO Try.prog 1 = some 1 := by kernel_rfl
@[simp] theorem byO1 : byO Try.prog 1 = some 8 := by kernel_rfl
@[simp] theorem zrO1 : zrO Try.prog 1 = some Value.nilFunc := by kernel_rfl
@[simp] theorem lf2 : lf Try.prog 2 = some 0 := by kernel_rfl
@[simp] theorem shp2 : shp Try.prog 2 = some false := by kernel_rfl
@[simp] theorem szO2 : szO Try.prog 2 = some 1 := by kernel_rfl
@[simp] theorem knd2 : knd Try.prog 2 = some .i64 := by kernel_rfl
@[simp] theorem byO2 : byO Try.prog 2 = some 8 := by kernel_rfl
@[simp] theorem zrO2 : zrO Try.prog 2 = some (Value.int .i64 0) := by kernel_rfl
@[simp] theorem lf3 : lf Try.prog 3 = some 0 := by kernel_rfl
@[simp] theorem shp3 : shp Try.prog 3 = some false := by kernel_rfl
@[simp] theorem szO3 : szO Try.prog 3 = some 1 := by kernel_rfl
@[simp] theorem knd3 : knd Try.prog 3 = some .i64 := by kernel_rfl
@[simp] theorem byO3 : byO Try.prog 3 = some 8 := by kernel_rfl
@[simp] theorem zrO3 : zrO Try.prog 3 = some (Value.int .i64 0) := by kernel_rfl
@[simp] theorem lf4 : lf Try.prog 4 = some 1 := by kernel_rfl
@[simp] theorem shp4 : shp Try.prog 4 = some false := by kernel_rfl
@[simp] theorem szO4 : szO Try.prog 4 = some 1 := by kernel_rfl
@[simp] theorem und4 : Try.prog.underlying 4 = some .bool := by kernel_rfl
@[simp] theorem byO4 : byO Try.prog 4 = some 1 := by kernel_rfl
@[simp] theorem zrO4 : zrO Try.prog 4 = some (Value.bool false) := by kernel_rfl
@[simp] theorem lf5 : lf Try.prog 5 = some 0 := by kernel_rfl
@[simp] theorem u8K5 : u8K Try.prog 5 = true := by kernel_rfl
@[simp] theorem shp5 : shp Try.prog 5 = some false := by kernel_rfl
@[simp] theorem szO5 : szO Try.prog 5 = some 1 := by kernel_rfl
@[simp] theorem knd5 : knd Try.prog 5 = some .u8 := by kernel_rfl
@[simp] theorem byO5 : byO Try.prog 5 = some 1 := by kernel_rfl
@[simp] theorem zrO5 : zrO Try.prog 5 = some (Value.int .u8 0) := by kernel_rfl
@[simp] theorem lf6 : lf Try.prog 6 = some 0 := by kernel_rfl
@[simp] theorem u8K6 : u8K Try.prog 6 = true := by kernel_rfl
@[simp] theorem shp6 : shp Try.prog 6 = some false := by kernel_rfl
@[simp] theorem szO6 : szO Try.prog 6 = some 1 := by kernel_rfl
@[simp] theorem knd6 : knd Try.prog 6 = some .u8 := by kernel_rfl
@[simp] theorem byO6 : byO Try.prog 6 = some 1 := by kernel_rfl
@[simp] theorem zrO6 : zrO Try.prog 6 = some (Value.int .u8 0) := by kernel_rfl
@[simp] theorem eqFs7 : eqFs Try.prog 7 = some [(0, 2), (1, 3), (2, 4), (3, 6)] := by kernel_rfl
@[simp] theorem eqGd7 : eqGd Try.prog 7 = true := by kernel_rfl
@[simp] theorem shp7 : shp Try.prog 7 = some true := by kernel_rfl
@[simp] theorem szO7 : szO Try.prog 7 = some 4 := by kernel_rfl
@[simp] theorem fld0_7 : fld Try.prog 7 0 = some (0, 2) := by kernel_rfl
@[simp] theorem fld1_7 : fld Try.prog 7 1 = some (1, 3) := by kernel_rfl
@[simp] theorem fld2_7 : fld Try.prog 7 2 = some (2, 4) := by kernel_rfl
@[simp] theorem fld3_7 : fld Try.prog 7 3 = some (3, 6) := by kernel_rfl
@[simp] theorem stF7 : stF Try.prog 7 = some [(0, 1), (1, 1), (2, 1), (3, 1)] := by kernel_rfl
@[simp] theorem byO7 : byO Try.prog 7 = some 24 := by kernel_rfl
@[simp] theorem zrO7 : zrO Try.prog 7 = some (Value.agg #[.int .i64 0, .int .i64 0, .bool false, .int .u8 0]) := by kernel_rfl
@[simp] theorem eqFs8 : eqFs Try.prog 8 = some [(0, 2), (1, 3), (2, 4), (3, 6)] := by kernel_rfl
@[simp] theorem eqGd8 : eqGd Try.prog 8 = true := by kernel_rfl
@[simp] theorem shp8 : shp Try.prog 8 = some true := by kernel_rfl
@[simp] theorem szO8 : szO Try.prog 8 = some 4 := by kernel_rfl
@[simp] theorem fld0_8 : fld Try.prog 8 0 = some (0, 2) := by kernel_rfl
@[simp] theorem fld1_8 : fld Try.prog 8 1 = some (1, 3) := by kernel_rfl
@[simp] theorem fld2_8 : fld Try.prog 8 2 = some (2, 4) := by kernel_rfl
@[simp] theorem fld3_8 : fld Try.prog 8 3 = some (3, 6) := by kernel_rfl
@[simp] theorem stF8 : stF Try.prog 8 = some [(0, 1), (1, 1), (2, 1), (3, 1)] := by kernel_rfl
@[simp] theorem byO8 : byO Try.prog 8 = some 24 := by kernel_rfl
@[simp] theorem zrO8 : zrO Try.prog 8 = some (Value.agg #[.int .i64 0, .int .i64 0, .bool false, .int .u8 0]) := by kernel_rfl
@[simp] theorem lf9 : lf Try.prog 9 = some 2 := by kernel_rfl
@[simp] theorem shp9 : shp Try.prog 9 = some false := by kernel_rfl
@[simp] theorem szO9 : szO Try.prog 9 = some 1 := by kernel_rfl
@[simp] theorem isStr9 : isStr Try.prog 9 = true := by kernel_rfl
@[simp] theorem byO9 : byO Try.prog 9 = some 16 := by kernel_rfl
@[simp] theorem zrO9 : zrO Try.prog 9 = some (Value.string ⟨#[]⟩) := by kernel_rfl
@[simp] theorem lf10 : lf Try.prog 10 = some 2 := by kernel_rfl
@[simp] theorem shp10 : shp Try.prog 10 = some false := by kernel_rfl
@[simp] theorem szO10 : szO Try.prog 10 = some 1 := by kernel_rfl
@[simp] theorem isStr10 : isStr Try.prog 10 = true := by kernel_rfl
@[simp] theorem byO10 : byO Try.prog 10 = some 16 := by kernel_rfl
@[simp] theorem zrO10 : zrO Try.prog 10 = some (Value.string ⟨#[]⟩) := by kernel_rfl
@[simp] theorem lf11 : lf Try.prog 11 = some 2 := by kernel_rfl
@[simp] theorem shp11 : shp Try.prog 11 = some false := by kernel_rfl
@[simp] theorem szO11 : szO Try.prog 11 = some 1 := by kernel_rfl
@[simp] theorem isStr11 : isStr Try.prog 11 = true := by kernel_rfl
@[simp] theorem byO11 : byO Try.prog 11 = some 16 := by kernel_rfl
@[simp] theorem zrO11 : zrO Try.prog 11 = some (Value.string ⟨#[]⟩) := by kernel_rfl
@[simp] theorem lf12 : lf Try.prog 12 = some 0 := by kernel_rfl
@[simp] theorem shp12 : shp Try.prog 12 = some false := by kernel_rfl
@[simp] theorem szO12 : szO Try.prog 12 = some 1 := by kernel_rfl
@[simp] theorem knd12 : knd Try.prog 12 = some .u64 := by kernel_rfl
@[simp] theorem byO12 : byO Try.prog 12 = some 8 := by kernel_rfl
@[simp] theorem zrO12 : zrO Try.prog 12 = some (Value.int .u64 0) := by kernel_rfl
@[simp] theorem shp13 : shp Try.prog 13 = some true := by kernel_rfl
@[simp] theorem szO13 : szO Try.prog 13 = some 2 := by kernel_rfl
@[simp] theorem fld0_13 : fld Try.prog 13 0 = some (0, 9) := by kernel_rfl
@[simp] theorem fld1_13 : fld Try.prog 13 1 = some (1, 12) := by kernel_rfl
@[simp] theorem stF13 : stF Try.prog 13 = some [(0, 1), (1, 1)] := by kernel_rfl
@[simp] theorem byO13 : byO Try.prog 13 = some 24 := by kernel_rfl
@[simp] theorem zrO13 : zrO Try.prog 13 = some (Value.agg #[.string ⟨#[]⟩, .int .u64 0]) := by kernel_rfl
@[simp] theorem shp14 : shp Try.prog 14 = some true := by kernel_rfl
@[simp] theorem szO14 : szO Try.prog 14 = some 2 := by kernel_rfl
@[simp] theorem fld0_14 : fld Try.prog 14 0 = some (0, 9) := by kernel_rfl
@[simp] theorem fld1_14 : fld Try.prog 14 1 = some (1, 12) := by kernel_rfl
@[simp] theorem stF14 : stF Try.prog 14 = some [(0, 1), (1, 1)] := by kernel_rfl
@[simp] theorem byO14 : byO Try.prog 14 = some 24 := by kernel_rfl
@[simp] theorem zrO14 : zrO Try.prog 14 = some (Value.agg #[.string ⟨#[]⟩, .int .u64 0]) := by kernel_rfl
@[simp] theorem shp15 : shp Try.prog 15 = some false := by kernel_rfl
@[simp] theorem szO15 : szO Try.prog 15 = some 1 := by kernel_rfl
@[simp] theorem byO15 : byO Try.prog 15 = some 8 := by kernel_rfl
@[simp] theorem zrO15 : zrO Try.prog 15 = some (Value.pointer none) := by kernel_rfl
@[simp] theorem shp16 : shp Try.prog 16 = some false := by kernel_rfl
@[simp] theorem szO16 : szO Try.prog 16 = some 1 := by kernel_rfl
@[simp] theorem byO16 : byO Try.prog 16 = some 8 := by kernel_rfl
@[simp] theorem zrO16 : zrO Try.prog 16 = some (Value.pointer none) := by kernel_rfl
@[simp] theorem shp17 : shp Try.prog 17 = some false := by kernel_rfl
@[simp] theorem szO17 : szO Try.prog 17 = some 1 := by kernel_rfl
@[simp] theorem byO17 : byO Try.prog 17 = some 8 := by kernel_rfl
@[simp] theorem zrO17 : zrO Try.prog 17 = some (Value.pointer none) := by kernel_rfl
@[simp] theorem shp18 : shp Try.prog 18 = some true := by kernel_rfl
@[simp] theorem szO18 : szO Try.prog 18 = some 1 := by kernel_rfl
@[simp] theorem fld0_18 : fld Try.prog 18 0 = some (0, 17) := by kernel_rfl
@[simp] theorem stF18 : stF Try.prog 18 = some [(0, 1)] := by kernel_rfl
@[simp] theorem byO18 : byO Try.prog 18 = some 8 := by kernel_rfl
@[simp] theorem zrO18 : zrO Try.prog 18 = some (Value.agg #[.pointer none]) := by kernel_rfl
@[simp] theorem shp19 : shp Try.prog 19 = some true := by kernel_rfl
@[simp] theorem szO19 : szO Try.prog 19 = some 1 := by kernel_rfl
@[simp] theorem fld0_19 : fld Try.prog 19 0 = some (0, 17) := by kernel_rfl
@[simp] theorem stF19 : stF Try.prog 19 = some [(0, 1)] := by kernel_rfl
@[simp] theorem byO19 : byO Try.prog 19 = some 8 := by kernel_rfl
@[simp] theorem zrO19 : zrO Try.prog 19 = some (Value.agg #[.pointer none]) := by kernel_rfl
@[simp] theorem shp20 : shp Try.prog 20 = some false := by kernel_rfl
@[simp] theorem szO20 : szO Try.prog 20 = some 1 := by kernel_rfl
@[simp] theorem byO20 : byO Try.prog 20 = some 16 := by kernel_rfl
@[simp] theorem zrO20 : zrO Try.prog 20 = some Value.nilIface := by kernel_rfl
@[simp] theorem lf21 : lf Try.prog 21 = some 0 := by kernel_rfl
@[simp] theorem shp21 : shp Try.prog 21 = some false := by kernel_rfl
@[simp] theorem szO21 : szO Try.prog 21 = some 1 := by kernel_rfl
@[simp] theorem knd21 : knd Try.prog 21 = some .i32 := by kernel_rfl
@[simp] theorem byO21 : byO Try.prog 21 = some 4 := by kernel_rfl
@[simp] theorem zrO21 : zrO Try.prog 21 = some (Value.int .i32 0) := by kernel_rfl
@[simp] theorem shp22 : shp Try.prog 22 = some false := by kernel_rfl
@[simp] theorem szO22 : szO Try.prog 22 = some 1 := by kernel_rfl
@[simp] theorem slE22 : slE Try.prog 22 = some 3 := by kernel_rfl
@[simp] theorem und22 : Try.prog.underlying 22 = some (TypeDesc.slice 3) := by kernel_rfl
@[simp] theorem byO22 : byO Try.prog 22 = some 24 := by kernel_rfl
@[simp] theorem zrO22 : zrO Try.prog 22 = some (Value.slice none 0 0) := by kernel_rfl
@[simp] theorem shp23 : shp Try.prog 23 = some false := by kernel_rfl
@[simp] theorem szO23 : szO Try.prog 23 = some 1 := by kernel_rfl
@[simp] theorem byO23 : byO Try.prog 23 = some 8 := by kernel_rfl
@[simp] theorem zrO23 : zrO Try.prog 23 = some Value.nilFunc := by kernel_rfl
@[simp] theorem shp24 : shp Try.prog 24 = some false := by kernel_rfl
@[simp] theorem szO24 : szO Try.prog 24 = some 1 := by kernel_rfl
@[simp] theorem byO24 : byO Try.prog 24 = some 8 := by kernel_rfl
@[simp] theorem zrO24 : zrO Try.prog 24 = some Value.nilFunc := by kernel_rfl
@[simp] theorem eqFs25 : eqFs Try.prog 25 = some [(0, 3), (1, 22)] := by kernel_rfl
@[simp] theorem eqGd25 : eqGd Try.prog 25 = true := by kernel_rfl
@[simp] theorem shp25 : shp Try.prog 25 = some true := by kernel_rfl
@[simp] theorem szO25 : szO Try.prog 25 = some 2 := by kernel_rfl
@[simp] theorem fld0_25 : fld Try.prog 25 0 = some (0, 3) := by kernel_rfl
@[simp] theorem fld1_25 : fld Try.prog 25 1 = some (1, 22) := by kernel_rfl
@[simp] theorem stF25 : stF Try.prog 25 = some [(0, 1), (1, 1)] := by kernel_rfl
@[simp] theorem byO25 : byO Try.prog 25 = some 32 := by kernel_rfl
@[simp] theorem zrO25 : zrO Try.prog 25 = some (Value.agg #[.int .i64 0, .slice none 0 0]) := by kernel_rfl
@[simp] theorem eqFs26 : eqFs Try.prog 26 = some [(0, 3), (1, 22)] := by kernel_rfl
@[simp] theorem eqGd26 : eqGd Try.prog 26 = true := by kernel_rfl
@[simp] theorem shp26 : shp Try.prog 26 = some true := by kernel_rfl
@[simp] theorem szO26 : szO Try.prog 26 = some 2 := by kernel_rfl
@[simp] theorem fld0_26 : fld Try.prog 26 0 = some (0, 3) := by kernel_rfl
@[simp] theorem fld1_26 : fld Try.prog 26 1 = some (1, 22) := by kernel_rfl
@[simp] theorem stF26 : stF Try.prog 26 = some [(0, 1), (1, 1)] := by kernel_rfl
@[simp] theorem byO26 : byO Try.prog 26 = some 32 := by kernel_rfl
@[simp] theorem zrO26 : zrO Try.prog 26 = some (Value.agg #[.int .i64 0, .slice none 0 0]) := by kernel_rfl
@[simp] theorem shp27 : shp Try.prog 27 = some false := by kernel_rfl
@[simp] theorem szO27 : szO Try.prog 27 = some 1 := by kernel_rfl
@[simp] theorem byO27 : byO Try.prog 27 = some 8 := by kernel_rfl
@[simp] theorem zrO27 : zrO Try.prog 27 = some Value.nilFunc := by kernel_rfl
@[simp] theorem shp28 : shp Try.prog 28 = some false := by kernel_rfl
@[simp] theorem szO28 : szO Try.prog 28 = some 1 := by kernel_rfl
@[simp] theorem byO28 : byO Try.prog 28 = some 8 := by kernel_rfl
@[simp] theorem zrO28 : zrO Try.prog 28 = some (Value.pointer none) := by kernel_rfl
@[simp] theorem shp29 : shp Try.prog 29 = some false := by kernel_rfl
@[simp] theorem szO29 : szO Try.prog 29 = some 1 := by kernel_rfl
@[simp] theorem byO29 : byO Try.prog 29 = some 8 := by kernel_rfl
@[simp] theorem zrO29 : zrO Try.prog 29 = some Value.nilFunc := by kernel_rfl
@[simp] theorem shp30 : shp Try.prog 30 = some false := by kernel_rfl
@[simp] theorem szO30 : szO Try.prog 30 = some 1 := by kernel_rfl
@[simp] theorem slE30 : slE Try.prog 30 = some 26 := by kernel_rfl
@[simp] theorem und30 : Try.prog.underlying 30 = some (TypeDesc.slice 26) := by kernel_rfl
@[simp] theorem byO30 : byO Try.prog 30 = some 24 := by kernel_rfl
@[simp] theorem zrO30 : zrO Try.prog 30 = some (Value.slice none 0 0) := by kernel_rfl
@[simp] theorem eqFs31 : eqFs Try.prog 31 = some [(0, 3), (1, 3), (2, 3), (3, 30)] := by kernel_rfl
@[simp] theorem eqGd31 : eqGd Try.prog 31 = true := by kernel_rfl
@[simp] theorem shp31 : shp Try.prog 31 = some true := by kernel_rfl
@[simp] theorem szO31 : szO Try.prog 31 = some 4 := by kernel_rfl
@[simp] theorem fld0_31 : fld Try.prog 31 0 = some (0, 3) := by kernel_rfl
@[simp] theorem fld1_31 : fld Try.prog 31 1 = some (1, 3) := by kernel_rfl
@[simp] theorem fld2_31 : fld Try.prog 31 2 = some (2, 3) := by kernel_rfl
@[simp] theorem fld3_31 : fld Try.prog 31 3 = some (3, 30) := by kernel_rfl
@[simp] theorem stF31 : stF Try.prog 31 = some [(0, 1), (1, 1), (2, 1), (3, 1)] := by kernel_rfl
@[simp] theorem byO31 : byO Try.prog 31 = some 48 := by kernel_rfl
@[simp] theorem zrO31 : zrO Try.prog 31 = some (Value.agg #[.int .i64 0, .int .i64 0, .int .i64 0, .slice none 0 0]) := by kernel_rfl
@[simp] theorem eqFs32 : eqFs Try.prog 32 = some [(0, 3), (1, 3), (2, 3), (3, 30)] := by kernel_rfl
@[simp] theorem eqGd32 : eqGd Try.prog 32 = true := by kernel_rfl
@[simp] theorem shp32 : shp Try.prog 32 = some true := by kernel_rfl
@[simp] theorem szO32 : szO Try.prog 32 = some 4 := by kernel_rfl
@[simp] theorem fld0_32 : fld Try.prog 32 0 = some (0, 3) := by kernel_rfl
@[simp] theorem fld1_32 : fld Try.prog 32 1 = some (1, 3) := by kernel_rfl
@[simp] theorem fld2_32 : fld Try.prog 32 2 = some (2, 3) := by kernel_rfl
@[simp] theorem fld3_32 : fld Try.prog 32 3 = some (3, 30) := by kernel_rfl
@[simp] theorem stF32 : stF Try.prog 32 = some [(0, 1), (1, 1), (2, 1), (3, 1)] := by kernel_rfl
@[simp] theorem byO32 : byO Try.prog 32 = some 48 := by kernel_rfl
@[simp] theorem zrO32 : zrO Try.prog 32 = some (Value.agg #[.int .i64 0, .int .i64 0, .int .i64 0, .slice none 0 0]) := by kernel_rfl
@[simp] theorem shp33 : shp Try.prog 33 = some false := by kernel_rfl
@[simp] theorem szO33 : szO Try.prog 33 = some 1 := by kernel_rfl
@[simp] theorem byO33 : byO Try.prog 33 = some 8 := by kernel_rfl
@[simp] theorem zrO33 : zrO Try.prog 33 = some Value.nilFunc := by kernel_rfl
@[simp] theorem shp34 : shp Try.prog 34 = some true := by kernel_rfl
@[simp] theorem szO34 : szO Try.prog 34 = some 2 := by kernel_rfl
@[simp] theorem arE34 : arE Try.prog 34 = some (2, 3) := by kernel_rfl
@[simp] theorem stF34 : stF Try.prog 34 = none := by kernel_rfl
@[simp] theorem arF34 : arF Try.prog 34 = some 1 := by kernel_rfl
@[simp] theorem byO34 : byO Try.prog 34 = some 16 := by kernel_rfl
@[simp] theorem zrO34 : zrO Try.prog 34 = some (Value.agg #[.int .i64 0, .int .i64 0]) := by kernel_rfl
@[simp] theorem shp35 : shp Try.prog 35 = some false := by kernel_rfl
@[simp] theorem szO35 : szO Try.prog 35 = some 1 := by kernel_rfl
@[simp] theorem byO35 : byO Try.prog 35 = some 8 := by kernel_rfl
@[simp] theorem zrO35 : zrO Try.prog 35 = some Value.nilFunc := by kernel_rfl
@[simp] theorem shp36 : shp Try.prog 36 = some true := by kernel_rfl
@[simp] theorem szO36 : szO Try.prog 36 = some 6 := by kernel_rfl
@[simp] theorem arE36 : arE Try.prog 36 = some (3, 34) := by kernel_rfl
@[simp] theorem stF36 : stF Try.prog 36 = none := by kernel_rfl
@[simp] theorem arF36 : arF Try.prog 36 = some 2 := by kernel_rfl
@[simp] theorem byO36 : byO Try.prog 36 = some 48 := by kernel_rfl
@[simp] theorem zrO36 : zrO Try.prog 36 = some (Value.agg #[.int .i64 0, .int .i64 0, .int .i64 0, .int .i64 0, .int .i64 0, .int .i64 0]) := by kernel_rfl
@[simp] theorem shp37 : shp Try.prog 37 = some false := by kernel_rfl
@[simp] theorem szO37 : szO Try.prog 37 = some 1 := by kernel_rfl
@[simp] theorem slE37 : slE Try.prog 37 = some 42 := by kernel_rfl
@[simp] theorem und37 : Try.prog.underlying 37 = some (TypeDesc.slice 42) := by kernel_rfl
@[simp] theorem byO37 : byO Try.prog 37 = some 24 := by kernel_rfl
@[simp] theorem zrO37 : zrO Try.prog 37 = some (Value.slice none 0 0) := by kernel_rfl
@[simp] theorem shp38 : shp Try.prog 38 = some false := by kernel_rfl
@[simp] theorem szO38 : szO Try.prog 38 = some 1 := by kernel_rfl
@[simp] theorem byO38 : byO Try.prog 38 = some 8 := by kernel_rfl
@[simp] theorem zrO38 : zrO Try.prog 38 = some Value.nilFunc := by kernel_rfl
@[simp] theorem lf39 : lf Try.prog 39 = some 0 := by kernel_rfl
@[simp] theorem shp39 : shp Try.prog 39 = some false := by kernel_rfl
@[simp] theorem szO39 : szO Try.prog 39 = some 1 := by kernel_rfl
@[simp] theorem knd39 : knd Try.prog 39 = some .u64 := by kernel_rfl
@[simp] theorem byO39 : byO Try.prog 39 = some 8 := by kernel_rfl
@[simp] theorem zrO39 : zrO Try.prog 39 = some (Value.int .u64 0) := by kernel_rfl
@[simp] theorem shp40 : shp Try.prog 40 = some false := by kernel_rfl
@[simp] theorem szO40 : szO Try.prog 40 = some 1 := by kernel_rfl
@[simp] theorem byO40 : byO Try.prog 40 = some 8 := by kernel_rfl
@[simp] theorem zrO40 : zrO Try.prog 40 = some Value.nilFunc := by kernel_rfl
@[simp] theorem eqFs41 : eqFs Try.prog 41 = some [(0, 3), (1, 39)] := by kernel_rfl
@[simp] theorem eqGd41 : eqGd Try.prog 41 = true := by kernel_rfl
@[simp] theorem shp41 : shp Try.prog 41 = some true := by kernel_rfl
@[simp] theorem szO41 : szO Try.prog 41 = some 2 := by kernel_rfl
@[simp] theorem fld0_41 : fld Try.prog 41 0 = some (0, 3) := by kernel_rfl
@[simp] theorem fld1_41 : fld Try.prog 41 1 = some (1, 39) := by kernel_rfl
@[simp] theorem stF41 : stF Try.prog 41 = some [(0, 1), (1, 1)] := by kernel_rfl
@[simp] theorem byO41 : byO Try.prog 41 = some 16 := by kernel_rfl
@[simp] theorem zrO41 : zrO Try.prog 41 = some (Value.agg #[.int .i64 0, .int .u64 0]) := by kernel_rfl
@[simp] theorem eqFs42 : eqFs Try.prog 42 = some [(0, 3), (1, 39)] := by kernel_rfl
@[simp] theorem eqGd42 : eqGd Try.prog 42 = true := by kernel_rfl
@[simp] theorem shp42 : shp Try.prog 42 = some true := by kernel_rfl
@[simp] theorem szO42 : szO Try.prog 42 = some 2 := by kernel_rfl
@[simp] theorem fld0_42 : fld Try.prog 42 0 = some (0, 3) := by kernel_rfl
@[simp] theorem fld1_42 : fld Try.prog 42 1 = some (1, 39) := by kernel_rfl
@[simp] theorem stF42 : stF Try.prog 42 = some [(0, 1), (1, 1)] := by kernel_rfl
@[simp] theorem byO42 : byO Try.prog 42 = some 16 := by kernel_rfl
@[simp] theorem zrO42 : zrO Try.prog 42 = some (Value.agg #[.int .i64 0, .int .u64 0]) := by kernel_rfl
@[simp] theorem shp43 : shp Try.prog 43 = some false := by kernel_rfl
@[simp] theorem szO43 : szO Try.prog 43 = some 1 := by kernel_rfl
@[simp] theorem byO43 : byO Try.prog 43 = some 8 := by kernel_rfl
@[simp] theorem zrO43 : zrO Try.prog 43 = some Value.nilFunc := by kernel_rfl
@[simp] theorem lf44 : lf Try.prog 44 = some 0 := by kernel_rfl
@[simp] theorem shp44 : shp Try.prog 44 = some false := by kernel_rfl
@[simp] theorem szO44 : szO Try.prog 44 = some 1 := by kernel_rfl
@[simp] theorem knd44 : knd Try.prog 44 = some .i64 := by kernel_rfl
@[simp] theorem byO44 : byO Try.prog 44 = some 8 := by kernel_rfl
@[simp] theorem zrO44 : zrO Try.prog 44 = some (Value.int .i64 0) := by kernel_rfl
@[simp] theorem shp45 : shp Try.prog 45 = some false := by kernel_rfl
@[simp] theorem szO45 : szO Try.prog 45 = some 1 := by kernel_rfl
@[simp] theorem byO45 : byO Try.prog 45 = some 8 := by kernel_rfl
@[simp] theorem zrO45 : zrO Try.prog 45 = some Value.nilFunc := by kernel_rfl
@[simp] theorem shp46 : shp Try.prog 46 = some false := by kernel_rfl
@[simp] theorem szO46 : szO Try.prog 46 = some 1 := by kernel_rfl
@[simp] theorem byO46 : byO Try.prog 46 = some 0 := by kernel_rfl
@[simp] theorem shp47 : shp Try.prog 47 = some false := by kernel_rfl
@[simp] theorem szO47 : szO Try.prog 47 = some 1 := by kernel_rfl
@[simp] theorem byO47 : byO Try.prog 47 = some 8 := by kernel_rfl
@[simp] theorem zrO47 : zrO Try.prog 47 = some Value.nilFunc := by kernel_rfl
@[simp] theorem shp48 : shp Try.prog 48 = some false := by kernel_rfl
@[simp] theorem szO48 : szO Try.prog 48 = some 1 := by kernel_rfl
@[simp] theorem byO48 : byO Try.prog 48 = some 8 := by kernel_rfl
@[simp] theorem zrO48 : zrO Try.prog 48 = some Value.nilFunc := by kernel_rfl
@[simp] theorem shp49 : shp Try.prog 49 = some false := by kernel_rfl
@[simp] theorem szO49 : szO Try.prog 49 = some 1 := by kernel_rfl
@[simp] theorem byO49 : byO Try.prog 49 = some 8 := by kernel_rfl
@[simp] theorem zrO49 : zrO Try.prog 49 = some Value.nilFunc := by kernel_rfl
@[simp] theorem shp50 : shp Try.prog 50 = some true := by kernel_rfl
@[simp] theorem szO50 : szO Try.prog 50 = some 4 := by kernel_rfl
@[simp] theorem arE50 : arE Try.prog 50 = some (4, 3) := by kernel_rfl
@[simp] theorem stF50 : stF Try.prog 50 = none := by kernel_rfl
@[simp] theorem arF50 : arF Try.prog 50 = some 1 := by kernel_rfl
@[simp] theorem byO50 : byO Try.prog 50 = some 32 := by kernel_rfl
@[simp] theorem zrO50 : zrO Try.prog 50 = some (Value.agg #[.int .i64 0, .int .i64 0, .int .i64 0, .int .i64 0]) := by kernel_rfl
@[simp] theorem shp51 : shp Try.prog 51 = some true := by kernel_rfl
@[simp] theorem szO51 : szO Try.prog 51 = some 12 := by kernel_rfl
@[simp] theorem arE51 : arE Try.prog 51 = some (3, 50) := by kernel_rfl
@[simp] theorem stF51 : stF Try.prog 51 = none := by kernel_rfl
@[simp] theorem arF51 : arF Try.prog 51 = some 4 := by kernel_rfl
@[simp] theorem byO51 : byO Try.prog 51 = some 96 := by kernel_rfl
@[simp] theorem zrO51 : zrO Try.prog 51 = some (Value.agg #[.int .i64 0, .int .i64 0, .int .i64 0, .int .i64 0, .int .i64 0, .int .i64 0, .int .i64 0, .int .i64 0, .int .i64 0, .int .i64 0, .int .i64 0, .int .i64 0]) := by kernel_rfl
@[simp] theorem shp52 : shp Try.prog 52 = some false := by kernel_rfl
@[simp] theorem szO52 : szO Try.prog 52 = some 1 := by kernel_rfl
@[simp] theorem byO52 : byO Try.prog 52 = some 8 := by kernel_rfl
@[simp] theorem zrO52 : zrO Try.prog 52 = some Value.nilFunc := by kernel_rfl
@[simp] theorem shp53 : shp Try.prog 53 = some false := by kernel_rfl
@[simp] theorem szO53 : szO Try.prog 53 = some 1 := by kernel_rfl
@[simp] theorem byO53 : byO Try.prog 53 = some 8 := by kernel_rfl
@[simp] theorem zrO53 : zrO Try.prog 53 = some Value.nilFunc := by kernel_rfl
@[simp] theorem shp54 : shp Try.prog 54 = some false := by kernel_rfl
@[simp] theorem szO54 : szO Try.prog 54 = some 1 := by kernel_rfl
@[simp] theorem byO54 : byO Try.prog 54 = some 8 := by kernel_rfl
@[simp] theorem zrO54 : zrO Try.prog 54 = some Value.nilFunc := by kernel_rfl
@[simp] theorem shp55 : shp Try.prog 55 = some false := by kernel_rfl
@[simp] theorem szO55 : szO Try.prog 55 = some 1 := by kernel_rfl
@[simp] theorem byO55 : byO Try.prog 55 = some 8 := by kernel_rfl
@[simp] theorem zrO55 : zrO Try.prog 55 = some Value.nilFunc := by kernel_rfl
@[simp] theorem shp56 : shp Try.prog 56 = some false := by kernel_rfl
@[simp] theorem szO56 : szO Try.prog 56 = some 1 := by kernel_rfl
@[simp] theorem byO56 : byO Try.prog 56 = some 8 := by kernel_rfl
@[simp] theorem zrO56 : zrO Try.prog 56 = some Value.nilFunc := by kernel_rfl
@[simp] theorem shp57 : shp Try.prog 57 = some false := by kernel_rfl
@[simp] theorem szO57 : szO Try.prog 57 = some 1 := by kernel_rfl
@[simp] theorem byO57 : byO Try.prog 57 = some 8 := by kernel_rfl
@[simp] theorem zrO57 : zrO Try.prog 57 = some Value.nilFunc := by kernel_rfl
@[simp] theorem shp58 : shp Try.prog 58 = some false := by kernel_rfl
@[simp] theorem szO58 : szO Try.prog 58 = some 1 := by kernel_rfl
@[simp] theorem byO58 : byO Try.prog 58 = some 8 := by kernel_rfl
@[simp] theorem zrO58 : zrO Try.prog 58 = some Value.nilFunc := by kernel_rfl
@[simp] theorem eqFs59 : eqFs Try.prog 59 = some [(0, 22), (1, 3)] := by kernel_rfl
@[simp] theorem eqGd59 : eqGd Try.prog 59 = true := by kernel_rfl
@[simp] theorem shp59 : shp Try.prog 59 = some true := by kernel_rfl
@[simp] theorem szO59 : szO Try.prog 59 = some 2 := by kernel_rfl
@[simp] theorem fld0_59 : fld Try.prog 59 0 = some (0, 22) := by kernel_rfl
@[simp] theorem fld1_59 : fld Try.prog 59 1 = some (1, 3) := by kernel_rfl
@[simp] theorem stF59 : stF Try.prog 59 = some [(0, 1), (1, 1)] := by kernel_rfl
@[simp] theorem byO59 : byO Try.prog 59 = some 32 := by kernel_rfl
@[simp] theorem zrO59 : zrO Try.prog 59 = some (Value.agg #[.slice none 0 0, .int .i64 0]) := by kernel_rfl
@[simp] theorem eqFs60 : eqFs Try.prog 60 = some [(0, 22), (1, 3)] := by kernel_rfl
@[simp] theorem eqGd60 : eqGd Try.prog 60 = true := by kernel_rfl
@[simp] theorem shp60 : shp Try.prog 60 = some true := by kernel_rfl
@[simp] theorem szO60 : szO Try.prog 60 = some 2 := by kernel_rfl
@[simp] theorem fld0_60 : fld Try.prog 60 0 = some (0, 22) := by kernel_rfl
@[simp] theorem fld1_60 : fld Try.prog 60 1 = some (1, 3) := by kernel_rfl
@[simp] theorem stF60 : stF Try.prog 60 = some [(0, 1), (1, 1)] := by kernel_rfl
@[simp] theorem byO60 : byO Try.prog 60 = some 32 := by kernel_rfl
@[simp] theorem zrO60 : zrO Try.prog 60 = some (Value.agg #[.slice none 0 0, .int .i64 0]) := by kernel_rfl
@[simp] theorem shp61 : shp Try.prog 61 = some false := by kernel_rfl
@[simp] theorem szO61 : szO Try.prog 61 = some 1 := by kernel_rfl
@[simp] theorem slE61 : slE Try.prog 61 = some 90 := by kernel_rfl
@[simp] theorem und61 : Try.prog.underlying 61 = some (TypeDesc.slice 90) := by kernel_rfl
@[simp] theorem byO61 : byO Try.prog 61 = some 24 := by kernel_rfl
@[simp] theorem zrO61 : zrO Try.prog 61 = some (Value.slice none 0 0) := by kernel_rfl
@[simp] theorem shp62 : shp Try.prog 62 = some false := by kernel_rfl
@[simp] theorem szO62 : szO Try.prog 62 = some 1 := by kernel_rfl
@[simp] theorem slE62 : slE Try.prog 62 = some 104 := by kernel_rfl
@[simp] theorem und62 : Try.prog.underlying 62 = some (TypeDesc.slice 104) := by kernel_rfl
@[simp] theorem byO62 : byO Try.prog 62 = some 24 := by kernel_rfl
@[simp] theorem zrO62 : zrO Try.prog 62 = some (Value.slice none 0 0) := by kernel_rfl
@[simp] theorem eqFs63 : eqFs Try.prog 63 = some [(0, 61), (1, 62)] := by kernel_rfl
@[simp] theorem eqGd63 : eqGd Try.prog 63 = true := by kernel_rfl
@[simp] theorem shp63 : shp Try.prog 63 = some true := by kernel_rfl
@[simp] theorem szO63 : szO Try.prog 63 = some 2 := by kernel_rfl
@[simp] theorem fld0_63 : fld Try.prog 63 0 = some (0, 61) := by kernel_rfl
@[simp] theorem fld1_63 : fld Try.prog 63 1 = some (1, 62) := by kernel_rfl
@[simp] theorem stF63 : stF Try.prog 63 = some [(0, 1), (1, 1)] := by kernel_rfl
@[simp] theorem byO63 : byO Try.prog 63 = some 48 := by kernel_rfl
@[simp] theorem zrO63 : zrO Try.prog 63 = some (Value.agg #[.slice none 0 0, .slice none 0 0]) := by kernel_rfl
@[simp] theorem eqFs64 : eqFs Try.prog 64 = some [(0, 61), (1, 62)] := by kernel_rfl
@[simp] theorem eqGd64 : eqGd Try.prog 64 = true := by kernel_rfl
@[simp] theorem shp64 : shp Try.prog 64 = some true := by kernel_rfl
@[simp] theorem szO64 : szO Try.prog 64 = some 2 := by kernel_rfl
@[simp] theorem fld0_64 : fld Try.prog 64 0 = some (0, 61) := by kernel_rfl
@[simp] theorem fld1_64 : fld Try.prog 64 1 = some (1, 62) := by kernel_rfl
@[simp] theorem stF64 : stF Try.prog 64 = some [(0, 1), (1, 1)] := by kernel_rfl
@[simp] theorem byO64 : byO Try.prog 64 = some 48 := by kernel_rfl
@[simp] theorem zrO64 : zrO Try.prog 64 = some (Value.agg #[.slice none 0 0, .slice none 0 0]) := by kernel_rfl
@[simp] theorem shp65 : shp Try.prog 65 = some false := by kernel_rfl
@[simp] theorem szO65 : szO Try.prog 65 = some 1 := by kernel_rfl
@[simp] theorem byO65 : byO Try.prog 65 = some 8 := by kernel_rfl
@[simp] theorem zrO65 : zrO Try.prog 65 = some Value.nilFunc := by kernel_rfl
@[simp] theorem shp66 : shp Try.prog 66 = some false := by kernel_rfl
@[simp] theorem szO66 : szO Try.prog 66 = some 1 := by kernel_rfl
@[simp] theorem slE66 : slE Try.prog 66 = some 94 := by kernel_rfl
@[simp] theorem und66 : Try.prog.underlying 66 = some (TypeDesc.slice 94) := by kernel_rfl
@[simp] theorem byO66 : byO Try.prog 66 = some 24 := by kernel_rfl
@[simp] theorem zrO66 : zrO Try.prog 66 = some (Value.slice none 0 0) := by kernel_rfl
@[simp] theorem eqFs67 : eqFs Try.prog 67 = some [(0, 3), (1, 3), (2, 66)] := by kernel_rfl
@[simp] theorem eqGd67 : eqGd Try.prog 67 = true := by kernel_rfl
@[simp] theorem shp67 : shp Try.prog 67 = some true := by kernel_rfl
@[simp] theorem szO67 : szO Try.prog 67 = some 3 := by kernel_rfl
@[simp] theorem fld0_67 : fld Try.prog 67 0 = some (0, 3) := by kernel_rfl
@[simp] theorem fld1_67 : fld Try.prog 67 1 = some (1, 3) := by kernel_rfl
@[simp] theorem fld2_67 : fld Try.prog 67 2 = some (2, 66) := by kernel_rfl
@[simp] theorem stF67 : stF Try.prog 67 = some [(0, 1), (1, 1), (2, 1)] := by kernel_rfl
@[simp] theorem byO67 : byO Try.prog 67 = some 40 := by kernel_rfl
@[simp] theorem zrO67 : zrO Try.prog 67 = some (Value.agg #[.int .i64 0, .int .i64 0, .slice none 0 0]) := by kernel_rfl
@[simp] theorem eqFs68 : eqFs Try.prog 68 = some [(0, 3), (1, 3), (2, 66)] := by kernel_rfl
@[simp] theorem eqGd68 : eqGd Try.prog 68 = true := by kernel_rfl
@[simp] theorem shp68 : shp Try.prog 68 = some true := by kernel_rfl
@[simp] theorem szO68 : szO Try.prog 68 = some 3 := by kernel_rfl
@[simp] theorem fld0_68 : fld Try.prog 68 0 = some (0, 3) := by kernel_rfl
@[simp] theorem fld1_68 : fld Try.prog 68 1 = some (1, 3) := by kernel_rfl
@[simp] theorem fld2_68 : fld Try.prog 68 2 = some (2, 66) := by kernel_rfl
@[simp] theorem stF68 : stF Try.prog 68 = some [(0, 1), (1, 1), (2, 1)] := by kernel_rfl
@[simp] theorem byO68 : byO Try.prog 68 = some 40 := by kernel_rfl
@[simp] theorem zrO68 : zrO Try.prog 68 = some (Value.agg #[.int .i64 0, .int .i64 0, .slice none 0 0]) := by kernel_rfl
@[simp] theorem shp69 : shp Try.prog 69 = some false := by kernel_rfl
@[simp] theorem szO69 : szO Try.prog 69 = some 1 := by kernel_rfl
@[simp] theorem byO69 : byO Try.prog 69 = some 8 := by kernel_rfl
@[simp] theorem zrO69 : zrO Try.prog 69 = some Value.nilFunc := by kernel_rfl
@[simp] theorem shp70 : shp Try.prog 70 = some false := by kernel_rfl
@[simp] theorem szO70 : szO Try.prog 70 = some 1 := by kernel_rfl
@[simp] theorem slE70 : slE Try.prog 70 = some 32 := by kernel_rfl
@[simp] theorem und70 : Try.prog.underlying 70 = some (TypeDesc.slice 32) := by kernel_rfl
@[simp] theorem byO70 : byO Try.prog 70 = some 24 := by kernel_rfl
@[simp] theorem zrO70 : zrO Try.prog 70 = some (Value.slice none 0 0) := by kernel_rfl
@[simp] theorem shp71 : shp Try.prog 71 = some false := by kernel_rfl
@[simp] theorem szO71 : szO Try.prog 71 = some 1 := by kernel_rfl
@[simp] theorem byO71 : byO Try.prog 71 = some 0 := by kernel_rfl
@[simp] theorem shp72 : shp Try.prog 72 = some false := by kernel_rfl
@[simp] theorem szO72 : szO Try.prog 72 = some 1 := by kernel_rfl
@[simp] theorem byO72 : byO Try.prog 72 = some 8 := by kernel_rfl
@[simp] theorem zrO72 : zrO Try.prog 72 = some Value.nilFunc := by kernel_rfl
@[simp] theorem shp73 : shp Try.prog 73 = some false := by kernel_rfl
@[simp] theorem szO73 : szO Try.prog 73 = some 1 := by kernel_rfl
@[simp] theorem byO73 : byO Try.prog 73 = some 8 := by kernel_rfl
@[simp] theorem zrO73 : zrO Try.prog 73 = some Value.nilFunc := by kernel_rfl
@[simp] theorem shp74 : shp Try.prog 74 = some false := by kernel_rfl
@[simp] theorem szO74 : szO Try.prog 74 = some 1 := by kernel_rfl
@[simp] theorem byO74 : byO Try.prog 74 = some 8 := by kernel_rfl
@[simp] theorem zrO74 : zrO Try.prog 74 = some Value.nilFunc := by kernel_rfl
@[simp] theorem shp75 : shp Try.prog 75 = some false := by kernel_rfl
@[simp] theorem szO75 : szO Try.prog 75 = some 1 := by kernel_rfl
@[simp] theorem byO75 : byO Try.prog 75 = some 8 := by kernel_rfl
@[simp] theorem zrO75 : zrO Try.prog 75 = some Value.nilFunc := by kernel_rfl
@[simp] theorem shp76 : shp Try.prog 76 = some false := by kernel_rfl
@[simp] theorem szO76 : szO Try.prog 76 = some 1 := by kernel_rfl
@[simp] theorem mpE76 : mpE Try.prog 76 = some 39 := by kernel_rfl
@[simp] theorem byO76 : byO Try.prog 76 = some 8 := by kernel_rfl
@[simp] theorem zrO76 : zrO Try.prog 76 = some (Value.map none) := by kernel_rfl
@[simp] theorem shp77 : shp Try.prog 77 = some false := by kernel_rfl
@[simp] theorem szO77 : szO Try.prog 77 = some 1 := by kernel_rfl
@[simp] theorem byO77 : byO Try.prog 77 = some 8 := by kernel_rfl
@[simp] theorem zrO77 : zrO Try.prog 77 = some Value.nilFunc := by kernel_rfl
@[simp] theorem shp78 : shp Try.prog 78 = some false := by kernel_rfl
@[simp] theorem szO78 : szO Try.prog 78 = some 1 := by kernel_rfl
@[simp] theorem byO78 : byO Try.prog 78 = some 8 := by kernel_rfl
@[simp] theorem zrO78 : zrO Try.prog 78 = some Value.nilFunc := by kernel_rfl
@[simp] theorem shp79 : shp Try.prog 79 = some false := by kernel_rfl
@[simp] theorem szO79 : szO Try.prog 79 = some 1 := by kernel_rfl
@[simp] theorem byO79 : byO Try.prog 79 = some 8 := by kernel_rfl
@[simp] theorem zrO79 : zrO Try.prog 79 = some Value.nilFunc := by kernel_rfl
@[simp] theorem shp80 : shp Try.prog 80 = some false := by kernel_rfl
@[simp] theorem szO80 : szO Try.prog 80 = some 1 := by kernel_rfl
@[simp] theorem byO80 : byO Try.prog 80 = some 8 := by kernel_rfl
@[simp] theorem zrO80 : zrO Try.prog 80 = some Value.nilFunc := by kernel_rfl
@[simp] theorem shp81 : shp Try.prog 81 = some false := by kernel_rfl
@[simp] theorem szO81 : szO Try.prog 81 = some 1 := by kernel_rfl
@[simp] theorem byO81 : byO Try.prog 81 = some 8 := by kernel_rfl
@[simp] theorem zrO81 : zrO Try.prog 81 = some Value.nilFunc := by kernel_rfl
@[simp] theorem shp82 : shp Try.prog 82 = some false := by kernel_rfl
@[simp] theorem szO82 : szO Try.prog 82 = some 1 := by kernel_rfl
@[simp] theorem byO82 : byO Try.prog 82 = some 8 := by kernel_rfl
@[simp] theorem zrO82 : zrO Try.prog 82 = some Value.nilFunc := by kernel_rfl
@[simp] theorem lf83 : lf Try.prog 83 = some 0 := by kernel_rfl
@[simp] theorem shp83 : shp Try.prog 83 = some false := by kernel_rfl
@[simp] theorem szO83 : szO Try.prog 83 = some 1 := by kernel_rfl
@[simp] theorem knd83 : knd Try.prog 83 = some .u64 := by kernel_rfl
@[simp] theorem byO83 : byO Try.prog 83 = some 8 := by kernel_rfl
@[simp] theorem zrO83 : zrO Try.prog 83 = some (Value.int .u64 0) := by kernel_rfl
@[simp] theorem shp84 : shp Try.prog 84 = some false := by kernel_rfl
@[simp] theorem szO84 : szO Try.prog 84 = some 1 := by kernel_rfl
@[simp] theorem byO84 : byO Try.prog 84 = some 0 := by kernel_rfl
@[simp] theorem shp85 : shp Try.prog 85 = some false := by kernel_rfl
@[simp] theorem szO85 : szO Try.prog 85 = some 1 := by kernel_rfl
@[simp] theorem byO85 : byO Try.prog 85 = some 8 := by kernel_rfl
@[simp] theorem zrO85 : zrO Try.prog 85 = some Value.nilFunc := by kernel_rfl
@[simp] theorem shp86 : shp Try.prog 86 = some false := by kernel_rfl
@[simp] theorem szO86 : szO Try.prog 86 = some 1 := by kernel_rfl
@[simp] theorem byO86 : byO Try.prog 86 = some 8 := by kernel_rfl
@[simp] theorem zrO86 : zrO Try.prog 86 = some Value.nilFunc := by kernel_rfl
@[simp] theorem shp87 : shp Try.prog 87 = some false := by kernel_rfl
@[simp] theorem szO87 : szO Try.prog 87 = some 1 := by kernel_rfl
@[simp] theorem byO87 : byO Try.prog 87 = some 8 := by kernel_rfl
@[simp] theorem zrO87 : zrO Try.prog 87 = some Value.nilFunc := by kernel_rfl
@[simp] theorem shp88 : shp Try.prog 88 = some false := by kernel_rfl
@[simp] theorem szO88 : szO Try.prog 88 = some 1 := by kernel_rfl
@[simp] theorem byO88 : byO Try.prog 88 = some 8 := by kernel_rfl
@[simp] theorem zrO88 : zrO Try.prog 88 = some Value.nilFunc := by kernel_rfl
@[simp] theorem eqFs89 : eqFs Try.prog 89 = some [(0, 3), (1, 4)] := by kernel_rfl
@[simp] theorem eqGd89 : eqGd Try.prog 89 = true := by kernel_rfl
@[simp] theorem shp89 : shp Try.prog 89 = some true := by kernel_rfl
@[simp] theorem szO89 : szO Try.prog 89 = some 2 := by kernel_rfl
@[simp] theorem fld0_89 : fld Try.prog 89 0 = some (0, 3) := by kernel_rfl
@[simp] theorem fld1_89 : fld Try.prog 89 1 = some (1, 4) := by kernel_rfl
@[simp] theorem stF89 : stF Try.prog 89 = some [(0, 1), (1, 1)] := by kernel_rfl
@[simp] theorem byO89 : byO Try.prog 89 = some 16 := by kernel_rfl
@[simp] theorem zrO89 : zrO Try.prog 89 = some (Value.agg #[.int .i64 0, .bool false]) := by kernel_rfl
@[simp] theorem eqFs90 : eqFs Try.prog 90 = some [(0, 3), (1, 4)] := by kernel_rfl
@[simp] theorem eqGd90 : eqGd Try.prog 90 = true := by kernel_rfl
@[simp] theorem shp90 : shp Try.prog 90 = some true := by kernel_rfl
@[simp] theorem szO90 : szO Try.prog 90 = some 2 := by kernel_rfl
@[simp] theorem fld0_90 : fld Try.prog 90 0 = some (0, 3) := by kernel_rfl
@[simp] theorem fld1_90 : fld Try.prog 90 1 = some (1, 4) := by kernel_rfl
@[simp] theorem stF90 : stF Try.prog 90 = some [(0, 1), (1, 1)] := by kernel_rfl
@[simp] theorem byO90 : byO Try.prog 90 = some 16 := by kernel_rfl
@[simp] theorem zrO90 : zrO Try.prog 90 = some (Value.agg #[.int .i64 0, .bool false]) := by kernel_rfl
@[simp] theorem shp91 : shp Try.prog 91 = some false := by kernel_rfl
@[simp] theorem szO91 : szO Try.prog 91 = some 1 := by kernel_rfl
@[simp] theorem byO91 : byO Try.prog 91 = some 8 := by kernel_rfl
@[simp] theorem zrO91 : zrO Try.prog 91 = some Value.nilFunc := by kernel_rfl
@[simp] theorem shp92 : shp Try.prog 92 = some false := by kernel_rfl
@[simp] theorem szO92 : szO Try.prog 92 = some 1 := by kernel_rfl
@[simp] theorem byO92 : byO Try.prog 92 = some 8 := by kernel_rfl
@[simp] theorem zrO92 : zrO Try.prog 92 = some Value.nilFunc := by kernel_rfl
@[simp] theorem eqFs93 : eqFs Try.prog 93 = some [(0, 3), (1, 3)] := by kernel_rfl
@[simp] theorem eqGd93 : eqGd Try.prog 93 = true := by kernel_rfl
@[simp] theorem shp93 : shp Try.prog 93 = some true := by kernel_rfl
@[simp] theorem szO93 : szO Try.prog 93 = some 2 := by kernel_rfl
@[simp] theorem fld0_93 : fld Try.prog 93 0 = some (0, 3) := by kernel_rfl
@[simp] theorem fld1_93 : fld Try.prog 93 1 = some (1, 3) := by kernel_rfl
@[simp] theorem stF93 : stF Try.prog 93 = some [(0, 1), (1, 1)] := by kernel_rfl
@[simp] theorem byO93 : byO Try.prog 93 = some 16 := by kernel_rfl
@[simp] theorem zrO93 : zrO Try.prog 93 = some (Value.agg #[.int .i64 0, .int .i64 0]) := by kernel_rfl
@[simp] theorem eqFs94 : eqFs Try.prog 94 = some [(0, 3), (1, 3)] := by kernel_rfl
@[simp] theorem eqGd94 : eqGd Try.prog 94 = true := by kernel_rfl
@[simp] theorem shp94 : shp Try.prog 94 = some true := by kernel_rfl
@[simp] theorem szO94 : szO Try.prog 94 = some 2 := by kernel_rfl
@[simp] theorem fld0_94 : fld Try.prog 94 0 = some (0, 3) := by kernel_rfl
@[simp] theorem fld1_94 : fld Try.prog 94 1 = some (1, 3) := by kernel_rfl
@[simp] theorem stF94 : stF Try.prog 94 = some [(0, 1), (1, 1)] := by kernel_rfl
@[simp] theorem byO94 : byO Try.prog 94 = some 16 := by kernel_rfl
@[simp] theorem zrO94 : zrO Try.prog 94 = some (Value.agg #[.int .i64 0, .int .i64 0]) := by kernel_rfl
@[simp] theorem shp95 : shp Try.prog 95 = some false := by kernel_rfl
@[simp] theorem szO95 : szO Try.prog 95 = some 1 := by kernel_rfl
@[simp] theorem byO95 : byO Try.prog 95 = some 8 := by kernel_rfl
@[simp] theorem zrO95 : zrO Try.prog 95 = some Value.nilFunc := by kernel_rfl
@[simp] theorem shp96 : shp Try.prog 96 = some false := by kernel_rfl
@[simp] theorem szO96 : szO Try.prog 96 = some 1 := by kernel_rfl
@[simp] theorem byO96 : byO Try.prog 96 = some 8 := by kernel_rfl
@[simp] theorem zrO96 : zrO Try.prog 96 = some Value.nilFunc := by kernel_rfl
@[simp] theorem shp97 : shp Try.prog 97 = some false := by kernel_rfl
@[simp] theorem szO97 : szO Try.prog 97 = some 1 := by kernel_rfl
@[simp] theorem byO97 : byO Try.prog 97 = some 8 := by kernel_rfl
@[simp] theorem zrO97 : zrO Try.prog 97 = some Value.nilFunc := by kernel_rfl
@[simp] theorem shp98 : shp Try.prog 98 = some false := by kernel_rfl
@[simp] theorem szO98 : szO Try.prog 98 = some 1 := by kernel_rfl
@[simp] theorem byO98 : byO Try.prog 98 = some 8 := by kernel_rfl
@[simp] theorem zrO98 : zrO Try.prog 98 = some (Value.pointer none) := by kernel_rfl
@[simp] theorem shp99 : shp Try.prog 99 = some false := by kernel_rfl
@[simp] theorem szO99 : szO Try.prog 99 = some 1 := by kernel_rfl
@[simp] theorem byO99 : byO Try.prog 99 = some 8 := by kernel_rfl
@[simp] theorem zrO99 : zrO Try.prog 99 = some Value.nilFunc := by kernel_rfl
@[simp] theorem shp100 : shp Try.prog 100 = some false := by kernel_rfl
@[simp] theorem szO100 : szO Try.prog 100 = some 1 := by kernel_rfl
@[simp] theorem byO100 : byO Try.prog 100 = some 8 := by kernel_rfl
@[simp] theorem zrO100 : zrO Try.prog 100 = some Value.nilFunc := by kernel_rfl
@[simp] theorem shp101 : shp Try.prog 101 = some false := by kernel_rfl
@[simp] theorem szO101 : szO Try.prog 101 = some 1 := by kernel_rfl
@[simp] theorem byO101 : byO Try.prog 101 = some 0 := by kernel_rfl
@[simp] theorem shp102 : shp Try.prog 102 = some false := by kernel_rfl
@[simp] theorem szO102 : szO Try.prog 102 = some 1 := by kernel_rfl
@[simp] theorem byO102 : byO Try.prog 102 = some 8 := by kernel_rfl
@[simp] theorem zrO102 : zrO Try.prog 102 = some Value.nilFunc := by kernel_rfl
@[simp] theorem eqFs103 : eqFs Try.prog 103 = some [(0, 3), (1, 3), (2, 3), (3, 3), (4, 3)] := by kernel_rfl
@[simp] theorem eqGd103 : eqGd Try.prog 103 = true := by kernel_rfl
@[simp] theorem shp103 : shp Try.prog 103 = some true := by kernel_rfl
@[simp] theorem szO103 : szO Try.prog 103 = some 5 := by kernel_rfl
@[simp] theorem fld0_103 : fld Try.prog 103 0 = some (0, 3) := by kernel_rfl
@[simp] theorem fld1_103 : fld Try.prog 103 1 = some (1, 3) := by kernel_rfl
@[simp] theorem fld2_103 : fld Try.prog 103 2 = some (2, 3) := by kernel_rfl
@[simp] theorem fld3_103 : fld Try.prog 103 3 = some (3, 3) := by kernel_rfl
@[simp] theorem fld4_103 : fld Try.prog 103 4 = some (4, 3) := by kernel_rfl
@[simp] theorem stF103 : stF Try.prog 103 = some [(0, 1), (1, 1), (2, 1), (3, 1), (4, 1)] := by kernel_rfl
@[simp] theorem byO103 : byO Try.prog 103 = some 40 := by kernel_rfl
@[simp] theorem zrO103 : zrO Try.prog 103 = some (Value.agg #[.int .i64 0, .int .i64 0, .int .i64 0, .int .i64 0, .int .i64 0]) := by kernel_rfl
@[simp] theorem eqFs104 : eqFs Try.prog 104 = some [(0, 3), (1, 3), (2, 3), (3, 3), (4, 3)] := by kernel_rfl
@[simp] theorem eqGd104 : eqGd Try.prog 104 = true := by kernel_rfl
@[simp] theorem shp104 : shp Try.prog 104 = some true := by kernel_rfl
@[simp] theorem szO104 : szO Try.prog 104 = some 5 := by kernel_rfl
@[simp] theorem fld0_104 : fld Try.prog 104 0 = some (0, 3) := by kernel_rfl
@[simp] theorem fld1_104 : fld Try.prog 104 1 = some (1, 3) := by kernel_rfl
@[simp] theorem fld2_104 : fld Try.prog 104 2 = some (2, 3) := by kernel_rfl
@[simp] theorem fld3_104 : fld Try.prog 104 3 = some (3, 3) := by kernel_rfl
@[simp] theorem fld4_104 : fld Try.prog 104 4 = some (4, 3) := by kernel_rfl
@[simp] theorem stF104 : stF Try.prog 104 = some [(0, 1), (1, 1), (2, 1), (3, 1), (4, 1)] := by kernel_rfl
@[simp] theorem byO104 : byO Try.prog 104 = some 40 := by kernel_rfl
@[simp] theorem zrO104 : zrO Try.prog 104 = some (Value.agg #[.int .i64 0, .int .i64 0, .int .i64 0, .int .i64 0, .int .i64 0]) := by kernel_rfl
@[simp] theorem shp105 : shp Try.prog 105 = some false := by kernel_rfl
@[simp] theorem szO105 : szO Try.prog 105 = some 1 := by kernel_rfl
@[simp] theorem byO105 : byO Try.prog 105 = some 8 := by kernel_rfl
@[simp] theorem zrO105 : zrO Try.prog 105 = some Value.nilFunc := by kernel_rfl
@[simp] theorem shp106 : shp Try.prog 106 = some false := by kernel_rfl
@[simp] theorem szO106 : szO Try.prog 106 = some 1 := by kernel_rfl
@[simp] theorem byO106 : byO Try.prog 106 = some 8 := by kernel_rfl
@[simp] theorem zrO106 : zrO Try.prog 106 = some Value.nilFunc := by kernel_rfl
@[simp] theorem shp107 : shp Try.prog 107 = some false := by kernel_rfl
@[simp] theorem szO107 : szO Try.prog 107 = some 1 := by kernel_rfl
@[simp] theorem byO107 : byO Try.prog 107 = some 8 := by kernel_rfl
@[simp] theorem zrO107 : zrO Try.prog 107 = some Value.nilFunc := by kernel_rfl
@[simp] theorem shp108 : shp Try.prog 108 = some false := by kernel_rfl
@[simp] theorem szO108 : szO Try.prog 108 = some 1 := by kernel_rfl
@[simp] theorem byO108 : byO Try.prog 108 = some 8 := by kernel_rfl
@[simp] theorem zrO108 : zrO Try.prog 108 = some Value.nilFunc := by kernel_rfl
@[simp] theorem shp109 : shp Try.prog 109 = some false := by kernel_rfl
@[simp] theorem szO109 : szO Try.prog 109 = some 1 := by kernel_rfl
@[simp] theorem byO109 : byO Try.prog 109 = some 8 := by kernel_rfl
@[simp] theorem zrO109 : zrO Try.prog 109 = some Value.nilFunc := by kernel_rfl
@[simp] theorem shp110 : shp Try.prog 110 = some false := by kernel_rfl
@[simp] theorem szO110 : szO Try.prog 110 = some 1 := by kernel_rfl
@[simp] theorem byO110 : byO Try.prog 110 = some 8 := by kernel_rfl
@[simp] theorem zrO110 : zrO Try.prog 110 = some Value.nilFunc := by kernel_rfl
@[simp] theorem shp111 : shp Try.prog 111 = some false := by kernel_rfl
@[simp] theorem szO111 : szO Try.prog 111 = some 1 := by kernel_rfl
@[simp] theorem byO111 : byO Try.prog 111 = some 8 := by kernel_rfl
@[simp] theorem zrO111 : zrO Try.prog 111 = some Value.nilFunc := by kernel_rfl
@[simp] theorem shp112 : shp Try.prog 112 = some false := by kernel_rfl
@[simp] theorem szO112 : szO Try.prog 112 = some 1 := by kernel_rfl
@[simp] theorem byO112 : byO Try.prog 112 = some 8 := by kernel_rfl
@[simp] theorem zrO112 : zrO Try.prog 112 = some Value.nilFunc := by kernel_rfl
@[simp] theorem shp113 : shp Try.prog 113 = some false := by kernel_rfl
@[simp] theorem szO113 : szO Try.prog 113 = some 1 := by kernel_rfl
@[simp] theorem byO113 : byO Try.prog 113 = some 8 := by kernel_rfl
@[simp] theorem zrO113 : zrO Try.prog 113 = some Value.nilFunc := by kernel_rfl
@[simp] theorem shp114 : shp Try.prog 114 = some false := by kernel_rfl
@[simp] theorem szO114 : szO Try.prog 114 = some 1 := by kernel_rfl
@[simp] theorem byO114 : byO Try.prog 114 = some 8 := by kernel_rfl
@[simp] theorem zrO114 : zrO Try.prog 114 = some Value.nilFunc := by kernel_rfl
@[simp] theorem shp115 : shp Try.prog 115 = some false := by kernel_rfl
@[simp] theorem szO115 : szO Try.prog 115 = some 1 := by kernel_rfl
@[simp] theorem byO115 : byO Try.prog 115 = some 8 := by kernel_rfl
@[simp] theorem zrO115 : zrO Try.prog 115 = some Value.nilFunc := by kernel_rfl
@[simp] theorem shp116 : shp Try.prog 116 = some false := by kernel_rfl
@[simp] theorem szO116 : szO Try.prog 116 = some 1 := by kernel_rfl
@[simp] theorem byO116 : byO Try.prog 116 = some 8 := by kernel_rfl
@[simp] theorem zrO116 : zrO Try.prog 116 = some Value.nilFunc := by kernel_rfl
@[simp] theorem shp117 : shp Try.prog 117 = some false := by kernel_rfl
@[simp] theorem szO117 : szO Try.prog 117 = some 1 := by kernel_rfl
@[simp] theorem byO117 : byO Try.prog 117 = some 8 := by kernel_rfl
@[simp] theorem zrO117 : zrO Try.prog 117 = some Value.nilFunc := by kernel_rfl
@[simp] theorem shp118 : shp Try.prog 118 = some false := by kernel_rfl
@[simp] theorem szO118 : szO Try.prog 118 = some 1 := by kernel_rfl
@[simp] theorem byO118 : byO Try.prog 118 = some 8 := by kernel_rfl
@[simp] theorem zrO118 : zrO Try.prog 118 = some Value.nilFunc := by kernel_rfl
@[simp] theorem shp119 : shp Try.prog 119 = some false := by kernel_rfl
@[simp] theorem szO119 : szO Try.prog 119 = some 1 := by kernel_rfl
@[simp] theorem byO119 : byO Try.prog 119 = some 8 := by kernel_rfl
@[simp] theorem zrO119 : zrO Try.prog 119 = some Value.nilFunc := by kernel_rfl
@[simp] theorem lf120 : lf Try.prog 120 = some 0 := by kernel_rfl
@[simp] theorem shp120 : shp Try.prog 120 = some false := by kernel_rfl
@[simp] theorem szO120 : szO Try.prog 120 = some 1 := by kernel_rfl
@[simp] theorem knd120 : knd Try.prog 120 = some .i64 := by kernel_rfl
@[simp] theorem byO120 : byO Try.prog 120 = some 8 := by kernel_rfl
@[simp] theorem zrO120 : zrO Try.prog 120 = some (Value.int .i64 0) := by kernel_rfl
@[simp] theorem shp121 : shp Try.prog 121 = some false := by kernel_rfl
@[simp] theorem szO121 : szO Try.prog 121 = some 1 := by kernel_rfl
@[simp] theorem byO121 : byO Try.prog 121 = some 0 := by kernel_rfl
@[simp] theorem shp122 : shp Try.prog 122 = some false := by kernel_rfl
@[simp] theorem szO122 : szO Try.prog 122 = some 1 := by kernel_rfl
@[simp] theorem byO122 : byO Try.prog 122 = some 8 := by kernel_rfl
@[simp] theorem zrO122 : zrO Try.prog 122 = some Value.nilFunc := by kernel_rfl
@[simp] theorem shp123 : shp Try.prog 123 = some false := by kernel_rfl
@[simp] theorem szO123 : szO Try.prog 123 = some 1 := by kernel_rfl
@[simp] theorem byO123 : byO Try.prog 123 = some 8 := by kernel_rfl
@[simp] theorem zrO123 : zrO Try.prog 123 = some Value.nilFunc := by kernel_rfl
@[simp] theorem shp124 : shp Try.prog 124 = some false := by kernel_rfl
@[simp] theorem szO124 : szO Try.prog 124 = some 1 := by kernel_rfl
@[simp] theorem byO124 : byO Try.prog 124 = some 8 := by kernel_rfl
@[simp] theorem zrO124 : zrO Try.prog 124 = some Value.nilFunc := by kernel_rfl
@[simp] theorem shp125 : shp Try.prog 125 = some false := by kernel_rfl
@[simp] theorem szO125 : szO Try.prog 125 = some 1 := by kernel_rfl
@[simp] theorem byO125 : byO Try.prog 125 = some 8 := by kernel_rfl
@[simp] theorem zrO125 : zrO Try.prog 125 = some Value.nilFunc := by kernel_rfl
@[simp] theorem shp126 : shp Try.prog 126 = some false := by kernel_rfl
@[simp] theorem szO126 : szO Try.prog 126 = some 1 := by kernel_rfl
@[simp] theorem byO126 : byO Try.prog 126 = some 8 := by kernel_rfl
@[simp] theorem zrO126 : zrO Try.prog 126 = some Value.nilFunc := by kernel_rfl
@[simp] theorem lf127 : lf Try.prog 127 = some 0 := by kernel_rfl
@[simp] theorem shp127 : shp Try.prog 127 = some false := by kernel_rfl
@[simp] theorem szO127 : szO Try.prog 127 = some 1 := by kernel_rfl
@[simp] theorem knd127 : knd Try.prog 127 = some .u32 := by kernel_rfl
@[simp] theorem byO127 : byO Try.prog 127 = some 4 := by kernel_rfl
@[simp] theorem zrO127 : zrO Try.prog 127 = some (Value.int .u32 0) := by kernel_rfl
@[simp] theorem shp128 : shp Try.prog 128 = some false := by kernel_rfl
@[simp] theorem szO128 : szO Try.prog 128 = some 1 := by kernel_rfl
@[simp] theorem byO128 : byO Try.prog 128 = some 8 := by kernel_rfl
@[simp] theorem zrO128 : zrO Try.prog 128 = some Value.nilFunc := by kernel_rfl
@[simp] theorem shp129 : shp Try.prog 129 = some false := by kernel_rfl
@[simp] theorem szO129 : szO Try.prog 129 = some 1 := by kernel_rfl
@[simp] theorem byO129 : byO Try.prog 129 = some 8 := by kernel_rfl
@[simp] theorem zrO129 : zrO Try.prog 129 = some Value.nilFunc := by kernel_rfl
@[simp] theorem shp130 : shp Try.prog 130 = some false := by kernel_rfl
@[simp] theorem szO130 : szO Try.prog 130 = some 1 := by kernel_rfl
@[simp] theorem byO130 : byO Try.prog 130 = some 8 := by kernel_rfl
@[simp] theorem zrO130 : zrO Try.prog 130 = some Value.nilFunc := by kernel_rfl
@[simp] theorem shp131 : shp Try.prog 131 = some false := by kernel_rfl
@[simp] theorem szO131 : szO Try.prog 131 = some 1 := by kernel_rfl
@[simp] theorem byO131 : byO Try.prog 131 = some 8 := by kernel_rfl
@[simp] theorem zrO131 : zrO Try.prog 131 = some Value.nilFunc := by kernel_rfl
@[simp] theorem shp132 : shp Try.prog 132 = some false := by kernel_rfl
@[simp] theorem szO132 : szO Try.prog 132 = some 1 := by kernel_rfl
@[simp] theorem byO132 : byO Try.prog 132 = some 8 := by kernel_rfl
@[simp] theorem zrO132 : zrO Try.prog 132 = some Value.nilFunc := by kernel_rfl
@[simp] theorem lf133 : lf Try.prog 133 = some 0 := by kernel_rfl
@[simp] theorem shp133 : shp Try.prog 133 = some false := by kernel_rfl
@[simp] theorem szO133 : szO Try.prog 133 = some 1 := by kernel_rfl
@[simp] theorem knd133 : knd Try.prog 133 = some .u64 := by kernel_rfl
@[simp] theorem byO133 : byO Try.prog 133 = some 8 := by kernel_rfl
@[simp] theorem zrO133 : zrO Try.prog 133 = some (Value.int .u64 0) := by kernel_rfl
@[simp] theorem shp134 : shp Try.prog 134 = some false := by kernel_rfl
@[simp] theorem szO134 : szO Try.prog 134 = some 1 := by kernel_rfl
@[simp] theorem byO134 : byO Try.prog 134 = some 8 := by kernel_rfl
@[simp] theorem zrO134 : zrO Try.prog 134 = some Value.nilFunc := by kernel_rfl
@[simp] theorem shp135 : shp Try.prog 135 = some false := by kernel_rfl
@[simp] theorem szO135 : szO Try.prog 135 = some 1 := by kernel_rfl
@[simp] theorem byO135 : byO Try.prog 135 = some 8 := by kernel_rfl
@[simp] theorem zrO135 : zrO Try.prog 135 = some Value.nilFunc := by kernel_rfl
@[simp] theorem shp136 : shp Try.prog 136 = some false := by kernel_rfl
@[simp] theorem szO136 : szO Try.prog 136 = some 1 := by kernel_rfl
@[simp] theorem byO136 : byO Try.prog 136 = some 8 := by kernel_rfl
@[simp] theorem zrO136 : zrO Try.prog 136 = some Value.nilFunc := by kernel_rfl
@[simp] theorem shp137 : shp Try.prog 137 = some false := by kernel_rfl
@[simp] theorem szO137 : szO Try.prog 137 = some 1 := by kernel_rfl
@[simp] theorem byO137 : byO Try.prog 137 = some 8 := by kernel_rfl
@[simp] theorem zrO137 : zrO Try.prog 137 = some (Value.pointer none) := by kernel_rfl
@[simp] theorem shp138 : shp Try.prog 138 = some false := by kernel_rfl
@[simp] theorem szO138 : szO Try.prog 138 = some 1 := by kernel_rfl
@[simp] theorem byO138 : byO Try.prog 138 = some 8 := by kernel_rfl
@[simp] theorem zrO138 : zrO Try.prog 138 = some Value.nilFunc := by kernel_rfl
@[simp] theorem shp139 : shp Try.prog 139 = some false := by kernel_rfl
@[simp] theorem szO139 : szO Try.prog 139 = some 1 := by kernel_rfl
@[simp] theorem byO139 : byO Try.prog 139 = some 8 := by kernel_rfl
@[simp] theorem zrO139 : zrO Try.prog 139 = some (Value.pointer none) := by kernel_rfl
@[simp] theorem shp140 : shp Try.prog 140 = some false := by kernel_rfl
@[simp] theorem szO140 : szO Try.prog 140 = some 1 := by kernel_rfl
@[simp] theorem byO140 : byO Try.prog 140 = some 0 := by kernel_rfl
@[simp] theorem shp141 : shp Try.prog 141 = some false := by kernel_rfl
@[simp] theorem szO141 : szO Try.prog 141 = some 1 := by kernel_rfl
@[simp] theorem byO141 : byO Try.prog 141 = some 8 := by kernel_rfl
@[simp] theorem zrO141 : zrO Try.prog 141 = some Value.nilFunc := by kernel_rfl
@[simp] theorem shp142 : shp Try.prog 142 = some false := by kernel_rfl
@[simp] theorem szO142 : szO Try.prog 142 = some 1 := by kernel_rfl
@[simp] theorem byO142 : byO Try.prog 142 = some 8 := by kernel_rfl
@[simp] theorem zrO142 : zrO Try.prog 142 = some Value.nilFunc := by kernel_rfl
@[simp] theorem shp143 : shp Try.prog 143 = some true := by kernel_rfl
@[simp] theorem szO143 : szO Try.prog 143 = some 4 := by kernel_rfl
@[simp] theorem fld0_143 : fld Try.prog 143 0 = some (0, 17) := by kernel_rfl
@[simp] theorem fld1_143 : fld Try.prog 143 1 = some (1, 17) := by kernel_rfl
@[simp] theorem fld2_143 : fld Try.prog 143 2 = some (2, 17) := by kernel_rfl
@[simp] theorem fld3_143 : fld Try.prog 143 3 = some (3, 9) := by kernel_rfl
@[simp] theorem stF143 : stF Try.prog 143 = some [(0, 1), (1, 1), (2, 1), (3, 1)] := by kernel_rfl
@[simp] theorem byO143 : byO Try.prog 143 = some 40 := by kernel_rfl
@[simp] theorem zrO143 : zrO Try.prog 143 = some (Value.agg #[.pointer none, .pointer none, .pointer none, .string ⟨#[]⟩]) := by kernel_rfl
@[simp] theorem shp144 : shp Try.prog 144 = some true := by kernel_rfl
@[simp] theorem szO144 : szO Try.prog 144 = some 4 := by kernel_rfl
@[simp] theorem fld0_144 : fld Try.prog 144 0 = some (0, 17) := by kernel_rfl
@[simp] theorem fld1_144 : fld Try.prog 144 1 = some (1, 17) := by kernel_rfl
@[simp] theorem fld2_144 : fld Try.prog 144 2 = some (2, 17) := by kernel_rfl
@[simp] theorem fld3_144 : fld Try.prog 144 3 = some (3, 9) := by kernel_rfl
@[simp] theorem stF144 : stF Try.prog 144 = some [(0, 1), (1, 1), (2, 1), (3, 1)] := by kernel_rfl
@[simp] theorem byO144 : byO Try.prog 144 = some 40 := by kernel_rfl
@[simp] theorem zrO144 : zrO Try.prog 144 = some (Value.agg #[.pointer none, .pointer none, .pointer none, .string ⟨#[]⟩]) := by kernel_rfl
@[simp] theorem shp145 : shp Try.prog 145 = some true := by kernel_rfl
@[simp] theorem szO145 : szO Try.prog 145 = some 0 := by kernel_rfl
@[simp] theorem arE145 : arE Try.prog 145 = some (0, 16) := by kernel_rfl
@[simp] theorem stF145 : stF Try.prog 145 = none := by kernel_rfl
@[simp] theorem arF145 : arF Try.prog 145 = some 1 := by kernel_rfl
@[simp] theorem byO145 : byO Try.prog 145 = some 0 := by kernel_rfl
@[simp] theorem zrO145 : zrO Try.prog 145 = some (Value.agg #[]) := by kernel_rfl
@[simp] theorem shp146 : shp Try.prog 146 = some true := by kernel_rfl
@[simp] theorem szO146 : szO Try.prog 146 = some 0 := by kernel_rfl
@[simp] theorem fld0_146 : fld Try.prog 146 0 = some (0, 145) := by kernel_rfl
@[simp] theorem stF146 : stF Try.prog 146 = some [(0, 0)] := by kernel_rfl
@[simp] theorem byO146 : byO Try.prog 146 = some 0 := by kernel_rfl
@[simp] theorem zrO146 : zrO Try.prog 146 = some (Value.agg #[]) := by kernel_rfl
@[simp] theorem shp147 : shp Try.prog 147 = some true := by kernel_rfl
@[simp] theorem szO147 : szO Try.prog 147 = some 0 := by kernel_rfl
@[simp] theorem fld0_147 : fld Try.prog 147 0 = some (0, 145) := by kernel_rfl
@[simp] theorem stF147 : stF Try.prog 147 = some [(0, 0)] := by kernel_rfl
@[simp] theorem byO147 : byO Try.prog 147 = some 0 := by kernel_rfl
@[simp] theorem zrO147 : zrO Try.prog 147 = some (Value.agg #[]) := by kernel_rfl
@[simp] theorem lf148 : lf Try.prog 148 = some 0 := by kernel_rfl
@[simp] theorem u8K148 : u8K Try.prog 148 = true := by kernel_rfl
@[simp] theorem shp148 : shp Try.prog 148 = some false := by kernel_rfl
@[simp] theorem szO148 : szO Try.prog 148 = some 1 := by kernel_rfl
@[simp] theorem knd148 : knd Try.prog 148 = some .u8 := by kernel_rfl
@[simp] theorem byO148 : byO Try.prog 148 = some 1 := by kernel_rfl
@[simp] theorem zrO148 : zrO Try.prog 148 = some (Value.int .u8 0) := by kernel_rfl
@[simp] theorem lf149 : lf Try.prog 149 = some 0 := by kernel_rfl
@[simp] theorem u8K149 : u8K Try.prog 149 = true := by kernel_rfl
@[simp] theorem shp149 : shp Try.prog 149 = some false := by kernel_rfl
@[simp] theorem szO149 : szO Try.prog 149 = some 1 := by kernel_rfl
@[simp] theorem knd149 : knd Try.prog 149 = some .u8 := by kernel_rfl
@[simp] theorem byO149 : byO Try.prog 149 = some 1 := by kernel_rfl
@[simp] theorem zrO149 : zrO Try.prog 149 = some (Value.int .u8 0) := by kernel_rfl
@[simp] theorem shp150 : shp Try.prog 150 = some false := by kernel_rfl
@[simp] theorem szO150 : szO Try.prog 150 = some 1 := by kernel_rfl
@[simp] theorem byO150 : byO Try.prog 150 = some 8 := by kernel_rfl
@[simp] theorem zrO150 : zrO Try.prog 150 = some Value.nilFunc := by kernel_rfl
@[simp] theorem shp151 : shp Try.prog 151 = some false := by kernel_rfl
@[simp] theorem szO151 : szO Try.prog 151 = some 1 := by kernel_rfl
@[simp] theorem byO151 : byO Try.prog 151 = some 8 := by kernel_rfl
@[simp] theorem zrO151 : zrO Try.prog 151 = some (Value.pointer none) := by kernel_rfl
@[simp] theorem lf152 : lf Try.prog 152 = some 0 := by kernel_rfl
@[simp] theorem shp152 : shp Try.prog 152 = some false := by kernel_rfl
@[simp] theorem szO152 : szO Try.prog 152 = some 1 := by kernel_rfl
@[simp] theorem knd152 : knd Try.prog 152 = some .i32 := by kernel_rfl
@[simp] theorem byO152 : byO Try.prog 152 = some 4 := by kernel_rfl
@[simp] theorem zrO152 : zrO Try.prog 152 = some (Value.int .i32 0) := by kernel_rfl
@[simp] theorem lf153 : lf Try.prog 153 = some 0 := by kernel_rfl
@[simp] theorem shp153 : shp Try.prog 153 = some false := by kernel_rfl
@[simp] theorem szO153 : szO Try.prog 153 = some 1 := by kernel_rfl
@[simp] theorem knd153 : knd Try.prog 153 = some .i32 := by kernel_rfl
@[simp] theorem byO153 : byO Try.prog 153 = some 4 := by kernel_rfl
@[simp] theorem zrO153 : zrO Try.prog 153 = some (Value.int .i32 0) := by kernel_rfl
@[simp] theorem shp154 : shp Try.prog 154 = some true := by kernel_rfl
@[simp] theorem szO154 : szO Try.prog 154 = some 11 := by kernel_rfl
@[simp] theorem fld0_154 : fld Try.prog 154 0 = some (0, 12) := by kernel_rfl
@[simp] theorem fld1_154 : fld Try.prog 154 1 = some (1, 12) := by kernel_rfl
@[simp] theorem fld2_154 : fld Try.prog 154 2 = some (2, 127) := by kernel_rfl
@[simp] theorem fld3_154 : fld Try.prog 154 3 = some (3, 148) := by kernel_rfl
@[simp] theorem fld4_154 : fld Try.prog 154 4 = some (4, 5) := by kernel_rfl
@[simp] theorem fld5_154 : fld Try.prog 154 5 = some (5, 5) := by kernel_rfl
@[simp] theorem fld6_154 : fld Try.prog 154 6 = some (6, 149) := by kernel_rfl
@[simp] theorem fld7_154 : fld Try.prog 154 7 = some (7, 150) := by kernel_rfl
@[simp] theorem fld8_154 : fld Try.prog 154 8 = some (8, 151) := by kernel_rfl
@[simp] theorem fld9_154 : fld Try.prog 154 9 = some (9, 152) := by kernel_rfl
@[simp] theorem fld10_154 : fld Try.prog 154 10 = some (10, 153) := by kernel_rfl
@[simp] theorem stF154 : stF Try.prog 154 = some [(0, 1), (1, 1), (2, 1), (3, 1), (4, 1), (5, 1), (6, 1), (7, 1), (8, 1), (9, 1), (10, 1)] := by kernel_rfl
@[simp] theorem byO154 : byO Try.prog 154 = some 48 := by kernel_rfl
@[simp] theorem zrO154 : zrO Try.prog 154 = some (Value.agg #[.int .u64 0, .int .u64 0, .int .u32 0, .int .u8 0, .int .u8 0, .int .u8 0, .int .u8 0, .nilFunc, .pointer none, .int .i32 0, .int .i32 0]) := by kernel_rfl
@[simp] theorem shp155 : shp Try.prog 155 = some true := by kernel_rfl
@[simp] theorem szO155 : szO Try.prog 155 = some 11 := by kernel_rfl
@[simp] theorem fld0_155 : fld Try.prog 155 0 = some (0, 12) := by kernel_rfl
@[simp] theorem fld1_155 : fld Try.prog 155 1 = some (1, 12) := by kernel_rfl
@[simp] theorem fld2_155 : fld Try.prog 155 2 = some (2, 127) := by kernel_rfl
@[simp] theorem fld3_155 : fld Try.prog 155 3 = some (3, 148) := by kernel_rfl
@[simp] theorem fld4_155 : fld Try.prog 155 4 = some (4, 5) := by kernel_rfl
@[simp] theorem fld5_155 : fld Try.prog 155 5 = some (5, 5) := by kernel_rfl
@[simp] theorem fld6_155 : fld Try.prog 155 6 = some (6, 149) := by kernel_rfl
@[simp] theorem fld7_155 : fld Try.prog 155 7 = some (7, 150) := by kernel_rfl
@[simp] theorem fld8_155 : fld Try.prog 155 8 = some (8, 151) := by kernel_rfl
@[simp] theorem fld9_155 : fld Try.prog 155 9 = some (9, 152) := by kernel_rfl
@[simp] theorem fld10_155 : fld Try.prog 155 10 = some (10, 153) := by kernel_rfl
@[simp] theorem stF155 : stF Try.prog 155 = some [(0, 1), (1, 1), (2, 1), (3, 1), (4, 1), (5, 1), (6, 1), (7, 1), (8, 1), (9, 1), (10, 1)] := by kernel_rfl
@[simp] theorem byO155 : byO Try.prog 155 = some 48 := by kernel_rfl
@[simp] theorem zrO155 : zrO Try.prog 155 = some (Value.agg #[.int .u64 0, .int .u64 0, .int .u32 0, .int .u8 0, .int .u8 0, .int .u8 0, .int .u8 0, .nilFunc, .pointer none, .int .i32 0, .int .i32 0]) := by kernel_rfl
@[simp] theorem shp156 : shp Try.prog 156 = some false := by kernel_rfl
@[simp] theorem szO156 : szO Try.prog 156 = some 1 := by kernel_rfl
@[simp] theorem byO156 : byO Try.prog 156 = some 8 := by kernel_rfl
@[simp] theorem zrO156 : zrO Try.prog 156 = some (Value.pointer none) := by kernel_rfl
@[simp] theorem fnOK2 : fnOK Try.prog 2 = true := by kernel_rfl
@[simp] theorem fnOK3 : fnOK Try.prog 3 = true := by kernel_rfl
@[simp] theorem fnOK4 : fnOK Try.prog 4 = true := by kernel_rfl
@[simp] theorem fnOK5 : fnOK Try.prog 5 = true := by kernel_rfl
@[simp] theorem fnOK6 : fnOK Try.prog 6 = true := by kernel_rfl
@[simp] theorem fnOK7 : fnOK Try.prog 7 = true := by kernel_rfl
@[simp] theorem fnOK8 : fnOK Try.prog 8 = true := by kernel_rfl
@[simp] theorem fnOK9 : fnOK Try.prog 9 = true := by kernel_rfl
@[simp] theorem fnOK10 : fnOK Try.prog 10 = true := by kernel_rfl
@[simp] theorem fnOK11 : fnOK Try.prog 11 = true := by kernel_rfl
@[simp] theorem fnOK12 : fnOK Try.prog 12 = true := by kernel_rfl
@[simp] theorem fnOK13 : fnOK Try.prog 13 = true := by kernel_rfl
@[simp] theorem fnOK14 : fnOK Try.prog 14 = true := by kernel_rfl
@[simp] theorem fnOK15 : fnOK Try.prog 15 = true := by kernel_rfl
@[simp] theorem fnOK16 : fnOK Try.prog 16 = true := by kernel_rfl
@[simp] theorem fnOK17 : fnOK Try.prog 17 = true := by kernel_rfl
@[simp] theorem fnOK18 : fnOK Try.prog 18 = true := by kernel_rfl
@[simp] theorem fnOK19 : fnOK Try.prog 19 = true := by kernel_rfl
@[simp] theorem fnOK20 : fnOK Try.prog 20 = true := by kernel_rfl
@[simp] theorem fnOK21 : fnOK Try.prog 21 = true := by kernel_rfl
@[simp] theorem fnOK22 : fnOK Try.prog 22 = true := by kernel_rfl
@[simp] theorem fnOK23 : fnOK Try.prog 23 = true := by kernel_rfl
@[simp] theorem fnOK24 : fnOK Try.prog 24 = true := by kernel_rfl
@[simp] theorem fnOK25 : fnOK Try.prog 25 = true := by kernel_rfl
@[simp] theorem fnOK26 : fnOK Try.prog 26 = true := by kernel_rfl
@[simp] theorem fnOK27 : fnOK Try.prog 27 = true := by kernel_rfl
@[simp] theorem fnOK28 : fnOK Try.prog 28 = true := by kernel_rfl
@[simp] theorem fnOK29 : fnOK Try.prog 29 = true := by kernel_rfl
@[simp] theorem fnOK30 : fnOK Try.prog 30 = true := by kernel_rfl
@[simp] theorem fnOK31 : fnOK Try.prog 31 = true := by kernel_rfl
@[simp] theorem fnOK32 : fnOK Try.prog 32 = true := by kernel_rfl
@[simp] theorem fnOK33 : fnOK Try.prog 33 = true := by kernel_rfl
@[simp] theorem fnOK34 : fnOK Try.prog 34 = true := by kernel_rfl
@[simp] theorem fnOK35 : fnOK Try.prog 35 = true := by kernel_rfl
@[simp] theorem fnOK36 : fnOK Try.prog 36 = true := by kernel_rfl
@[simp] theorem fnOK37 : fnOK Try.prog 37 = true := by kernel_rfl
@[simp] theorem fnOK38 : fnOK Try.prog 38 = true := by kernel_rfl
@[simp] theorem fnOK39 : fnOK Try.prog 39 = true := by kernel_rfl
@[simp] theorem fnOK40 : fnOK Try.prog 40 = true := by kernel_rfl
@[simp] theorem fnOK41 : fnOK Try.prog 41 = true := by kernel_rfl
@[simp] theorem fnOK42 : fnOK Try.prog 42 = true := by kernel_rfl
@[simp] theorem fnOK43 : fnOK Try.prog 43 = true := by kernel_rfl
@[simp] theorem fnOK44 : fnOK Try.prog 44 = true := by kernel_rfl
@[simp] theorem fnOK45 : fnOK Try.prog 45 = true := by kernel_rfl
@[simp] theorem fnOK46 : fnOK Try.prog 46 = true := by kernel_rfl
@[simp] theorem fnOK47 : fnOK Try.prog 47 = true := by kernel_rfl
@[simp] theorem fnOK48 : fnOK Try.prog 48 = true := by kernel_rfl
@[simp] theorem fnOK49 : fnOK Try.prog 49 = true := by kernel_rfl
@[simp] theorem fnOK50 : fnOK Try.prog 50 = true := by kernel_rfl
@[simp] theorem fnOK51 : fnOK Try.prog 51 = true := by kernel_rfl
@[simp] theorem fnOK52 : fnOK Try.prog 52 = true := by kernel_rfl
@[simp] theorem fnOK53 : fnOK Try.prog 53 = true := by kernel_rfl
@[simp] theorem fnOK54 : fnOK Try.prog 54 = true := by kernel_rfl
@[simp] theorem fnOK55 : fnOK Try.prog 55 = true := by kernel_rfl
@[simp] theorem fnOK56 : fnOK Try.prog 56 = true := by kernel_rfl
@[simp] theorem fnOK57 : fnOK Try.prog 57 = true := by kernel_rfl
@[simp] theorem fnOK58 : fnOK Try.prog 58 = true := by kernel_rfl
@[simp] theorem fnOK59 : fnOK Try.prog 59 = true := by kernel_rfl
@[simp] theorem fnOK60 : fnOK Try.prog 60 = true := by kernel_rfl
@[simp] theorem fnOK61 : fnOK Try.prog 61 = true := by kernel_rfl
@[simp] theorem fnOK62 : fnOK Try.prog 62 = true := by kernel_rfl
@[simp] theorem fnOK63 : fnOK Try.prog 63 = true := by kernel_rfl
@[simp] theorem fnOK64 : fnOK Try.prog 64 = true := by kernel_rfl
@[simp] theorem fnOK65 : fnOK Try.prog 65 = true := by kernel_rfl
@[simp] theorem fnOK66 : fnOK Try.prog 66 = true := by kernel_rfl
@[simp] theorem fnOK67 : fnOK Try.prog 67 = true := by kernel_rfl
@[simp] theorem fnOK68 : fnOK Try.prog 68 = true := by kernel_rfl
@[simp] theorem fnOK69 : fnOK Try.prog 69 = true := by kernel_rfl
@[simp] theorem fnOK70 : fnOK Try.prog 70 = true := by kernel_rfl
@[simp] theorem fnOK71 : fnOK Try.prog 71 = true := by kernel_rfl
@[simp] theorem fnOK72 : fnOK Try.prog 72 = true := by kernel_rfl
@[simp] theorem fnOK73 : fnOK Try.prog 73 = true := by kernel_rfl
@[simp] theorem fnOK74 : fnOK Try.prog 74 = true := by kernel_rfl
@[simp] theorem fnOK75 : fnOK Try.prog 75 = true := by kernel_rfl
@[simp] theorem fnOK76 : fnOK Try.prog 76 = true := by kernel_rfl
@[simp] theorem fnOK77 : fnOK Try.prog 77 = true := by kernel_rfl
@[simp] theorem fnOK78 : fnOK Try.prog 78 = true := by kernel_rfl
@[simp] theorem fnOK79 : fnOK Try.prog 79 = true := by kernel_rfl
@[simp] theorem fnOK80 : fnOK Try.prog 80 = true := by kernel_rfl
@[simp] theorem fnOK81 : fnOK Try.prog 81 = true := by kernel_rfl
@[simp] theorem fnOK82 : fnOK Try.prog 82 = true := by kernel_rfl
@[simp] theorem fnOK83 : fnOK Try.prog 83 = true := by kernel_rfl
@[simp] theorem fnOK84 : fnOK Try.prog 84 = true := by kernel_rfl
@[simp] theorem fnOK85 : fnOK Try.prog 85 = true := by kernel_rfl
@[simp] theorem fnOK86 : fnOK Try.prog 86 = true := by kernel_rfl
@[simp] theorem fnOK87 : fnOK Try.prog 87 = true := by kernel_rfl
@[simp] theorem fnOK88 : fnOK Try.prog 88 = true := by kernel_rfl
@[simp] theorem fnOK89 : fnOK Try.prog 89 = true := by kernel_rfl
@[simp] theorem fnOK90 : fnOK Try.prog 90 = true := by kernel_rfl
@[simp] theorem fnOK91 : fnOK Try.prog 91 = true := by kernel_rfl
@[simp] theorem fnOK92 : fnOK Try.prog 92 = true := by kernel_rfl
@[simp] theorem fnOK93 : fnOK Try.prog 93 = true := by kernel_rfl
@[simp] theorem fnOK94 : fnOK Try.prog 94 = true := by kernel_rfl
@[simp] theorem fnOK95 : fnOK Try.prog 95 = true := by kernel_rfl
@[simp] theorem fnOK96 : fnOK Try.prog 96 = true := by kernel_rfl
@[simp] theorem fnOK97 : fnOK Try.prog 97 = true := by kernel_rfl
@[simp] theorem fnOK98 : fnOK Try.prog 98 = true := by kernel_rfl
@[simp] theorem fnOK99 : fnOK Try.prog 99 = true := by kernel_rfl
@[simp] theorem fnOK100 : fnOK Try.prog 100 = true := by kernel_rfl
@[simp] theorem fnOK101 : fnOK Try.prog 101 = true := by kernel_rfl
@[simp] theorem fnOK102 : fnOK Try.prog 102 = true := by kernel_rfl
@[simp] theorem fnOK103 : fnOK Try.prog 103 = true := by kernel_rfl
@[simp] theorem fnOK104 : fnOK Try.prog 104 = true := by kernel_rfl
@[simp] theorem fnOK105 : fnOK Try.prog 105 = true := by kernel_rfl
@[simp] theorem fnOK106 : fnOK Try.prog 106 = true := by kernel_rfl
@[simp] theorem fnOK107 : fnOK Try.prog 107 = true := by kernel_rfl
@[simp] theorem fnOK108 : fnOK Try.prog 108 = true := by kernel_rfl
@[simp] theorem fnOK109 : fnOK Try.prog 109 = true := by kernel_rfl
@[simp] theorem fnOK110 : fnOK Try.prog 110 = true := by kernel_rfl
@[simp] theorem fnOK111 : fnOK Try.prog 111 = true := by kernel_rfl
@[simp] theorem fnOK112 : fnOK Try.prog 112 = true := by kernel_rfl
@[simp] theorem fnOK113 : fnOK Try.prog 113 = true := by kernel_rfl
@[simp] theorem fnOK114 : fnOK Try.prog 114 = true := by kernel_rfl
@[simp] theorem fnOK115 : fnOK Try.prog 115 = true := by kernel_rfl
@[simp] theorem fnOK116 : fnOK Try.prog 116 = true := by kernel_rfl
@[simp] theorem fnOK117 : fnOK Try.prog 117 = true := by kernel_rfl
@[simp] theorem fnOK118 : fnOK Try.prog 118 = true := by kernel_rfl
@[simp] theorem mixed : Try.prog.follows .mixedOrders = true := by kernel_rfl
end Go.Proofs
