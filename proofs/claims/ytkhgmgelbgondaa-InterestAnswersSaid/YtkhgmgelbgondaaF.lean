/-
  Facts about the translated program: sizes, types, functions; each by evaluation in the kernel. No condition.
-/
import Derived.Test.YtkhgmgelbgondaaT24
import Derived.KernelRfl
import Derived.Test.YtkhgmgelbgondaaChecked
namespace Go.Proofs
open Go Go.Tr
@[simp] theorem shp0 : shp Try.prog 0 = some false := by kernel_rfl
@[simp] theorem szO0 : szO Try.prog 0 = some 1 := by kernel_rfl
@[simp] theorem byO0 : byO Try.prog 0 = some 0 := by kernel_rfl
@[simp] theorem shp1 : shp Try.prog 1 = some false := by kernel_rfl
@[simp] theorem szO1 : szO Try.prog 1 = some 1 := by kernel_rfl
@[simp] theorem byO1 : byO Try.prog 1 = some 8 := by kernel_rfl
@[simp] theorem zrO1 : zrO Try.prog 1 = some Value.nilFunc := by kernel_rfl
@[simp] theorem lf2 : lf Try.prog 2 = some 0 := by kernel_rfl
@[simp] theorem shp2 : shp Try.prog 2 = some false := by kernel_rfl
@[simp] theorem szO2 : szO Try.prog 2 = some 1 := by kernel_rfl
@[simp] theorem knd2 : knd Try.prog 2 = some .i64 := by kernel_rfl
@[simp] theorem byO2 : byO Try.prog 2 = some 8 := by kernel_rfl
@[simp] theorem zrO2 : zrO Try.prog 2 = some (Value.int .i64 0) := by kernel_rfl
@[simp] theorem lf3 : lf Try.prog 3 = some 0 := by kernel_rfl
@[simp] theorem shp3 : shp Try.prog 3 = some false := by kernel_rfl
@[simp] theorem szO3 : szO Try.prog 3 = some 1 := by kernel_rfl
@[simp] theorem knd3 : knd Try.prog 3 = some .i64 := by kernel_rfl
@[simp] theorem byO3 : byO Try.prog 3 = some 8 := by kernel_rfl
@[simp] theorem zrO3 : zrO Try.prog 3 = some (Value.int .i64 0) := by kernel_rfl
@[simp] theorem lf4 : lf Try.prog 4 = some 1 := by kernel_rfl
@[simp] theorem shp4 : shp Try.prog 4 = some false := by kernel_rfl
@[simp] theorem szO4 : szO Try.prog 4 = some 1 := by kernel_rfl
@[simp] theorem und4 : Try.prog.underlying 4 = some .bool := by kernel_rfl
@[simp] theorem byO4 : byO Try.prog 4 = some 1 := by kernel_rfl
@[simp] theorem zrO4 : zrO Try.prog 4 = some (Value.bool false) := by kernel_rfl
@[simp] theorem lf5 : lf Try.prog 5 = some 0 := by kernel_rfl
@[simp] theorem u8K5 : u8K Try.prog 5 = true := by kernel_rfl
@[simp] theorem shp5 : shp Try.prog 5 = some false := by kernel_rfl
@[simp] theorem szO5 : szO Try.prog 5 = some 1 := by kernel_rfl
@[simp] theorem knd5 : knd Try.prog 5 = some .u8 := by kernel_rfl
@[simp] theorem byO5 : byO Try.prog 5 = some 1 := by kernel_rfl
@[simp] theorem zrO5 : zrO Try.prog 5 = some (Value.int .u8 0) := by kernel_rfl
@[simp] theorem lf6 : lf Try.prog 6 = some 0 := by kernel_rfl
@[simp] theorem u8K6 : u8K Try.prog 6 = true := by kernel_rfl
@[simp] theorem shp6 : shp Try.prog 6 = some false := by kernel_rfl
@[simp] theorem szO6 : szO Try.prog 6 = some 1 := by kernel_rfl
@[simp] theorem knd6 : knd Try.prog 6 = some .u8 := by kernel_rfl
@[simp] theorem byO6 : byO Try.prog 6 = some 1 := by kernel_rfl
@[simp] theorem zrO6 : zrO Try.prog 6 = some (Value.int .u8 0) := by kernel_rfl
@[simp] theorem eqFs7 : eqFs Try.prog 7 = some [(0, 2), (1, 3), (2, 4), (3, 6)] := by kernel_rfl
@[simp] theorem eqGd7 : eqGd Try.prog 7 = true := by kernel_rfl
@[simp] theorem shp7 : shp Try.prog 7 = some true := by kernel_rfl
@[simp] theorem szO7 : szO Try.prog 7 = some 4 := by kernel_rfl
@[simp] theorem fld0_7 : fld Try.prog 7 0 = some (0, 2) := by kernel_rfl
@[simp] theorem fld1_7 : fld Try.prog 7 1 = some (1, 3) := by kernel_rfl
@[simp] theorem fld2_7 : fld Try.prog 7 2 = some (2, 4) := by kernel_rfl
@[simp] theorem fld3_7 : fld Try.prog 7 3 = some (3, 6) := by kernel_rfl
@[simp] theorem stF7 : stF Try.prog 7 = some [(0, 1), (1, 1), (2, 1), (3, 1)] := by kernel_rfl
@[simp] theorem byO7 : byO Try.prog 7 = some 24 := by kernel_rfl
@[simp] theorem zrO7 : zrO Try.prog 7 = some (Value.agg #[.int .i64 0, .int .i64 0, .bool false, .int .u8 0]) := by kernel_rfl
@[simp] theorem eqFs8 : eqFs Try.prog 8 = some [(0, 2), (1, 3), (2, 4), (3, 6)] := by kernel_rfl
@[simp] theorem eqGd8 : eqGd Try.prog 8 = true := by kernel_rfl
@[simp] theorem shp8 : shp Try.prog 8 = some true := by kernel_rfl
@[simp] theorem szO8 : szO Try.prog 8 = some 4 := by kernel_rfl
@[simp] theorem fld0_8 : fld Try.prog 8 0 = some (0, 2) := by kernel_rfl
@[simp] theorem fld1_8 : fld Try.prog 8 1 = some (1, 3) := by kernel_rfl
@[simp] theorem fld2_8 : fld Try.prog 8 2 = some (2, 4) := by kernel_rfl
@[simp] theorem fld3_8 : fld Try.prog 8 3 = some (3, 6) := by kernel_rfl
@[simp] theorem stF8 : stF Try.prog 8 = some [(0, 1), (1, 1), (2, 1), (3, 1)] := by kernel_rfl
@[simp] theorem byO8 : byO Try.prog 8 = some 24 := by kernel_rfl
@[simp] theorem zrO8 : zrO Try.prog 8 = some (Value.agg #[.int .i64 0, .int .i64 0, .bool false, .int .u8 0]) := by kernel_rfl
@[simp] theorem lf9 : lf Try.prog 9 = some 2 := by kernel_rfl
@[simp] theorem shp9 : shp Try.prog 9 = some false := by kernel_rfl
@[simp] theorem szO9 : szO Try.prog 9 = some 1 := by kernel_rfl
@[simp] theorem isStr9 : isStr Try.prog 9 = true := by kernel_rfl
@[simp] theorem byO9 : byO Try.prog 9 = some 16 := by kernel_rfl
@[simp] theorem zrO9 : zrO Try.prog 9 = some (Value.string ⟨#[]⟩) := by kernel_rfl
@[simp] theorem lf10 : lf Try.prog 10 = some 2 := by kernel_rfl
@[simp] theorem shp10 : shp Try.prog 10 = some false := by kernel_rfl
@[simp] theorem szO10 : szO Try.prog 10 = some 1 := by kernel_rfl
@[simp] theorem isStr10 : isStr Try.prog 10 = true := by kernel_rfl
@[simp] theorem byO10 : byO Try.prog 10 = some 16 := by kernel_rfl
@[simp] theorem zrO10 : zrO Try.prog 10 = some (Value.string ⟨#[]⟩) := by kernel_rfl
@[simp] theorem lf11 : lf Try.prog 11 = some 2 := by kernel_rfl
@[simp] theorem shp11 : shp Try.prog 11 = some false := by kernel_rfl
@[simp] theorem szO11 : szO Try.prog 11 = some 1 := by kernel_rfl
@[simp] theorem isStr11 : isStr Try.prog 11 = true := by kernel_rfl
@[simp] theorem byO11 : byO Try.prog 11 = some 16 := by kernel_rfl
@[simp] theorem zrO11 : zrO Try.prog 11 = some (Value.string ⟨#[]⟩) := by kernel_rfl
@[simp] theorem lf12 : lf Try.prog 12 = some 0 := by kernel_rfl
@[simp] theorem shp12 : shp Try.prog 12 = some false := by kernel_rfl
@[simp] theorem szO12 : szO Try.prog 12 = some 1 := by kernel_rfl
@[simp] theorem knd12 : knd Try.prog 12 = some .u64 := by kernel_rfl
@[simp] theorem byO12 : byO Try.prog 12 = some 8 := by kernel_rfl
@[simp] theorem zrO12 : zrO Try.prog 12 = some (Value.int .u64 0) := by kernel_rfl
@[simp] theorem shp13 : shp Try.prog 13 = some true := by kernel_rfl
@[simp] theorem szO13 : szO Try.prog 13 = some 2 := by kernel_rfl
@[simp] theorem fld0_13 : fld Try.prog 13 0 = some (0, 9) := by kernel_rfl
@[simp] theorem fld1_13 : fld Try.prog 13 1 = some (1, 12) := by kernel_rfl
@[simp] theorem stF13 : stF Try.prog 13 = some [(0, 1), (1, 1)] := by kernel_rfl
@[simp] theorem byO13 : byO Try.prog 13 = some 24 := by kernel_rfl
@[simp] theorem zrO13 : zrO Try.prog 13 = some (Value.agg #[.string ⟨#[]⟩, .int .u64 0]) := by kernel_rfl
@[simp] theorem shp14 : shp Try.prog 14 = some true := by kernel_rfl
@[simp] theorem szO14 : szO Try.prog 14 = some 2 := by kernel_rfl
@[simp] theorem fld0_14 : fld Try.prog 14 0 = some (0, 9) := by kernel_rfl
@[simp] theorem fld1_14 : fld Try.prog 14 1 = some (1, 12) := by kernel_rfl
@[simp] theorem stF14 : stF Try.prog 14 = some [(0, 1), (1, 1)] := by kernel_rfl
@[simp] theorem byO14 : byO Try.prog 14 = some 24 := by kernel_rfl
@[simp] theorem zrO14 : zrO Try.prog 14 = some (Value.agg #[.string ⟨#[]⟩, .int .u64 0]) := by kernel_rfl
@[simp] theorem shp15 : shp Try.prog 15 = some false := by kernel_rfl
@[simp] theorem szO15 : szO Try.prog 15 = some 1 := by kernel_rfl
@[simp] theorem byO15 : byO Try.prog 15 = some 8 := by kernel_rfl
@[simp] theorem zrO15 : zrO Try.prog 15 = some (Value.pointer none) := by kernel_rfl
@[simp] theorem shp16 : shp Try.prog 16 = some false := by kernel_rfl
@[simp] theorem szO16 : szO Try.prog 16 = some 1 := by kernel_rfl
@[simp] theorem byO16 : byO Try.prog 16 = some 8 := by kernel_rfl
@[simp] theorem zrO16 : zrO Try.prog 16 = some (Value.pointer none) := by kernel_rfl
@[simp] theorem shp17 : shp Try.prog 17 = some false := by kernel_rfl
@[simp] theorem szO17 : szO Try.prog 17 = some 1 := by kernel_rfl
@[simp] theorem byO17 : byO Try.prog 17 = some 8 := by kernel_rfl
@[simp] theorem zrO17 : zrO Try.prog 17 = some (Value.pointer none) := by kernel_rfl
@[simp] theorem shp18 : shp Try.prog 18 = some true := by kernel_rfl
@[simp] theorem szO18 : szO Try.prog 18 = some 1 := by kernel_rfl
@[simp] theorem fld0_18 : fld Try.prog 18 0 = some (0, 17) := by kernel_rfl
@[simp] theorem stF18 : stF Try.prog 18 = some [(0, 1)] := by kernel_rfl
@[simp] theorem byO18 : byO Try.prog 18 = some 8 := by kernel_rfl
@[simp] theorem zrO18 : zrO Try.prog 18 = some (Value.agg #[.pointer none]) := by kernel_rfl
@[simp] theorem shp19 : shp Try.prog 19 = some true := by kernel_rfl
@[simp] theorem szO19 : szO Try.prog 19 = some 1 := by kernel_rfl
@[simp] theorem fld0_19 : fld Try.prog 19 0 = some (0, 17) := by kernel_rfl
@[simp] theorem stF19 : stF Try.prog 19 = some [(0, 1)] := by kernel_rfl
@[simp] theorem byO19 : byO Try.prog 19 = some 8 := by kernel_rfl
@[simp] theorem zrO19 : zrO Try.prog 19 = some (Value.agg #[.pointer none]) := by kernel_rfl
@[simp] theorem shp20 : shp Try.prog 20 = some false := by kernel_rfl
@[simp] theorem szO20 : szO Try.prog 20 = some 1 := by kernel_rfl
@[simp] theorem byO20 : byO Try.prog 20 = some 16 := by kernel_rfl
@[simp] theorem zrO20 : zrO Try.prog 20 = some Value.nilIface := by kernel_rfl
@[simp] theorem lf21 : lf Try.prog 21 = some 0 := by kernel_rfl
@[simp] theorem shp21 : shp Try.prog 21 = some false := by kernel_rfl
@[simp] theorem szO21 : szO Try.prog 21 = some 1 := by kernel_rfl
@[simp] theorem knd21 : knd Try.prog 21 = some .i32 := by kernel_rfl
@[simp] theorem byO21 : byO Try.prog 21 = some 4 := by kernel_rfl
@[simp] theorem zrO21 : zrO Try.prog 21 = some (Value.int .i32 0) := by kernel_rfl
@[simp] theorem shp22 : shp Try.prog 22 = some false := by kernel_rfl
@[simp] theorem szO22 : szO Try.prog 22 = some 1 := by kernel_rfl
@[simp] theorem slE22 : slE Try.prog 22 = some 3 := by kernel_rfl
@[simp] theorem und22 : Try.prog.underlying 22 = some (TypeDesc.slice 3) := by kernel_rfl
@[simp] theorem byO22 : byO Try.prog 22 = some 24 := by kernel_rfl
@[simp] theorem zrO22 : zrO Try.prog 22 = some (Value.slice none 0 0) := by kernel_rfl
@[simp] theorem shp23 : shp Try.prog 23 = some false := by kernel_rfl
@[simp] theorem szO23 : szO Try.prog 23 = some 1 := by kernel_rfl
@[simp] theorem byO23 : byO Try.prog 23 = some 8 := by kernel_rfl
@[simp] theorem zrO23 : zrO Try.prog 23 = some (Value.pointer none) := by kernel_rfl
@[simp] theorem shp24 : shp Try.prog 24 = some false := by kernel_rfl
@[simp] theorem szO24 : szO Try.prog 24 = some 1 := by kernel_rfl
@[simp] theorem byO24 : byO Try.prog 24 = some 8 := by kernel_rfl
@[simp] theorem zrO24 : zrO Try.prog 24 = some Value.nilFunc := by kernel_rfl
@[simp] theorem shp25 : shp Try.prog 25 = some false := by kernel_rfl
@[simp] theorem szO25 : szO Try.prog 25 = some 1 := by kernel_rfl
@[simp] theorem slE25 : slE Try.prog 25 = some 39 := by kernel_rfl
@[simp] theorem und25 : Try.prog.underlying 25 = some (TypeDesc.slice 39) := by kernel_rfl
@[simp] theorem byO25 : byO Try.prog 25 = some 24 := by kernel_rfl
@[simp] theorem zrO25 : zrO Try.prog 25 = some (Value.slice none 0 0) := by kernel_rfl
@[simp] theorem eqFs26 : eqFs Try.prog 26 = some [(0, 3), (1, 25)] := by kernel_rfl
@[simp] theorem eqGd26 : eqGd Try.prog 26 = true := by kernel_rfl
@[simp] theorem shp26 : shp Try.prog 26 = some true := by kernel_rfl
@[simp] theorem szO26 : szO Try.prog 26 = some 2 := by kernel_rfl
@[simp] theorem fld0_26 : fld Try.prog 26 0 = some (0, 3) := by kernel_rfl
@[simp] theorem fld1_26 : fld Try.prog 26 1 = some (1, 25) := by kernel_rfl
@[simp] theorem stF26 : stF Try.prog 26 = some [(0, 1), (1, 1)] := by kernel_rfl
@[simp] theorem byO26 : byO Try.prog 26 = some 32 := by kernel_rfl
@[simp] theorem zrO26 : zrO Try.prog 26 = some (Value.agg #[.int .i64 0, .slice none 0 0]) := by kernel_rfl
@[simp] theorem eqFs27 : eqFs Try.prog 27 = some [(0, 3), (1, 25)] := by kernel_rfl
@[simp] theorem eqGd27 : eqGd Try.prog 27 = true := by kernel_rfl
@[simp] theorem shp27 : shp Try.prog 27 = some true := by kernel_rfl
@[simp] theorem szO27 : szO Try.prog 27 = some 2 := by kernel_rfl
@[simp] theorem fld0_27 : fld Try.prog 27 0 = some (0, 3) := by kernel_rfl
@[simp] theorem fld1_27 : fld Try.prog 27 1 = some (1, 25) := by kernel_rfl
@[simp] theorem stF27 : stF Try.prog 27 = some [(0, 1), (1, 1)] := by kernel_rfl
@[simp] theorem byO27 : byO Try.prog 27 = some 32 := by kernel_rfl
@[simp] theorem zrO27 : zrO Try.prog 27 = some (Value.agg #[.int .i64 0, .slice none 0 0]) := by kernel_rfl
@[simp] theorem shp28 : shp Try.prog 28 = some false := by kernel_rfl
@[simp] theorem szO28 : szO Try.prog 28 = some 1 := by kernel_rfl
@[simp] theorem byO28 : byO Try.prog 28 = some 8 := by kernel_rfl
@[simp] theorem zrO28 : zrO Try.prog 28 = some Value.nilFunc := by kernel_rfl
@[simp] theorem shp29 : shp Try.prog 29 = some false := by kernel_rfl
@[simp] theorem szO29 : szO Try.prog 29 = some 1 := by kernel_rfl
@[simp] theorem slE29 : slE Try.prog 29 = some 53 := by kernel_rfl
@[simp] theorem und29 : Try.prog.underlying 29 = some (TypeDesc.slice 53) := by kernel_rfl
@[simp] theorem byO29 : byO Try.prog 29 = some 24 := by kernel_rfl
@[simp] theorem zrO29 : zrO Try.prog 29 = some (Value.slice none 0 0) := by kernel_rfl
@[simp] theorem lf30 : lf Try.prog 30 = some 0 := by kernel_rfl
@[simp] theorem shp30 : shp Try.prog 30 = some false := by kernel_rfl
@[simp] theorem szO30 : szO Try.prog 30 = some 1 := by kernel_rfl
@[simp] theorem knd30 : knd Try.prog 30 = some .i64 := by kernel_rfl
@[simp] theorem byO30 : byO Try.prog 30 = some 8 := by kernel_rfl
@[simp] theorem zrO30 : zrO Try.prog 30 = some (Value.int .i64 0) := by kernel_rfl
@[simp] theorem shp31 : shp Try.prog 31 = some false := by kernel_rfl
@[simp] theorem szO31 : szO Try.prog 31 = some 1 := by kernel_rfl
@[simp] theorem byO31 : byO Try.prog 31 = some 0 := by kernel_rfl
@[simp] theorem shp32 : shp Try.prog 32 = some false := by kernel_rfl
@[simp] theorem szO32 : szO Try.prog 32 = some 1 := by kernel_rfl
@[simp] theorem byO32 : byO Try.prog 32 = some 8 := by kernel_rfl
@[simp] theorem zrO32 : zrO Try.prog 32 = some Value.nilFunc := by kernel_rfl
@[simp] theorem shp33 : shp Try.prog 33 = some false := by kernel_rfl
@[simp] theorem szO33 : szO Try.prog 33 = some 1 := by kernel_rfl
@[simp] theorem byO33 : byO Try.prog 33 = some 8 := by kernel_rfl
@[simp] theorem zrO33 : zrO Try.prog 33 = some Value.nilFunc := by kernel_rfl
@[simp] theorem eqFs34 : eqFs Try.prog 34 = some [(0, 3), (1, 3)] := by kernel_rfl
@[simp] theorem eqGd34 : eqGd Try.prog 34 = true := by kernel_rfl
@[simp] theorem shp34 : shp Try.prog 34 = some true := by kernel_rfl
@[simp] theorem szO34 : szO Try.prog 34 = some 2 := by kernel_rfl
@[simp] theorem fld0_34 : fld Try.prog 34 0 = some (0, 3) := by kernel_rfl
@[simp] theorem fld1_34 : fld Try.prog 34 1 = some (1, 3) := by kernel_rfl
@[simp] theorem stF34 : stF Try.prog 34 = some [(0, 1), (1, 1)] := by kernel_rfl
@[simp] theorem byO34 : byO Try.prog 34 = some 16 := by kernel_rfl
@[simp] theorem zrO34 : zrO Try.prog 34 = some (Value.agg #[.int .i64 0, .int .i64 0]) := by kernel_rfl
@[simp] theorem eqFs35 : eqFs Try.prog 35 = some [(0, 3), (1, 3)] := by kernel_rfl
@[simp] theorem eqGd35 : eqGd Try.prog 35 = true := by kernel_rfl
@[simp] theorem shp35 : shp Try.prog 35 = some true := by kernel_rfl
@[simp] theorem szO35 : szO Try.prog 35 = some 2 := by kernel_rfl
@[simp] theorem fld0_35 : fld Try.prog 35 0 = some (0, 3) := by kernel_rfl
@[simp] theorem fld1_35 : fld Try.prog 35 1 = some (1, 3) := by kernel_rfl
@[simp] theorem stF35 : stF Try.prog 35 = some [(0, 1), (1, 1)] := by kernel_rfl
@[simp] theorem byO35 : byO Try.prog 35 = some 16 := by kernel_rfl
@[simp] theorem zrO35 : zrO Try.prog 35 = some (Value.agg #[.int .i64 0, .int .i64 0]) := by kernel_rfl
@[simp] theorem eqFs36 : eqFs Try.prog 36 = some [(0, 3), (1, 22)] := by kernel_rfl
@[simp] theorem eqGd36 : eqGd Try.prog 36 = true := by kernel_rfl
@[simp] theorem shp36 : shp Try.prog 36 = some true := by kernel_rfl
@[simp] theorem szO36 : szO Try.prog 36 = some 2 := by kernel_rfl
@[simp] theorem fld0_36 : fld Try.prog 36 0 = some (0, 3) := by kernel_rfl
@[simp] theorem fld1_36 : fld Try.prog 36 1 = some (1, 22) := by kernel_rfl
@[simp] theorem stF36 : stF Try.prog 36 = some [(0, 1), (1, 1)] := by kernel_rfl
@[simp] theorem byO36 : byO Try.prog 36 = some 32 := by kernel_rfl
@[simp] theorem zrO36 : zrO Try.prog 36 = some (Value.agg #[.int .i64 0, .slice none 0 0]) := by kernel_rfl
@[simp] theorem eqFs37 : eqFs Try.prog 37 = some [(0, 3), (1, 22)] := by kernel_rfl
@[simp] theorem eqGd37 : eqGd Try.prog 37 = true := by kernel_rfl
@[simp] theorem shp37 : shp Try.prog 37 = some true := by kernel_rfl
@[simp] theorem szO37 : szO Try.prog 37 = some 2 := by kernel_rfl
@[simp] theorem fld0_37 : fld Try.prog 37 0 = some (0, 3) := by kernel_rfl
@[simp] theorem fld1_37 : fld Try.prog 37 1 = some (1, 22) := by kernel_rfl
@[simp] theorem stF37 : stF Try.prog 37 = some [(0, 1), (1, 1)] := by kernel_rfl
@[simp] theorem byO37 : byO Try.prog 37 = some 32 := by kernel_rfl
@[simp] theorem zrO37 : zrO Try.prog 37 = some (Value.agg #[.int .i64 0, .slice none 0 0]) := by kernel_rfl
@[simp] theorem eqFs38 : eqFs Try.prog 38 = some [(0, 3), (1, 3), (2, 37), (4, 3)] := by kernel_rfl
@[simp] theorem eqGd38 : eqGd Try.prog 38 = true := by kernel_rfl
@[simp] theorem shp38 : shp Try.prog 38 = some true := by kernel_rfl
@[simp] theorem szO38 : szO Try.prog 38 = some 5 := by kernel_rfl
@[simp] theorem fld0_38 : fld Try.prog 38 0 = some (0, 3) := by kernel_rfl
@[simp] theorem fld1_38 : fld Try.prog 38 1 = some (1, 3) := by kernel_rfl
@[simp] theorem fld2_38 : fld Try.prog 38 2 = some (2, 37) := by kernel_rfl
@[simp] theorem fld3_38 : fld Try.prog 38 3 = some (4, 3) := by kernel_rfl
@[simp] theorem stF38 : stF Try.prog 38 = some [(0, 1), (1, 1), (2, 2), (4, 1)] := by kernel_rfl
@[simp] theorem byO38 : byO Try.prog 38 = some 56 := by kernel_rfl
@[simp] theorem zrO38 : zrO Try.prog 38 = some (Value.agg #[.int .i64 0, .int .i64 0, .int .i64 0, .slice none 0 0, .int .i64 0]) := by kernel_rfl
@[simp] theorem eqFs39 : eqFs Try.prog 39 = some [(0, 3), (1, 3), (2, 37), (4, 3)] := by kernel_rfl
@[simp] theorem eqGd39 : eqGd Try.prog 39 = true := by kernel_rfl
@[simp] theorem shp39 : shp Try.prog 39 = some true := by kernel_rfl
@[simp] theorem szO39 : szO Try.prog 39 = some 5 := by kernel_rfl
@[simp] theorem fld0_39 : fld Try.prog 39 0 = some (0, 3) := by kernel_rfl
@[simp] theorem fld1_39 : fld Try.prog 39 1 = some (1, 3) := by kernel_rfl
@[simp] theorem fld2_39 : fld Try.prog 39 2 = some (2, 37) := by kernel_rfl
@[simp] theorem fld3_39 : fld Try.prog 39 3 = some (4, 3) := by kernel_rfl
@[simp] theorem stF39 : stF Try.prog 39 = some [(0, 1), (1, 1), (2, 2), (4, 1)] := by kernel_rfl
@[simp] theorem byO39 : byO Try.prog 39 = some 56 := by kernel_rfl
@[simp] theorem zrO39 : zrO Try.prog 39 = some (Value.agg #[.int .i64 0, .int .i64 0, .int .i64 0, .slice none 0 0, .int .i64 0]) := by kernel_rfl
@[simp] theorem shp40 : shp Try.prog 40 = some false := by kernel_rfl
@[simp] theorem szO40 : szO Try.prog 40 = some 1 := by kernel_rfl
@[simp] theorem byO40 : byO Try.prog 40 = some 8 := by kernel_rfl
@[simp] theorem zrO40 : zrO Try.prog 40 = some Value.nilFunc := by kernel_rfl
@[simp] theorem shp41 : shp Try.prog 41 = some false := by kernel_rfl
@[simp] theorem szO41 : szO Try.prog 41 = some 1 := by kernel_rfl
@[simp] theorem byO41 : byO Try.prog 41 = some 8 := by kernel_rfl
@[simp] theorem zrO41 : zrO Try.prog 41 = some Value.nilFunc := by kernel_rfl
@[simp] theorem shp42 : shp Try.prog 42 = some false := by kernel_rfl
@[simp] theorem szO42 : szO Try.prog 42 = some 1 := by kernel_rfl
@[simp] theorem byO42 : byO Try.prog 42 = some 8 := by kernel_rfl
@[simp] theorem zrO42 : zrO Try.prog 42 = some Value.nilFunc := by kernel_rfl
@[simp] theorem shp43 : shp Try.prog 43 = some false := by kernel_rfl
@[simp] theorem szO43 : szO Try.prog 43 = some 1 := by kernel_rfl
@[simp] theorem byO43 : byO Try.prog 43 = some 8 := by kernel_rfl
@[simp] theorem zrO43 : zrO Try.prog 43 = some Value.nilFunc := by kernel_rfl
@[simp] theorem shp44 : shp Try.prog 44 = some false := by kernel_rfl
@[simp] theorem szO44 : szO Try.prog 44 = some 1 := by kernel_rfl
@[simp] theorem byO44 : byO Try.prog 44 = some 8 := by kernel_rfl
@[simp] theorem zrO44 : zrO Try.prog 44 = some Value.nilFunc := by kernel_rfl
@[simp] theorem shp45 : shp Try.prog 45 = some false := by kernel_rfl
@[simp] theorem szO45 : szO Try.prog 45 = some 1 := by kernel_rfl
@[simp] theorem byO45 : byO Try.prog 45 = some 8 := by kernel_rfl
@[simp] theorem zrO45 : zrO Try.prog 45 = some Value.nilFunc := by kernel_rfl
@[simp] theorem shp46 : shp Try.prog 46 = some false := by kernel_rfl
@[simp] theorem szO46 : szO Try.prog 46 = some 1 := by kernel_rfl
@[simp] theorem byO46 : byO Try.prog 46 = some 8 := by kernel_rfl
@[simp] theorem zrO46 : zrO Try.prog 46 = some Value.nilFunc := by kernel_rfl
@[simp] theorem shp47 : shp Try.prog 47 = some false := by kernel_rfl
@[simp] theorem szO47 : szO Try.prog 47 = some 1 := by kernel_rfl
@[simp] theorem byO47 : byO Try.prog 47 = some 8 := by kernel_rfl
@[simp] theorem zrO47 : zrO Try.prog 47 = some Value.nilFunc := by kernel_rfl
@[simp] theorem shp48 : shp Try.prog 48 = some false := by kernel_rfl
@[simp] theorem szO48 : szO Try.prog 48 = some 1 := by kernel_rfl
@[simp] theorem byO48 : byO Try.prog 48 = some 0 := by kernel_rfl
@[simp] theorem shp49 : shp Try.prog 49 = some false := by kernel_rfl
@[simp] theorem szO49 : szO Try.prog 49 = some 1 := by kernel_rfl
@[simp] theorem byO49 : byO Try.prog 49 = some 8 := by kernel_rfl
@[simp] theorem zrO49 : zrO Try.prog 49 = some Value.nilFunc := by kernel_rfl
@[simp] theorem shp50 : shp Try.prog 50 = some false := by kernel_rfl
@[simp] theorem szO50 : szO Try.prog 50 = some 1 := by kernel_rfl
@[simp] theorem byO50 : byO Try.prog 50 = some 8 := by kernel_rfl
@[simp] theorem zrO50 : zrO Try.prog 50 = some Value.nilFunc := by kernel_rfl
@[simp] theorem shp51 : shp Try.prog 51 = some false := by kernel_rfl
@[simp] theorem szO51 : szO Try.prog 51 = some 1 := by kernel_rfl
@[simp] theorem byO51 : byO Try.prog 51 = some 8 := by kernel_rfl
@[simp] theorem zrO51 : zrO Try.prog 51 = some Value.nilFunc := by kernel_rfl
@[simp] theorem eqFs52 : eqFs Try.prog 52 = some [(0, 3), (1, 37)] := by kernel_rfl
@[simp] theorem eqGd52 : eqGd Try.prog 52 = true := by kernel_rfl
@[simp] theorem shp52 : shp Try.prog 52 = some true := by kernel_rfl
@[simp] theorem szO52 : szO Try.prog 52 = some 3 := by kernel_rfl
@[simp] theorem fld0_52 : fld Try.prog 52 0 = some (0, 3) := by kernel_rfl
@[simp] theorem fld1_52 : fld Try.prog 52 1 = some (1, 37) := by kernel_rfl
@[simp] theorem stF52 : stF Try.prog 52 = some [(0, 1), (1, 2)] := by kernel_rfl
@[simp] theorem byO52 : byO Try.prog 52 = some 40 := by kernel_rfl
@[simp] theorem zrO52 : zrO Try.prog 52 = some (Value.agg #[.int .i64 0, .int .i64 0, .slice none 0 0]) := by kernel_rfl
@[simp] theorem eqFs53 : eqFs Try.prog 53 = some [(0, 3), (1, 37)] := by kernel_rfl
@[simp] theorem eqGd53 : eqGd Try.prog 53 = true := by kernel_rfl
@[simp] theorem shp53 : shp Try.prog 53 = some true := by kernel_rfl
@[simp] theorem szO53 : szO Try.prog 53 = some 3 := by kernel_rfl
@[simp] theorem fld0_53 : fld Try.prog 53 0 = some (0, 3) := by kernel_rfl
@[simp] theorem fld1_53 : fld Try.prog 53 1 = some (1, 37) := by kernel_rfl
@[simp] theorem stF53 : stF Try.prog 53 = some [(0, 1), (1, 2)] := by kernel_rfl
@[simp] theorem byO53 : byO Try.prog 53 = some 40 := by kernel_rfl
@[simp] theorem zrO53 : zrO Try.prog 53 = some (Value.agg #[.int .i64 0, .int .i64 0, .slice none 0 0]) := by kernel_rfl
@[simp] theorem shp54 : shp Try.prog 54 = some false := by kernel_rfl
@[simp] theorem szO54 : szO Try.prog 54 = some 1 := by kernel_rfl
@[simp] theorem byO54 : byO Try.prog 54 = some 8 := by kernel_rfl
@[simp] theorem zrO54 : zrO Try.prog 54 = some Value.nilFunc := by kernel_rfl
@[simp] theorem shp55 : shp Try.prog 55 = some false := by kernel_rfl
@[simp] theorem szO55 : szO Try.prog 55 = some 1 := by kernel_rfl
@[simp] theorem byO55 : byO Try.prog 55 = some 8 := by kernel_rfl
@[simp] theorem zrO55 : zrO Try.prog 55 = some Value.nilFunc := by kernel_rfl
@[simp] theorem shp56 : shp Try.prog 56 = some false := by kernel_rfl
@[simp] theorem szO56 : szO Try.prog 56 = some 1 := by kernel_rfl
@[simp] theorem byO56 : byO Try.prog 56 = some 8 := by kernel_rfl
@[simp] theorem zrO56 : zrO Try.prog 56 = some Value.nilFunc := by kernel_rfl
@[simp] theorem shp57 : shp Try.prog 57 = some false := by kernel_rfl
@[simp] theorem szO57 : szO Try.prog 57 = some 1 := by kernel_rfl
@[simp] theorem byO57 : byO Try.prog 57 = some 8 := by kernel_rfl
@[simp] theorem zrO57 : zrO Try.prog 57 = some Value.nilFunc := by kernel_rfl
@[simp] theorem shp58 : shp Try.prog 58 = some false := by kernel_rfl
@[simp] theorem szO58 : szO Try.prog 58 = some 1 := by kernel_rfl
@[simp] theorem byO58 : byO Try.prog 58 = some 8 := by kernel_rfl
@[simp] theorem zrO58 : zrO Try.prog 58 = some Value.nilFunc := by kernel_rfl
@[simp] theorem shp59 : shp Try.prog 59 = some false := by kernel_rfl
@[simp] theorem szO59 : szO Try.prog 59 = some 1 := by kernel_rfl
@[simp] theorem byO59 : byO Try.prog 59 = some 8 := by kernel_rfl
@[simp] theorem zrO59 : zrO Try.prog 59 = some Value.nilFunc := by kernel_rfl
@[simp] theorem shp60 : shp Try.prog 60 = some false := by kernel_rfl
@[simp] theorem szO60 : szO Try.prog 60 = some 1 := by kernel_rfl
@[simp] theorem byO60 : byO Try.prog 60 = some 8 := by kernel_rfl
@[simp] theorem zrO60 : zrO Try.prog 60 = some Value.nilFunc := by kernel_rfl
@[simp] theorem shp61 : shp Try.prog 61 = some false := by kernel_rfl
@[simp] theorem szO61 : szO Try.prog 61 = some 1 := by kernel_rfl
@[simp] theorem byO61 : byO Try.prog 61 = some 8 := by kernel_rfl
@[simp] theorem zrO61 : zrO Try.prog 61 = some Value.nilFunc := by kernel_rfl
@[simp] theorem shp62 : shp Try.prog 62 = some false := by kernel_rfl
@[simp] theorem szO62 : szO Try.prog 62 = some 1 := by kernel_rfl
@[simp] theorem slE62 : slE Try.prog 62 = some 29 := by kernel_rfl
@[simp] theorem und62 : Try.prog.underlying 62 = some (TypeDesc.slice 29) := by kernel_rfl
@[simp] theorem byO62 : byO Try.prog 62 = some 24 := by kernel_rfl
@[simp] theorem zrO62 : zrO Try.prog 62 = some (Value.slice none 0 0) := by kernel_rfl
@[simp] theorem shp63 : shp Try.prog 63 = some false := by kernel_rfl
@[simp] theorem szO63 : szO Try.prog 63 = some 1 := by kernel_rfl
@[simp] theorem slE63 : slE Try.prog 63 = some 35 := by kernel_rfl
@[simp] theorem und63 : Try.prog.underlying 63 = some (TypeDesc.slice 35) := by kernel_rfl
@[simp] theorem byO63 : byO Try.prog 63 = some 24 := by kernel_rfl
@[simp] theorem zrO63 : zrO Try.prog 63 = some (Value.slice none 0 0) := by kernel_rfl
@[simp] theorem shp64 : shp Try.prog 64 = some false := by kernel_rfl
@[simp] theorem szO64 : szO Try.prog 64 = some 1 := by kernel_rfl
@[simp] theorem slE64 : slE Try.prog 64 = some 27 := by kernel_rfl
@[simp] theorem und64 : Try.prog.underlying 64 = some (TypeDesc.slice 27) := by kernel_rfl
@[simp] theorem byO64 : byO Try.prog 64 = some 24 := by kernel_rfl
@[simp] theorem zrO64 : zrO Try.prog 64 = some (Value.slice none 0 0) := by kernel_rfl
@[simp] theorem shp65 : shp Try.prog 65 = some false := by kernel_rfl
@[simp] theorem szO65 : szO Try.prog 65 = some 1 := by kernel_rfl
@[simp] theorem byO65 : byO Try.prog 65 = some 8 := by kernel_rfl
@[simp] theorem zrO65 : zrO Try.prog 65 = some Value.nilFunc := by kernel_rfl
@[simp] theorem eqFs66 : eqFs Try.prog 66 = some [(0, 22), (1, 3)] := by kernel_rfl
@[simp] theorem eqGd66 : eqGd Try.prog 66 = true := by kernel_rfl
@[simp] theorem shp66 : shp Try.prog 66 = some true := by kernel_rfl
@[simp] theorem szO66 : szO Try.prog 66 = some 2 := by kernel_rfl
@[simp] theorem fld0_66 : fld Try.prog 66 0 = some (0, 22) := by kernel_rfl
@[simp] theorem fld1_66 : fld Try.prog 66 1 = some (1, 3) := by kernel_rfl
@[simp] theorem stF66 : stF Try.prog 66 = some [(0, 1), (1, 1)] := by kernel_rfl
@[simp] theorem byO66 : byO Try.prog 66 = some 32 := by kernel_rfl
@[simp] theorem zrO66 : zrO Try.prog 66 = some (Value.agg #[.slice none 0 0, .int .i64 0]) := by kernel_rfl
@[simp] theorem eqFs67 : eqFs Try.prog 67 = some [(0, 22), (1, 3)] := by kernel_rfl
@[simp] theorem eqGd67 : eqGd Try.prog 67 = true := by kernel_rfl
@[simp] theorem shp67 : shp Try.prog 67 = some true := by kernel_rfl
@[simp] theorem szO67 : szO Try.prog 67 = some 2 := by kernel_rfl
@[simp] theorem fld0_67 : fld Try.prog 67 0 = some (0, 22) := by kernel_rfl
@[simp] theorem fld1_67 : fld Try.prog 67 1 = some (1, 3) := by kernel_rfl
@[simp] theorem stF67 : stF Try.prog 67 = some [(0, 1), (1, 1)] := by kernel_rfl
@[simp] theorem byO67 : byO Try.prog 67 = some 32 := by kernel_rfl
@[simp] theorem zrO67 : zrO Try.prog 67 = some (Value.agg #[.slice none 0 0, .int .i64 0]) := by kernel_rfl
@[simp] theorem shp68 : shp Try.prog 68 = some false := by kernel_rfl
@[simp] theorem szO68 : szO Try.prog 68 = some 1 := by kernel_rfl
@[simp] theorem byO68 : byO Try.prog 68 = some 8 := by kernel_rfl
@[simp] theorem zrO68 : zrO Try.prog 68 = some Value.nilFunc := by kernel_rfl
@[simp] theorem shp69 : shp Try.prog 69 = some false := by kernel_rfl
@[simp] theorem szO69 : szO Try.prog 69 = some 1 := by kernel_rfl
@[simp] theorem byO69 : byO Try.prog 69 = some 8 := by kernel_rfl
@[simp] theorem zrO69 : zrO Try.prog 69 = some Value.nilFunc := by kernel_rfl
@[simp] theorem shp70 : shp Try.prog 70 = some false := by kernel_rfl
@[simp] theorem szO70 : szO Try.prog 70 = some 1 := by kernel_rfl
@[simp] theorem byO70 : byO Try.prog 70 = some 8 := by kernel_rfl
@[simp] theorem zrO70 : zrO Try.prog 70 = some Value.nilFunc := by kernel_rfl
@[simp] theorem shp71 : shp Try.prog 71 = some false := by kernel_rfl
@[simp] theorem szO71 : szO Try.prog 71 = some 1 := by kernel_rfl
@[simp] theorem byO71 : byO Try.prog 71 = some 8 := by kernel_rfl
@[simp] theorem zrO71 : zrO Try.prog 71 = some Value.nilFunc := by kernel_rfl
@[simp] theorem shp72 : shp Try.prog 72 = some false := by kernel_rfl
@[simp] theorem szO72 : szO Try.prog 72 = some 1 := by kernel_rfl
@[simp] theorem byO72 : byO Try.prog 72 = some 0 := by kernel_rfl
@[simp] theorem shp73 : shp Try.prog 73 = some false := by kernel_rfl
@[simp] theorem szO73 : szO Try.prog 73 = some 1 := by kernel_rfl
@[simp] theorem byO73 : byO Try.prog 73 = some 8 := by kernel_rfl
@[simp] theorem zrO73 : zrO Try.prog 73 = some Value.nilFunc := by kernel_rfl
@[simp] theorem shp74 : shp Try.prog 74 = some false := by kernel_rfl
@[simp] theorem szO74 : szO Try.prog 74 = some 1 := by kernel_rfl
@[simp] theorem byO74 : byO Try.prog 74 = some 8 := by kernel_rfl
@[simp] theorem zrO74 : zrO Try.prog 74 = some Value.nilFunc := by kernel_rfl
@[simp] theorem shp75 : shp Try.prog 75 = some false := by kernel_rfl
@[simp] theorem szO75 : szO Try.prog 75 = some 1 := by kernel_rfl
@[simp] theorem byO75 : byO Try.prog 75 = some 8 := by kernel_rfl
@[simp] theorem zrO75 : zrO Try.prog 75 = some Value.nilFunc := by kernel_rfl
@[simp] theorem shp76 : shp Try.prog 76 = some false := by kernel_rfl
@[simp] theorem szO76 : szO Try.prog 76 = some 1 := by kernel_rfl
@[simp] theorem byO76 : byO Try.prog 76 = some 8 := by kernel_rfl
@[simp] theorem zrO76 : zrO Try.prog 76 = some Value.nilFunc := by kernel_rfl
@[simp] theorem shp77 : shp Try.prog 77 = some false := by kernel_rfl
@[simp] theorem szO77 : szO Try.prog 77 = some 1 := by kernel_rfl
@[simp] theorem byO77 : byO Try.prog 77 = some 8 := by kernel_rfl
@[simp] theorem zrO77 : zrO Try.prog 77 = some Value.nilFunc := by kernel_rfl
@[simp] theorem shp78 : shp Try.prog 78 = some false := by kernel_rfl
@[simp] theorem szO78 : szO Try.prog 78 = some 1 := by kernel_rfl
@[simp] theorem byO78 : byO Try.prog 78 = some 8 := by kernel_rfl
@[simp] theorem zrO78 : zrO Try.prog 78 = some Value.nilFunc := by kernel_rfl
@[simp] theorem shp79 : shp Try.prog 79 = some false := by kernel_rfl
@[simp] theorem szO79 : szO Try.prog 79 = some 1 := by kernel_rfl
@[simp] theorem byO79 : byO Try.prog 79 = some 8 := by kernel_rfl
@[simp] theorem zrO79 : zrO Try.prog 79 = some Value.nilFunc := by kernel_rfl
@[simp] theorem shp80 : shp Try.prog 80 = some false := by kernel_rfl
@[simp] theorem szO80 : szO Try.prog 80 = some 1 := by kernel_rfl
@[simp] theorem byO80 : byO Try.prog 80 = some 8 := by kernel_rfl
@[simp] theorem zrO80 : zrO Try.prog 80 = some Value.nilFunc := by kernel_rfl
@[simp] theorem shp81 : shp Try.prog 81 = some false := by kernel_rfl
@[simp] theorem szO81 : szO Try.prog 81 = some 1 := by kernel_rfl
@[simp] theorem byO81 : byO Try.prog 81 = some 8 := by kernel_rfl
@[simp] theorem zrO81 : zrO Try.prog 81 = some Value.nilFunc := by kernel_rfl
@[simp] theorem shp82 : shp Try.prog 82 = some false := by kernel_rfl
@[simp] theorem szO82 : szO Try.prog 82 = some 1 := by kernel_rfl
@[simp] theorem byO82 : byO Try.prog 82 = some 8 := by kernel_rfl
@[simp] theorem zrO82 : zrO Try.prog 82 = some Value.nilFunc := by kernel_rfl
@[simp] theorem shp83 : shp Try.prog 83 = some false := by kernel_rfl
@[simp] theorem szO83 : szO Try.prog 83 = some 1 := by kernel_rfl
@[simp] theorem byO83 : byO Try.prog 83 = some 8 := by kernel_rfl
@[simp] theorem zrO83 : zrO Try.prog 83 = some (Value.pointer none) := by kernel_rfl
@[simp] theorem shp84 : shp Try.prog 84 = some false := by kernel_rfl
@[simp] theorem szO84 : szO Try.prog 84 = some 1 := by kernel_rfl
@[simp] theorem byO84 : byO Try.prog 84 = some 8 := by kernel_rfl
@[simp] theorem zrO84 : zrO Try.prog 84 = some Value.nilFunc := by kernel_rfl
@[simp] theorem shp85 : shp Try.prog 85 = some false := by kernel_rfl
@[simp] theorem szO85 : szO Try.prog 85 = some 1 := by kernel_rfl
@[simp] theorem byO85 : byO Try.prog 85 = some 8 := by kernel_rfl
@[simp] theorem zrO85 : zrO Try.prog 85 = some Value.nilFunc := by kernel_rfl
@[simp] theorem shp86 : shp Try.prog 86 = some false := by kernel_rfl
@[simp] theorem szO86 : szO Try.prog 86 = some 1 := by kernel_rfl
@[simp] theorem byO86 : byO Try.prog 86 = some 8 := by kernel_rfl
@[simp] theorem zrO86 : zrO Try.prog 86 = some Value.nilFunc := by kernel_rfl
@[simp] theorem shp87 : shp Try.prog 87 = some false := by kernel_rfl
@[simp] theorem szO87 : szO Try.prog 87 = some 1 := by kernel_rfl
@[simp] theorem byO87 : byO Try.prog 87 = some 0 := by kernel_rfl
@[simp] theorem shp88 : shp Try.prog 88 = some false := by kernel_rfl
@[simp] theorem szO88 : szO Try.prog 88 = some 1 := by kernel_rfl
@[simp] theorem byO88 : byO Try.prog 88 = some 8 := by kernel_rfl
@[simp] theorem zrO88 : zrO Try.prog 88 = some Value.nilFunc := by kernel_rfl
@[simp] theorem shp89 : shp Try.prog 89 = some false := by kernel_rfl
@[simp] theorem szO89 : szO Try.prog 89 = some 1 := by kernel_rfl
@[simp] theorem byO89 : byO Try.prog 89 = some 8 := by kernel_rfl
@[simp] theorem zrO89 : zrO Try.prog 89 = some Value.nilFunc := by kernel_rfl
@[simp] theorem shp90 : shp Try.prog 90 = some false := by kernel_rfl
@[simp] theorem szO90 : szO Try.prog 90 = some 1 := by kernel_rfl
@[simp] theorem byO90 : byO Try.prog 90 = some 8 := by kernel_rfl
@[simp] theorem zrO90 : zrO Try.prog 90 = some Value.nilFunc := by kernel_rfl
@[simp] theorem shp91 : shp Try.prog 91 = some false := by kernel_rfl
@[simp] theorem szO91 : szO Try.prog 91 = some 1 := by kernel_rfl
@[simp] theorem byO91 : byO Try.prog 91 = some 8 := by kernel_rfl
@[simp] theorem zrO91 : zrO Try.prog 91 = some Value.nilFunc := by kernel_rfl
@[simp] theorem shp92 : shp Try.prog 92 = some false := by kernel_rfl
@[simp] theorem szO92 : szO Try.prog 92 = some 1 := by kernel_rfl
@[simp] theorem byO92 : byO Try.prog 92 = some 8 := by kernel_rfl
@[simp] theorem zrO92 : zrO Try.prog 92 = some Value.nilFunc := by kernel_rfl
@[simp] theorem shp93 : shp Try.prog 93 = some false := by kernel_rfl
@[simp] theorem szO93 : szO Try.prog 93 = some 1 := by kernel_rfl
@[simp] theorem byO93 : byO Try.prog 93 = some 8 := by kernel_rfl
@[simp] theorem zrO93 : zrO Try.prog 93 = some Value.nilFunc := by kernel_rfl
@[simp] theorem shp94 : shp Try.prog 94 = some false := by kernel_rfl
@[simp] theorem szO94 : szO Try.prog 94 = some 1 := by kernel_rfl
@[simp] theorem byO94 : byO Try.prog 94 = some 8 := by kernel_rfl
@[simp] theorem zrO94 : zrO Try.prog 94 = some Value.nilFunc := by kernel_rfl
@[simp] theorem shp95 : shp Try.prog 95 = some false := by kernel_rfl
@[simp] theorem szO95 : szO Try.prog 95 = some 1 := by kernel_rfl
@[simp] theorem byO95 : byO Try.prog 95 = some 8 := by kernel_rfl
@[simp] theorem zrO95 : zrO Try.prog 95 = some Value.nilFunc := by kernel_rfl
@[simp] theorem shp96 : shp Try.prog 96 = some false := by kernel_rfl
@[simp] theorem szO96 : szO Try.prog 96 = some 1 := by kernel_rfl
@[simp] theorem byO96 : byO Try.prog 96 = some 8 := by kernel_rfl
@[simp] theorem zrO96 : zrO Try.prog 96 = some Value.nilFunc := by kernel_rfl
@[simp] theorem eqFs97 : eqFs Try.prog 97 = some [(0, 3), (1, 3)] := by kernel_rfl
@[simp] theorem eqGd97 : eqGd Try.prog 97 = true := by kernel_rfl
@[simp] theorem shp97 : shp Try.prog 97 = some true := by kernel_rfl
@[simp] theorem szO97 : szO Try.prog 97 = some 2 := by kernel_rfl
@[simp] theorem fld0_97 : fld Try.prog 97 0 = some (0, 3) := by kernel_rfl
@[simp] theorem fld1_97 : fld Try.prog 97 1 = some (1, 3) := by kernel_rfl
@[simp] theorem stF97 : stF Try.prog 97 = some [(0, 1), (1, 1)] := by kernel_rfl
@[simp] theorem byO97 : byO Try.prog 97 = some 16 := by kernel_rfl
@[simp] theorem zrO97 : zrO Try.prog 97 = some (Value.agg #[.int .i64 0, .int .i64 0]) := by kernel_rfl
@[simp] theorem eqFs98 : eqFs Try.prog 98 = some [(0, 3), (1, 3)] := by kernel_rfl
@[simp] theorem eqGd98 : eqGd Try.prog 98 = true := by kernel_rfl
@[simp] theorem shp98 : shp Try.prog 98 = some true := by kernel_rfl
@[simp] theorem szO98 : szO Try.prog 98 = some 2 := by kernel_rfl
@[simp] theorem fld0_98 : fld Try.prog 98 0 = some (0, 3) := by kernel_rfl
@[simp] theorem fld1_98 : fld Try.prog 98 1 = some (1, 3) := by kernel_rfl
@[simp] theorem stF98 : stF Try.prog 98 = some [(0, 1), (1, 1)] := by kernel_rfl
@[simp] theorem byO98 : byO Try.prog 98 = some 16 := by kernel_rfl
@[simp] theorem zrO98 : zrO Try.prog 98 = some (Value.agg #[.int .i64 0, .int .i64 0]) := by kernel_rfl
@[simp] theorem shp99 : shp Try.prog 99 = some false := by kernel_rfl
@[simp] theorem szO99 : szO Try.prog 99 = some 1 := by kernel_rfl
@[simp] theorem byO99 : byO Try.prog 99 = some 8 := by kernel_rfl
@[simp] theorem zrO99 : zrO Try.prog 99 = some Value.nilFunc := by kernel_rfl
@[simp] theorem shp100 : shp Try.prog 100 = some false := by kernel_rfl
@[simp] theorem szO100 : szO Try.prog 100 = some 1 := by kernel_rfl
@[simp] theorem byO100 : byO Try.prog 100 = some 8 := by kernel_rfl
@[simp] theorem zrO100 : zrO Try.prog 100 = some Value.nilFunc := by kernel_rfl
@[simp] theorem shp101 : shp Try.prog 101 = some false := by kernel_rfl
@[simp] theorem szO101 : szO Try.prog 101 = some 1 := by kernel_rfl
@[simp] theorem byO101 : byO Try.prog 101 = some 8 := by kernel_rfl
@[simp] theorem zrO101 : zrO Try.prog 101 = some Value.nilFunc := by kernel_rfl
@[simp] theorem shp102 : shp Try.prog 102 = some false := by kernel_rfl
@[simp] theorem szO102 : szO Try.prog 102 = some 1 := by kernel_rfl
@[simp] theorem byO102 : byO Try.prog 102 = some 8 := by kernel_rfl
@[simp] theorem zrO102 : zrO Try.prog 102 = some Value.nilFunc := by kernel_rfl
@[simp] theorem shp103 : shp Try.prog 103 = some false := by kernel_rfl
@[simp] theorem szO103 : szO Try.prog 103 = some 1 := by kernel_rfl
@[simp] theorem byO103 : byO Try.prog 103 = some 8 := by kernel_rfl
@[simp] theorem zrO103 : zrO Try.prog 103 = some Value.nilFunc := by kernel_rfl
@[simp] theorem shp104 : shp Try.prog 104 = some false := by kernel_rfl
@[simp] theorem szO104 : szO Try.prog 104 = some 1 := by kernel_rfl
@[simp] theorem slE104 : slE Try.prog 104 = some 30 := by kernel_rfl
@[simp] theorem und104 : Try.prog.underlying 104 = some (TypeDesc.slice 30) := by kernel_rfl
@[simp] theorem byO104 : byO Try.prog 104 = some 24 := by kernel_rfl
@[simp] theorem zrO104 : zrO Try.prog 104 = some (Value.slice none 0 0) := by kernel_rfl
@[simp] theorem shp105 : shp Try.prog 105 = some false := by kernel_rfl
@[simp] theorem szO105 : szO Try.prog 105 = some 1 := by kernel_rfl
@[simp] theorem byO105 : byO Try.prog 105 = some 8 := by kernel_rfl
@[simp] theorem zrO105 : zrO Try.prog 105 = some Value.nilFunc := by kernel_rfl
@[simp] theorem shp106 : shp Try.prog 106 = some false := by kernel_rfl
@[simp] theorem szO106 : szO Try.prog 106 = some 1 := by kernel_rfl
@[simp] theorem byO106 : byO Try.prog 106 = some 8 := by kernel_rfl
@[simp] theorem zrO106 : zrO Try.prog 106 = some Value.nilFunc := by kernel_rfl
@[simp] theorem shp107 : shp Try.prog 107 = some false := by kernel_rfl
@[simp] theorem szO107 : szO Try.prog 107 = some 1 := by kernel_rfl
@[simp] theorem byO107 : byO Try.prog 107 = some 8 := by kernel_rfl
@[simp] theorem zrO107 : zrO Try.prog 107 = some Value.nilFunc := by kernel_rfl
@[simp] theorem shp108 : shp Try.prog 108 = some false := by kernel_rfl
@[simp] theorem szO108 : szO Try.prog 108 = some 1 := by kernel_rfl
@[simp] theorem byO108 : byO Try.prog 108 = some 8 := by kernel_rfl
@[simp] theorem zrO108 : zrO Try.prog 108 = some Value.nilFunc := by kernel_rfl
@[simp] theorem shp109 : shp Try.prog 109 = some true := by kernel_rfl
@[simp] theorem szO109 : szO Try.prog 109 = some 100 := by kernel_rfl
@[simp] theorem arE109 : arE Try.prog 109 = some (100, 4) := by kernel_rfl
@[simp] theorem stF109 : stF Try.prog 109 = none := by kernel_rfl
@[simp] theorem arF109 : arF Try.prog 109 = some 1 := by kernel_rfl
@[simp] theorem byO109 : byO Try.prog 109 = some 100 := by kernel_rfl
@[simp] theorem shp110 : shp Try.prog 110 = some false := by kernel_rfl
@[simp] theorem szO110 : szO Try.prog 110 = some 1 := by kernel_rfl
@[simp] theorem byO110 : byO Try.prog 110 = some 8 := by kernel_rfl
@[simp] theorem zrO110 : zrO Try.prog 110 = some Value.nilFunc := by kernel_rfl
@[simp] theorem shp111 : shp Try.prog 111 = some false := by kernel_rfl
@[simp] theorem szO111 : szO Try.prog 111 = some 1 := by kernel_rfl
@[simp] theorem slE111 : slE Try.prog 111 = some 22 := by kernel_rfl
@[simp] theorem und111 : Try.prog.underlying 111 = some (TypeDesc.slice 22) := by kernel_rfl
@[simp] theorem byO111 : byO Try.prog 111 = some 24 := by kernel_rfl
@[simp] theorem zrO111 : zrO Try.prog 111 = some (Value.slice none 0 0) := by kernel_rfl
@[simp] theorem shp112 : shp Try.prog 112 = some false := by kernel_rfl
@[simp] theorem szO112 : szO Try.prog 112 = some 1 := by kernel_rfl
@[simp] theorem byO112 : byO Try.prog 112 = some 8 := by kernel_rfl
@[simp] theorem zrO112 : zrO Try.prog 112 = some Value.nilFunc := by kernel_rfl
@[simp] theorem shp113 : shp Try.prog 113 = some false := by kernel_rfl
@[simp] theorem szO113 : szO Try.prog 113 = some 1 := by kernel_rfl
@[simp] theorem byO113 : byO Try.prog 113 = some 8 := by kernel_rfl
@[simp] theorem zrO113 : zrO Try.prog 113 = some Value.nilFunc := by kernel_rfl
@[simp] theorem lf114 : lf Try.prog 114 = some 0 := by kernel_rfl
@[simp] theorem shp114 : shp Try.prog 114 = some false := by kernel_rfl
@[simp] theorem szO114 : szO Try.prog 114 = some 1 := by kernel_rfl
@[simp] theorem knd114 : knd Try.prog 114 = some .u64 := by kernel_rfl
@[simp] theorem byO114 : byO Try.prog 114 = some 8 := by kernel_rfl
@[simp] theorem zrO114 : zrO Try.prog 114 = some (Value.int .u64 0) := by kernel_rfl
@[simp] theorem shp115 : shp Try.prog 115 = some false := by kernel_rfl
@[simp] theorem szO115 : szO Try.prog 115 = some 1 := by kernel_rfl
@[simp] theorem byO115 : byO Try.prog 115 = some 8 := by kernel_rfl
@[simp] theorem zrO115 : zrO Try.prog 115 = some Value.nilFunc := by kernel_rfl
@[simp] theorem shp116 : shp Try.prog 116 = some false := by kernel_rfl
@[simp] theorem szO116 : szO Try.prog 116 = some 1 := by kernel_rfl
@[simp] theorem byO116 : byO Try.prog 116 = some 8 := by kernel_rfl
@[simp] theorem zrO116 : zrO Try.prog 116 = some Value.nilFunc := by kernel_rfl
@[simp] theorem lf117 : lf Try.prog 117 = some 0 := by kernel_rfl
@[simp] theorem shp117 : shp Try.prog 117 = some false := by kernel_rfl
@[simp] theorem szO117 : szO Try.prog 117 = some 1 := by kernel_rfl
@[simp] theorem knd117 : knd Try.prog 117 = some .i64 := by kernel_rfl
@[simp] theorem byO117 : byO Try.prog 117 = some 8 := by kernel_rfl
@[simp] theorem zrO117 : zrO Try.prog 117 = some (Value.int .i64 0) := by kernel_rfl
@[simp] theorem shp118 : shp Try.prog 118 = some false := by kernel_rfl
@[simp] theorem szO118 : szO Try.prog 118 = some 1 := by kernel_rfl
@[simp] theorem byO118 : byO Try.prog 118 = some 0 := by kernel_rfl
@[simp] theorem shp119 : shp Try.prog 119 = some false := by kernel_rfl
@[simp] theorem szO119 : szO Try.prog 119 = some 1 := by kernel_rfl
@[simp] theorem byO119 : byO Try.prog 119 = some 8 := by kernel_rfl
@[simp] theorem zrO119 : zrO Try.prog 119 = some Value.nilFunc := by kernel_rfl
@[simp] theorem shp120 : shp Try.prog 120 = some false := by kernel_rfl
@[simp] theorem szO120 : szO Try.prog 120 = some 1 := by kernel_rfl
@[simp] theorem byO120 : byO Try.prog 120 = some 8 := by kernel_rfl
@[simp] theorem zrO120 : zrO Try.prog 120 = some Value.nilFunc := by kernel_rfl
@[simp] theorem shp121 : shp Try.prog 121 = some false := by kernel_rfl
@[simp] theorem szO121 : szO Try.prog 121 = some 1 := by kernel_rfl
@[simp] theorem byO121 : byO Try.prog 121 = some 8 := by kernel_rfl
@[simp] theorem zrO121 : zrO Try.prog 121 = some Value.nilFunc := by kernel_rfl
@[simp] theorem shp122 : shp Try.prog 122 = some false := by kernel_rfl
@[simp] theorem szO122 : szO Try.prog 122 = some 1 := by kernel_rfl
@[simp] theorem byO122 : byO Try.prog 122 = some 8 := by kernel_rfl
@[simp] theorem zrO122 : zrO Try.prog 122 = some Value.nilFunc := by kernel_rfl
@[simp] theorem shp123 : shp Try.prog 123 = some false := by kernel_rfl
@[simp] theorem szO123 : szO Try.prog 123 = some 1 := by kernel_rfl
@[simp] theorem byO123 : byO Try.prog 123 = some 0 := by kernel_rfl
@[simp] theorem shp124 : shp Try.prog 124 = some false := by kernel_rfl
@[simp] theorem szO124 : szO Try.prog 124 = some 1 := by kernel_rfl
@[simp] theorem byO124 : byO Try.prog 124 = some 8 := by kernel_rfl
@[simp] theorem zrO124 : zrO Try.prog 124 = some Value.nilFunc := by kernel_rfl
@[simp] theorem shp125 : shp Try.prog 125 = some false := by kernel_rfl
@[simp] theorem szO125 : szO Try.prog 125 = some 1 := by kernel_rfl
@[simp] theorem byO125 : byO Try.prog 125 = some 8 := by kernel_rfl
@[simp] theorem zrO125 : zrO Try.prog 125 = some Value.nilFunc := by kernel_rfl
@[simp] theorem lf126 : lf Try.prog 126 = some 0 := by kernel_rfl
@[simp] theorem shp126 : shp Try.prog 126 = some false := by kernel_rfl
@[simp] theorem szO126 : szO Try.prog 126 = some 1 := by kernel_rfl
@[simp] theorem knd126 : knd Try.prog 126 = some .u32 := by kernel_rfl
@[simp] theorem byO126 : byO Try.prog 126 = some 4 := by kernel_rfl
@[simp] theorem zrO126 : zrO Try.prog 126 = some (Value.int .u32 0) := by kernel_rfl
@[simp] theorem shp127 : shp Try.prog 127 = some false := by kernel_rfl
@[simp] theorem szO127 : szO Try.prog 127 = some 1 := by kernel_rfl
@[simp] theorem byO127 : byO Try.prog 127 = some 8 := by kernel_rfl
@[simp] theorem zrO127 : zrO Try.prog 127 = some Value.nilFunc := by kernel_rfl
@[simp] theorem lf128 : lf Try.prog 128 = some 0 := by kernel_rfl
@[simp] theorem shp128 : shp Try.prog 128 = some false := by kernel_rfl
@[simp] theorem szO128 : szO Try.prog 128 = some 1 := by kernel_rfl
@[simp] theorem knd128 : knd Try.prog 128 = some .u64 := by kernel_rfl
@[simp] theorem byO128 : byO Try.prog 128 = some 8 := by kernel_rfl
@[simp] theorem zrO128 : zrO Try.prog 128 = some (Value.int .u64 0) := by kernel_rfl
@[simp] theorem lf129 : lf Try.prog 129 = some 0 := by kernel_rfl
@[simp] theorem shp129 : shp Try.prog 129 = some false := by kernel_rfl
@[simp] theorem szO129 : szO Try.prog 129 = some 1 := by kernel_rfl
@[simp] theorem knd129 : knd Try.prog 129 = some .u64 := by kernel_rfl
@[simp] theorem byO129 : byO Try.prog 129 = some 8 := by kernel_rfl
@[simp] theorem zrO129 : zrO Try.prog 129 = some (Value.int .u64 0) := by kernel_rfl
@[simp] theorem shp130 : shp Try.prog 130 = some false := by kernel_rfl
@[simp] theorem szO130 : szO Try.prog 130 = some 1 := by kernel_rfl
@[simp] theorem byO130 : byO Try.prog 130 = some 8 := by kernel_rfl
@[simp] theorem zrO130 : zrO Try.prog 130 = some Value.nilFunc := by kernel_rfl
@[simp] theorem shp131 : shp Try.prog 131 = some false := by kernel_rfl
@[simp] theorem szO131 : szO Try.prog 131 = some 1 := by kernel_rfl
@[simp] theorem byO131 : byO Try.prog 131 = some 8 := by kernel_rfl
@[simp] theorem zrO131 : zrO Try.prog 131 = some Value.nilFunc := by kernel_rfl
@[simp] theorem shp132 : shp Try.prog 132 = some false := by kernel_rfl
@[simp] theorem szO132 : szO Try.prog 132 = some 1 := by kernel_rfl
@[simp] theorem byO132 : byO Try.prog 132 = some 8 := by kernel_rfl
@[simp] theorem zrO132 : zrO Try.prog 132 = some Value.nilFunc := by kernel_rfl
@[simp] theorem shp133 : shp Try.prog 133 = some false := by kernel_rfl
@[simp] theorem szO133 : szO Try.prog 133 = some 1 := by kernel_rfl
@[simp] theorem byO133 : byO Try.prog 133 = some 8 := by kernel_rfl
@[simp] theorem zrO133 : zrO Try.prog 133 = some (Value.pointer none) := by kernel_rfl
@[simp] theorem shp134 : shp Try.prog 134 = some false := by kernel_rfl
@[simp] theorem szO134 : szO Try.prog 134 = some 1 := by kernel_rfl
@[simp] theorem byO134 : byO Try.prog 134 = some 8 := by kernel_rfl
@[simp] theorem zrO134 : zrO Try.prog 134 = some Value.nilFunc := by kernel_rfl
@[simp] theorem shp135 : shp Try.prog 135 = some false := by kernel_rfl
@[simp] theorem szO135 : szO Try.prog 135 = some 1 := by kernel_rfl
@[simp] theorem byO135 : byO Try.prog 135 = some 8 := by kernel_rfl
@[simp] theorem zrO135 : zrO Try.prog 135 = some (Value.pointer none) := by kernel_rfl
@[simp] theorem shp136 : shp Try.prog 136 = some false := by kernel_rfl
@[simp] theorem szO136 : szO Try.prog 136 = some 1 := by kernel_rfl
@[simp] theorem byO136 : byO Try.prog 136 = some 0 := by kernel_rfl
@[simp] theorem shp137 : shp Try.prog 137 = some false := by kernel_rfl
@[simp] theorem szO137 : szO Try.prog 137 = some 1 := by kernel_rfl
@[simp] theorem byO137 : byO Try.prog 137 = some 8 := by kernel_rfl
@[simp] theorem zrO137 : zrO Try.prog 137 = some Value.nilFunc := by kernel_rfl
@[simp] theorem shp138 : shp Try.prog 138 = some false := by kernel_rfl
@[simp] theorem szO138 : szO Try.prog 138 = some 1 := by kernel_rfl
@[simp] theorem byO138 : byO Try.prog 138 = some 8 := by kernel_rfl
@[simp] theorem zrO138 : zrO Try.prog 138 = some Value.nilFunc := by kernel_rfl
@[simp] theorem shp139 : shp Try.prog 139 = some true := by kernel_rfl
@[simp] theorem szO139 : szO Try.prog 139 = some 4 := by kernel_rfl
@[simp] theorem fld0_139 : fld Try.prog 139 0 = some (0, 17) := by kernel_rfl
@[simp] theorem fld1_139 : fld Try.prog 139 1 = some (1, 17) := by kernel_rfl
@[simp] theorem fld2_139 : fld Try.prog 139 2 = some (2, 17) := by kernel_rfl
@[simp] theorem fld3_139 : fld Try.prog 139 3 = some (3, 9) := by kernel_rfl
@[simp] theorem stF139 : stF Try.prog 139 = some [(0, 1), (1, 1), (2, 1), (3, 1)] := by kernel_rfl
@[simp] theorem byO139 : byO Try.prog 139 = some 40 := by kernel_rfl
@[simp] theorem zrO139 : zrO Try.prog 139 = some (Value.agg #[.pointer none, .pointer none, .pointer none, .string ⟨#[]⟩]) := by kernel_rfl
@[simp] theorem shp140 : shp Try.prog 140 = some true := by kernel_rfl
@[simp] theorem szO140 : szO Try.prog 140 = some 4 := by kernel_rfl
@[simp] theorem fld0_140 : fld Try.prog 140 0 = some (0, 17) := by kernel_rfl
@[simp] theorem fld1_140 : fld Try.prog 140 1 = some (1, 17) := by kernel_rfl
@[simp] theorem fld2_140 : fld Try.prog 140 2 = some (2, 17) := by kernel_rfl
@[simp] theorem fld3_140 : fld Try.prog 140 3 = some (3, 9) := by kernel_rfl
@[simp] theorem stF140 : stF Try.prog 140 = some [(0, 1), (1, 1), (2, 1), (3, 1)] := by kernel_rfl
@[simp] theorem byO140 : byO Try.prog 140 = some 40 := by kernel_rfl
@[simp] theorem zrO140 : zrO Try.prog 140 = some (Value.agg #[.pointer none, .pointer none, .pointer none, .string ⟨#[]⟩]) := by kernel_rfl
@[simp] theorem shp141 : shp Try.prog 141 = some true := by kernel_rfl
@[simp] theorem szO141 : szO Try.prog 141 = some 0 := by kernel_rfl
@[simp] theorem arE141 : arE Try.prog 141 = some (0, 16) := by kernel_rfl
@[simp] theorem stF141 : stF Try.prog 141 = none := by kernel_rfl
@[simp] theorem arF141 : arF Try.prog 141 = some 1 := by kernel_rfl
@[simp] theorem byO141 : byO Try.prog 141 = some 0 := by kernel_rfl
@[simp] theorem zrO141 : zrO Try.prog 141 = some (Value.agg #[]) := by kernel_rfl
@[simp] theorem shp142 : shp Try.prog 142 = some true := by kernel_rfl
@[simp] theorem szO142 : szO Try.prog 142 = some 0 := by kernel_rfl
@[simp] theorem fld0_142 : fld Try.prog 142 0 = some (0, 141) := by kernel_rfl
@[simp] theorem stF142 : stF Try.prog 142 = some [(0, 0)] := by kernel_rfl
@[simp] theorem byO142 : byO Try.prog 142 = some 0 := by kernel_rfl
@[simp] theorem zrO142 : zrO Try.prog 142 = some (Value.agg #[]) := by kernel_rfl
@[simp] theorem shp143 : shp Try.prog 143 = some true := by kernel_rfl
@[simp] theorem szO143 : szO Try.prog 143 = some 0 := by kernel_rfl
@[simp] theorem fld0_143 : fld Try.prog 143 0 = some (0, 141) := by kernel_rfl
@[simp] theorem stF143 : stF Try.prog 143 = some [(0, 0)] := by kernel_rfl
@[simp] theorem byO143 : byO Try.prog 143 = some 0 := by kernel_rfl
@[simp] theorem zrO143 : zrO Try.prog 143 = some (Value.agg #[]) := by kernel_rfl
@[simp] theorem lf144 : lf Try.prog 144 = some 0 := by kernel_rfl
@[simp] theorem u8K144 : u8K Try.prog 144 = true := by kernel_rfl
@[simp] theorem shp144 : shp Try.prog 144 = some false := by kernel_rfl
@[simp] theorem szO144 : szO Try.prog 144 = some 1 := by kernel_rfl
@[simp] theorem knd144 : knd Try.prog 144 = some .u8 := by kernel_rfl
@[simp] theorem byO144 : byO Try.prog 144 = some 1 := by kernel_rfl
@[simp] theorem zrO144 : zrO Try.prog 144 = some (Value.int .u8 0) := by kernel_rfl
@[simp] theorem lf145 : lf Try.prog 145 = some 0 := by kernel_rfl
@[simp] theorem u8K145 : u8K Try.prog 145 = true := by kernel_rfl
@[simp] theorem shp145 : shp Try.prog 145 = some false := by kernel_rfl
@[simp] theorem szO145 : szO Try.prog 145 = some 1 := by kernel_rfl
@[simp] theorem knd145 : knd Try.prog 145 = some .u8 := by kernel_rfl
@[simp] theorem byO145 : byO Try.prog 145 = some 1 := by kernel_rfl
@[simp] theorem zrO145 : zrO Try.prog 145 = some (Value.int .u8 0) := by kernel_rfl
@[simp] theorem shp146 : shp Try.prog 146 = some false := by kernel_rfl
@[simp] theorem szO146 : szO Try.prog 146 = some 1 := by kernel_rfl
@[simp] theorem byO146 : byO Try.prog 146 = some 8 := by kernel_rfl
@[simp] theorem zrO146 : zrO Try.prog 146 = some Value.nilFunc := by kernel_rfl
@[simp] theorem shp147 : shp Try.prog 147 = some false := by kernel_rfl
@[simp] theorem szO147 : szO Try.prog 147 = some 1 := by kernel_rfl
@[simp] theorem byO147 : byO Try.prog 147 = some 8 := by kernel_rfl
@[simp] theorem zrO147 : zrO Try.prog 147 = some (Value.pointer none) := by kernel_rfl
@[simp] theorem lf148 : lf Try.prog 148 = some 0 := by kernel_rfl
@[simp] theorem shp148 : shp Try.prog 148 = some false := by kernel_rfl
@[simp] theorem szO148 : szO Try.prog 148 = some 1 := by kernel_rfl
@[simp] theorem knd148 : knd Try.prog 148 = some .i32 := by kernel_rfl
@[simp] theorem byO148 : byO Try.prog 148 = some 4 := by kernel_rfl
@[simp] theorem zrO148 : zrO Try.prog 148 = some (Value.int .i32 0) := by kernel_rfl
@[simp] theorem lf149 : lf Try.prog 149 = some 0 := by kernel_rfl
@[simp] theorem shp149 : shp Try.prog 149 = some false := by kernel_rfl
@[simp] theorem szO149 : szO Try.prog 149 = some 1 := by kernel_rfl
@[simp] theorem knd149 : knd Try.prog 149 = some .i32 := by kernel_rfl
@[simp] theorem byO149 : byO Try.prog 149 = some 4 := by kernel_rfl
@[simp] theorem zrO149 : zrO Try.prog 149 = some (Value.int .i32 0) := by kernel_rfl
@[simp] theorem shp150 : shp Try.prog 150 = some true := by kernel_rfl
@[simp] theorem szO150 : szO Try.prog 150 = some 11 := by kernel_rfl
@[simp] theorem fld0_150 : fld Try.prog 150 0 = some (0, 12) := by kernel_rfl
@[simp] theorem fld1_150 : fld Try.prog 150 1 = some (1, 12) := by kernel_rfl
@[simp] theorem fld2_150 : fld Try.prog 150 2 = some (2, 126) := by kernel_rfl
@[simp] theorem fld3_150 : fld Try.prog 150 3 = some (3, 144) := by kernel_rfl
@[simp] theorem fld4_150 : fld Try.prog 150 4 = some (4, 5) := by kernel_rfl
@[simp] theorem fld5_150 : fld Try.prog 150 5 = some (5, 5) := by kernel_rfl
@[simp] theorem fld6_150 : fld Try.prog 150 6 = some (6, 145) := by kernel_rfl
@[simp] theorem fld7_150 : fld Try.prog 150 7 = some (7, 146) := by kernel_rfl
@[simp] theorem fld8_150 : fld Try.prog 150 8 = some (8, 147) := by kernel_rfl
@[simp] theorem fld9_150 : fld Try.prog 150 9 = some (9, 148) := by kernel_rfl
@[simp] theorem fld10_150 : fld Try.prog 150 10 = some (10, 149) := by kernel_rfl
@[simp] theorem stF150 : stF Try.prog 150 = some [(0, 1), (1, 1), (2, 1), (3, 1), (4, 1), (5, 1), (6, 1), (7, 1), (8, 1), (9, 1), (10, 1)] := by kernel_rfl
@[simp] theorem byO150 : byO Try.prog 150 = some 48 := by kernel_rfl
@[simp] theorem zrO150 : zrO Try.prog 150 = some (Value.agg #[.int .u64 0, .int .u64 0, .int .u32 0, .int .u8 0, .int .u8 0, .int .u8 0, .int .u8 0, .nilFunc, .pointer none, .int .i32 0, .int .i32 0]) := by kernel_rfl
@[simp] theorem shp151 : shp Try.prog 151 = some true := by kernel_rfl
@[simp] theorem szO151 : szO Try.prog 151 = some 11 := by kernel_rfl
@[simp] theorem fld0_151 : fld Try.prog 151 0 = some (0, 12) := by kernel_rfl
@[simp] theorem fld1_151 : fld Try.prog 151 1 = some (1, 12) := by kernel_rfl
@[simp] theorem fld2_151 : fld Try.prog 151 2 = some (2, 126) := by kernel_rfl
@[simp] theorem fld3_151 : fld Try.prog 151 3 = some (3, 144) := by kernel_rfl
@[simp] theorem fld4_151 : fld Try.prog 151 4 = some (4, 5) := by kernel_rfl
@[simp] theorem fld5_151 : fld Try.prog 151 5 = some (5, 5) := by kernel_rfl
@[simp] theorem fld6_151 : fld Try.prog 151 6 = some (6, 145) := by kernel_rfl
@[simp] theorem fld7_151 : fld Try.prog 151 7 = some (7, 146) := by kernel_rfl
@[simp] theorem fld8_151 : fld Try.prog 151 8 = some (8, 147) := by kernel_rfl
@[simp] theorem fld9_151 : fld Try.prog 151 9 = some (9, 148) := by kernel_rfl
@[simp] theorem fld10_151 : fld Try.prog 151 10 = some (10, 149) := by kernel_rfl
@[simp] theorem stF151 : stF Try.prog 151 = some [(0, 1), (1, 1), (2, 1), (3, 1), (4, 1), (5, 1), (6, 1), (7, 1), (8, 1), (9, 1), (10, 1)] := by kernel_rfl
@[simp] theorem byO151 : byO Try.prog 151 = some 48 := by kernel_rfl
@[simp] theorem zrO151 : zrO Try.prog 151 = some (Value.agg #[.int .u64 0, .int .u64 0, .int .u32 0, .int .u8 0, .int .u8 0, .int .u8 0, .int .u8 0, .nilFunc, .pointer none, .int .i32 0, .int .i32 0]) := by kernel_rfl
@[simp] theorem shp152 : shp Try.prog 152 = some false := by kernel_rfl
@[simp] theorem szO152 : szO Try.prog 152 = some 1 := by kernel_rfl
@[simp] theorem byO152 : byO Try.prog 152 = some 8 := by kernel_rfl
@[simp] theorem zrO152 : zrO Try.prog 152 = some (Value.pointer none) := by kernel_rfl
@[simp] theorem fnOK2 : fnOK Try.prog 2 = true := by kernel_rfl
@[simp] theorem fnOK3 : fnOK Try.prog 3 = true := by kernel_rfl
@[simp] theorem fnOK4 : fnOK Try.prog 4 = true := by kernel_rfl
@[simp] theorem fnOK5 : fnOK Try.prog 5 = true := by kernel_rfl
@[simp] theorem fnOK6 : fnOK Try.prog 6 = true := by kernel_rfl
@[simp] theorem fnOK7 : fnOK Try.prog 7 = true := by kernel_rfl
@[simp] theorem fnOK8 : fnOK Try.prog 8 = true := by kernel_rfl
@[simp] theorem fnOK9 : fnOK Try.prog 9 = true := by kernel_rfl
@[simp] theorem fnOK10 : fnOK Try.prog 10 = true := by kernel_rfl
@[simp] theorem fnOK11 : fnOK Try.prog 11 = true := by kernel_rfl
@[simp] theorem fnOK12 : fnOK Try.prog 12 = true := by kernel_rfl
@[simp] theorem fnOK13 : fnOK Try.prog 13 = true := by kernel_rfl
@[simp] theorem fnOK14 : fnOK Try.prog 14 = true := by kernel_rfl
@[simp] theorem fnOK15 : fnOK Try.prog 15 = true := by kernel_rfl
@[simp] theorem fnOK16 : fnOK Try.prog 16 = true := by kernel_rfl
@[simp] theorem fnOK17 : fnOK Try.prog 17 = true := by kernel_rfl
@[simp] theorem fnOK18 : fnOK Try.prog 18 = true := by kernel_rfl
@[simp] theorem fnOK19 : fnOK Try.prog 19 = true := by kernel_rfl
@[simp] theorem fnOK20 : fnOK Try.prog 20 = true := by kernel_rfl
@[simp] theorem fnOK21 : fnOK Try.prog 21 = true := by kernel_rfl
@[simp] theorem fnOK22 : fnOK Try.prog 22 = true := by kernel_rfl
@[simp] theorem fnOK23 : fnOK Try.prog 23 = true := by kernel_rfl
@[simp] theorem fnOK24 : fnOK Try.prog 24 = true := by kernel_rfl
@[simp] theorem fnOK25 : fnOK Try.prog 25 = true := by kernel_rfl
@[simp] theorem fnOK26 : fnOK Try.prog 26 = true := by kernel_rfl
@[simp] theorem fnOK27 : fnOK Try.prog 27 = true := by kernel_rfl
@[simp] theorem fnOK28 : fnOK Try.prog 28 = true := by kernel_rfl
@[simp] theorem fnOK29 : fnOK Try.prog 29 = true := by kernel_rfl
@[simp] theorem fnOK30 : fnOK Try.prog 30 = true := by kernel_rfl
@[simp] theorem fnOK31 : fnOK Try.prog 31 = true := by kernel_rfl
@[simp] theorem fnOK32 : fnOK Try.prog 32 = true := by kernel_rfl
@[simp] theorem fnOK33 : fnOK Try.prog 33 = true := by kernel_rfl
@[simp] theorem fnOK34 : fnOK Try.prog 34 = true := by kernel_rfl
@[simp] theorem fnOK35 : fnOK Try.prog 35 = true := by kernel_rfl
@[simp] theorem fnOK36 : fnOK Try.prog 36 = true := by kernel_rfl
@[simp] theorem fnOK37 : fnOK Try.prog 37 = true := by kernel_rfl
@[simp] theorem fnOK38 : fnOK Try.prog 38 = true := by kernel_rfl
@[simp] theorem fnOK39 : fnOK Try.prog 39 = true := by kernel_rfl
@[simp] theorem fnOK40 : fnOK Try.prog 40 = true := by kernel_rfl
@[simp] theorem fnOK41 : fnOK Try.prog 41 = true := by kernel_rfl
@[simp] theorem fnOK42 : fnOK Try.prog 42 = true := by kernel_rfl
@[simp] theorem fnOK43 : fnOK Try.prog 43 = true := by kernel_rfl
@[simp] theorem fnOK44 : fnOK Try.prog 44 = true := by kernel_rfl
@[simp] theorem fnOK45 : fnOK Try.prog 45 = true := by kernel_rfl
@[simp] theorem fnOK46 : fnOK Try.prog 46 = true := by kernel_rfl
@[simp] theorem fnOK47 : fnOK Try.prog 47 = true := by kernel_rfl
@[simp] theorem fnOK48 : fnOK Try.prog 48 = true := by kernel_rfl
@[simp] theorem fnOK49 : fnOK Try.prog 49 = true := by kernel_rfl
@[simp] theorem fnOK50 : fnOK Try.prog 50 = true := by kernel_rfl
@[simp] theorem fnOK51 : fnOK Try.prog 51 = true := by kernel_rfl
@[simp] theorem fnOK52 : fnOK Try.prog 52 = true := by kernel_rfl
@[simp] theorem fnOK53 : fnOK Try.prog 53 = true := by kernel_rfl
@[simp] theorem fnOK54 : fnOK Try.prog 54 = true := by kernel_rfl
@[simp] theorem fnOK55 : fnOK Try.prog 55 = true := by kernel_rfl
@[simp] theorem fnOK56 : fnOK Try.prog 56 = true := by kernel_rfl
@[simp] theorem fnOK57 : fnOK Try.prog 57 = true := by kernel_rfl
@[simp] theorem fnOK58 : fnOK Try.prog 58 = true := by kernel_rfl
@[simp] theorem fnOK59 : fnOK Try.prog 59 = true := by kernel_rfl
@[simp] theorem fnOK60 : fnOK Try.prog 60 = true := by kernel_rfl
@[simp] theorem fnOK61 : fnOK Try.prog 61 = true := by kernel_rfl
@[simp] theorem fnOK62 : fnOK Try.prog 62 = true := by kernel_rfl
@[simp] theorem fnOK63 : fnOK Try.prog 63 = true := by kernel_rfl
@[simp] theorem fnOK64 : fnOK Try.prog 64 = true := by kernel_rfl
@[simp] theorem fnOK65 : fnOK Try.prog 65 = true := by kernel_rfl
@[simp] theorem fnOK66 : fnOK Try.prog 66 = true := by kernel_rfl
@[simp] theorem fnOK67 : fnOK Try.prog 67 = true := by kernel_rfl
@[simp] theorem fnOK68 : fnOK Try.prog 68 = true := by kernel_rfl
@[simp] theorem fnOK69 : fnOK Try.prog 69 = true := by kernel_rfl
@[simp] theorem fnOK70 : fnOK Try.prog 70 = true := by kernel_rfl
@[simp] theorem fnOK71 : fnOK Try.prog 71 = true := by kernel_rfl
@[simp] theorem fnOK72 : fnOK Try.prog 72 = true := by kernel_rfl
@[simp] theorem fnOK73 : fnOK Try.prog 73 = true := by kernel_rfl
@[simp] theorem fnOK74 : fnOK Try.prog 74 = true := by kernel_rfl
@[simp] theorem fnOK75 : fnOK Try.prog 75 = true := by kernel_rfl
@[simp] theorem fnOK76 : fnOK Try.prog 76 = true := by kernel_rfl
@[simp] theorem fnOK77 : fnOK Try.prog 77 = true := by kernel_rfl
@[simp] theorem fnOK78 : fnOK Try.prog 78 = true := by kernel_rfl
@[simp] theorem fnOK79 : fnOK Try.prog 79 = true := by kernel_rfl
@[simp] theorem fnOK80 : fnOK Try.prog 80 = true := by kernel_rfl
@[simp] theorem fnOK81 : fnOK Try.prog 81 = true := by kernel_rfl
@[simp] theorem fnOK82 : fnOK Try.prog 82 = true := by kernel_rfl
@[simp] theorem fnOK83 : fnOK Try.prog 83 = true := by kernel_rfl
@[simp] theorem fnOK84 : fnOK Try.prog 84 = true := by kernel_rfl
@[simp] theorem fnOK85 : fnOK Try.prog 85 = true := by kernel_rfl
@[simp] theorem fnOK86 : fnOK Try.prog 86 = true := by kernel_rfl
@[simp] theorem fnOK87 : fnOK Try.prog 87 = true := by kernel_rfl
@[simp] theorem fnOK88 : fnOK Try.prog 88 = true := by kernel_rfl
@[simp] theorem fnOK89 : fnOK Try.prog 89 = true := by kernel_rfl
@[simp] theorem fnOK90 : fnOK Try.prog 90 = true := by kernel_rfl
@[simp] theorem fnOK91 : fnOK Try.prog 91 = true := by kernel_rfl
@[simp] theorem fnOK92 : fnOK Try.prog 92 = true := by kernel_rfl
@[simp] theorem fnOK93 : fnOK Try.prog 93 = true := by kernel_rfl
@[simp] theorem fnOK94 : fnOK Try.prog 94 = true := by kernel_rfl
@[simp] theorem fnOK95 : fnOK Try.prog 95 = true := by kernel_rfl
@[simp] theorem fnOK96 : fnOK Try.prog 96 = true := by kernel_rfl
@[simp] theorem fnOK97 : fnOK Try.prog 97 = true := by kernel_rfl
@[simp] theorem fnOK98 : fnOK Try.prog 98 = true := by kernel_rfl
@[simp] theorem fnOK99 : fnOK Try.prog 99 = true := by kernel_rfl
@[simp] theorem fnOK100 : fnOK Try.prog 100 = true := by kernel_rfl
@[simp] theorem fnOK101 : fnOK Try.prog 101 = true := by kernel_rfl
@[simp] theorem fnOK102 : fnOK Try.prog 102 = true := by kernel_rfl
@[simp] theorem fnOK103 : fnOK Try.prog 103 = true := by kernel_rfl
@[simp] theorem fnOK104 : fnOK Try.prog 104 = true := by kernel_rfl
@[simp] theorem fnOK105 : fnOK Try.prog 105 = true := by kernel_rfl
@[simp] theorem fnOK106 : fnOK Try.prog 106 = true := by kernel_rfl
@[simp] theorem fnOK107 : fnOK Try.prog 107 = true := by kernel_rfl
@[simp] theorem fnOK108 : fnOK Try.prog 108 = true := by kernel_rfl
@[simp] theorem fnOK109 : fnOK Try.prog 109 = true := by kernel_rfl
@[simp] theorem fnOK110 : fnOK Try.prog 110 = true := by kernel_rfl
@[simp] theorem fnOK111 : fnOK Try.prog 111 = true := by kernel_rfl
@[simp] theorem mixed : Try.prog.follows .mixedOrders = true := by kernel_rfl
end Go.Proofs
