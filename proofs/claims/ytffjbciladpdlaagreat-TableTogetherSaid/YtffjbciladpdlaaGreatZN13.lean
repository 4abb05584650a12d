/-
  What functions of the program compute, stated as contracts over plain data; the conditions of each stand in its own statement.
-/
import Derived.Test.YtffjbciladpdlaaGreatZN12
import Derived.Test.YtffjbciladpdlaaGreatZN07
import Derived.KernelRfl
import Derived.Test.YtffjbciladpdlaaGreatChecked
import Derived.ProofKit
namespace Go.Proofs
open Go Go.Tr
@[simp] theorem shp3 : shp Tryz.prog 3 = some false := by kernel_rfl
@[simp] theorem szO3 : szO Tryz.prog 3 = some 1 := by kernel_rfl
@[simp] theorem knd3 : knd Tryz.prog 3 = some .i64 := by kernel_rfl
@[simp] theorem byO3 : byO Tryz.prog 3 = some 8 := by kernel_rfl
@[simp] theorem zrO3 : zrO Tryz.prog 3 = some (Value.int .i64 0) := by kernel_rfl
@[simp] theorem shp4 : shp Tryz.prog 4 = some false := by kernel_rfl
@[simp] theorem szO4 : szO Tryz.prog 4 = some 1 := by kernel_rfl
@[simp] theorem zrO4 : zrO Tryz.prog 4 = some (Value.bool false) := by kernel_rfl
@[simp] theorem shp22 : shp Tryz.prog 22 = some false := by kernel_rfl
@[simp] theorem szO22 : szO Tryz.prog 22 = some 1 := by kernel_rfl
@[simp] theorem slE22 : slE Tryz.prog 22 = some 3 := by kernel_rfl
@[simp] theorem zrO22 : zrO Tryz.prog 22 = some (Value.slice none 0 0) := by kernel_rfl
@[simp] theorem shp25 : shp Tryz.prog 25 = some false := by kernel_rfl
@[simp] theorem szO25 : szO Tryz.prog 25 = some 1 := by kernel_rfl
@[simp] theorem slE25 : slE Tryz.prog 25 = some 81 := by kernel_rfl
@[simp] theorem shp26 : shp Tryz.prog 26 = some false := by kernel_rfl
@[simp] theorem szO26 : szO Tryz.prog 26 = some 1 := by kernel_rfl
@[simp] theorem slE26 : slE Tryz.prog 26 = some 85 := by kernel_rfl
@[simp] theorem shp28 : shp Tryz.prog 28 = some true := by kernel_rfl
@[simp] theorem szO28 : szO Tryz.prog 28 = some 2 := by kernel_rfl
@[simp] theorem fld0_28 : fld Tryz.prog 28 0 = some (0, 25) := by kernel_rfl
@[simp] theorem fld1_28 : fld Tryz.prog 28 1 = some (1, 26) := by kernel_rfl
@[simp] theorem stF28 : stF Tryz.prog 28 = some [(0, 1), (1, 1)] := by kernel_rfl
@[simp] theorem zrO28 : zrO Tryz.prog 28 = some (Value.agg #[.slice none 0 0, .slice none 0 0]) := by kernel_rfl
@[simp] theorem shp30 : shp Tryz.prog 30 = some false := by kernel_rfl
@[simp] theorem szO30 : szO Tryz.prog 30 = some 1 := by kernel_rfl
@[simp] theorem zrO30 : zrO Tryz.prog 30 = some Value.nilFunc := by kernel_rfl
@[simp] theorem shp32 : shp Tryz.prog 32 = some false := by kernel_rfl
@[simp] theorem szO32 : szO Tryz.prog 32 = some 1 := by kernel_rfl
@[simp] theorem slE32 : slE Tryz.prog 32 = some 50 := by kernel_rfl
@[simp] theorem shp34 : shp Tryz.prog 34 = some true := by kernel_rfl
@[simp] theorem szO34 : szO Tryz.prog 34 = some 3 := by kernel_rfl
@[simp] theorem fld0_34 : fld Tryz.prog 34 0 = some (0, 3) := by kernel_rfl
@[simp] theorem fld1_34 : fld Tryz.prog 34 1 = some (1, 3) := by kernel_rfl
@[simp] theorem fld2_34 : fld Tryz.prog 34 2 = some (2, 32) := by kernel_rfl
@[simp] theorem stF34 : stF Tryz.prog 34 = some [(0, 1), (1, 1), (2, 1)] := by kernel_rfl
@[simp] theorem zrO34 : zrO Tryz.prog 34 = some (Value.agg #[.int .i64 0, .int .i64 0, .slice none 0 0]) := by kernel_rfl
@[simp] theorem shp37 : shp Tryz.prog 37 = some false := by kernel_rfl
@[simp] theorem szO37 : szO Tryz.prog 37 = some 1 := by kernel_rfl
@[simp] theorem slE37 : slE Tryz.prog 37 = some 52 := by kernel_rfl
@[simp] theorem shp39 : shp Tryz.prog 39 = some true := by kernel_rfl
@[simp] theorem szO39 : szO Tryz.prog 39 = some 4 := by kernel_rfl
@[simp] theorem fld0_39 : fld Tryz.prog 39 0 = some (0, 3) := by kernel_rfl
@[simp] theorem fld1_39 : fld Tryz.prog 39 1 = some (1, 3) := by kernel_rfl
@[simp] theorem fld2_39 : fld Tryz.prog 39 2 = some (2, 3) := by kernel_rfl
@[simp] theorem fld3_39 : fld Tryz.prog 39 3 = some (3, 37) := by kernel_rfl
@[simp] theorem stF39 : stF Tryz.prog 39 = some [(0, 1), (1, 1), (2, 1), (3, 1)] := by kernel_rfl
@[simp] theorem byO39 : byO Tryz.prog 39 = some 48 := by kernel_rfl
@[simp] theorem zrO39 : zrO Tryz.prog 39 = some (Value.agg #[.int .i64 0, .int .i64 0, .int .i64 0, .slice none 0 0]) := by kernel_rfl
@[simp] theorem shp50 : shp Tryz.prog 50 = some true := by kernel_rfl
@[simp] theorem szO50 : szO Tryz.prog 50 = some 2 := by kernel_rfl
@[simp] theorem fld0_50 : fld Tryz.prog 50 0 = some (0, 3) := by kernel_rfl
@[simp] theorem fld1_50 : fld Tryz.prog 50 1 = some (1, 3) := by kernel_rfl
@[simp] theorem stF50 : stF Tryz.prog 50 = some [(0, 1), (1, 1)] := by kernel_rfl
@[simp] theorem byO50 : byO Tryz.prog 50 = some 16 := by kernel_rfl
@[simp] theorem zrO50 : zrO Tryz.prog 50 = some (Value.agg #[.int .i64 0, .int .i64 0]) := by kernel_rfl
@[simp] theorem shp52 : shp Tryz.prog 52 = some true := by kernel_rfl
@[simp] theorem szO52 : szO Tryz.prog 52 = some 2 := by kernel_rfl
@[simp] theorem fld0_52 : fld Tryz.prog 52 0 = some (0, 3) := by kernel_rfl
@[simp] theorem fld1_52 : fld Tryz.prog 52 1 = some (1, 22) := by kernel_rfl
@[simp] theorem stF52 : stF Tryz.prog 52 = some [(0, 1), (1, 1)] := by kernel_rfl
@[simp] theorem byO52 : byO Tryz.prog 52 = some 32 := by kernel_rfl
@[simp] theorem zrO52 : zrO Tryz.prog 52 = some (Value.agg #[.int .i64 0, .slice none 0 0]) := by kernel_rfl
@[simp] theorem shp55 : shp Tryz.prog 55 = some false := by kernel_rfl
@[simp] theorem szO55 : szO Tryz.prog 55 = some 1 := by kernel_rfl
@[simp] theorem slE55 : slE Tryz.prog 55 = some 39 := by kernel_rfl
@[simp] theorem zrO55 : zrO Tryz.prog 55 = some (Value.slice none 0 0) := by kernel_rfl
@[simp] theorem slE68 : slE Tryz.prog 68 = some 55 := by kernel_rfl
@[simp] theorem fld0_79 : fld Tryz.prog 79 0 = some (0, 22) := by kernel_rfl
@[simp] theorem fld1_79 : fld Tryz.prog 79 1 = some (1, 3) := by kernel_rfl
@[simp] theorem stF79 : stF Tryz.prog 79 = some [(0, 1), (1, 1)] := by kernel_rfl
@[simp] theorem zrO79 : zrO Tryz.prog 79 = some (Value.agg #[.slice none 0 0, .int .i64 0]) := by kernel_rfl
@[simp] theorem shp81 : shp Tryz.prog 81 = some true := by kernel_rfl
@[simp] theorem szO81 : szO Tryz.prog 81 = some 2 := by kernel_rfl
@[simp] theorem fld0_81 : fld Tryz.prog 81 0 = some (0, 3) := by kernel_rfl
@[simp] theorem fld1_81 : fld Tryz.prog 81 1 = some (1, 4) := by kernel_rfl
@[simp] theorem stF81 : stF Tryz.prog 81 = some [(0, 1), (1, 1)] := by kernel_rfl
@[simp] theorem byO81 : byO Tryz.prog 81 = some 16 := by kernel_rfl
@[simp] theorem zrO81 : zrO Tryz.prog 81 = some (Value.agg #[.int .i64 0, .bool false]) := by kernel_rfl
@[simp] theorem shp85 : shp Tryz.prog 85 = some true := by kernel_rfl
@[simp] theorem szO85 : szO Tryz.prog 85 = some 5 := by kernel_rfl
@[simp] theorem fld0_85 : fld Tryz.prog 85 0 = some (0, 3) := by kernel_rfl
@[simp] theorem fld1_85 : fld Tryz.prog 85 1 = some (1, 3) := by kernel_rfl
@[simp] theorem fld2_85 : fld Tryz.prog 85 2 = some (2, 3) := by kernel_rfl
@[simp] theorem fld3_85 : fld Tryz.prog 85 3 = some (3, 3) := by kernel_rfl
@[simp] theorem fld4_85 : fld Tryz.prog 85 4 = some (4, 3) := by kernel_rfl
@[simp] theorem stF85 : stF Tryz.prog 85 = some [(0, 1), (1, 1), (2, 1), (3, 1), (4, 1)] := by kernel_rfl
@[simp] theorem byO85 : byO Tryz.prog 85 = some 40 := by kernel_rfl
@[simp] theorem zrO85 : zrO Tryz.prog 85 = some (Value.agg #[.int .i64 0, .int .i64 0, .int .i64 0, .int .i64 0, .int .i64 0]) := by kernel_rfl
@[simp] theorem shp94 : shp Tryz.prog 94 = some false := by kernel_rfl
@[simp] theorem mpK1_94 : mpK Tryz.prog 94 1 = some 22 := by kernel_rfl
@[simp] theorem shp100 : shp Tryz.prog 100 = some false := by kernel_rfl
@[simp] theorem szO100 : szO Tryz.prog 100 = some 1 := by kernel_rfl
@[simp] theorem mpE100 : mpE Tryz.prog 100 = some 130 := by kernel_rfl
@[simp] theorem mapTy100 : mapTy Tryz.prog 100 = true := by kernel_rfl
@[simp] theorem mpK1_100 : mpK Tryz.prog 100 1 = some 130 := by kernel_rfl
@[simp] theorem shp102 : shp Tryz.prog 102 = some true := by kernel_rfl
@[simp] theorem szO102 : szO Tryz.prog 102 = some 2 := by kernel_rfl
@[simp] theorem fld0_102 : fld Tryz.prog 102 0 = some (0, 100) := by kernel_rfl
@[simp] theorem fld1_102 : fld Tryz.prog 102 1 = some (1, 100) := by kernel_rfl
@[simp] theorem stF102 : stF Tryz.prog 102 = some [(0, 1), (1, 1)] := by kernel_rfl
@[simp] theorem zrO102 : zrO Tryz.prog 102 = some (Value.agg #[.map none, .map none]) := by kernel_rfl
@[simp] theorem mpE105 : mpE Tryz.prog 105 = some 3 := by kernel_rfl
@[simp] theorem mapTy105 : mapTy Tryz.prog 105 = true := by kernel_rfl
@[simp] theorem mpK1_105 : mpK Tryz.prog 105 1 = some 3 := by kernel_rfl
@[simp] theorem shp127 : shp Tryz.prog 127 = some false := by kernel_rfl
@[simp] theorem szO127 : szO Tryz.prog 127 = some 1 := by kernel_rfl
@[simp] theorem mpK1_127 : mpK Tryz.prog 127 1 = some 4 := by kernel_rfl
@[simp] theorem zrO127 : zrO Tryz.prog 127 = some (Value.map none) := by kernel_rfl
@[simp] theorem shp128 : shp Tryz.prog 128 = some false := by kernel_rfl
@[simp] theorem szO128 : szO Tryz.prog 128 = some 1 := by kernel_rfl
@[simp] theorem zrO128 : zrO Tryz.prog 128 = some Value.nilFunc := by kernel_rfl
@[simp] theorem slE130 : slE Tryz.prog 130 = some 132 := by kernel_rfl
@[simp] theorem zrO130 : zrO Tryz.prog 130 = some (Value.slice none 0 0) := by kernel_rfl
@[simp] theorem shp132 : shp Tryz.prog 132 = some true := by kernel_rfl
@[simp] theorem szO132 : szO Tryz.prog 132 = some 2 := by kernel_rfl
@[simp] theorem fld0_132 : fld Tryz.prog 132 0 = some (0, 3) := by kernel_rfl
@[simp] theorem fld1_132 : fld Tryz.prog 132 1 = some (1, 3) := by kernel_rfl
@[simp] theorem stF132 : stF Tryz.prog 132 = some [(0, 1), (1, 1)] := by kernel_rfl
@[simp] theorem byO132 : byO Tryz.prog 132 = some 16 := by kernel_rfl
@[simp] theorem zrO132 : zrO Tryz.prog 132 = some (Value.agg #[.int .i64 0, .int .i64 0]) := by kernel_rfl
@[simp] theorem shp142 : shp Tryz.prog 142 = some false := by kernel_rfl
@[simp] theorem knd142 : knd Tryz.prog 142 = some .u64 := by kernel_rfl
@[simp] theorem fnOK10 : fnOK Tryz.prog 10 = true := by kernel_rfl
@[simp] theorem fnOK11 : fnOK Tryz.prog 11 = true := by kernel_rfl
@[simp] theorem fnOK12 : fnOK Tryz.prog 12 = true := by kernel_rfl
@[simp] theorem fnOK13 : fnOK Tryz.prog 13 = true := by kernel_rfl
@[simp] theorem fnOK14 : fnOK Tryz.prog 14 = true := by kernel_rfl
@[simp] theorem fnOK15 : fnOK Tryz.prog 15 = true := by kernel_rfl
@[simp] theorem fnOK16 : fnOK Tryz.prog 16 = true := by kernel_rfl
@[simp] theorem fnOK17 : fnOK Tryz.prog 17 = true := by kernel_rfl
@[simp] theorem fnOK18 : fnOK Tryz.prog 18 = true := by kernel_rfl
@[simp] theorem fnOK19 : fnOK Tryz.prog 19 = true := by kernel_rfl
@[simp] theorem fnOK20 : fnOK Tryz.prog 20 = true := by kernel_rfl
@[simp] theorem fnOK21 : fnOK Tryz.prog 21 = true := by kernel_rfl
@[simp] theorem fnOK22 : fnOK Tryz.prog 22 = true := by kernel_rfl
@[simp] theorem fnOK23 : fnOK Tryz.prog 23 = true := by kernel_rfl
@[simp] theorem fnOK24 : fnOK Tryz.prog 24 = true := by kernel_rfl
@[simp] theorem fnOK25 : fnOK Tryz.prog 25 = true := by kernel_rfl
@[simp] theorem fnOK26 : fnOK Tryz.prog 26 = true := by kernel_rfl
@[simp] theorem fnOK27 : fnOK Tryz.prog 27 = true := by kernel_rfl
@[simp] theorem fnOK28 : fnOK Tryz.prog 28 = true := by kernel_rfl
@[simp] theorem fnOK29 : fnOK Tryz.prog 29 = true := by kernel_rfl
@[simp] theorem fnOK30 : fnOK Tryz.prog 30 = true := by kernel_rfl
@[simp] theorem fnOK31 : fnOK Tryz.prog 31 = true := by kernel_rfl
@[simp] theorem fnOK32 : fnOK Tryz.prog 32 = true := by kernel_rfl
@[simp] theorem fnOK33 : fnOK Tryz.prog 33 = true := by kernel_rfl
@[simp] theorem fnOK34 : fnOK Tryz.prog 34 = true := by kernel_rfl
@[simp] theorem fnOK35 : fnOK Tryz.prog 35 = true := by kernel_rfl
@[simp] theorem fnOK36 : fnOK Tryz.prog 36 = true := by kernel_rfl
@[simp] theorem fnOK37 : fnOK Tryz.prog 37 = true := by kernel_rfl
@[simp] theorem fnOK38 : fnOK Tryz.prog 38 = true := by kernel_rfl
@[simp] theorem fnOK39 : fnOK Tryz.prog 39 = true := by kernel_rfl
@[simp] theorem fnOK40 : fnOK Tryz.prog 40 = true := by kernel_rfl
@[simp] theorem fnOK41 : fnOK Tryz.prog 41 = true := by kernel_rfl
@[simp] theorem fnOK42 : fnOK Tryz.prog 42 = true := by kernel_rfl
@[simp] theorem fnOK43 : fnOK Tryz.prog 43 = true := by kernel_rfl
@[simp] theorem fnOK44 : fnOK Tryz.prog 44 = true := by kernel_rfl
@[simp] theorem fnOK45 : fnOK Tryz.prog 45 = true := by kernel_rfl
@[simp] theorem fnOK46 : fnOK Tryz.prog 46 = true := by kernel_rfl
@[simp] theorem fnOK47 : fnOK Tryz.prog 47 = true := by kernel_rfl
@[simp] theorem fnOK48 : fnOK Tryz.prog 48 = true := by kernel_rfl
@[simp] theorem fnOK49 : fnOK Tryz.prog 49 = true := by kernel_rfl
@[simp] theorem fnOK50 : fnOK Tryz.prog 50 = true := by kernel_rfl
@[simp] theorem fnOK51 : fnOK Tryz.prog 51 = true := by kernel_rfl
@[simp] theorem fnOK52 : fnOK Tryz.prog 52 = true := by kernel_rfl
@[simp] theorem fnOK53 : fnOK Tryz.prog 53 = true := by kernel_rfl
@[simp] theorem fnOK54 : fnOK Tryz.prog 54 = true := by kernel_rfl
@[simp] theorem fnOK55 : fnOK Tryz.prog 55 = true := by kernel_rfl
@[simp] theorem fnOK56 : fnOK Tryz.prog 56 = true := by kernel_rfl
@[simp] theorem fnOK57 : fnOK Tryz.prog 57 = true := by kernel_rfl
@[simp] theorem fnOK58 : fnOK Tryz.prog 58 = true := by kernel_rfl
@[simp] theorem fnOK59 : fnOK Tryz.prog 59 = true := by kernel_rfl
@[simp] theorem fnOK60 : fnOK Tryz.prog 60 = true := by kernel_rfl
@[simp] theorem fnOK61 : fnOK Tryz.prog 61 = true := by kernel_rfl
@[simp] theorem fnOK62 : fnOK Tryz.prog 62 = true := by kernel_rfl
@[simp] theorem fnOK63 : fnOK Tryz.prog 63 = true := by kernel_rfl
@[simp] theorem fnOK64 : fnOK Tryz.prog 64 = true := by kernel_rfl
@[simp] theorem fnOK65 : fnOK Tryz.prog 65 = true := by kernel_rfl
@[simp] theorem fnOK66 : fnOK Tryz.prog 66 = true := by kernel_rfl
@[simp] theorem fnOK67 : fnOK Tryz.prog 67 = true := by kernel_rfl
@[simp] theorem fnOK68 : fnOK Tryz.prog 68 = true := by kernel_rfl
@[simp] theorem fnOK69 : fnOK Tryz.prog 69 = true := by kernel_rfl
@[simp] theorem fnOK70 : fnOK Tryz.prog 70 = true := by kernel_rfl
@[simp] theorem fnOK71 : fnOK Tryz.prog 71 = true := by kernel_rfl
@[simp] theorem fnOK72 : fnOK Tryz.prog 72 = true := by kernel_rfl
@[simp] theorem fnOK73 : fnOK Tryz.prog 73 = true := by kernel_rfl
@[simp] theorem fnOK74 : fnOK Tryz.prog 74 = true := by kernel_rfl
@[simp] theorem fnOK75 : fnOK Tryz.prog 75 = true := by kernel_rfl
@[simp] theorem fnOK76 : fnOK Tryz.prog 76 = true := by kernel_rfl
@[simp] theorem fnOK77 : fnOK Tryz.prog 77 = true := by kernel_rfl
@[simp] theorem fnOK78 : fnOK Tryz.prog 78 = true := by kernel_rfl
@[simp] theorem fnOK79 : fnOK Tryz.prog 79 = true := by kernel_rfl
@[simp] theorem fnOK80 : fnOK Tryz.prog 80 = true := by kernel_rfl
@[simp] theorem fnOK81 : fnOK Tryz.prog 81 = true := by kernel_rfl
@[simp] theorem fnOK82 : fnOK Tryz.prog 82 = true := by kernel_rfl
@[simp] theorem fnOK83 : fnOK Tryz.prog 83 = true := by kernel_rfl
@[simp] theorem fnOK84 : fnOK Tryz.prog 84 = true := by kernel_rfl
@[simp] theorem fnOK85 : fnOK Tryz.prog 85 = true := by kernel_rfl
@[simp] theorem fnOK86 : fnOK Tryz.prog 86 = true := by kernel_rfl
@[simp] theorem fnOK87 : fnOK Tryz.prog 87 = true := by kernel_rfl
@[simp] theorem fnOK89 : fnOK Tryz.prog 89 = true := by kernel_rfl
@[simp] theorem fnOK90 : fnOK Tryz.prog 90 = true := by kernel_rfl
@[simp] theorem fnOK91 : fnOK Tryz.prog 91 = true := by kernel_rfl
@[simp] theorem fnOK92 : fnOK Tryz.prog 92 = true := by kernel_rfl
@[simp] theorem fnOK94 : fnOK Tryz.prog 94 = true := by kernel_rfl
@[simp] theorem fnOK96 : fnOK Tryz.prog 96 = true := by kernel_rfl
@[simp] theorem fnOK98 : fnOK Tryz.prog 98 = true := by kernel_rfl
@[simp] theorem fnOK102 : fnOK Tryz.prog 102 = true := by kernel_rfl
@[simp] theorem fnOK103 : fnOK Tryz.prog 103 = true := by kernel_rfl
@[simp] theorem fnOK104 : fnOK Tryz.prog 104 = true := by kernel_rfl
@[simp] theorem fnOK105 : fnOK Tryz.prog 105 = true := by kernel_rfl
@[simp] theorem fnOK106 : fnOK Tryz.prog 106 = true := by kernel_rfl
@[simp] theorem fnOK107 : fnOK Tryz.prog 107 = true := by kernel_rfl
@[simp] theorem fnOK108 : fnOK Tryz.prog 108 = true := by kernel_rfl
@[simp] theorem fnOK109 : fnOK Tryz.prog 109 = true := by kernel_rfl
@[simp] theorem fnOK110 : fnOK Tryz.prog 110 = true := by kernel_rfl
@[simp] theorem fnOK111 : fnOK Tryz.prog 111 = true := by kernel_rfl
@[simp] theorem fnOK113 : fnOK Tryz.prog 113 = true := by kernel_rfl
@[simp] theorem fnOK114 : fnOK Tryz.prog 114 = true := by kernel_rfl
@[simp] theorem fnOK115 : fnOK Tryz.prog 115 = true := by kernel_rfl
@[simp] theorem fnOK116 : fnOK Tryz.prog 116 = true := by kernel_rfl
@[simp] theorem fnOK117 : fnOK Tryz.prog 117 = true := by kernel_rfl
@[simp] theorem fnOK119 : fnOK Tryz.prog 119 = true := by kernel_rfl
@[simp] theorem fnOK120 : fnOK Tryz.prog 120 = true := by kernel_rfl
@[simp] theorem fnOK121 : fnOK Tryz.prog 121 = true := by kernel_rfl
@[simp] theorem fnOK122 : fnOK Tryz.prog 122 = true := by kernel_rfl
@[simp] theorem fnOK123 : fnOK Tryz.prog 123 = true := by kernel_rfl
@[simp] theorem fnOK124 : fnOK Tryz.prog 124 = true := by kernel_rfl
@[simp] theorem fnOK125 : fnOK Tryz.prog 125 = true := by kernel_rfl
@[simp] theorem fnOK126 : fnOK Tryz.prog 126 = true := by kernel_rfl
@[simp] theorem fnOK127 : fnOK Tryz.prog 127 = true := by kernel_rfl
@[simp] theorem fnOK128 : fnOK Tryz.prog 128 = true := by kernel_rfl
@[simp] theorem fnOK132 : fnOK Tryz.prog 132 = true := by kernel_rfl
@[simp] theorem fnOK133 : fnOK Tryz.prog 133 = true := by kernel_rfl
@[simp] theorem mixed : Tryz.prog.follows .mixedOrders = true := by kernel_rfl
end Go.Proofs

set_option linter.unusedSimpArgs false
namespace Go.Tr
open Go
inductive Ty where
 | int (k : IntKind)
 | bool
 | str
 | sl (e : Ty)
 | st (fs : List Ty)
mutual
def Ty.size : Ty → Nat
 | .st fs => Ty.sizes fs
 | _ => 1
def Ty.sizes : List Ty → Nat
 | [] => 0
 | f :: fs => f.size + Ty.sizes fs
end
mutual
def Ty.has : Ty → List D → Prop
 | .int k, ds => ∃ n, ds = [.int k n] ∧ (Lit.int k n).wf = true
 | .bool, ds => ∃ b, ds = [.bool b]
 | .str, ds => ∃ s : ByteArray, ds = [.str s] ∧ s.size ≤ maxLen
 | .sl e, ds => ∃ xs, ds = [.sl xs] ∧ xs.length ≤ maxLen ∧ ∀ x ∈ xs, e.has x
 | .st fs, ds => Ty.hass fs ds
def Ty.hass : List Ty → List D → Prop
 | [], ds => ds = []
 | f :: fs, ds => ∃ a b, ds = a ++ b ∧ f.has a ∧ Ty.hass fs b
end
mutual
def tyB (P : Program) : Ty → TypeId → Bool
 | .int k, t => match P.underlying t with | some (.int k') => decide (k' = k) | _ => false
 | .bool, t => match P.underlying t with | some .bool => true | _ => false
 | .str, t => match P.underlying t with | some .string => true | _ => false
 | .sl e, t => match P.underlying t with | some (.slice u) => tyB P e u && (decide (P.cellsOf u = e.size) && decide (0 < e.size)) | _ => false
 | .st fs, t => match P.underlying t with | some (.struct a) => tyFs P fs a.toList 0 && decide (P.cellsOf t = Ty.sizes fs) | _ => false
def tyFs (P : Program) : List Ty → List Field → Nat → Bool
 | [], [], _ => true
 | T :: fs, f :: l, o => decide (f.offset = o) && (decide (P.cellsOf f.type = T.size) && (tyB P T f.type && tyFs P fs l (o + T.size)))
 | _, _, _ => false
end
mutual
theorem Ty.has_len : ∀ (T : Ty) {ds : List D}, T.has ds → ds.length = T.size
 | .int k, ds, h => by simp only [Ty.has] at h; obtain ⟨n, rfl, _⟩ := h; simp [Ty.size]
 | .bool, ds, h => by simp only [Ty.has] at h; obtain ⟨n, rfl⟩ := h; simp [Ty.size]
 | .str, ds, h => by simp only [Ty.has] at h; obtain ⟨n, rfl, _⟩ := h; simp [Ty.size]
 | .sl e, ds, h => by simp only [Ty.has] at h; obtain ⟨n, rfl, _⟩ := h; simp [Ty.size]
 | .st fs, ds, h => by simp only [Ty.has] at h; simp only [Ty.size]; exact Ty.hass_len fs h
theorem Ty.hass_len : ∀ (fs : List Ty) {ds : List D}, Ty.hass fs ds → ds.length = Ty.sizes fs
 | [], ds, h => by simp only [Ty.hass] at h; subst h; simp [Ty.sizes]
 | f :: fs, ds, h => by
   simp only [Ty.hass] at h
   obtain ⟨a, b, rfl, h1, h2⟩ := h
   simp only [Ty.sizes, List.length_append, Ty.has_len f h1, Ty.hass_len fs h2]
end
theorem RelVs.app {E : En} : ∀ {a b : List TV} {us vs : List Value}, RelVs E a us → RelVs E b vs → RelVs E (a ++ b) (us ++ vs)
 | [], b, us, vs, h, g => by simp only [RelVs] at h; subst h; simpa using g
 | t :: a, b, us, vs, h, g => by
   simp only [RelVs] at h
   obtain ⟨u, us', rfl, h1, h2⟩ := h
   simp only [List.cons_append, RelVs]
   exact ⟨u, _, rfl, h1, RelVs.app h2 g⟩
theorem add_mk (b o m : Nat) : (⟨b, o, none⟩ : Addr).add m = ⟨b, o + m, none⟩ := by
 unfold Addr.add
 split
 ·rename_i h; subst h; rfl
 ·rfl
theorem cell_lt {w : World} {a : Addr} {v : Value} (h : w.cell? a = some v) : a.block < w.heap.size ∧ a.spot = none := by
 simp only [World.cell?] at h
 split at h
 ·rename_i hh
  refine ⟨(Array.getElem?_eq_some_iff.1 hh).1, ?_⟩
  cases hs : a.spot with
  | none => rfl
  | some s => simp [hs] at h
 ·simp at h
theorem cells_rep {w : World} {b : Nat} : ∀ {ds : List D} {vs : List Value} {o : Nat}, RelVs (inE w) (ds.map .d) vs → (∀ i, i < ds.length → w.cell? ⟨b, o + i, none⟩ = vs[i]?) → RepCells (inE w) b o ds
 | [], _, _, _, _ => by simp only [RepCells]
 | d :: ds, vs, o, h, hc => by
   simp only [List.map_cons, RelVs] at h
   obtain ⟨u, vs', rfl, h1, h2⟩ := h
   have h0 := hc 0 (by simp)
   simp only [Nat.add_zero, List.getElem?_cons_zero] at h0
   simp only [RepCells]
   refine ⟨⟨(cell_lt h0).1, u, h0, by simpa only [RelV] using h1⟩, cells_rep h2 fun i hi => ?_⟩
   have := hc (i + 1) (by simp; omega)
   rw [show o + (i + 1) = o + 1 + i by omega] at this
   simpa using this
theorem rows_build {E : En} {b k : Nat} {p : List D → Prop} : ∀ (n : Nat) {o : Nat}, (∀ i, i < n → ∃ ds, p ds ∧ ds.length = k ∧ RepCells E b (o + i * k) ds) → ∃ xs : List (List D), xs.length = n ∧ (∀ x ∈ xs, p x) ∧ RepRows E b k o xs
 | 0, o, _ => ⟨[], rfl, by simp, by simp only [RepRows]⟩
 | n + 1, o, h => by
   obtain ⟨d, h1, h2, h3⟩ := h 0 (by omega)
   obtain ⟨xs, g1, g2, g3⟩ := rows_build (p := p) n (o := o + k) fun i hi => by
    obtain ⟨ds, k1, k2, k3⟩ := h (i + 1) (by omega)
    refine ⟨ds, k1, k2, ?_⟩
    rw [show o + k + i * k = o + (i + 1) * k by rw [Nat.add_mul]; omega]
    exact k3
   refine ⟨d :: xs, by simp [g1], by simpa using ⟨h1, g2⟩, ?_⟩
   simp only [RepRows]
   exact ⟨h2, by simpa using h3, g3⟩
section
variable {H : Type} {enc : TypeId × Value → H} {P : Program} {w : World} {sp : Nat → Bool} {held : Bool}
mutual
theorem trod_has : ∀ (T : Ty) {t : TypeId} {fuel : Nat} {cs : List Value} {x : DataW H × List MemPlace}, tyB P T t = true → DataW.trod enc P w 0 sp held fuel t cs = some x → ∃ ds, T.has ds ∧ RelVs (inE w) (ds.map .d) cs
 | .int k, t, fuel, cs, x, hT, h => by
   simp only [tyB] at hT
   split at hT
   ·rename_i ht
    simp only [decide_eq_true_eq] at hT
    subst hT
    obtain ⟨n, rfl, _, hw⟩ := DataW.trod_int ht h
    exact ⟨[.int _ n], by simp only [Ty.has]; exact ⟨n, rfl, hw⟩, by simp [RelVs, RelV, Rep]⟩
   ·simp at hT
 | .bool, t, fuel, cs, x, hT, h => by
   simp only [tyB] at hT
   split at hT
   ·rename_i ht
    obtain ⟨n, rfl, _⟩ := DataW.trod_bool ht h
    exact ⟨[.bool n], by simp only [Ty.has]; exact ⟨n, rfl⟩, by simp [RelVs, RelV, Rep]⟩
   ·simp at hT
 | .str, t, fuel, cs, x, hT, h => by
   simp only [tyB] at hT
   split at hT
   ·rename_i ht
    obtain ⟨n, rfl, _, hw⟩ := DataW.trod_string ht h
    exact ⟨[.str n], by simp only [Ty.has]; exact ⟨n, rfl, hw⟩, by simp [RelVs, RelV, Rep]⟩
   ·simp at hT
 | .sl e, t, fuel, cs, x, hT, h => by
   simp only [tyB] at hT
   split at hT
   ·rename_i u ht
    simp only [Bool.and_eq_true, decide_eq_true_eq] at hT
    obtain ⟨hu, hk, hk0⟩ := hT
    rcases DataW.trod_slice ht h with ⟨rfl, _⟩ | ⟨a, len, cap, elems, rest, n, _, rfl, _, _, hl, hm, hlen, hel, _, _⟩
    ·exact ⟨[.sl []], by simp only [Ty.has]; exact ⟨[], rfl, by simp, by simp⟩, by simp only [List.map_cons, List.map_nil, RelVs, RelV, Rep]; exact ⟨_, _, rfl, .inl ⟨rfl, _, _, rfl⟩, rfl⟩⟩
    ·by_cases h0 : len = 0
     ·subst h0
      exact ⟨[.sl []], by simp only [Ty.has]; exact ⟨[], rfl, by simp, by simp⟩, by simp only [List.map_cons, List.map_nil, RelVs, RelV, Rep]; exact ⟨_, _, rfl, .inl ⟨rfl, _, _, rfl⟩, rfl⟩⟩
     ·have each : ∀ i, i < len → ∃ vs y, w.cells? 0 (a.add (i * P.cellsOf u)) (P.cellsOf u) = some vs ∧ DataW.trod enc P w 0 sp held n u vs = some y := fun i hi => by
       have h1 := hel i hi
       have h2 : elems[i]? = some elems[i] := List.getElem?_eq_getElem (by omega)
       rw [h2, Option.bind_eq_some_iff] at h1
       obtain ⟨vs, g1, g2⟩ := h1
       exact ⟨vs, _, g1, g2⟩
      have hspot : a.spot = none := by
       obtain ⟨vs, y, g1, _⟩ := each 0 (by omega)
       obtain ⟨_, g3, g4⟩ := World.cells?_some g1
       have g5 := g4 0 (by omega)
       have g6 : vs[0]? = some vs[0] := List.getElem?_eq_getElem (by omega)
       rw [g6] at g5
       simp only [Nat.zero_mul, Addr.add, if_true] at g5
       exact (cell_lt g5).2
      obtain ⟨b, o, s⟩ := a
      simp only at hspot
      subst hspot
      obtain ⟨xs, x1, x2, x3⟩ := rows_build (E := inE w) (b := b) (k := e.size) (p := e.has) len (o := o) fun i hi => by
       obtain ⟨vs, y, g1, g2⟩ := each i hi
       obtain ⟨ds, d1, d2⟩ := trod_has e hu g2
       obtain ⟨_, g3, g4⟩ := World.cells?_some g1
       refine ⟨ds, d1, e.has_len d1, cells_rep d2 fun j hj => ?_⟩
       rw [e.has_len d1] at hj
       have := g4 j (by omega)
       rw [add_mk, add_mk, hk] at this
       exact this
      exact ⟨[.sl xs], by simp only [Ty.has]; exact ⟨xs, rfl, by omega, x2⟩, by
       simp only [List.map_cons, List.map_nil, RelVs, RelV, Rep]
       exact ⟨_, _, rfl, .inr ⟨b, o, cap, e.size, by rw [x1], by omega, x3⟩, rfl⟩⟩
   ·simp at hT
 | .st fs, t, fuel, cs, x, hT, h => by
   simp only [tyB] at hT
   split at hT
   ·rename_i a ht
    simp only [Bool.and_eq_true, decide_eq_true_eq] at hT
    obtain ⟨hf, hs⟩ := hT
    obtain ⟨xs, n, _, _, hl, hlen, hel⟩ := DataW.trod_struct ht h
    obtain ⟨ds, d1, d2⟩ := trods_has fs (l := a.toList) (o := 0) (n := n) (cs := cs) hf (fun f hfm => by
     obtain ⟨i, hi⟩ := List.getElem?_of_mem hfm
     have hi' : a[i]? = some f := by simpa using hi
     have hlt : i < a.size := (Array.getElem?_eq_some_iff.1 hi').1
     exact ⟨xs[i], by rw [hel i f hi']; exact List.getElem?_eq_getElem (by omega)⟩)
    refine ⟨ds, by simpa only [Ty.has] using d1, ?_⟩
    rw [List.drop_zero, List.take_of_length_le (by omega)] at d2
    exact d2
   ·simp at hT
theorem trods_has : ∀ (fs : List Ty) {l : List Field} {o n : Nat} {cs : List Value}, tyFs P fs l o = true → (∀ f ∈ l, ∃ x, DataW.trod enc P w 0 sp held n f.type ((cs.drop f.offset).take (P.cellsOf f.type)) = some x) →
  ∃ ds, Ty.hass fs ds ∧ RelVs (inE w) (ds.map .d) ((cs.drop o).take (Ty.sizes fs))
 | [], l, o, n, cs, hT, h => ⟨[], by simp only [Ty.hass], by simp [RelVs, Ty.sizes]⟩
 | T :: fs, [], o, n, cs, hT, h => by simp [tyFs] at hT
 | T :: fs, f :: l, o, n, cs, hT, h => by
   simp only [tyFs, Bool.and_eq_true, decide_eq_true_eq] at hT
   obtain ⟨ho, hk, hu, hr⟩ := hT
   obtain ⟨x, hx⟩ := h f (by simp)
   rw [ho, hk] at hx
   obtain ⟨d1, a1, a2⟩ := trod_has T hu hx
   obtain ⟨d2, b1, b2⟩ := trods_has fs (o := o + T.size) hr fun g hg => h g (by simp [hg])
   refine ⟨d1 ++ d2, by simp only [Ty.hass]; exact ⟨_, _, rfl, a1, b1⟩, ?_⟩
   rw [List.map_append, Ty.sizes, List.take_add, List.drop_drop]
   exact RelVs.app a2 b2
end
def Ty.tv : Ty → List D → TV
 | .st _, ds => .agg (ds.map .d)
 | _, d :: _ => .d d
 | _, [] => .junk
theorem arg_rel (T : Ty) {t : TypeId} {r : Reach} {b0 : Nat} {v : Value} {d : DataW H} {ps : List MemPlace} (hT : tyB P T t = true) (hv : Value.okWide P w r b0 t v) (h : DataW.Trod enc P w 0 sp held t v d ps) :
  ∃ ds, T.has ds ∧ RelV (inE w) (T.tv ds) v := by
 obtain ⟨fuel, hf⟩ := h
 obtain ⟨ds, h1, h2⟩ := trod_has T hT hf
 refine ⟨ds, h1, ?_⟩
 cases T with
 | st fs =>
   simp only [tyB] at hT
   split at hT
   ·rename_i a ht
    obtain ⟨cs, rfl, _⟩ := WideShapes.okWide_struct ht hv
    simp only [Ty.tv, RelV]
    exact ⟨cs, rfl, by simpa [Value.cells] using h2⟩
   ·simp at hT
 | int k =>
   simp only [tyB] at hT
   split at hT
   ·rename_i ht
    obtain ⟨n, rfl⟩ := WideShapes.okWide_int ht hv
    simp only [Ty.has] at h1
    obtain ⟨m, rfl, _⟩ := h1
    simp [Value.cells, RelVs] at h2
    simpa [Ty.tv] using h2
   ·simp at hT
 | bool =>
   simp only [tyB] at hT
   split at hT
   ·rename_i ht
    obtain ⟨n, rfl⟩ := WideShapes.okWide_bool ht hv
    simp only [Ty.has] at h1
    obtain ⟨m, rfl⟩ := h1
    simp [Value.cells, RelVs] at h2
    simpa [Ty.tv] using h2
   ·simp at hT
 | str =>
   simp only [tyB] at hT
   split at hT
   ·rename_i ht
    obtain ⟨n, rfl⟩ := WideShapes.okWide_string ht hv
    simp only [Ty.has] at h1
    obtain ⟨m, rfl, _⟩ := h1
    simp [Value.cells, RelVs] at h2
    simpa [Ty.tv] using h2
   ·simp at hT
 | sl e =>
   simp only [tyB] at hT
   split at hT
   ·rename_i ht
    obtain ⟨a, len, cap, rfl⟩ := WideShapes.okWide_slice ht hv
    simp only [Ty.has] at h1
    obtain ⟨m, rfl, _⟩ := h1
    simp [Value.cells, RelVs] at h2
    simpa [Ty.tv] using h2
   ·simp at hT
end
end Go.Tr

namespace Go.Tr
open Go
theorem Contract.true {P : Program} {f : FuncId} {args : List TV} {ro : List (Nat × It)} (c : Contract P f args [] (.d (.bool true)) [] ro) {w : World} (hg : GlobW w) {us : List Value} (h : RelVs (inE w) args us) :
  Calls P f us.toArray w fun e w' => e = .returned (.bool true) ∧ RowKit.Below w.heap.size w w' :=
 (c.law hg h).mono fun e w' ⟨u, E', he, hr, hb⟩ => by
  simp only [RelV, Rep] at hr
  subst hr
  exact ⟨he, hb⟩
theorem has_ints {k : IntKind} {ds : List D} (h : (Ty.sl (.int k)).has ds) : ∃ l : List Int, ds = [.sl (l.map fun n => [.int k n])] ∧ l.length ≤ maxLen ∧ ∀ n ∈ l, (Lit.int k n).wf = true := by
 simp only [Ty.has] at h
 obtain ⟨xs, rfl, h1, h2⟩ := h
 have : ∀ (xs : List (List D)), (∀ x ∈ xs, ∃ n, x = [D.int k n] ∧ (Lit.int k n).wf = true) → ∃ l : List Int, xs = l.map (fun n => [D.int k n]) ∧ ∀ n ∈ l, (Lit.int k n).wf = true := by
  intro xs
  induction xs with
  | nil => exact fun _ => ⟨[], rfl, by simp⟩
  | cons x xs ih =>
    intro h
    obtain ⟨n, rfl, hn⟩ := h x (by simp)
    obtain ⟨l, rfl, hl⟩ := ih fun y hy => h y (by simp [hy])
    exact ⟨n :: l, rfl, by simpa using ⟨hn, hl⟩⟩
 obtain ⟨l, rfl, hl⟩ := this xs h2
 exact ⟨l, rfl, by simpa using h1, hl⟩
theorem wf_i64 {n : Int} (h : (Lit.int .i64 n).wf = true) : I64 n := by
 simp only [Lit.wf, Bool.and_eq_true, decide_eq_true_eq] at h
 have m1 : IntKind.i64.min = -9223372036854775808 := by decide
 have m2 : IntKind.i64.max = 9223372036854775807 := by decide
 exact ⟨by omega, by omega⟩
structure InplC (P : Program) (f : FuncId) (k : IntKind) (F : List Int → List Int) (m : Option (List Int → Nat)) : Prop where
 len : ∀ zs, (F zs).length = zs.length
 mle : ∀ m', m = some m' → ∀ zs, m' zs ≤ zs.length
 run : ∀ (w : World) (g cap : Nat) (zs : List Int) (cur : Array Value) (e : TypeId), w.heap[g]? = some (.cells cur e (0, 0)) → zs.length ≤ cap → cap ≤ maxLen → cur.size = cap → cur.toList.take zs.length = zs.map (.int k) → 0 < zs.length → zs.length < 4611686018427387904 →
  Calls P f #[.slice (some ⟨g, 0, none⟩) zs.length cap] w fun e' w' => e' = .returned (match m with | none => .tuple #[] | some m' => .slice (some ⟨g, 0, none⟩) (m' zs) cap) ∧ w.grownBy w' (some g) ∧
   ∃ cur', w'.heap[g]? = some (.cells cur' e (0, 0)) ∧ cur'.size = cap ∧ cur'.toList.take zs.length = (F zs).map (.int k)
 none : ∀ p cap w, Calls P f #[.slice p 0 cap] w fun e' w' => (∃ p' c', e' = .returned (match m with | none => .tuple #[] | some _ => .slice p' 0 c')) ∧ w' = w
def nrow (k : IntKind) (zs : List Int) : List (List D) := zs.map fun z => [.int k z]
@[simp] theorem nrow_len (k : IntKind) (zs : List Int) : (nrow k zs).length = zs.length := by simp [nrow]
@[simp] theorem ddn_len (k : IntKind) (zs : List Int) : (dd (nrow k zs)).length = zs.length := by simp [dd]
theorem toDss_nrow (k : IntKind) : ∀ zs : List Int, toDss (dd (nrow k zs)) = some (nrow k zs)
 | [] => rfl
 | z :: zs => by
   have := toDss_nrow k zs
   simp only [nrow, dd, List.map_cons, List.map_nil] at this ⊢
   simp only [toDss, toDs, toD, this]
theorem rowrel_nums {E : En} {k : IntKind} : ∀ {zs : List Int} {us : List Value} {o : Nat}, (∀ i z, zs[i]? = some z → us[o + i]? = some (.int k z)) → RowRel E us 1 o (dd (nrow k zs))
 | [], _, _, _ => trivial
 | z :: zs, us, o, h => by
   refine ⟨rfl, ⟨⟨.int k z, by simpa using h 0 z rfl, rfl, by simp [RelV, Rep]⟩, trivial⟩, rowrel_nums fun i z hz => ?_⟩
   have := h (i + 1) z hz
   rwa [show o + (i + 1) = o + 1 + i by omega] at this
theorem nums_rowrel {E : En} {k : IntKind} : ∀ {zs : List Int} {us : List Value} {o : Nat}, RowRel E us 1 o (dd (nrow k zs)) → ∀ i z, zs[i]? = some z → us[o + i]? = some (.int k z)
 | z :: zs, us, o, ⟨_, ⟨⟨u, h1, _, h3⟩, _⟩, h4⟩, i, y, hy => by
   cases i with
   | zero =>
     simp at hy; subst hy
     simp only [RelV, Rep] at h3
     subst h3
     simpa using h1
   | succ i =>
     have := nums_rowrel h4 i y (by simpa using hy)
     rwa [show o + 1 + i = o + (i + 1) by omega] at this
def inplR (k : IntKind) (F : List Int → List Int) (m : Option (List Int → Nat)) (zs : List Int) : TV :=
 match m with
 | none => .tup []
 | some m' => .d (.sl (nrow k ((F zs).take (m' zs))))
section
variable {P : Program} {A : Actv} {ops : Array Oper}
theorem Sum.inpl {t : S} {i : Nat} {o : Oper} {gp : List Pl} {fo x : Operand} {tys : Array TypeId} {f : FuncId} {k : IntKind} {F : List Int → List Int} {m : Option (List Int → Nat)} {id n : Nat} {e : TypeId} {zs : List Int}
  (ho : ops[i]? = some o) (hg : gv ops t o = some (gp, true)) (hd : dstOK A.N o = true) (hop : o.op = .call { callee := .value fo, args := #[x], argTypes := tys }) (hf : ev t fo = .clo f []) (hfn : fnOK P f = true)
  (C : InplC P f k F m) (hx : ev t x = .oref id n) (ht : t (.o id) = .row e 1 (dd (nrow k zs)) false) (hn : n = zs.length) (hsz : zs.length < 4611686018427387904) :
  Sum P A ops i t (gp ++ (pl fo ++ (pl x ++ [.o id]))) (dstW o (inplR k F m zs) [(.o id, .row e 1 (dd (nrow k (F zs))) m.isSome)]) := fun t' hr a w ⟨E, hw, hi⟩ K Q hK => by
 subst hw
 have hwant := gv_wanted hg (pl_left hr) hi
 have hr1 := pl_right hr
 have hr2 := pl_right hr1
 have hfo : ev t' fo = .clo f [] := (ev_eq (pl_left hr1)).trans hf
 have hx' : ev t' x = .oref id n := (ev_eq (pl_left hr2)).trans hx
 have ht' : t' (.o id) = .row e 1 (dd (nrow k zs)) false := (pl_right hr2 _ (by simp)).trans ht
 have hfr := ev_rel hi fo
 rw [hfo] at hfr
 simp only [RelV, RelVs] at hfr
 obtain ⟨ucap, hufo, hucap⟩ := hfr
 obtain rfl : ucap = #[] := by cases ucap; simpa using hucap
 have hxr := ev_rel hi x
 rw [hx'] at hxr
 obtain ⟨hblk, v, us, hval, hown, hrel, hcur⟩ := row_cur hi ht'
 have hnl : (dd (nrow k zs)).length = zs.length := ddn_len k zs
 rw [hn, ← hnl] at hxr
 have hxv := hcur _ hxr
 rw [hnl] at hval hown
 unfold wpOp
 simp only [ho, hwant, if_true]
 refine .inl ?_
 unfold Oper.wp
 have hrun : (execOp a.eval o).run P E.w = .ok (.enter f #[v]) E.w := by
  simp only [execOp, hop, resolve, hufo, Deferred.ofValue, invoke, Sem.run_bind, Sem.run_pure, Result.andThen_ok, List.map_toArray, Array.empty_append, run_callFunc hfn, hxv, Array.map, Array.append_empty]
  simp [hxv, run_callFunc hfn]
 rw [hrun]
 simp only [Oper.upon]
 have hnum := nums_rowrel hrel
 simp only [Nat.zero_add] at hnum
 have hownp : E.own (.o id) = v.ownBlock := by simp [En.own, hblk, hval]
 have htsh : ∀ (b : Nat), E.own (.o id) = some b → ∀ o', ¬ E.St b o' := fun b hb o' hs => by
  obtain ⟨e2, k2, es2, h1, _⟩ := hi.h.sep b o' hs _ hb
  rw [ht'] at h1
  simp at h1
 have fin : ∀ (w' : World) (us' : List Value) (u : Value), E.w.grownBy w' v.ownBlock → w'.ownsRow 0 e 1 v zs.length us' → (∀ (i : Nat) (z : Int), (F zs)[i]? = some z → us'[i]? = some (Value.int k z)) → (m = none → u = .tuple #[]) →
   (∀ m', m = some m' → ∃ p c, u = .slice p (m' zs) c ∧ (m' zs = 0 ∨ ∃ g cap, v = .slice (some ⟨g, 0, none⟩) zs.length cap ∧ p = some ⟨g, 0, none⟩ ∧ c = cap)) →
   K (a.put o.dst u) w' := fun w' us' u hgr hown' hcells hr0 hr1' => by
  obtain ⟨E', hw', x1, hi', hval'⟩ := hi.rowStep ht' (es' := dd (nrow k (F zs))) (sh' := false) (us' := us') (v' := v) (w' := w') (by rw [hnl]; exact hval) hgr
   (by rw [ddn_len, C.len]; exact hown') (by rw [ddn_len, ddn_len, C.len]; exact Nat.le_refl _) (fun _ => rfl) (.inl rfl)
   (fun b o' hst => by
    by_cases hb : v.ownBlock = some b
    ·exact absurd hst (htsh b (by rw [hownp, hb]) o')
    ·exact atW_of_block (hgr.block b (hi.h.stsz b o' hst) (fun e => hb e.symm)))
   (fun h => by simp at h) (fun E' hw' x => rowrel_nums (by simpa using hcells))
  cases m with
  | none =>
    refine hK _ _ ⟨E', hw', ?_⟩
    rw [hr0 rfl]
    exact InvE.dst (W := [(.o id, .row e 1 (dd (nrow k (F zs))) false)]) hi' hd (by simp only [inplR, RelV]; exact ⟨#[], rfl, by simp [RelVs]⟩)
  | some m' =>
    obtain ⟨E2, hw2, x2, hb2, hv2, hi2, hrep, _⟩ := hi'.freeze (upd_same _ _ _) (toDss_nrow k (F zs))
    have hupd : upd (upd t' (.o id) (.row e 1 (dd (nrow k (F zs))) false)) (.o id) (.row e 1 (dd (nrow k (F zs))) true) = upd t' (.o id) (.row e 1 (dd (nrow k (F zs))) true) := by
     funext p; simp only [upd]; split <;> rfl
    rw [hupd] at hi2
    refine hK _ _ ⟨E2, hw2.trans hw', ?_⟩
    obtain ⟨p, c, hu, hp⟩ := hr1' m' rfl
    subst hu
    refine InvE.dst (W := [(.o id, .row e 1 (dd (nrow k (F zs))) true)]) hi2 hd ?_
    have hml := C.mle m' rfl zs
    have hlen := C.len zs
    have htl : (nrow k ((F zs).take (m' zs))).length = m' zs := by rw [nrow_len, List.length_take]; omega
    simp only [inplR, RelV, Rep]
    rcases hp with h0 | ⟨g, cap, hv, hp1, hp2⟩
    ·exact .inl ⟨by rw [htl, h0], p, c, by rw [h0]⟩
    ·subst hp1 hp2
     by_cases h0 : m' zs = 0
     ·exact .inl ⟨by rw [htl, h0], _, _, by rw [h0]⟩
     ·have hfull := hrep v (by
       simp only [RelV]
       refine ⟨by rw [hv]; rfl, 1, _, v, hval', Nat.le_refl _, fun _ => rfl⟩)
      simp only [Rep] at hfull
      rcases hfull with ⟨hz, _⟩ | ⟨b, o2, c2, k2, hv2', hc2, hrows⟩
      ·rw [nrow_len] at hz; omega
      ·rw [hv] at hv2'
       simp only [Value.slice.injEq, Option.some.injEq, Addr.mk.injEq, and_true] at hv2'
       obtain ⟨⟨rfl, rfl⟩, hl, rfl⟩ := hv2'
       refine .inr ⟨g, 0, _, k2, by rw [htl], by rw [htl]; rw [nrow_len] at hc2; omega, RepRows.of_get fun i y hy => ?_⟩
       refine hrows.get ?_
       rw [show nrow k ((F zs).take (m' zs)) = (nrow k (F zs)).take (m' zs) by simp [nrow], List.getElem?_take] at hy
       split at hy
       ·exact hy
       ·simp at hy
 rcases hown.2 with ⟨hv, h0⟩ | ⟨g, cap, cur, hv, hb0, hgg, hnc, hcm, hcs, htake⟩
 ·-- no numbers
  have hz : zs = [] := List.length_eq_zero_iff.1 h0
  subst hv
  refine (C.none none 0 E.w).mono fun e' w' ⟨⟨p', c', he⟩, hw'⟩ => ?_
  subst he hw'
  refine fin E.w us _ ⟨rfl, rfl, rfl, Nat.le_refl _, fun _ _ _ => rfl⟩ hown (fun i z hz' => ?_) (fun hm => by subst hm; rfl) (fun m' hm => ?_)
  ·have := C.len zs
   rw [h0] at this
   rw [List.length_eq_zero_iff.1 this] at hz'
   simp at hz'
  ·subst hm
   have := C.mle m' rfl zs
   have e0 : m' zs = 0 := by omega
   exact ⟨p', c', by rw [e0], .inl e0⟩
 ·by_cases h0 : zs.length = 0
  ·subst hv
   have hz : zs = [] := List.length_eq_zero_iff.1 h0
   rw [h0]
   refine (C.none _ cap E.w).mono fun e' w' ⟨⟨p', c', he⟩, hw'⟩ => ?_
   subst he hw'
   rw [h0] at fin hown
   refine fin E.w us _ ⟨rfl, rfl, rfl, Nat.le_refl _, fun _ _ _ => rfl⟩ hown (fun i z hz' => ?_) (fun hm => by subst hm; rfl) (fun m' hm => ?_)
   ·have := C.len zs
    rw [h0] at this
    rw [List.length_eq_zero_iff.1 this] at hz'
    simp at hz'
   ·subst hm
    have := C.mle m' rfl zs
    have e0 : m' zs = 0 := by omega
    exact ⟨p', c', by rw [e0], .inl e0⟩
  ·subst hv
   have husz : us = zs.map (.int k) := by
    apply List.ext_getElem?
    intro i
    by_cases hi2 : i < zs.length
    ·rw [hnum i zs[i] (List.getElem?_eq_getElem hi2)]
     simp [hi2]
    ·have := hown.1
     rw [List.getElem?_eq_none (by omega), List.getElem?_eq_none (by simp; omega)]
   rw [Nat.mul_one] at htake hcs
   rw [husz] at htake
   refine (C.run E.w g cap zs cur e hgg hnc hcm hcs htake (by omega) hsz).mono fun e' w' ⟨he, hgr, cur', h1, h2, h3⟩ => ?_
   subst he
   refine fin w' ((F zs).map (.int k)) _ hgr ⟨by simp [C.len], .inr ⟨g, cap, cur', rfl, hb0, h1, hnc, hcm, by omega, by rw [Nat.mul_one]; exact h3⟩⟩ (fun i z hz => by simp [hz]) (fun hm => by subst hm; rfl) (fun m' hm => ?_)
   subst hm
   exact ⟨_, _, rfl, .inr ⟨g, cap, rfl, rfl, rfl⟩⟩
def inplX (P : Program) (N : Nat) (t : S) (o : Oper) (f : FuncId) (k : IntKind) (F : List Int → List Int) (m : Option (List Int → Nat)) (zs : List Int) (gp : List Pl) (g : Bool) (fo x : Operand) : Option (Prop × List Pl × List (Pl × It)) :=
 match ev t x with
 | .oref id n => match ev t fo with
   | .clo f' caps => match t (.o id) with
     | .row e z es sh => some (g = true ∧ dstOK N o = true ∧ f' = f ∧ caps = [] ∧ fnOK P f = true ∧ z = 1 ∧ sh = false ∧ es = dd (nrow k zs) ∧ n = zs.length ∧ zs.length < 4611686018427387904, gp ++ (pl fo ++ (pl x ++ [.o id])), dstW o (inplR k F m zs) [(.o id, .row e 1 (dd (nrow k (F zs))) m.isSome)])
     | _ => none
   | _ => none
 | _ => none
def inplO (P : Program) (N : Nat) (t : S) (ops : Array Oper) (f : FuncId) (k : IntKind) (F : List Int → List Int) (m : Option (List Int → Nat)) (zs : List Int) : Option Oper → Option (Prop × List Pl × List (Pl × It))
 | some o => match gv ops t o with
   | some (gp, g) => match o.op with
     | .call { callee := .value fo, args := xs, argTypes := _ } => match xs.toList with
       | [x] => inplX P N t o f k F m zs gp g fo x
       | _ => none
     | _ => none
   | none => none
 | none => none
theorem ACall.inpl {i : Nat} {t : S} {k : List Pl → List (Pl × It) → Prop} {g : Tg k} {f : FuncId} {kd : IntKind} {F : List Int → List Int} {m : Option (List Int → Nat)} (C : InplC P f kd F m) (zs : List Int)
  (h : AGo k g (inplO P A.N t ops f kd F m zs ops[i]?)) : ACall P A ops i t k g := by
 unfold AGo at h
 split at h
 ·rename_i D rp W hc
  obtain ⟨h1, h2⟩ := h
  refine ⟨rp, W, ?_, h2⟩
  unfold inplO at hc
  split at hc
  ·rename_i o ho
   split at hc
   ·rename_i gp g0 hg
    split at hc
    ·rename_i fo xs tys hop
     split at hc
     ·rename_i x hxs
      obtain rfl : xs = #[x] := by cases xs; simpa using hxs
      unfold inplX at hc
      split at hc
      ·rename_i id n hx
       split at hc
       ·rename_i f' caps hf
        split at hc
        ·rename_i e z es sh ht
         simp only [Option.some.injEq, Prod.mk.injEq] at hc
         obtain ⟨rfl, rfl, rfl⟩ := hc
         obtain ⟨rfl, q1, rfl, rfl, q2, rfl, rfl, rfl, q3, q4⟩ := h1
         exact Sum.inpl ho hg q1 hop hf q2 C hx ht q3 q4
        ·simp at hc
       ·simp at hc
      ·simp at hc
     ·simp at hc
    ·simp at hc
   ·simp at hc
  ·simp at hc
 ·exact h.elim
attribute [simp] inplO inplX inplR
end
end Go.Tr
