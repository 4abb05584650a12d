/-
  DERIVED: THE SHELF's CONTRACTS AT THIS DUMP, IN PLAIN WORDS (tools/lay-plain.mjs out of 'C9.lean', which tools/lay-shelf.mjs wrote): THE SAME DECLARATIONS UNDER THE SAME NAMES: 'import', 'namespace', 'open', 'def', 'theorem' AND NOTHING ELSE: no command of the shelf's: FOR A HAND-IN. Each laying: the table of numbers ('.._ren') and one theorem, a field a fact of the dump's own or the kernel's comparison; each contract: ONE APPLICATION.
-/
import Derived.Shelf.SlGeneric
import Derived.Shelf.SortM.SortNone
import Derived.Shelf.SortM.Plain
import Derived.Shelf.SlIterI.Nil
import Derived.Ground.GgzProg
import Derived.Ground.SlgmProg
import Derived.Test.YtkhneohilohhiaaChecked
namespace Go.Proofs
open Go.Shelf
def Try.lKeys_ren : Go.Shelf.Ren := ⟨fun | 7 => 42 | 10 => 66 | n => n, fun | 23 => 76 | 26 => 3 | 3 => 39 | 28 => 80 | 0 => 0 | 27 => 79 | 33 => 74 | 4 => 4 | n => n, fun | n => n⟩
theorem Try.lKeys : Go.Proofs.SlLaysZI.n7 Try.prog Try.lKeys_ren := {
  mixed := by kernel_rfl
  f7 := ⟨Try.f42.name, by decide, Try.func42.trans (congrArg some (by kernel_rfl))⟩
  f10 := ⟨Try.f66.name, by decide, Try.func66.trans (congrArg some (by kernel_rfl))⟩
  t0 := Try.underlying0
  a0 := Try.isAgg0
  z0 := Try.sizeOf0
  v0 := Try.zeroValue0
  t4 := Try.underlying4
  a4 := Try.isAgg4
  z4 := Try.sizeOf4
  v4 := Try.zeroValue4
  t23 := Try.underlying76
  a23 := Try.isAgg76
  z23 := Try.sizeOf76
  v23 := Try.zeroValue76
  t26 := Try.underlying3
  a26 := Try.isAgg3
  z26 := Try.sizeOf3
  v26 := Try.zeroValue3
  t27 := Try.underlying79
  a27 := Try.isAgg79
  z27 := Try.sizeOf79
  v27 := Try.zeroValue79
  t28 := Try.underlying80
  a28 := Try.isAgg80
  z28 := Try.sizeOf80
  v28 := Try.zeroValue80
  t33 := Try.underlying74
  a33 := Try.isAgg74
  z33 := Try.sizeOf74
  v33 := Try.zeroValue74 }
def Try.lSorted_ren : Go.Shelf.Ren := ⟨fun | 6 => 41 | 8 => 64 | 9 => 65 | 11 => 85 | 13 => 87 | 12 => 86 | 23 => 105 | 24 => 106 | 14 => 96 | 15 => 97 | 16 => 98 | 17 => 99 | 18 => 100 | 19 => 101 | 20 => 102 | 21 => 103 | 22 => 104 | 25 => 112 | 26 => 113 | 27 => 114 | 28 => 115 | 29 => 116 | 30 => 117 | 31 => 118 | n => n, fun | 26 => 3 | 28 => 80 | 24 => 22 | 0 => 0 | 3 => 3 | 37 => 83 | 48 => 127 | 50 => 39 | 4 => 4 | 40 => 121 | 39 => 120 | 45 => 101 | 5 => 5 | 9 => 9 | 51 => 133 | 55 => 137 | 57 => 139 | 58 => 140 | 33 => 74 | n => n, fun | n => n⟩
theorem Try.lSorted : Go.Proofs.SlLaysZI.n6 Try.prog Try.lSorted_ren := {
  mixed := by kernel_rfl
  f6 := ⟨Try.f41.name, by decide, Try.func41.trans (congrArg some (by kernel_rfl))⟩
  f8 := ⟨Try.f64.name, by decide, Try.func64.trans (congrArg some (by kernel_rfl))⟩
  f11 := ⟨Try.f85.name, by decide, Try.func85.trans (congrArg some (by kernel_rfl))⟩
  t0 := Try.underlying0
  a0 := Try.isAgg0
  z0 := Try.sizeOf0
  v0 := Try.zeroValue0
  t24 := Try.underlying22
  a24 := Try.isAgg22
  z24 := Try.sizeOf22
  v24 := Try.zeroValue22
  t26 := Try.underlying3
  a26 := Try.isAgg3
  z26 := Try.sizeOf3
  v26 := Try.zeroValue3
  t28 := Try.underlying80
  a28 := Try.isAgg80
  z28 := Try.sizeOf80
  v28 := Try.zeroValue80
  i26 := by kernel_rfl }
def Try.lSort_ren : Go.Shelf.Ren := ⟨fun | 5 => 65 | 8 => 87 | 7 => 86 | 19 => 105 | 20 => 106 | 10 => 96 | 11 => 97 | 12 => 98 | 13 => 99 | 14 => 100 | 15 => 101 | 16 => 102 | 17 => 103 | 18 => 104 | 30 => 112 | 31 => 113 | 32 => 114 | 33 => 115 | 34 => 116 | 35 => 117 | 40 => 118 | n => n, fun | 23 => 22 | 25 => 3 | 3 => 3 | 32 => 83 | 22 => 22 | 0 => 0 | 44 => 127 | 46 => 39 | 4 => 4 | 36 => 121 | 35 => 120 | 41 => 101 | 5 => 5 | 9 => 9 | 53 => 133 | 57 => 137 | 63 => 139 | 64 => 140 | n => n, fun | n => n⟩
theorem Try.lSort : Go.Proofs.SlLaysM.n5 Try.prog Try.lSort_ren := {
  mixed := by kernel_rfl
  f5 := ⟨Try.f65.name, by decide, Try.func65.trans (congrArg some (by kernel_rfl))⟩
  f7 := ⟨Try.f86.name, by decide, Try.func86.trans (congrArg some (by kernel_rfl))⟩
  f8 := Try.func87.trans (congrArg some (by kernel_rfl))
  f10 := ⟨Try.f96.name, by decide, Try.func96.trans (congrArg some (by kernel_rfl))⟩
  f11 := ⟨Try.f97.name, by decide, Try.func97.trans (congrArg some (by kernel_rfl))⟩
  f12 := ⟨Try.f98.name, by decide, Try.func98.trans (congrArg some (by kernel_rfl))⟩
  f13 := ⟨Try.f99.name, by decide, Try.func99.trans (congrArg some (by kernel_rfl))⟩
  f14 := ⟨Try.f100.name, by decide, Try.func100.trans (congrArg some (by kernel_rfl))⟩
  f15 := ⟨Try.f101.name, by decide, Try.func101.trans (congrArg some (by kernel_rfl))⟩
  f16 := ⟨Try.f102.name, by decide, Try.func102.trans (congrArg some (by kernel_rfl))⟩
  f17 := ⟨Try.f103.name, by decide, Try.func103.trans (congrArg some (by kernel_rfl))⟩
  f18 := ⟨Try.f104.name, by decide, Try.func104.trans (congrArg some (by kernel_rfl))⟩
  f19 := Try.func105.trans (congrArg some (by kernel_rfl))
  f20 := Try.func106.trans (congrArg some (by kernel_rfl))
  f30 := ⟨Try.f112.name, by decide, Try.func112.trans (congrArg some (by kernel_rfl))⟩
  f31 := Try.func113.trans (congrArg some (by kernel_rfl))
  f32 := Try.func114.trans (congrArg some (by kernel_rfl))
  f33 := ⟨Try.f115.name, by decide, Try.func115.trans (congrArg some (by kernel_rfl))⟩
  f34 := ⟨Try.f116.name, by decide, Try.func116.trans (congrArg some (by kernel_rfl))⟩
  f35 := ⟨Try.f117.name, by decide, Try.func117.trans (congrArg some (by kernel_rfl))⟩
  f40 := ⟨Try.f118.name, by decide, Try.func118.trans (congrArg some (by kernel_rfl))⟩
  t0 := Try.underlying0
  a0 := Try.isAgg0
  z0 := Try.sizeOf0
  v0 := Try.zeroValue0
  t3 := Try.underlying3
  a3 := Try.isAgg3
  z3 := Try.sizeOf3
  v3 := Try.zeroValue3
  t4 := Try.underlying4
  a4 := Try.isAgg4
  z4 := Try.sizeOf4
  v4 := Try.zeroValue4
  t5 := Try.underlying5
  a5 := Try.isAgg5
  z5 := Try.sizeOf5
  v5 := Try.zeroValue5
  t9 := Try.underlying9
  a9 := Try.isAgg9
  z9 := Try.sizeOf9
  v9 := Try.zeroValue9
  t22 := Try.underlying22
  a22 := Try.isAgg22
  z22 := Try.sizeOf22
  v22 := Try.zeroValue22
  t23 := Try.underlying22
  a23 := Try.isAgg22
  z23 := Try.sizeOf22
  v23 := Try.zeroValue22
  t25 := Try.underlying3
  a25 := Try.isAgg3
  z25 := Try.sizeOf3
  v25 := Try.zeroValue3
  t32 := Try.underlying83
  a32 := Try.isAgg83
  z32 := Try.sizeOf83
  v32 := Try.zeroValue83
  t35 := Try.underlying120
  a35 := Try.isAgg120
  z35 := Try.sizeOf120
  v35 := Try.zeroValue120
  t36 := Try.underlying121
  a36 := Try.isAgg121
  z36 := Try.sizeOf121
  v36 := Try.zeroValue121
  t41 := Try.underlying101
  a41 := Try.isAgg101
  z41 := Try.sizeOf101
  v41 := Try.zeroValue101
  t44 := Try.underlying127
  a44 := Try.isAgg127
  z44 := Try.sizeOf127
  v44 := Try.zeroValue127
  t46 := Try.underlying39
  a46 := Try.isAgg39
  z46 := Try.sizeOf39
  v46 := Try.zeroValue39
  t53 := Try.underlying133
  a53 := Try.isAgg133
  z53 := Try.sizeOf133
  v53 := Try.zeroValue133
  t57 := Try.underlying137
  a57 := Try.isAgg137
  z57 := Try.sizeOf137
  v57 := Try.zeroValue137
  t63 := Try.underlying139
  a63 := Try.isAgg139
  z63 := Try.sizeOf139
  v63 := Try.zeroValue139
  t64 := Try.underlying140
  a64 := Try.isAgg140
  z64 := Try.sizeOf140
  v64 := Try.zeroValue140 }
end Go.Proofs
