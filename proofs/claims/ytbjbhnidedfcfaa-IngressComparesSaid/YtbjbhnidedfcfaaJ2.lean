/-
  DERIVED: THE SHELF's CONTRACTS AT THIS DUMP, IN PLAIN WORDS (tools/lay-plain.mjs out of 'YtbjbhnidedfcfaaShelf.lean', which tools/lay-shelf.mjs wrote): THE SAME DECLARATIONS UNDER THE SAME NAMES: 'import', 'namespace', 'open', 'def', 'theorem' AND NOTHING ELSE: no command of the shelf's: FOR A HAND-IN. Each laying: the table of numbers ('.._ren') and one theorem, a field a fact of the dump's own or the kernel's comparison; each contract: ONE APPLICATION.
-/
import Derived.Shelf.SlGeneric
import Derived.Shelf.SortM.SortNone
import Derived.Shelf.SortM.Plain
import Derived.Shelf.SlicesG.CompactI
import Derived.Ground.SlgmProg
import Derived.Ground.SlgnProg
import Derived.Test.YtbjbhnidedfcfaaChecked
namespace Go.Proofs
open Go.Shelf
def Try.lSort_ren : Go.Shelf.Ren := ⟨fun | 5 => 59 | 8 => 86 | 7 => 85 | 19 => 117 | 20 => 118 | 10 => 108 | 11 => 109 | 12 => 110 | 13 => 111 | 14 => 112 | 15 => 113 | 16 => 114 | 17 => 115 | 18 => 116 | 30 => 131 | 31 => 132 | 32 => 133 | 33 => 134 | 34 => 135 | 35 => 136 | 40 => 143 | n => n, fun | 23 => 22 | 25 => 3 | 3 => 3 | 32 => 126 | 22 => 22 | 0 => 0 | 44 => 147 | 46 => 33 | 4 => 4 | 36 => 141 | 35 => 140 | 41 => 96 | 5 => 5 | 9 => 9 | 53 => 155 | 57 => 159 | 63 => 164 | 64 => 165 | n => n, fun | n => n⟩
theorem Try.lSort : Go.Proofs.SlLaysM.n5 Try.prog Try.lSort_ren := {
  mixed := by kernel_rfl
  f5 := ⟨Try.f59.name, by decide, Try.func59.trans (congrArg some (by kernel_rfl))⟩
  f7 := ⟨Try.f85.name, by decide, Try.func85.trans (congrArg some (by kernel_rfl))⟩
  f8 := Try.func86.trans (congrArg some (by kernel_rfl))
  f10 := ⟨Try.f108.name, by decide, Try.func108.trans (congrArg some (by kernel_rfl))⟩
  f11 := ⟨Try.f109.name, by decide, Try.func109.trans (congrArg some (by kernel_rfl))⟩
  f12 := ⟨Try.f110.name, by decide, Try.func110.trans (congrArg some (by kernel_rfl))⟩
  f13 := ⟨Try.f111.name, by decide, Try.func111.trans (congrArg some (by kernel_rfl))⟩
  f14 := ⟨Try.f112.name, by decide, Try.func112.trans (congrArg some (by kernel_rfl))⟩
  f15 := ⟨Try.f113.name, by decide, Try.func113.trans (congrArg some (by kernel_rfl))⟩
  f16 := ⟨Try.f114.name, by decide, Try.func114.trans (congrArg some (by kernel_rfl))⟩
  f17 := ⟨Try.f115.name, by decide, Try.func115.trans (congrArg some (by kernel_rfl))⟩
  f18 := ⟨Try.f116.name, by decide, Try.func116.trans (congrArg some (by kernel_rfl))⟩
  f19 := Try.func117.trans (congrArg some (by kernel_rfl))
  f20 := Try.func118.trans (congrArg some (by kernel_rfl))
  f30 := ⟨Try.f131.name, by decide, Try.func131.trans (congrArg some (by kernel_rfl))⟩
  f31 := Try.func132.trans (congrArg some (by kernel_rfl))
  f32 := Try.func133.trans (congrArg some (by kernel_rfl))
  f33 := ⟨Try.f134.name, by decide, Try.func134.trans (congrArg some (by kernel_rfl))⟩
  f34 := ⟨Try.f135.name, by decide, Try.func135.trans (congrArg some (by kernel_rfl))⟩
  f35 := ⟨Try.f136.name, by decide, Try.func136.trans (congrArg some (by kernel_rfl))⟩
  f40 := ⟨Try.f143.name, by decide, Try.func143.trans (congrArg some (by kernel_rfl))⟩
  t0 := Try.underlying0
  a0 := Try.isAgg0
  z0 := Try.sizeOf0
  v0 := Try.zeroValue0
  t3 := Try.underlying3
  a3 := Try.isAgg3
  z3 := Try.sizeOf3
  v3 := Try.zeroValue3
  t4 := Try.underlying4
  a4 := Try.isAgg4
  z4 := Try.sizeOf4
  v4 := Try.zeroValue4
  t5 := Try.underlying5
  a5 := Try.isAgg5
  z5 := Try.sizeOf5
  v5 := Try.zeroValue5
  t9 := Try.underlying9
  a9 := Try.isAgg9
  z9 := Try.sizeOf9
  v9 := Try.zeroValue9
  t22 := Try.underlying22
  a22 := Try.isAgg22
  z22 := Try.sizeOf22
  v22 := Try.zeroValue22
  t23 := Try.underlying22
  a23 := Try.isAgg22
  z23 := Try.sizeOf22
  v23 := Try.zeroValue22
  t25 := Try.underlying3
  a25 := Try.isAgg3
  z25 := Try.sizeOf3
  v25 := Try.zeroValue3
  t32 := Try.underlying126
  a32 := Try.isAgg126
  z32 := Try.sizeOf126
  v32 := Try.zeroValue126
  t35 := Try.underlying140
  a35 := Try.isAgg140
  z35 := Try.sizeOf140
  v35 := Try.zeroValue140
  t36 := Try.underlying141
  a36 := Try.isAgg141
  z36 := Try.sizeOf141
  v36 := Try.zeroValue141
  t41 := Try.underlying96
  a41 := Try.isAgg96
  z41 := Try.sizeOf96
  v41 := Try.zeroValue96
  t44 := Try.underlying147
  a44 := Try.isAgg147
  z44 := Try.sizeOf147
  v44 := Try.zeroValue147
  t46 := Try.underlying33
  a46 := Try.isAgg33
  z46 := Try.sizeOf33
  v46 := Try.zeroValue33
  t53 := Try.underlying155
  a53 := Try.isAgg155
  z53 := Try.sizeOf155
  v53 := Try.zeroValue155
  t57 := Try.underlying159
  a57 := Try.isAgg159
  z57 := Try.sizeOf159
  v57 := Try.zeroValue159
  t63 := Try.underlying164
  a63 := Try.isAgg164
  z63 := Try.sizeOf164
  v63 := Try.zeroValue164
  t64 := Try.underlying165
  a64 := Try.isAgg165
  z64 := Try.sizeOf165
  v64 := Try.zeroValue165 }
def Try.lCompact_ren : Go.Shelf.Ren := ⟨fun | 43 => 60 | n => n, fun | 22 => 22 | 23 => 3 | 3 => 3 | 4 => 4 | 0 => 0 | n => n, fun | n => n⟩
theorem Try.lCompact : Go.Proofs.SlLaysN.n43 Try.prog Try.lCompact_ren := {
  mixed := by kernel_rfl
  f43 := ⟨Try.f60.name, by decide, Try.func60.trans (congrArg some (by kernel_rfl))⟩
  t0 := Try.underlying0
  a0 := Try.isAgg0
  z0 := Try.sizeOf0
  v0 := Try.zeroValue0
  t3 := Try.underlying3
  a3 := Try.isAgg3
  z3 := Try.sizeOf3
  v3 := Try.zeroValue3
  t4 := Try.underlying4
  a4 := Try.isAgg4
  z4 := Try.sizeOf4
  v4 := Try.zeroValue4
  t22 := Try.underlying22
  a22 := Try.isAgg22
  z22 := Try.sizeOf22
  v22 := Try.zeroValue22
  t23 := Try.underlying3
  a23 := Try.isAgg3
  z23 := Try.sizeOf3
  v23 := Try.zeroValue3
  i23 := by kernel_rfl }
end Go.Proofs
