/- The contracts of the library that this seat leans on, laid at its numbers out of the kit's shelf. Condition: as each says. -/
import Derived.Shelf.SlGeneric
import Derived.Shelf.SlSortCmp.WholeK
import Derived.Shelf.SlSortCmp.Whole1
import Derived.Shelf.SlSortCmp.NoneTotal
import Derived.Shelf.Spec.SlicesGrow
import Derived.Ground.SlsfProg
import Derived.Ground.SlgnProg
import Derived.Ground.Names8Prog
import Derived.Test.YtlmkokeapbleoaaProg
namespace Go.Proofs
open Go.Shelf
def Try.sortSpan_ren : Go.Shelf.Ren := ⟨fun | 6 => 38 | 15 => 49 | 14 => 48 | 28 => 62 | 29 => 63 | 20 => 54 | 21 => 55 | 22 => 56 | 23 => 57 | 24 => 58 | 25 => 59 | 26 => 60 | 27 => 61 | 46 => 74 | 47 => 75 | 48 => 76 | 49 => 77 | 50 => 78 | 57 => 86 | n => n, fun | 22 => 36 | 24 => 35 | 25 => 91 | 3 => 3 | 39 => 104 | 0 => 0 | 53 => 118 | 55 => 120 | 4 => 4 | 46 => 112 | 45 => 111 | 50 => 67 | 5 => 5 | 9 => 9 | 66 => 131 | 70 => 135 | 76 => 143 | 77 => 73 | n => n, fun | n => n⟩
theorem Try.sortSpan : Go.Proofs.SlLaysF0.n6 Try.prog Try.sortSpan_ren := {
  mixed := by kernel_rfl
  f6 := ⟨Try.f38.name, by decide, Try.func38.trans (congrArg some (by kernel_rfl))⟩
  f14 := ⟨Try.f48.name, by decide, Try.func48.trans (congrArg some (by kernel_rfl))⟩
  f15 := Try.func49.trans (congrArg some (by kernel_rfl))
  f20 := ⟨Try.f54.name, by decide, Try.func54.trans (congrArg some (by kernel_rfl))⟩
  f21 := ⟨Try.f55.name, by decide, Try.func55.trans (congrArg some (by kernel_rfl))⟩
  f22 := ⟨Try.f56.name, by decide, Try.func56.trans (congrArg some (by kernel_rfl))⟩
  f23 := ⟨Try.f57.name, by decide, Try.func57.trans (congrArg some (by kernel_rfl))⟩
  f24 := ⟨Try.f58.name, by decide, Try.func58.trans (congrArg some (by kernel_rfl))⟩
  f25 := ⟨Try.f59.name, by decide, Try.func59.trans (congrArg some (by kernel_rfl))⟩
  f26 := ⟨Try.f60.name, by decide, Try.func60.trans (congrArg some (by kernel_rfl))⟩
  f27 := ⟨Try.f61.name, by decide, Try.func61.trans (congrArg some (by kernel_rfl))⟩
  f28 := Try.func62.trans (congrArg some (by kernel_rfl))
  f29 := Try.func63.trans (congrArg some (by kernel_rfl))
  f46 := ⟨Try.f74.name, by decide, Try.func74.trans (congrArg some (by kernel_rfl))⟩
  f47 := Try.func75.trans (congrArg some (by kernel_rfl))
  f48 := Try.func76.trans (congrArg some (by kernel_rfl))
  f49 := ⟨Try.f77.name, by decide, Try.func77.trans (congrArg some (by kernel_rfl))⟩
  f50 := ⟨Try.f78.name, by decide, Try.func78.trans (congrArg some (by kernel_rfl))⟩
  f57 := ⟨Try.f86.name, by decide, Try.func86.trans (congrArg some (by kernel_rfl))⟩
  t0 := Try.underlying0
  a0 := Try.isAgg0
  z0 := Try.sizeOf0
  v0 := Try.zeroValue0
  t3 := Try.underlying3
  a3 := Try.isAgg3
  z3 := Try.sizeOf3
  v3 := Try.zeroValue3
  t4 := Try.underlying4
  a4 := Try.isAgg4
  z4 := Try.sizeOf4
  v4 := Try.zeroValue4
  t5 := Try.underlying5
  a5 := Try.isAgg5
  z5 := Try.sizeOf5
  v5 := Try.zeroValue5
  t9 := Try.underlying9
  a9 := Try.isAgg9
  z9 := Try.sizeOf9
  v9 := Try.zeroValue9
  t22 := Try.underlying36
  a22 := Try.isAgg36
  z22 := Try.sizeOf36
  v22 := Try.zeroValue36
  t25 := Try.underlying91
  a25 := Try.isAgg91
  z25 := Try.sizeOf91
  v25 := Try.zeroValue91
  t39 := Try.underlying104
  a39 := Try.isAgg104
  z39 := Try.sizeOf104
  v39 := Try.zeroValue104
  t45 := Try.underlying111
  a45 := Try.isAgg111
  z45 := Try.sizeOf111
  v45 := Try.zeroValue111
  t46 := Try.underlying112
  a46 := Try.isAgg112
  z46 := Try.sizeOf112
  v46 := Try.zeroValue112
  t50 := Try.underlying67
  a50 := Try.isAgg67
  z50 := Try.sizeOf67
  v50 := Try.zeroValue67
  t53 := Try.underlying118
  a53 := Try.isAgg118
  z53 := Try.sizeOf118
  v53 := Try.zeroValue118
  t55 := Try.underlying120
  a55 := Try.isAgg120
  z55 := Try.sizeOf120
  v55 := Try.zeroValue120
  t66 := Try.underlying131
  a66 := Try.isAgg131
  z66 := Try.sizeOf131
  v66 := Try.zeroValue131
  t70 := Try.underlying135
  a70 := Try.isAgg135
  z70 := Try.sizeOf135
  v70 := Try.zeroValue135
  t76 := Try.underlying143
  a76 := Try.isAgg143
  z76 := Try.sizeOf143
  v76 := Try.zeroValue143
  t77 := Try.underlying73
  a77 := Try.isAgg73
  z77 := Try.sizeOf73
  v77 := Try.zeroValue73 }
end Go.Proofs
