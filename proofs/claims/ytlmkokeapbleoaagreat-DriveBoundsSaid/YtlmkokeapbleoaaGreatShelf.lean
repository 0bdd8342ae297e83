/- The contracts of the library that this seat leans on, laid at its numbers out of the kit's shelf. Condition: as each says. -/
import Derived.Shelf.SlGeneric
import Derived.Shelf.SlSortCmp.WholeK
import Derived.Shelf.SlSortCmp.Whole1
import Derived.Shelf.SlSortCmp.NoneTotal
import Derived.Shelf.Spec.SlicesGrow
import Derived.Ground.SlsfProg
import Derived.Ground.SlgnProg
import Derived.Ground.Names8Prog
import Derived.Test.YtlmkokeapbleoaaGreatProg
namespace Go.Proofs
open Go.Shelf
def Tryz.sortSpan_ren : Go.Shelf.Ren := ⟨fun | 6 => 157 | 15 => 192 | 14 => 191 | 28 => 220 | 29 => 221 | 20 => 212 | 21 => 213 | 22 => 214 | 23 => 215 | 24 => 216 | 25 => 217 | 26 => 218 | 27 => 219 | 46 => 231 | 47 => 232 | 48 => 233 | 49 => 234 | 50 => 235 | 57 => 244 | n => n, fun | 22 => 103 | 24 => 129 | 25 => 237 | 3 => 3 | 39 => 61 | 0 => 0 | 53 => 284 | 55 => 286 | 4 => 4 | 46 => 278 | 45 => 277 | 50 => 162 | 5 => 5 | 9 => 9 | 66 => 293 | 70 => 297 | 76 => 306 | 77 => 187 | n => n, fun | n => n⟩
theorem Tryz.sortSpan : Go.Proofs.SlLaysF0.n6 Tryz.prog Tryz.sortSpan_ren := {
  mixed := by kernel_rfl
  f6 := ⟨Tryz.f157.name, by decide, Tryz.func157.trans (congrArg some (by kernel_rfl))⟩
  f14 := ⟨Tryz.f191.name, by decide, Tryz.func191.trans (congrArg some (by kernel_rfl))⟩
  f15 := Tryz.func192.trans (congrArg some (by kernel_rfl))
  f20 := ⟨Tryz.f212.name, by decide, Tryz.func212.trans (congrArg some (by kernel_rfl))⟩
  f21 := ⟨Tryz.f213.name, by decide, Tryz.func213.trans (congrArg some (by kernel_rfl))⟩
  f22 := ⟨Tryz.f214.name, by decide, Tryz.func214.trans (congrArg some (by kernel_rfl))⟩
  f23 := ⟨Tryz.f215.name, by decide, Tryz.func215.trans (congrArg some (by kernel_rfl))⟩
  f24 := ⟨Tryz.f216.name, by decide, Tryz.func216.trans (congrArg some (by kernel_rfl))⟩
  f25 := ⟨Tryz.f217.name, by decide, Tryz.func217.trans (congrArg some (by kernel_rfl))⟩
  f26 := ⟨Tryz.f218.name, by decide, Tryz.func218.trans (congrArg some (by kernel_rfl))⟩
  f27 := ⟨Tryz.f219.name, by decide, Tryz.func219.trans (congrArg some (by kernel_rfl))⟩
  f28 := Tryz.func220.trans (congrArg some (by kernel_rfl))
  f29 := Tryz.func221.trans (congrArg some (by kernel_rfl))
  f46 := ⟨Tryz.f231.name, by decide, Tryz.func231.trans (congrArg some (by kernel_rfl))⟩
  f47 := Tryz.func232.trans (congrArg some (by kernel_rfl))
  f48 := Tryz.func233.trans (congrArg some (by kernel_rfl))
  f49 := ⟨Tryz.f234.name, by decide, Tryz.func234.trans (congrArg some (by kernel_rfl))⟩
  f50 := ⟨Tryz.f235.name, by decide, Tryz.func235.trans (congrArg some (by kernel_rfl))⟩
  f57 := ⟨Tryz.f244.name, by decide, Tryz.func244.trans (congrArg some (by kernel_rfl))⟩
  t0 := Tryz.underlying0
  a0 := Tryz.isAgg0
  z0 := Tryz.sizeOf0
  v0 := Tryz.zeroValue0
  t3 := Tryz.underlying3
  a3 := Tryz.isAgg3
  z3 := Tryz.sizeOf3
  v3 := Tryz.zeroValue3
  t4 := Tryz.underlying4
  a4 := Tryz.isAgg4
  z4 := Tryz.sizeOf4
  v4 := Tryz.zeroValue4
  t5 := Tryz.underlying5
  a5 := Tryz.isAgg5
  z5 := Tryz.sizeOf5
  v5 := Tryz.zeroValue5
  t9 := Tryz.underlying9
  a9 := Tryz.isAgg9
  z9 := Tryz.sizeOf9
  v9 := Tryz.zeroValue9
  t22 := Tryz.underlying103
  a22 := Tryz.isAgg103
  z22 := Tryz.sizeOf103
  v22 := Tryz.zeroValue103
  t25 := Tryz.underlying237
  a25 := Tryz.isAgg237
  z25 := Tryz.sizeOf237
  v25 := Tryz.zeroValue237
  t39 := Tryz.underlying61
  a39 := Tryz.isAgg61
  z39 := Tryz.sizeOf61
  v39 := Tryz.zeroValue61
  t45 := Tryz.underlying277
  a45 := Tryz.isAgg277
  z45 := Tryz.sizeOf277
  v45 := Tryz.zeroValue277
  t46 := Tryz.underlying278
  a46 := Tryz.isAgg278
  z46 := Tryz.sizeOf278
  v46 := Tryz.zeroValue278
  t50 := Tryz.underlying162
  a50 := Tryz.isAgg162
  z50 := Tryz.sizeOf162
  v50 := Tryz.zeroValue162
  t53 := Tryz.underlying284
  a53 := Tryz.isAgg284
  z53 := Tryz.sizeOf284
  v53 := Tryz.zeroValue284
  t55 := Tryz.underlying286
  a55 := Tryz.isAgg286
  z55 := Tryz.sizeOf286
  v55 := Tryz.zeroValue286
  t66 := Tryz.underlying293
  a66 := Tryz.isAgg293
  z66 := Tryz.sizeOf293
  v66 := Tryz.zeroValue293
  t70 := Tryz.underlying297
  a70 := Tryz.isAgg297
  z70 := Tryz.sizeOf297
  v70 := Tryz.zeroValue297
  t76 := Tryz.underlying306
  a76 := Tryz.isAgg306
  z76 := Tryz.sizeOf306
  v76 := Tryz.zeroValue306
  t77 := Tryz.underlying187
  a77 := Tryz.isAgg187
  z77 := Tryz.sizeOf187
  v77 := Tryz.zeroValue187 }
end Go.Proofs
