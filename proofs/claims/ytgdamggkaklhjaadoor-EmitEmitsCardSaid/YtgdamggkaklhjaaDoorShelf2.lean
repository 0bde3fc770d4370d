/-
  DERIVED: THE SHELF's CONTRACTS AT THIS DUMP, IN PLAIN WORDS (tools/lay-plain.mjs out of 'YtgdamggkaklhjaaDoorShelf2.lean', which tools/lay-shelf.mjs wrote): THE SAME DECLARATIONS UNDER THE SAME NAMES: 'import', 'namespace', 'open', 'def', 'theorem' AND NOTHING ELSE: no command of the shelf's: FOR A HAND-IN. Each laying: the table of numbers ('.._ren') and one theorem, a field a fact of the dump's own or the kernel's comparison; each contract: ONE APPLICATION.
-/
import Derived.Shelf.SlSortCmp.WholeK
import Derived.Shelf.SlSortCmp.NoneTotal
import Derived.Ground.SlsfProg
import Derived.Test.YtgdamggkaklhjaaDoorProg
namespace Go.Proofs
open Go.Shelf
def Tryd.laysSortPr_ren : Go.Shelf.Ren := ⟨fun | 6 => 35 | 15 => 65 | 14 => 64 | 28 => 89 | 29 => 90 | 20 => 81 | 21 => 82 | 22 => 83 | 23 => 84 | 24 => 85 | 25 => 86 | 26 => 87 | 27 => 88 | 46 => 93 | 47 => 94 | 48 => 95 | 49 => 96 | 50 => 97 | 57 => 99 | n => n, fun | 22 => 31 | 24 => 71 | 25 => 102 | 3 => 3 | 39 => 129 | 0 => 0 | 53 => 149 | 55 => 151 | 4 => 4 | 46 => 143 | 45 => 142 | 50 => 86 | 5 => 5 | 9 => 9 | 66 => 154 | 70 => 158 | 76 => 161 | 77 => 109 | n => n, fun | n => n⟩
theorem Tryd.laysSortPr : Go.Proofs.SlLaysF0.n6 Tryd.prog Tryd.laysSortPr_ren := {
  mixed := by kernel_rfl
  f6 := ⟨Tryd.f35.name, by decide, Tryd.func35.trans (congrArg some (by kernel_rfl))⟩
  f14 := ⟨Tryd.f64.name, by decide, Tryd.func64.trans (congrArg some (by kernel_rfl))⟩
  f15 := Tryd.func65.trans (congrArg some (by kernel_rfl))
  f20 := ⟨Tryd.f81.name, by decide, Tryd.func81.trans (congrArg some (by kernel_rfl))⟩
  f21 := ⟨Tryd.f82.name, by decide, Tryd.func82.trans (congrArg some (by kernel_rfl))⟩
  f22 := ⟨Tryd.f83.name, by decide, Tryd.func83.trans (congrArg some (by kernel_rfl))⟩
  f23 := ⟨Tryd.f84.name, by decide, Tryd.func84.trans (congrArg some (by kernel_rfl))⟩
  f24 := ⟨Tryd.f85.name, by decide, Tryd.func85.trans (congrArg some (by kernel_rfl))⟩
  f25 := ⟨Tryd.f86.name, by decide, Tryd.func86.trans (congrArg some (by kernel_rfl))⟩
  f26 := ⟨Tryd.f87.name, by decide, Tryd.func87.trans (congrArg some (by kernel_rfl))⟩
  f27 := ⟨Tryd.f88.name, by decide, Tryd.func88.trans (congrArg some (by kernel_rfl))⟩
  f28 := Tryd.func89.trans (congrArg some (by kernel_rfl))
  f29 := Tryd.func90.trans (congrArg some (by kernel_rfl))
  f46 := ⟨Tryd.f93.name, by decide, Tryd.func93.trans (congrArg some (by kernel_rfl))⟩
  f47 := Tryd.func94.trans (congrArg some (by kernel_rfl))
  f48 := Tryd.func95.trans (congrArg some (by kernel_rfl))
  f49 := ⟨Tryd.f96.name, by decide, Tryd.func96.trans (congrArg some (by kernel_rfl))⟩
  f50 := ⟨Tryd.f97.name, by decide, Tryd.func97.trans (congrArg some (by kernel_rfl))⟩
  f57 := ⟨Tryd.f99.name, by decide, Tryd.func99.trans (congrArg some (by kernel_rfl))⟩
  t0 := Tryd.underlying0
  a0 := Tryd.isAgg0
  z0 := Tryd.sizeOf0
  v0 := Tryd.zeroValue0
  t3 := Tryd.underlying3
  a3 := Tryd.isAgg3
  z3 := Tryd.sizeOf3
  v3 := Tryd.zeroValue3
  t4 := Tryd.underlying4
  a4 := Tryd.isAgg4
  z4 := Tryd.sizeOf4
  v4 := Tryd.zeroValue4
  t5 := Tryd.underlying5
  a5 := Tryd.isAgg5
  z5 := Tryd.sizeOf5
  v5 := Tryd.zeroValue5
  t9 := Tryd.underlying9
  a9 := Tryd.isAgg9
  z9 := Tryd.sizeOf9
  v9 := Tryd.zeroValue9
  t22 := Tryd.underlying31
  a22 := Tryd.isAgg31
  z22 := Tryd.sizeOf31
  v22 := Tryd.zeroValue31
  t25 := Tryd.underlying102
  a25 := Tryd.isAgg102
  z25 := Tryd.sizeOf102
  v25 := Tryd.zeroValue102
  t39 := Tryd.underlying129
  a39 := Tryd.isAgg129
  z39 := Tryd.sizeOf129
  v39 := Tryd.zeroValue129
  t45 := Tryd.underlying142
  a45 := Tryd.isAgg142
  z45 := Tryd.sizeOf142
  v45 := Tryd.zeroValue142
  t46 := Tryd.underlying143
  a46 := Tryd.isAgg143
  z46 := Tryd.sizeOf143
  v46 := Tryd.zeroValue143
  t50 := Tryd.underlying86
  a50 := Tryd.isAgg86
  z50 := Tryd.sizeOf86
  v50 := Tryd.zeroValue86
  t53 := Tryd.underlying149
  a53 := Tryd.isAgg149
  z53 := Tryd.sizeOf149
  v53 := Tryd.zeroValue149
  t55 := Tryd.underlying151
  a55 := Tryd.isAgg151
  z55 := Tryd.sizeOf151
  v55 := Tryd.zeroValue151
  t66 := Tryd.underlying154
  a66 := Tryd.isAgg154
  z66 := Tryd.sizeOf154
  v66 := Tryd.zeroValue154
  t70 := Tryd.underlying158
  a70 := Tryd.isAgg158
  z70 := Tryd.sizeOf158
  v70 := Tryd.zeroValue158
  t76 := Tryd.underlying161
  a76 := Tryd.isAgg161
  z76 := Tryd.sizeOf161
  v76 := Tryd.zeroValue161
  t77 := Tryd.underlying109
  a77 := Tryd.isAgg109
  z77 := Tryd.sizeOf109
  v77 := Tryd.zeroValue109 }
end Go.Proofs
