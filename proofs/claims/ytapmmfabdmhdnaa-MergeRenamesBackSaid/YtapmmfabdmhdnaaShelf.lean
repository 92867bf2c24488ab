/-
  slices.SortFunc at paths: the shelf's contract laid over this program (text written by the kit's tool). No condition.
-/
import Derived.Shelf.SlSortCmp.Whole1
import Derived.Test.YtapmmfabdmhdnaaProg
set_option linter.unusedVariables false
set_option linter.unusedSimpArgs false
namespace Go.Proofs
open Go.Shelf
def Try.sortPaths_ren : Go.Shelf.Ren := ⟨fun | 6 => 33 | 15 => 60 | 14 => 59 | 28 => 87 | 29 => 88 | 20 => 79 | 21 => 80 | 22 => 81 | 23 => 82 | 24 => 83 | 25 => 84 | 26 => 85 | 27 => 86 | 46 => 94 | 47 => 95 | 48 => 96 | 49 => 97 | 50 => 98 | 57 => 100 | n => n, fun | 22 => 33 | 24 => 22 | 25 => 85 | 3 => 3 | 39 => 132 | 0 => 0 | 53 => 164 | 55 => 166 | 4 => 4 | 46 => 157 | 45 => 156 | 50 => 161 | 5 => 5 | 9 => 9 | 66 => 171 | 70 => 175 | 76 => 179 | 77 => 180 | n => n, fun | n => n⟩
theorem Try.sortPaths : Go.Proofs.SlLaysF.n6 Try.prog Try.sortPaths_ren := {
  mixed := by kernel_rfl
  f6 := ⟨Try.f33.name, by decide, Try.func33.trans (congrArg some (by kernel_rfl))⟩
  f14 := ⟨Try.f59.name, by decide, Try.func59.trans (congrArg some (by kernel_rfl))⟩
  f15 := Try.func60.trans (congrArg some (by kernel_rfl))
  f20 := ⟨Try.f79.name, by decide, Try.func79.trans (congrArg some (by kernel_rfl))⟩
  f21 := ⟨Try.f80.name, by decide, Try.func80.trans (congrArg some (by kernel_rfl))⟩
  f22 := ⟨Try.f81.name, by decide, Try.func81.trans (congrArg some (by kernel_rfl))⟩
  f23 := ⟨Try.f82.name, by decide, Try.func82.trans (congrArg some (by kernel_rfl))⟩
  f24 := ⟨Try.f83.name, by decide, Try.func83.trans (congrArg some (by kernel_rfl))⟩
  f25 := ⟨Try.f84.name, by decide, Try.func84.trans (congrArg some (by kernel_rfl))⟩
  f26 := ⟨Try.f85.name, by decide, Try.func85.trans (congrArg some (by kernel_rfl))⟩
  f27 := ⟨Try.f86.name, by decide, Try.func86.trans (congrArg some (by kernel_rfl))⟩
  f28 := Try.func87.trans (congrArg some (by kernel_rfl))
  f29 := Try.func88.trans (congrArg some (by kernel_rfl))
  f46 := ⟨Try.f94.name, by decide, Try.func94.trans (congrArg some (by kernel_rfl))⟩
  f47 := Try.func95.trans (congrArg some (by kernel_rfl))
  f48 := Try.func96.trans (congrArg some (by kernel_rfl))
  f49 := ⟨Try.f97.name, by decide, Try.func97.trans (congrArg some (by kernel_rfl))⟩
  f50 := ⟨Try.f98.name, by decide, Try.func98.trans (congrArg some (by kernel_rfl))⟩
  f57 := ⟨Try.f100.name, by decide, Try.func100.trans (congrArg some (by kernel_rfl))⟩
  t0 := Try.underlying0
  a0 := Try.isAgg0
  z0 := Try.sizeOf0
  v0 := Try.zeroValue0
  t3 := Try.underlying3
  a3 := Try.isAgg3
  z3 := Try.sizeOf3
  v3 := Try.zeroValue3
  t4 := Try.underlying4
  a4 := Try.isAgg4
  z4 := Try.sizeOf4
  v4 := Try.zeroValue4
  t5 := Try.underlying5
  a5 := Try.isAgg5
  z5 := Try.sizeOf5
  v5 := Try.zeroValue5
  t9 := Try.underlying9
  a9 := Try.isAgg9
  z9 := Try.sizeOf9
  v9 := Try.zeroValue9
  t22 := Try.underlying33
  a22 := Try.isAgg33
  z22 := Try.sizeOf33
  v22 := Try.zeroValue33
  a24 := Try.isAgg22
  z24 := Try.sizeOf22
  t25 := Try.underlying85
  a25 := Try.isAgg85
  z25 := Try.sizeOf85
  v25 := Try.zeroValue85
  t39 := Try.underlying132
  a39 := Try.isAgg132
  z39 := Try.sizeOf132
  v39 := Try.zeroValue132
  t45 := Try.underlying156
  a45 := Try.isAgg156
  z45 := Try.sizeOf156
  v45 := Try.zeroValue156
  t46 := Try.underlying157
  a46 := Try.isAgg157
  z46 := Try.sizeOf157
  v46 := Try.zeroValue157
  t50 := Try.underlying161
  a50 := Try.isAgg161
  z50 := Try.sizeOf161
  v50 := Try.zeroValue161
  t53 := Try.underlying164
  a53 := Try.isAgg164
  z53 := Try.sizeOf164
  v53 := Try.zeroValue164
  t55 := Try.underlying166
  a55 := Try.isAgg166
  z55 := Try.sizeOf166
  v55 := Try.zeroValue166
  t66 := Try.underlying171
  a66 := Try.isAgg171
  z66 := Try.sizeOf171
  v66 := Try.zeroValue171
  t70 := Try.underlying175
  a70 := Try.isAgg175
  z70 := Try.sizeOf175
  v70 := Try.zeroValue175
  t76 := Try.underlying179
  a76 := Try.isAgg179
  z76 := Try.sizeOf179
  v76 := Try.zeroValue179
  t77 := Try.underlying180
  a77 := Try.isAgg180
  z77 := Try.sizeOf180
  v77 := Try.zeroValue180 }
end Go.Proofs
