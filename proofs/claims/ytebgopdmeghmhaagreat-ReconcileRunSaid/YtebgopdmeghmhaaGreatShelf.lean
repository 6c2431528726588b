/-
  DERIVED: THE SHELF's CONTRACTS AT THIS DUMP, IN PLAIN WORDS (tools/lay-plain.mjs out of 'TryShelf.lean', which tools/lay-shelf.mjs wrote): THE SAME DECLARATIONS UNDER THE SAME NAMES: 'import', 'namespace', 'open', 'def', 'theorem' AND NOTHING ELSE: no command of the shelf's: FOR A HAND-IN. Each laying: the table of numbers ('.._ren') and one theorem, a field a fact of the dump's own or the kernel's comparison; each contract: ONE APPLICATION.
-/
import Derived.Shelf.SlicesQ.IndexFunc
import Derived.Shelf.SlicesE.Clone
import Derived.Shelf.SlSortCmp.NoneTotal
import Derived.Ground.SlgfProg
import Derived.Ground.SlgnProg
import Derived.Ground.SlsfProg
import Derived.Test.YtebgopdmeghmhaaGreatProg
namespace Go.Proofs
open Go.Shelf
def Tryz.l_clone_ren : Go.Shelf.Ren := ⟨fun | 41 => 71 | n => n, fun | 22 => 24 | 23 => 67 | 4 => 4 | n => n, fun | n => n⟩
theorem Tryz.l_clone : Go.Proofs.SlLaysE0.n41 Tryz.prog Tryz.l_clone_ren := {
  mixed := by kernel_rfl
  f41 := ⟨Tryz.f71.name, by decide, Tryz.func71.trans (congrArg some (by kernel_rfl))⟩
  t4 := Tryz.underlying4
  a4 := Tryz.isAgg4
  z4 := Tryz.sizeOf4
  v4 := Tryz.zeroValue4
  t22 := Tryz.underlying24
  a22 := Tryz.isAgg24
  z22 := Tryz.sizeOf24
  v22 := Tryz.zeroValue24 }
def Tryz.l_contains_ren : Go.Shelf.Ren := ⟨fun | 8 => 49 | 6 => 75 | n => n, fun | 22 => 24 | 23 => 67 | 25 => 72 | 4 => 4 | 3 => 3 | 0 => 0 | n => n, fun | n => n⟩
theorem Tryz.l_contains : Go.Proofs.SlLaysH0.n8 Tryz.prog Tryz.l_contains_ren := {
  mixed := by kernel_rfl
  f6 := ⟨Tryz.f75.name, by decide, Tryz.func75.trans (congrArg some (by kernel_rfl))⟩
  f8 := ⟨Tryz.f49.name, by decide, Tryz.func49.trans (congrArg some (by kernel_rfl))⟩
  t0 := Tryz.underlying0
  a0 := Tryz.isAgg0
  z0 := Tryz.sizeOf0
  v0 := Tryz.zeroValue0
  t3 := Tryz.underlying3
  a3 := Tryz.isAgg3
  z3 := Tryz.sizeOf3
  v3 := Tryz.zeroValue3
  t4 := Tryz.underlying4
  a4 := Tryz.isAgg4
  z4 := Tryz.sizeOf4
  v4 := Tryz.zeroValue4
  t22 := Tryz.underlying24
  a22 := Tryz.isAgg24
  z22 := Tryz.sizeOf24
  v22 := Tryz.zeroValue24
  t25 := Tryz.underlying72
  a25 := Tryz.isAgg72
  z25 := Tryz.sizeOf72
  v25 := Tryz.zeroValue72 }
def Tryz.l_cloneD_ren : Go.Shelf.Ren := ⟨fun | 41 => 29 | n => n, fun | 22 => 22 | 23 => 39 | 4 => 4 | n => n, fun | n => n⟩
theorem Tryz.l_cloneD : Go.Proofs.SlLaysE0.n41 Tryz.prog Tryz.l_cloneD_ren := {
  mixed := by kernel_rfl
  f41 := ⟨Tryz.f29.name, by decide, Tryz.func29.trans (congrArg some (by kernel_rfl))⟩
  t4 := Tryz.underlying4
  a4 := Tryz.isAgg4
  z4 := Tryz.sizeOf4
  v4 := Tryz.zeroValue4
  t22 := Tryz.underlying22
  a22 := Tryz.isAgg22
  z22 := Tryz.sizeOf22
  v22 := Tryz.zeroValue22 }
def Tryz.l_index_ren : Go.Shelf.Ren := ⟨fun | 6 => 61 | n => n, fun | 22 => 22 | 23 => 39 | 25 => 56 | 4 => 4 | 3 => 3 | 0 => 0 | n => n, fun | n => n⟩
theorem Tryz.l_index : Go.Proofs.SlLaysH0.n6 Tryz.prog Tryz.l_index_ren := {
  mixed := by kernel_rfl
  f6 := ⟨Tryz.f61.name, by decide, Tryz.func61.trans (congrArg some (by kernel_rfl))⟩
  t0 := Tryz.underlying0
  a0 := Tryz.isAgg0
  z0 := Tryz.sizeOf0
  v0 := Tryz.zeroValue0
  t3 := Tryz.underlying3
  a3 := Tryz.isAgg3
  z3 := Tryz.sizeOf3
  v3 := Tryz.zeroValue3
  t4 := Tryz.underlying4
  a4 := Tryz.isAgg4
  z4 := Tryz.sizeOf4
  v4 := Tryz.zeroValue4
  t22 := Tryz.underlying22
  a22 := Tryz.isAgg22
  z22 := Tryz.sizeOf22
  v22 := Tryz.zeroValue22
  t25 := Tryz.underlying56
  a25 := Tryz.isAgg56
  z25 := Tryz.sizeOf56
  v25 := Tryz.zeroValue56 }
def Tryz.l_sort_ren : Go.Shelf.Ren := ⟨fun | 6 => 33 | 15 => 64 | 14 => 63 | 28 => 93 | 29 => 94 | 20 => 85 | 21 => 86 | 22 => 87 | 23 => 88 | 24 => 89 | 25 => 90 | 26 => 91 | 27 => 92 | 46 => 102 | 47 => 103 | 48 => 104 | 49 => 105 | 50 => 106 | 57 => 116 | n => n, fun | 22 => 22 | 24 => 39 | 25 => 57 | 3 => 3 | 39 => 82 | 0 => 0 | 53 => 111 | 55 => 113 | 4 => 4 | 46 => 104 | 45 => 103 | 50 => 108 | 5 => 5 | 9 => 9 | 66 => 122 | 70 => 126 | 76 => 137 | 77 => 138 | n => n, fun | n => n⟩
theorem Tryz.l_sort : Go.Proofs.SlLaysF0.n6 Tryz.prog Tryz.l_sort_ren := {
  mixed := by kernel_rfl
  f6 := ⟨Tryz.f33.name, by decide, Tryz.func33.trans (congrArg some (by kernel_rfl))⟩
  f14 := ⟨Tryz.f63.name, by decide, Tryz.func63.trans (congrArg some (by kernel_rfl))⟩
  f15 := Tryz.func64.trans (congrArg some (by kernel_rfl))
  f20 := ⟨Tryz.f85.name, by decide, Tryz.func85.trans (congrArg some (by kernel_rfl))⟩
  f21 := ⟨Tryz.f86.name, by decide, Tryz.func86.trans (congrArg some (by kernel_rfl))⟩
  f22 := ⟨Tryz.f87.name, by decide, Tryz.func87.trans (congrArg some (by kernel_rfl))⟩
  f23 := ⟨Tryz.f88.name, by decide, Tryz.func88.trans (congrArg some (by kernel_rfl))⟩
  f24 := ⟨Tryz.f89.name, by decide, Tryz.func89.trans (congrArg some (by kernel_rfl))⟩
  f25 := ⟨Tryz.f90.name, by decide, Tryz.func90.trans (congrArg some (by kernel_rfl))⟩
  f26 := ⟨Tryz.f91.name, by decide, Tryz.func91.trans (congrArg some (by kernel_rfl))⟩
  f27 := ⟨Tryz.f92.name, by decide, Tryz.func92.trans (congrArg some (by kernel_rfl))⟩
  f28 := Tryz.func93.trans (congrArg some (by kernel_rfl))
  f29 := Tryz.func94.trans (congrArg some (by kernel_rfl))
  f46 := ⟨Tryz.f102.name, by decide, Tryz.func102.trans (congrArg some (by kernel_rfl))⟩
  f47 := Tryz.func103.trans (congrArg some (by kernel_rfl))
  f48 := Tryz.func104.trans (congrArg some (by kernel_rfl))
  f49 := ⟨Tryz.f105.name, by decide, Tryz.func105.trans (congrArg some (by kernel_rfl))⟩
  f50 := ⟨Tryz.f106.name, by decide, Tryz.func106.trans (congrArg some (by kernel_rfl))⟩
  f57 := ⟨Tryz.f116.name, by decide, Tryz.func116.trans (congrArg some (by kernel_rfl))⟩
  t0 := Tryz.underlying0
  a0 := Tryz.isAgg0
  z0 := Tryz.sizeOf0
  v0 := Tryz.zeroValue0
  t3 := Tryz.underlying3
  a3 := Tryz.isAgg3
  z3 := Tryz.sizeOf3
  v3 := Tryz.zeroValue3
  t4 := Tryz.underlying4
  a4 := Tryz.isAgg4
  z4 := Tryz.sizeOf4
  v4 := Tryz.zeroValue4
  t5 := Tryz.underlying5
  a5 := Tryz.isAgg5
  z5 := Tryz.sizeOf5
  v5 := Tryz.zeroValue5
  t9 := Tryz.underlying9
  a9 := Tryz.isAgg9
  z9 := Tryz.sizeOf9
  v9 := Tryz.zeroValue9
  t22 := Tryz.underlying22
  a22 := Tryz.isAgg22
  z22 := Tryz.sizeOf22
  v22 := Tryz.zeroValue22
  t25 := Tryz.underlying57
  a25 := Tryz.isAgg57
  z25 := Tryz.sizeOf57
  v25 := Tryz.zeroValue57
  t39 := Tryz.underlying82
  a39 := Tryz.isAgg82
  z39 := Tryz.sizeOf82
  v39 := Tryz.zeroValue82
  t45 := Tryz.underlying103
  a45 := Tryz.isAgg103
  z45 := Tryz.sizeOf103
  v45 := Tryz.zeroValue103
  t46 := Tryz.underlying104
  a46 := Tryz.isAgg104
  z46 := Tryz.sizeOf104
  v46 := Tryz.zeroValue104
  t50 := Tryz.underlying108
  a50 := Tryz.isAgg108
  z50 := Tryz.sizeOf108
  v50 := Tryz.zeroValue108
  t53 := Tryz.underlying111
  a53 := Tryz.isAgg111
  z53 := Tryz.sizeOf111
  v53 := Tryz.zeroValue111
  t55 := Tryz.underlying113
  a55 := Tryz.isAgg113
  z55 := Tryz.sizeOf113
  v55 := Tryz.zeroValue113
  t66 := Tryz.underlying122
  a66 := Tryz.isAgg122
  z66 := Tryz.sizeOf122
  v66 := Tryz.zeroValue122
  t70 := Tryz.underlying126
  a70 := Tryz.isAgg126
  z70 := Tryz.sizeOf126
  v70 := Tryz.zeroValue126
  t76 := Tryz.underlying137
  a76 := Tryz.isAgg137
  z76 := Tryz.sizeOf137
  v76 := Tryz.zeroValue137
  t77 := Tryz.underlying138
  a77 := Tryz.isAgg138
  z77 := Tryz.sizeOf138
  v77 := Tryz.zeroValue138 }
end Go.Proofs


