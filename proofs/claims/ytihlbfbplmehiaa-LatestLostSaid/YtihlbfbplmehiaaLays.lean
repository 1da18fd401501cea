/- The contracts of slices.SortFunc and slices.IndexFunc, laid at this seat (written by the kit's lay-plain). -/
import Derived.Shelf.SlSortCmp.WholeK
import Derived.Shelf.SlSortCmp.NoneTotal
import Derived.Shelf.SlicesQ.IndexFunc
import Derived.Shelf.SlGeneric
import Derived.Ground.SlsfProg
import Derived.Ground.SlgfProg
import Derived.Test.YtihlbfbplmehiaaProg
namespace Go.Proofs
open Go.Shelf
def Try.sortP_ren : Go.Shelf.Ren := ⟨fun | 6 => 33 | 15 => 44 | 14 => 43 | 28 => 60 | 29 => 61 | 20 => 52 | 21 => 53 | 22 => 54 | 23 => 55 | 24 => 56 | 25 => 57 | 26 => 58 | 27 => 59 | 46 => 67 | 47 => 68 | 48 => 69 | 49 => 70 | 50 => 71 | 57 => 74 | n => n, fun | 22 => 32 | 24 => 29 | 25 => 72 | 3 => 3 | 39 => 99 | 0 => 0 | 53 => 23 | 55 => 116 | 4 => 4 | 46 => 108 | 45 => 107 | 50 => 112 | 5 => 5 | 9 => 9 | 66 => 121 | 70 => 125 | 76 => 130 | 77 => 131 | n => n, fun | n => n⟩
theorem Try.sortP : Go.Proofs.SlLaysF0.n6 Try.prog Try.sortP_ren := {
  mixed := by kernel_rfl
  f6 := ⟨Try.f33.name, by decide, Try.func33.trans (congrArg some (by kernel_rfl))⟩
  f14 := ⟨Try.f43.name, by decide, Try.func43.trans (congrArg some (by kernel_rfl))⟩
  f15 := Try.func44.trans (congrArg some (by kernel_rfl))
  f20 := ⟨Try.f52.name, by decide, Try.func52.trans (congrArg some (by kernel_rfl))⟩
  f21 := ⟨Try.f53.name, by decide, Try.func53.trans (congrArg some (by kernel_rfl))⟩
  f22 := ⟨Try.f54.name, by decide, Try.func54.trans (congrArg some (by kernel_rfl))⟩
  f23 := ⟨Try.f55.name, by decide, Try.func55.trans (congrArg some (by kernel_rfl))⟩
  f24 := ⟨Try.f56.name, by decide, Try.func56.trans (congrArg some (by kernel_rfl))⟩
  f25 := ⟨Try.f57.name, by decide, Try.func57.trans (congrArg some (by kernel_rfl))⟩
  f26 := ⟨Try.f58.name, by decide, Try.func58.trans (congrArg some (by kernel_rfl))⟩
  f27 := ⟨Try.f59.name, by decide, Try.func59.trans (congrArg some (by kernel_rfl))⟩
  f28 := Try.func60.trans (congrArg some (by kernel_rfl))
  f29 := Try.func61.trans (congrArg some (by kernel_rfl))
  f46 := ⟨Try.f67.name, by decide, Try.func67.trans (congrArg some (by kernel_rfl))⟩
  f47 := Try.func68.trans (congrArg some (by kernel_rfl))
  f48 := Try.func69.trans (congrArg some (by kernel_rfl))
  f49 := ⟨Try.f70.name, by decide, Try.func70.trans (congrArg some (by kernel_rfl))⟩
  f50 := ⟨Try.f71.name, by decide, Try.func71.trans (congrArg some (by kernel_rfl))⟩
  f57 := ⟨Try.f74.name, by decide, Try.func74.trans (congrArg some (by kernel_rfl))⟩
  t0 := Try.underlying0
  a0 := Try.isAgg0
  z0 := Try.sizeOf0
  v0 := Try.zeroValue0
  t3 := Try.underlying3
  a3 := Try.isAgg3
  z3 := Try.sizeOf3
  v3 := Try.zeroValue3
  t4 := Try.underlying4
  a4 := Try.isAgg4
  z4 := Try.sizeOf4
  v4 := Try.zeroValue4
  t5 := Try.underlying5
  a5 := Try.isAgg5
  z5 := Try.sizeOf5
  v5 := Try.zeroValue5
  t9 := Try.underlying9
  a9 := Try.isAgg9
  z9 := Try.sizeOf9
  v9 := Try.zeroValue9
  t22 := Try.underlying32
  a22 := Try.isAgg32
  z22 := Try.sizeOf32
  v22 := Try.zeroValue32
  t25 := Try.underlying72
  a25 := Try.isAgg72
  z25 := Try.sizeOf72
  v25 := Try.zeroValue72
  t39 := Try.underlying99
  a39 := Try.isAgg99
  z39 := Try.sizeOf99
  v39 := Try.zeroValue99
  t45 := Try.underlying107
  a45 := Try.isAgg107
  z45 := Try.sizeOf107
  v45 := Try.zeroValue107
  t46 := Try.underlying108
  a46 := Try.isAgg108
  z46 := Try.sizeOf108
  v46 := Try.zeroValue108
  t50 := Try.underlying112
  a50 := Try.isAgg112
  z50 := Try.sizeOf112
  v50 := Try.zeroValue112
  t53 := Try.underlying23
  a53 := Try.isAgg23
  z53 := Try.sizeOf23
  v53 := Try.zeroValue23
  t55 := Try.underlying116
  a55 := Try.isAgg116
  z55 := Try.sizeOf116
  v55 := Try.zeroValue116
  t66 := Try.underlying121
  a66 := Try.isAgg121
  z66 := Try.sizeOf121
  v66 := Try.zeroValue121
  t70 := Try.underlying125
  a70 := Try.isAgg125
  z70 := Try.sizeOf125
  v70 := Try.zeroValue125
  t76 := Try.underlying130
  a76 := Try.isAgg130
  z76 := Try.sizeOf130
  v76 := Try.zeroValue130
  t77 := Try.underlying131
  a77 := Try.isAgg131
  z77 := Try.sizeOf131
  v77 := Try.zeroValue131 }
def Try.indexP_ren : Go.Shelf.Ren := ⟨fun | 6 => 19 | n => n, fun | 22 => 32 | 23 => 29 | 25 => 67 | 3 => 3 | 0 => 0 | 4 => 4 | n => n, fun | n => n⟩
theorem Try.indexP : Go.Proofs.SlLaysH0.n6 Try.prog Try.indexP_ren := {
  mixed := by kernel_rfl
  f6 := ⟨Try.f19.name, by decide, Try.func19.trans (congrArg some (by kernel_rfl))⟩
  t0 := Try.underlying0
  a0 := Try.isAgg0
  z0 := Try.sizeOf0
  v0 := Try.zeroValue0
  t3 := Try.underlying3
  a3 := Try.isAgg3
  z3 := Try.sizeOf3
  v3 := Try.zeroValue3
  t4 := Try.underlying4
  a4 := Try.isAgg4
  z4 := Try.sizeOf4
  v4 := Try.zeroValue4
  t22 := Try.underlying32
  a22 := Try.isAgg32
  z22 := Try.sizeOf32
  v22 := Try.zeroValue32
  t25 := Try.underlying67
  a25 := Try.isAgg67
  z25 := Try.sizeOf67
  v25 := Try.zeroValue67 }
end Go.Proofs
