/- The laying of the library contract slices.SortFunc at this program (written by the kit's lay-plain.mjs, its numbers turned to names). -/
import Derived.Shelf.SlSortCmp.NoneTotal
import Derived.Shelf.SlLaysF
import Derived.Test.YtldpcjkfkcbfmaaDoorMem
import Derived.Test.YtldpcjkfkcbfmaaDoorProg
namespace Go.Proofs
open Go.Shelf
def Tryd.sortR_ren : Go.Shelf.Ren := ⟨fun | 6 => 41 | 15 => 57 | 14 => 56 | 28 => 73 | 29 => 74 | 20 => 65 | 21 => 66 | 22 => 67 | 23 => 68 | 24 => 69 | 25 => 70 | 26 => 71 | 27 => 72 | 46 => 77 | 47 => 78 | 48 => 79 | 49 => 80 | 50 => 81 | 57 => 82 | n => n, fun | 22 => 23 | 24 => 44 | 25 => 56 | 3 => 3 | 39 => 67 | 0 => 0 | 53 => 81 | 55 => 83 | 4 => 4 | 46 => 74 | 45 => 73 | 50 => 78 | 5 => 5 | 9 => 9 | 66 => 85 | 70 => 89 | 76 => 91 | 77 => 92 | n => n, fun | n => n⟩
theorem Tryd.sortR : Go.Proofs.SlLaysF.n6 Tryd.prog Tryd.sortR_ren := {
  mixed := by kernel_rfl
  f6 := ⟨Tryd.f41.name, by decide, Tryd.func41.trans (congrArg some (by kernel_rfl))⟩
  f14 := ⟨Tryd.f56.name, by decide, Tryd.func56.trans (congrArg some (by kernel_rfl))⟩
  f15 := Tryd.func57.trans (congrArg some (by kernel_rfl))
  f20 := ⟨Tryd.f65.name, by decide, Tryd.func65.trans (congrArg some (by kernel_rfl))⟩
  f21 := ⟨Tryd.f66.name, by decide, Tryd.func66.trans (congrArg some (by kernel_rfl))⟩
  f22 := ⟨Tryd.f67.name, by decide, Tryd.func67.trans (congrArg some (by kernel_rfl))⟩
  f23 := ⟨Tryd.f68.name, by decide, Tryd.func68.trans (congrArg some (by kernel_rfl))⟩
  f24 := ⟨Tryd.f69.name, by decide, Tryd.func69.trans (congrArg some (by kernel_rfl))⟩
  f25 := ⟨Tryd.f70.name, by decide, Tryd.func70.trans (congrArg some (by kernel_rfl))⟩
  f26 := ⟨Tryd.f71.name, by decide, Tryd.func71.trans (congrArg some (by kernel_rfl))⟩
  f27 := ⟨Tryd.f72.name, by decide, Tryd.func72.trans (congrArg some (by kernel_rfl))⟩
  f28 := Tryd.func73.trans (congrArg some (by kernel_rfl))
  f29 := Tryd.func74.trans (congrArg some (by kernel_rfl))
  f46 := ⟨Tryd.f77.name, by decide, Tryd.func77.trans (congrArg some (by kernel_rfl))⟩
  f47 := Tryd.func78.trans (congrArg some (by kernel_rfl))
  f48 := Tryd.func79.trans (congrArg some (by kernel_rfl))
  f49 := ⟨Tryd.f80.name, by decide, Tryd.func80.trans (congrArg some (by kernel_rfl))⟩
  f50 := ⟨Tryd.f81.name, by decide, Tryd.func81.trans (congrArg some (by kernel_rfl))⟩
  f57 := ⟨Tryd.f82.name, by decide, Tryd.func82.trans (congrArg some (by kernel_rfl))⟩
  t0 := Tryd.underlying0
  a0 := Tryd.isAgg0
  z0 := Tryd.sizeOf0
  v0 := Tryd.zeroValue0
  t3 := Tryd.underlying3
  a3 := Tryd.isAgg3
  z3 := Tryd.sizeOf3
  v3 := Tryd.zeroValue3
  t4 := Tryd.underlying4
  a4 := Tryd.isAgg4
  z4 := Tryd.sizeOf4
  v4 := Tryd.zeroValue4
  t5 := Tryd.underlying5
  a5 := Tryd.isAgg5
  z5 := Tryd.sizeOf5
  v5 := Tryd.zeroValue5
  t9 := Tryd.underlying9
  a9 := Tryd.isAgg9
  z9 := Tryd.sizeOf9
  v9 := Tryd.zeroValue9
  t22 := Tryd.underlying23
  a22 := Tryd.isAgg23
  z22 := Tryd.sizeOf23
  v22 := Tryd.zeroValue23
  a24 := Tryd.isAgg44
  z24 := Tryd.sizeOf44
  t25 := Tryd.underlying56
  a25 := Tryd.isAgg56
  z25 := Tryd.sizeOf56
  v25 := Tryd.zeroValue56
  t39 := Tryd.underlying67
  a39 := Tryd.isAgg67
  z39 := Tryd.sizeOf67
  v39 := Tryd.zeroValue67
  t45 := Tryd.underlying73
  a45 := Tryd.isAgg73
  z45 := Tryd.sizeOf73
  v45 := Tryd.zeroValue73
  t46 := Tryd.underlying74
  a46 := Tryd.isAgg74
  z46 := Tryd.sizeOf74
  v46 := Tryd.zeroValue74
  t50 := Tryd.underlying78
  a50 := Tryd.isAgg78
  z50 := Tryd.sizeOf78
  v50 := Tryd.zeroValue78
  t53 := Tryd.underlying81
  a53 := Tryd.isAgg81
  z53 := Tryd.sizeOf81
  v53 := Tryd.zeroValue81
  t55 := Tryd.underlying83
  a55 := Tryd.isAgg83
  z55 := Tryd.sizeOf83
  v55 := Tryd.zeroValue83
  t66 := Tryd.underlying85
  a66 := Tryd.isAgg85
  z66 := Tryd.sizeOf85
  v66 := Tryd.zeroValue85
  t70 := Tryd.underlying89
  a70 := Tryd.isAgg89
  z70 := Tryd.sizeOf89
  v70 := Tryd.zeroValue89
  t76 := Tryd.underlying91
  a76 := Tryd.isAgg91
  z76 := Tryd.sizeOf91
  v76 := Tryd.zeroValue91
  t77 := Tryd.underlying92
  a77 := Tryd.isAgg92
  z77 := Tryd.sizeOf92
  v77 := Tryd.zeroValue92 }

end Go.Proofs
