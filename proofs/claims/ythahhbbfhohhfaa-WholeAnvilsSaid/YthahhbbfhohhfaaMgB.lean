import Derived.Shelf.SlSortCmp.NoneTotal
import Derived.Shelf.SlicesG.Cmp
import Derived.Test.YthahhbbfhohhfaaChecked
/-
  The library's functions slices.SortFunc (at arcs) and cmp.Compare: what the shelf says of them,at this program's numbers. Printed by prlay.py.
-/
namespace Go.Mx
set_option linter.unusedVariables false
set_option linter.unusedSimpArgs false
set_option linter.unusedSectionVars false
open Go Go.Proofs Go.Shelf Go.RowKit Go.Lib Go.Sort
def sortL_ren : Go.Shelf.Ren:=⟨fun | 6 => 33 | 15 => 60 | 14 => 59 | 28 => 77 | 29 => 78 | 20 => 69 | 21 => 70 | 22 => 71 | 23 => 72 | 24 => 73 | 25 => 74 | 26 => 75 | 27 => 76 | 46 => 79 | 47 => 80 | 48 => 81 | 49 => 82 | 50 => 83 | 57 => 84 | n => n,fun | 22 => 25 | 24 => 43 | 25 => 79 | 3 => 3 | 39 => 66 | 0 => 0 | 53 => 91 | 55 => 95 | 4 => 4 | 46 => 116 | 45 => 115 | 50 => 120 | 5 => 5 | 9 => 9 | 66 => 122 | 70 => 126 | 76 => 128 | 77 => 112 | n => n,fun n => n⟩
theorem sortL : SlLaysF0.n6 Try.prog sortL_ren:={
  mixed:=by kernel_rfl
  f6:=⟨"slices.SortFunc[[]coinage/api.Arc,coinage/api.Arc]",by decide,Try.func33.trans (congrArg some (by kernel_rfl))⟩
  f14:=⟨"slices.pdqsortCmpFunc[coinage/api.Arc]",by decide,Try.func59.trans (congrArg some (by kernel_rfl))⟩
  f15:=Try.func60.trans (congrArg some (by kernel_rfl))
  f20:=⟨"slices.insertionSortCmpFunc[coinage/api.Arc]",by decide,Try.func69.trans (congrArg some (by kernel_rfl))⟩
  f21:=⟨"slices.heapSortCmpFunc[coinage/api.Arc]",by decide,Try.func70.trans (congrArg some (by kernel_rfl))⟩
  f22:=⟨"slices.breakPatternsCmpFunc[coinage/api.Arc]",by decide,Try.func71.trans (congrArg some (by kernel_rfl))⟩
  f23:=⟨"slices.choosePivotCmpFunc[coinage/api.Arc]",by decide,Try.func72.trans (congrArg some (by kernel_rfl))⟩
  f24:=⟨"slices.reverseRangeCmpFunc[coinage/api.Arc]",by decide,Try.func73.trans (congrArg some (by kernel_rfl))⟩
  f25:=⟨"slices.partialInsertionSortCmpFunc[coinage/api.Arc]",by decide,Try.func74.trans (congrArg some (by kernel_rfl))⟩
  f26:=⟨"slices.partitionEqualCmpFunc[coinage/api.Arc]",by decide,Try.func75.trans (congrArg some (by kernel_rfl))⟩
  f27:=⟨"slices.partitionCmpFunc[coinage/api.Arc]",by decide,Try.func76.trans (congrArg some (by kernel_rfl))⟩
  f28:=Try.func77.trans (congrArg some (by kernel_rfl))
  f29:=Try.func78.trans (congrArg some (by kernel_rfl))
  f46:=⟨"slices.siftDownCmpFunc[coinage/api.Arc]",by decide,Try.func79.trans (congrArg some (by kernel_rfl))⟩
  f47:=Try.func80.trans (congrArg some (by kernel_rfl))
  f48:=Try.func81.trans (congrArg some (by kernel_rfl))
  f49:=⟨"slices.medianAdjacentCmpFunc[coinage/api.Arc]",by decide,Try.func82.trans (congrArg some (by kernel_rfl))⟩
  f50:=⟨"slices.medianCmpFunc[coinage/api.Arc]",by decide,Try.func83.trans (congrArg some (by kernel_rfl))⟩
  f57:=⟨"slices.order2CmpFunc[coinage/api.Arc]",by decide,Try.func84.trans (congrArg some (by kernel_rfl))⟩
  t0:=Try.underlying0
  a0:=Try.isAgg0
  z0:=Try.sizeOf0
  v0:=Try.zeroValue0
  t3:=Try.underlying3
  a3:=Try.isAgg3
  z3:=Try.sizeOf3
  v3:=Try.zeroValue3
  t4:=Try.underlying4
  a4:=Try.isAgg4
  z4:=Try.sizeOf4
  v4:=Try.zeroValue4
  t5:=Try.underlying5
  a5:=Try.isAgg5
  z5:=Try.sizeOf5
  v5:=Try.zeroValue5
  t9:=Try.underlying9
  a9:=Try.isAgg9
  z9:=Try.sizeOf9
  v9:=Try.zeroValue9
  t22:=Try.underlying25
  a22:=Try.isAgg25
  z22:=Try.sizeOf25
  v22:=Try.zeroValue25
  t25:=Try.underlying79
  a25:=Try.isAgg79
  z25:=Try.sizeOf79
  v25:=Try.zeroValue79
  t39:=Try.underlying66
  a39:=Try.isAgg66
  z39:=Try.sizeOf66
  v39:=Try.zeroValue66
  t45:=Try.underlying115
  a45:=Try.isAgg115
  z45:=Try.sizeOf115
  v45:=Try.zeroValue115
  t46:=Try.underlying116
  a46:=Try.isAgg116
  z46:=Try.sizeOf116
  v46:=Try.zeroValue116
  t50:=Try.underlying120
  a50:=Try.isAgg120
  z50:=Try.sizeOf120
  v50:=Try.zeroValue120
  t53:=Try.underlying91
  a53:=Try.isAgg91
  z53:=Try.sizeOf91
  v53:=Try.zeroValue91
  t55:=Try.underlying95
  a55:=Try.isAgg95
  z55:=Try.sizeOf95
  v55:=Try.zeroValue95
  t66:=Try.underlying122
  a66:=Try.isAgg122
  z66:=Try.sizeOf122
  v66:=Try.zeroValue122
  t70:=Try.underlying126
  a70:=Try.isAgg126
  z70:=Try.sizeOf126
  v70:=Try.zeroValue126
  t76:=Try.underlying128
  a76:=Try.isAgg128
  z76:=Try.sizeOf128
  v76:=Try.zeroValue128
  t77:=Try.underlying112
  a77:=Try.isAgg112
  z77:=Try.sizeOf112
  v77:=Try.zeroValue112 }
def cmpL_ren : Go.Shelf.Ren:=⟨fun | 5 => 36 | 7 => 61 | n => n,fun | 22 => 3 | 3 => 3 | 4 => 4 | n => n,fun n => n⟩
theorem cmpL : SlLaysC2.n5 Try.prog cmpL_ren:={
  mixed:=by kernel_rfl
  f5:=⟨"cmp.Compare[int]",by decide,Try.func36.trans (congrArg some (by kernel_rfl))⟩
  f7:=⟨"cmp.isNaN[int]",by decide,Try.func61.trans (congrArg some (by kernel_rfl))⟩
  t3:=Try.underlying3
  a3:=Try.isAgg3
  z3:=Try.sizeOf3
  v3:=Try.zeroValue3
  t4:=Try.underlying4
  a4:=Try.isAgg4
  z4:=Try.sizeOf4
  v4:=Try.zeroValue4
  t22:=Try.underlying3
  a22:=Try.isAgg3
  z22:=Try.sizeOf3
  v22:=Try.zeroValue3 }
end Go.Mx
