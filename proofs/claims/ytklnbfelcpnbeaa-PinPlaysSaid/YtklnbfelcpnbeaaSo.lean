/- The library's sort at this program: slices.Sort of []int64 sorts. Conditions: those of each theorem. Laid off the shelf's contract by a program. -/
import Derived.Shelf.SortM.Plain
import Derived.Shelf.SortM.SortNone
import Derived.Ground.SlgmProg
import Derived.Test.YtklnbfelcpnbeaaProg
namespace Go.Proofs.Ytklnbfelcpnbeaa
open Go.RowKit Go.Sort Go.Shelf

def Try.sort31_ren : Go.Shelf.Ren := ⟨fun | 5 => 31 | 8 => 39 | 7 => 38 | 19 => 59 | 20 => 60 | 10 => 50 | 11 => 51 | 12 => 52 | 13 => 53 | 14 => 54 | 15 => 55 | 16 => 56 | 17 => 57 | 18 => 58 | 30 => 70 | 31 => 71 | 32 => 72 | 33 => 73 | 34 => 74 | 35 => 75 | 40 => 76 | n => n, fun | 23 => 37 | 25 => 2 | 3 => 3 | 32 => 92 | 22 => 37 | 0 => 0 | 44 => 58 | 46 => 115 | 4 => 4 | 36 => 106 | 35 => 105 | 41 => 111 | 5 => 5 | 9 => 9 | 53 => 121 | 57 => 125 | 63 => 127 | 64 => 128 | n => n, fun | n => n⟩
theorem Try.sort31 : Go.Proofs.SlLaysM.n5 Try.prog Try.sort31_ren := {
  mixed := by kernel_rfl
  f5 := ⟨Try.f31.name, by decide, Try.func31.trans (congrArg some (by kernel_rfl))⟩
  f7 := ⟨Try.f38.name, by decide, Try.func38.trans (congrArg some (by kernel_rfl))⟩
  f8 := Try.func39.trans (congrArg some (by kernel_rfl))
  f10 := ⟨Try.f50.name, by decide, Try.func50.trans (congrArg some (by kernel_rfl))⟩
  f11 := ⟨Try.f51.name, by decide, Try.func51.trans (congrArg some (by kernel_rfl))⟩
  f12 := ⟨Try.f52.name, by decide, Try.func52.trans (congrArg some (by kernel_rfl))⟩
  f13 := ⟨Try.f53.name, by decide, Try.func53.trans (congrArg some (by kernel_rfl))⟩
  f14 := ⟨Try.f54.name, by decide, Try.func54.trans (congrArg some (by kernel_rfl))⟩
  f15 := ⟨Try.f55.name, by decide, Try.func55.trans (congrArg some (by kernel_rfl))⟩
  f16 := ⟨Try.f56.name, by decide, Try.func56.trans (congrArg some (by kernel_rfl))⟩
  f17 := ⟨Try.f57.name, by decide, Try.func57.trans (congrArg some (by kernel_rfl))⟩
  f18 := ⟨Try.f58.name, by decide, Try.func58.trans (congrArg some (by kernel_rfl))⟩
  f19 := Try.func59.trans (congrArg some (by kernel_rfl))
  f20 := Try.func60.trans (congrArg some (by kernel_rfl))
  f30 := ⟨Try.f70.name, by decide, Try.func70.trans (congrArg some (by kernel_rfl))⟩
  f31 := Try.func71.trans (congrArg some (by kernel_rfl))
  f32 := Try.func72.trans (congrArg some (by kernel_rfl))
  f33 := ⟨Try.f73.name, by decide, Try.func73.trans (congrArg some (by kernel_rfl))⟩
  f34 := ⟨Try.f74.name, by decide, Try.func74.trans (congrArg some (by kernel_rfl))⟩
  f35 := ⟨Try.f75.name, by decide, Try.func75.trans (congrArg some (by kernel_rfl))⟩
  f40 := ⟨Try.f76.name, by decide, Try.func76.trans (congrArg some (by kernel_rfl))⟩
  t0 := Try.underlying0
  a0 := Try.isAgg0
  z0 := Try.sizeOf0
  v0 := Try.zeroValue0
  t3 := Try.underlying3
  a3 := Try.isAgg3
  z3 := Try.sizeOf3
  v3 := Try.zeroValue3
  t4 := Try.underlying4
  a4 := Try.isAgg4
  z4 := Try.sizeOf4
  v4 := Try.zeroValue4
  t5 := Try.underlying5
  a5 := Try.isAgg5
  z5 := Try.sizeOf5
  v5 := Try.zeroValue5
  t9 := Try.underlying9
  a9 := Try.isAgg9
  z9 := Try.sizeOf9
  v9 := Try.zeroValue9
  t22 := Try.underlying37
  a22 := Try.isAgg37
  z22 := Try.sizeOf37
  v22 := Try.zeroValue37
  t23 := Try.underlying37
  a23 := Try.isAgg37
  z23 := Try.sizeOf37
  v23 := Try.zeroValue37
  t25 := Try.underlying2
  a25 := Try.isAgg2
  z25 := Try.sizeOf2
  v25 := Try.zeroValue2
  t32 := Try.underlying92
  a32 := Try.isAgg92
  z32 := Try.sizeOf92
  v32 := Try.zeroValue92
  t35 := Try.underlying105
  a35 := Try.isAgg105
  z35 := Try.sizeOf105
  v35 := Try.zeroValue105
  t36 := Try.underlying106
  a36 := Try.isAgg106
  z36 := Try.sizeOf106
  v36 := Try.zeroValue106
  t41 := Try.underlying111
  a41 := Try.isAgg111
  z41 := Try.sizeOf111
  v41 := Try.zeroValue111
  t44 := Try.underlying58
  a44 := Try.isAgg58
  z44 := Try.sizeOf58
  v44 := Try.zeroValue58
  t46 := Try.underlying115
  a46 := Try.isAgg115
  z46 := Try.sizeOf115
  v46 := Try.zeroValue115
  t53 := Try.underlying121
  a53 := Try.isAgg121
  z53 := Try.sizeOf121
  v53 := Try.zeroValue121
  t57 := Try.underlying125
  a57 := Try.isAgg125
  z57 := Try.sizeOf125
  v57 := Try.zeroValue125
  t63 := Try.underlying127
  a63 := Try.isAgg127
  z63 := Try.sizeOf127
  v63 := Try.zeroValue127
  t64 := Try.underlying128
  a64 := Try.isAgg128
  z64 := Try.sizeOf128
  v64 := Try.zeroValue128 }

end Go.Proofs.Ytklnbfelcpnbeaa
