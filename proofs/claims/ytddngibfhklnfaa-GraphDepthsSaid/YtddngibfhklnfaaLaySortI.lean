/- slices.Sort and slices.Compact at []int: the contracts of the kit laid at this program. -/
import Derived.Test.YtddngibfhklnfaaRows
import Derived.Shelf.Sort.Plain
import Derived.Shelf.Slices.CompactI
import Derived.Shelf.Slices.In.SortNone
namespace Go.Proofs.Ytddngibfhklnfaa
open Go.Shelf Go.RowKit Go.Lib Go.Sort

def Try.sortI_ren : Go.Shelf.Ren := ⟨fun | 189 => 53 | 125 => 87 | 257 => 86 | 128 => 106 | 129 => 107 | 294 => 97 | 295 => 98 | 296 => 99 | 297 => 100 | 298 => 101 | 299 => 102 | 216 => 103 | 300 => 104 | 301 => 105 | 328 => 111 | 329 => 112 | 330 => 113 | 331 => 114 | 332 => 115 | 215 => 116 | 343 => 123 | n => n, fun | 28 => 28 | 3 => 3 | 46 => 114 | 0 => 0 | 51 => 130 | 53 => 132 | 4 => 4 | 183 => 123 | 182 => 122 | 131 => 48 | 5 => 5 | 9 => 9 | 218 => 139 | 222 => 143 | 228 => 152 | 229 => 153 | n => n, fun | n => n⟩
set_option maxRecDepth 100000 in
theorem Try.sortI : Go.Proofs.Lays.n189 Try.prog Try.sortI_ren := {
  mixed := by kernel_rfl
  f125 := Try.func87.trans (congrArg some (by kernel_rfl))
  f128 := Try.func106.trans (congrArg some (by kernel_rfl))
  f129 := Try.func107.trans (congrArg some (by kernel_rfl))
  f189 := Try.func53.trans (congrArg some (by kernel_rfl))
  f215 := Try.func116.trans (congrArg some (by kernel_rfl))
  f216 := Try.func103.trans (congrArg some (by kernel_rfl))
  f257 := Try.func86.trans (congrArg some (by kernel_rfl))
  f294 := Try.func97.trans (congrArg some (by kernel_rfl))
  f295 := Try.func98.trans (congrArg some (by kernel_rfl))
  f296 := Try.func99.trans (congrArg some (by kernel_rfl))
  f297 := Try.func100.trans (congrArg some (by kernel_rfl))
  f298 := Try.func101.trans (congrArg some (by kernel_rfl))
  f299 := Try.func102.trans (congrArg some (by kernel_rfl))
  f300 := Try.func104.trans (congrArg some (by kernel_rfl))
  f301 := Try.func105.trans (congrArg some (by kernel_rfl))
  f328 := Try.func111.trans (congrArg some (by kernel_rfl))
  f329 := Try.func112.trans (congrArg some (by kernel_rfl))
  f330 := Try.func113.trans (congrArg some (by kernel_rfl))
  f331 := Try.func114.trans (congrArg some (by kernel_rfl))
  f332 := Try.func115.trans (congrArg some (by kernel_rfl))
  f343 := Try.func123.trans (congrArg some (by kernel_rfl))
  t0 := Try.underlying0
  a0 := Try.isAgg0
  z0 := Try.sizeOf0
  v0 := Try.zeroValue0
  t3 := Try.underlying3
  a3 := Try.isAgg3
  z3 := Try.sizeOf3
  v3 := Try.zeroValue3
  t4 := Try.underlying4
  a4 := Try.isAgg4
  z4 := Try.sizeOf4
  v4 := Try.zeroValue4
  t5 := Try.underlying5
  a5 := Try.isAgg5
  z5 := Try.sizeOf5
  v5 := Try.zeroValue5
  t9 := Try.underlying9
  a9 := Try.isAgg9
  z9 := Try.sizeOf9
  v9 := Try.zeroValue9
  t28 := Try.underlying28
  a28 := Try.isAgg28
  z28 := Try.sizeOf28
  v28 := Try.zeroValue28
  t46 := Try.underlying114
  a46 := Try.isAgg114
  z46 := Try.sizeOf114
  v46 := Try.zeroValue114
  t51 := Try.underlying130
  a51 := Try.isAgg130
  z51 := Try.sizeOf130
  v51 := Try.zeroValue130
  t53 := Try.underlying132
  a53 := Try.isAgg132
  z53 := Try.sizeOf132
  v53 := Try.zeroValue132
  t131 := Try.underlying48
  a131 := Try.isAgg48
  z131 := Try.sizeOf48
  v131 := Try.zeroValue48
  t182 := Try.underlying122
  a182 := Try.isAgg122
  z182 := Try.sizeOf122
  v182 := Try.zeroValue122
  t183 := Try.underlying123
  a183 := Try.isAgg123
  z183 := Try.sizeOf123
  v183 := Try.zeroValue123
  t218 := Try.underlying139
  a218 := Try.isAgg139
  z218 := Try.sizeOf139
  v218 := Try.zeroValue139
  t222 := Try.underlying143
  a222 := Try.isAgg143
  z222 := Try.sizeOf143
  v222 := Try.zeroValue143
  t228 := Try.underlying152
  a228 := Try.isAgg152
  z228 := Try.sizeOf152
  v228 := Try.zeroValue152
  t229 := Try.underlying153
  a229 := Try.isAgg153
  z229 := Try.sizeOf153
  v229 := Try.zeroValue153 }
def Try.compactI_ren : Go.Shelf.Ren := ⟨fun | 20 => 81 | n => n, fun | 22 => 28 | 3 => 3 | 4 => 4 | 0 => 0 | n => n, fun | n => n⟩
set_option maxRecDepth 100000 in
theorem Try.compactI : Go.Proofs.Lays2.n20 Try.prog Try.compactI_ren := {
  mixed := by kernel_rfl
  f20 := Try.func81.trans (congrArg some (by kernel_rfl))
  t0 := Try.underlying0
  a0 := Try.isAgg0
  z0 := Try.sizeOf0
  v0 := Try.zeroValue0
  t3 := Try.underlying3
  a3 := Try.isAgg3
  z3 := Try.sizeOf3
  v3 := Try.zeroValue3
  t4 := Try.underlying4
  a4 := Try.isAgg4
  z4 := Try.sizeOf4
  v4 := Try.zeroValue4
  t22 := Try.underlying28
  a22 := Try.isAgg28
  z22 := Try.sizeOf28
  v22 := Try.zeroValue28
  i3 := by kernel_rfl }
end Go.Proofs.Ytddngibfhklnfaa
