/- slices.Sort and slices.Compact at []int: the contracts of the kit laid at this program. -/
import Derived.Test.YtdkdhhfejbecdaaRows
import Derived.Shelf.Sort.Plain
import Derived.Shelf.Slices.CompactI
import Derived.Shelf.Slices.In.SortNone
namespace Go.Proofs.Ytdkdhhfejbecdaa
open Go.Shelf Go.RowKit Go.Lib Go.Sort

def Try.sortI_ren : Go.Shelf.Ren := ⟨fun | 189 => 74 | 125 => 101 | 257 => 111 | 128 => 137 | 129 => 138 | 294 => 141 | 295 => 142 | 296 => 143 | 297 => 144 | 298 => 145 | 299 => 146 | 216 => 147 | 300 => 148 | 301 => 149 | 328 => 161 | 329 => 157 | 330 => 158 | 331 => 162 | 332 => 163 | 215 => 102 | 343 => 167 | n => n, fun | 28 => 51 | 3 => 3 | 46 => 149 | 0 => 0 | 51 => 180 | 53 => 182 | 4 => 4 | 183 => 174 | 182 => 173 | 131 => 91 | 5 => 5 | 9 => 9 | 218 => 193 | 222 => 197 | 228 => 205 | 229 => 206 | n => n, fun | n => n⟩
set_option maxRecDepth 100000 in
theorem Try.sortI : Go.Proofs.Lays.n189 Try.prog Try.sortI_ren := {
  mixed := by kernel_rfl
  f125 := Try.func101.trans (congrArg some (by kernel_rfl))
  f128 := Try.func137.trans (congrArg some (by kernel_rfl))
  f129 := Try.func138.trans (congrArg some (by kernel_rfl))
  f189 := Try.func74.trans (congrArg some (by kernel_rfl))
  f215 := Try.func102.trans (congrArg some (by kernel_rfl))
  f216 := Try.func147.trans (congrArg some (by kernel_rfl))
  f257 := Try.func111.trans (congrArg some (by kernel_rfl))
  f294 := Try.func141.trans (congrArg some (by kernel_rfl))
  f295 := Try.func142.trans (congrArg some (by kernel_rfl))
  f296 := Try.func143.trans (congrArg some (by kernel_rfl))
  f297 := Try.func144.trans (congrArg some (by kernel_rfl))
  f298 := Try.func145.trans (congrArg some (by kernel_rfl))
  f299 := Try.func146.trans (congrArg some (by kernel_rfl))
  f300 := Try.func148.trans (congrArg some (by kernel_rfl))
  f301 := Try.func149.trans (congrArg some (by kernel_rfl))
  f328 := Try.func161.trans (congrArg some (by kernel_rfl))
  f329 := Try.func157.trans (congrArg some (by kernel_rfl))
  f330 := Try.func158.trans (congrArg some (by kernel_rfl))
  f331 := Try.func162.trans (congrArg some (by kernel_rfl))
  f332 := Try.func163.trans (congrArg some (by kernel_rfl))
  f343 := Try.func167.trans (congrArg some (by kernel_rfl))
  t0 := Try.underlying0
  a0 := Try.isAgg0
  z0 := Try.sizeOf0
  v0 := Try.zeroValue0
  t3 := Try.underlying3
  a3 := Try.isAgg3
  z3 := Try.sizeOf3
  v3 := Try.zeroValue3
  t4 := Try.underlying4
  a4 := Try.isAgg4
  z4 := Try.sizeOf4
  v4 := Try.zeroValue4
  t5 := Try.underlying5
  a5 := Try.isAgg5
  z5 := Try.sizeOf5
  v5 := Try.zeroValue5
  t9 := Try.underlying9
  a9 := Try.isAgg9
  z9 := Try.sizeOf9
  v9 := Try.zeroValue9
  t28 := Try.underlying51
  a28 := Try.isAgg51
  z28 := Try.sizeOf51
  v28 := Try.zeroValue51
  t46 := Try.underlying149
  a46 := Try.isAgg149
  z46 := Try.sizeOf149
  v46 := Try.zeroValue149
  t51 := Try.underlying180
  a51 := Try.isAgg180
  z51 := Try.sizeOf180
  v51 := Try.zeroValue180
  t53 := Try.underlying182
  a53 := Try.isAgg182
  z53 := Try.sizeOf182
  v53 := Try.zeroValue182
  t131 := Try.underlying91
  a131 := Try.isAgg91
  z131 := Try.sizeOf91
  v131 := Try.zeroValue91
  t182 := Try.underlying173
  a182 := Try.isAgg173
  z182 := Try.sizeOf173
  v182 := Try.zeroValue173
  t183 := Try.underlying174
  a183 := Try.isAgg174
  z183 := Try.sizeOf174
  v183 := Try.zeroValue174
  t218 := Try.underlying193
  a218 := Try.isAgg193
  z218 := Try.sizeOf193
  v218 := Try.zeroValue193
  t222 := Try.underlying197
  a222 := Try.isAgg197
  z222 := Try.sizeOf197
  v222 := Try.zeroValue197
  t228 := Try.underlying205
  a228 := Try.isAgg205
  z228 := Try.sizeOf205
  v228 := Try.zeroValue205
  t229 := Try.underlying206
  a229 := Try.isAgg206
  z229 := Try.sizeOf206
  v229 := Try.zeroValue206 }
def Try.compactI_ren : Go.Shelf.Ren := ⟨fun | 20 => 75 | n => n, fun | 22 => 51 | 3 => 3 | 4 => 4 | 0 => 0 | n => n, fun | n => n⟩
set_option maxRecDepth 100000 in
theorem Try.compactI : Go.Proofs.Lays2.n20 Try.prog Try.compactI_ren := {
  mixed := by kernel_rfl
  f20 := Try.func75.trans (congrArg some (by kernel_rfl))
  t0 := Try.underlying0
  a0 := Try.isAgg0
  z0 := Try.sizeOf0
  v0 := Try.zeroValue0
  t3 := Try.underlying3
  a3 := Try.isAgg3
  z3 := Try.sizeOf3
  v3 := Try.zeroValue3
  t4 := Try.underlying4
  a4 := Try.isAgg4
  z4 := Try.sizeOf4
  v4 := Try.zeroValue4
  t22 := Try.underlying51
  a22 := Try.isAgg51
  z22 := Try.sizeOf51
  v22 := Try.zeroValue51
  i3 := by kernel_rfl }
end Go.Proofs.Ytdkdhhfejbecdaa
