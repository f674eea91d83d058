/- Texts merged into one, for the number of files a claim may have: LaySortI. -/
import Derived.Shelf.Slices.CompactI
import Derived.Shelf.Slices.In.SortNone
import Derived.Shelf.Sort.Plain
import Derived.Test.YthfibggbipkmfaaGreatRows
namespace Go.Proofs.YthfibggbipkmfaaGreat
open Go.Shelf Go.RowKit Go.Lib Go.Sort

def Tryz.sortI_ren : Go.Shelf.Ren := ⟨fun | 189 => 68 | 125 => 95 | 257 => 100 | 128 => 124 | 129 => 125 | 294 => 127 | 295 => 128 | 296 => 129 | 297 => 130 | 298 => 131 | 299 => 132 | 216 => 133 | 300 => 134 | 301 => 135 | 328 => 155 | 329 => 146 | 330 => 147 | 331 => 156 | 332 => 157 | 215 => 158 | 343 => 172 | n => n, fun | 28 => 45 | 3 => 3 | 46 => 164 | 0 => 0 | 51 => 193 | 53 => 195 | 4 => 4 | 183 => 186 | 182 => 185 | 131 => 190 | 5 => 5 | 9 => 9 | 218 => 217 | 222 => 221 | 228 => 234 | 229 => 235 | n => n, fun | n => n⟩
set_option maxRecDepth 100000 in
theorem Tryz.sortI : Go.Proofs.Lays.n189 Tryz.prog Tryz.sortI_ren := {
  mixed := by kernel_rfl
  f125 := Tryz.func95.trans (congrArg some (by kernel_rfl))
  f128 := Tryz.func124.trans (congrArg some (by kernel_rfl))
  f129 := Tryz.func125.trans (congrArg some (by kernel_rfl))
  f189 := Tryz.func68.trans (congrArg some (by kernel_rfl))
  f215 := Tryz.func158.trans (congrArg some (by kernel_rfl))
  f216 := Tryz.func133.trans (congrArg some (by kernel_rfl))
  f257 := Tryz.func100.trans (congrArg some (by kernel_rfl))
  f294 := Tryz.func127.trans (congrArg some (by kernel_rfl))
  f295 := Tryz.func128.trans (congrArg some (by kernel_rfl))
  f296 := Tryz.func129.trans (congrArg some (by kernel_rfl))
  f297 := Tryz.func130.trans (congrArg some (by kernel_rfl))
  f298 := Tryz.func131.trans (congrArg some (by kernel_rfl))
  f299 := Tryz.func132.trans (congrArg some (by kernel_rfl))
  f300 := Tryz.func134.trans (congrArg some (by kernel_rfl))
  f301 := Tryz.func135.trans (congrArg some (by kernel_rfl))
  f328 := Tryz.func155.trans (congrArg some (by kernel_rfl))
  f329 := Tryz.func146.trans (congrArg some (by kernel_rfl))
  f330 := Tryz.func147.trans (congrArg some (by kernel_rfl))
  f331 := Tryz.func156.trans (congrArg some (by kernel_rfl))
  f332 := Tryz.func157.trans (congrArg some (by kernel_rfl))
  f343 := Tryz.func172.trans (congrArg some (by kernel_rfl))
  t0 := Tryz.underlying0
  a0 := Tryz.isAgg0
  z0 := Tryz.sizeOf0
  v0 := Tryz.zeroValue0
  t3 := Tryz.underlying3
  a3 := Tryz.isAgg3
  z3 := Tryz.sizeOf3
  v3 := Tryz.zeroValue3
  t4 := Tryz.underlying4
  a4 := Tryz.isAgg4
  z4 := Tryz.sizeOf4
  v4 := Tryz.zeroValue4
  t5 := Tryz.underlying5
  a5 := Tryz.isAgg5
  z5 := Tryz.sizeOf5
  v5 := Tryz.zeroValue5
  t9 := Tryz.underlying9
  a9 := Tryz.isAgg9
  z9 := Tryz.sizeOf9
  v9 := Tryz.zeroValue9
  t28 := Tryz.underlying45
  a28 := Tryz.isAgg45
  z28 := Tryz.sizeOf45
  v28 := Tryz.zeroValue45
  t46 := Tryz.underlying164
  a46 := Tryz.isAgg164
  z46 := Tryz.sizeOf164
  v46 := Tryz.zeroValue164
  t51 := Tryz.underlying193
  a51 := Tryz.isAgg193
  z51 := Tryz.sizeOf193
  v51 := Tryz.zeroValue193
  t53 := Tryz.underlying195
  a53 := Tryz.isAgg195
  z53 := Tryz.sizeOf195
  v53 := Tryz.zeroValue195
  t131 := Tryz.underlying190
  a131 := Tryz.isAgg190
  z131 := Tryz.sizeOf190
  v131 := Tryz.zeroValue190
  t182 := Tryz.underlying185
  a182 := Tryz.isAgg185
  z182 := Tryz.sizeOf185
  v182 := Tryz.zeroValue185
  t183 := Tryz.underlying186
  a183 := Tryz.isAgg186
  z183 := Tryz.sizeOf186
  v183 := Tryz.zeroValue186
  t218 := Tryz.underlying217
  a218 := Tryz.isAgg217
  z218 := Tryz.sizeOf217
  v218 := Tryz.zeroValue217
  t222 := Tryz.underlying221
  a222 := Tryz.isAgg221
  z222 := Tryz.sizeOf221
  v222 := Tryz.zeroValue221
  t228 := Tryz.underlying234
  a228 := Tryz.isAgg234
  z228 := Tryz.sizeOf234
  v228 := Tryz.zeroValue234
  t229 := Tryz.underlying235
  a229 := Tryz.isAgg235
  z229 := Tryz.sizeOf235
  v229 := Tryz.zeroValue235 }
def Tryz.compactI_ren : Go.Shelf.Ren := ⟨fun | 20 => 69 | n => n, fun | 22 => 45 | 3 => 3 | 4 => 4 | 0 => 0 | n => n, fun | n => n⟩
set_option maxRecDepth 100000 in
theorem Tryz.compactI : Go.Proofs.Lays2.n20 Tryz.prog Tryz.compactI_ren := {
  mixed := by kernel_rfl
  f20 := Tryz.func69.trans (congrArg some (by kernel_rfl))
  t0 := Tryz.underlying0
  a0 := Tryz.isAgg0
  z0 := Tryz.sizeOf0
  v0 := Tryz.zeroValue0
  t3 := Tryz.underlying3
  a3 := Tryz.isAgg3
  z3 := Tryz.sizeOf3
  v3 := Tryz.zeroValue3
  t4 := Tryz.underlying4
  a4 := Tryz.isAgg4
  z4 := Tryz.sizeOf4
  v4 := Tryz.zeroValue4
  t22 := Tryz.underlying45
  a22 := Tryz.isAgg45
  z22 := Tryz.sizeOf45
  v22 := Tryz.zeroValue45
  i3 := by kernel_rfl }
end Go.Proofs.YthfibggbipkmfaaGreat
