/- slices.SortFunc at totals: the contract of the kit laid at this program. -/
import Derived.Test.YtdkdhhfejbecdaaRows
import Derived.Shelf.SlSortCmp.WholeK
namespace Go.Proofs.Ytdkdhhfejbecdaa
open Go.Shelf Go.RowKit Go.Lib Go.Sort

def Try.sortTot_ren : Go.Shelf.Ren := ⟨fun | 6 => 61 | 15 => 101 | 14 => 100 | 28 => 137 | 29 => 138 | 20 => 129 | 21 => 130 | 22 => 131 | 23 => 132 | 24 => 133 | 25 => 134 | 26 => 135 | 27 => 136 | 46 => 156 | 47 => 157 | 48 => 158 | 49 => 159 | 50 => 160 | 57 => 166 | n => n, fun | 22 => 37 | 24 => 40 | 25 => 106 | 3 => 3 | 39 => 149 | 0 => 0 | 53 => 180 | 55 => 182 | 4 => 4 | 46 => 174 | 45 => 173 | 50 => 91 | 5 => 5 | 9 => 9 | 66 => 193 | 70 => 197 | 76 => 205 | 77 => 206 | n => n, fun | n => n⟩
set_option maxRecDepth 100000 in
theorem Try.sortTot : Go.Proofs.SlLaysF0.n6 Try.prog Try.sortTot_ren := {
  mixed := by kernel_rfl
  f6 := ⟨Try.f61.name, by decide, Try.func61.trans (congrArg some (by kernel_rfl))⟩
  f14 := ⟨Try.f100.name, by decide, Try.func100.trans (congrArg some (by kernel_rfl))⟩
  f15 := Try.func101.trans (congrArg some (by kernel_rfl))
  f20 := ⟨Try.f129.name, by decide, Try.func129.trans (congrArg some (by kernel_rfl))⟩
  f21 := ⟨Try.f130.name, by decide, Try.func130.trans (congrArg some (by kernel_rfl))⟩
  f22 := ⟨Try.f131.name, by decide, Try.func131.trans (congrArg some (by kernel_rfl))⟩
  f23 := ⟨Try.f132.name, by decide, Try.func132.trans (congrArg some (by kernel_rfl))⟩
  f24 := ⟨Try.f133.name, by decide, Try.func133.trans (congrArg some (by kernel_rfl))⟩
  f25 := ⟨Try.f134.name, by decide, Try.func134.trans (congrArg some (by kernel_rfl))⟩
  f26 := ⟨Try.f135.name, by decide, Try.func135.trans (congrArg some (by kernel_rfl))⟩
  f27 := ⟨Try.f136.name, by decide, Try.func136.trans (congrArg some (by kernel_rfl))⟩
  f28 := Try.func137.trans (congrArg some (by kernel_rfl))
  f29 := Try.func138.trans (congrArg some (by kernel_rfl))
  f46 := ⟨Try.f156.name, by decide, Try.func156.trans (congrArg some (by kernel_rfl))⟩
  f47 := Try.func157.trans (congrArg some (by kernel_rfl))
  f48 := Try.func158.trans (congrArg some (by kernel_rfl))
  f49 := ⟨Try.f159.name, by decide, Try.func159.trans (congrArg some (by kernel_rfl))⟩
  f50 := ⟨Try.f160.name, by decide, Try.func160.trans (congrArg some (by kernel_rfl))⟩
  f57 := ⟨Try.f166.name, by decide, Try.func166.trans (congrArg some (by kernel_rfl))⟩
  t0 := Try.underlying0
  a0 := Try.isAgg0
  z0 := Try.sizeOf0
  v0 := Try.zeroValue0
  t3 := Try.underlying3
  a3 := Try.isAgg3
  z3 := Try.sizeOf3
  v3 := Try.zeroValue3
  t4 := Try.underlying4
  a4 := Try.isAgg4
  z4 := Try.sizeOf4
  v4 := Try.zeroValue4
  t5 := Try.underlying5
  a5 := Try.isAgg5
  z5 := Try.sizeOf5
  v5 := Try.zeroValue5
  t9 := Try.underlying9
  a9 := Try.isAgg9
  z9 := Try.sizeOf9
  v9 := Try.zeroValue9
  t22 := Try.underlying37
  a22 := Try.isAgg37
  z22 := Try.sizeOf37
  v22 := Try.zeroValue37
  t25 := Try.underlying106
  a25 := Try.isAgg106
  z25 := Try.sizeOf106
  v25 := Try.zeroValue106
  t39 := Try.underlying149
  a39 := Try.isAgg149
  z39 := Try.sizeOf149
  v39 := Try.zeroValue149
  t45 := Try.underlying173
  a45 := Try.isAgg173
  z45 := Try.sizeOf173
  v45 := Try.zeroValue173
  t46 := Try.underlying174
  a46 := Try.isAgg174
  z46 := Try.sizeOf174
  v46 := Try.zeroValue174
  t50 := Try.underlying91
  a50 := Try.isAgg91
  z50 := Try.sizeOf91
  v50 := Try.zeroValue91
  t53 := Try.underlying180
  a53 := Try.isAgg180
  z53 := Try.sizeOf180
  v53 := Try.zeroValue180
  t55 := Try.underlying182
  a55 := Try.isAgg182
  z55 := Try.sizeOf182
  v55 := Try.zeroValue182
  t66 := Try.underlying193
  a66 := Try.isAgg193
  z66 := Try.sizeOf193
  v66 := Try.zeroValue193
  t70 := Try.underlying197
  a70 := Try.isAgg197
  z70 := Try.sizeOf197
  v70 := Try.zeroValue197
  t76 := Try.underlying205
  a76 := Try.isAgg205
  z76 := Try.sizeOf205
  v76 := Try.zeroValue205
  t77 := Try.underlying206
  a77 := Try.isAgg206
  z77 := Try.sizeOf206
  v77 := Try.zeroValue206 }
end Go.Proofs.Ytdkdhhfejbecdaa
