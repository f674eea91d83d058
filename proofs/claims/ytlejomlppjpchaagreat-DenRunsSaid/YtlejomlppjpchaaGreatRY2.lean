/- Texts merged into one, for the number of files a claim may have: LaySortI. -/
import Derived.Shelf.Slices.CompactI
import Derived.Shelf.Slices.In.SortNone
import Derived.Shelf.Sort.Plain
import Derived.Test.YtlejomlppjpchaaGreatRows
namespace Go.Proofs.YtlejomlppjpchaaGreat
open Go.Shelf Go.RowKit Go.Lib Go.Sort
set_option maxRecDepth 100000
set_option maxHeartbeats 16000000
set_option linter.unusedVariables false
def Tryz.sortI_ren:Go.Shelf.Ren:=⟨fun | 189=>124 | 125=>150 | 257=>168 | 128=>194 | 129=>195 | 294=>200 | 295=>201 | 296=>202 | 297=>203 | 298=>204 | 299=>205 | 216=>206 | 300=>207 | 301=>208 | 328=>225 | 329=>219 | 330=>220 | 331=>226 | 332=>227 | 215=>228 | 343=>237 | n=>n,fun | 28=>43 | 3=>3 | 46=>289 | 0=>0 | 51=>291 | 53=>329 | 4=>4 | 183=>322 | 182=>321 | 131=>275 | 5=>5 | 9=>9 | 218=>348 | 222=>352 | 228=>361 | 229=>118 | n=>n,fun | n=>n⟩
theorem Tryz.sortI : Go.Proofs.Lays.n189 Tryz.prog Tryz.sortI_ren := {
 mixed:=by kernel_rfl
 f125:=Tryz.func150.trans (congrArg some (by kernel_rfl))
 f128:=Tryz.func194.trans (congrArg some (by kernel_rfl))
 f129:=Tryz.func195.trans (congrArg some (by kernel_rfl))
 f189:=Tryz.func124.trans (congrArg some (by kernel_rfl))
 f215:=Tryz.func228.trans (congrArg some (by kernel_rfl))
 f216:=Tryz.func206.trans (congrArg some (by kernel_rfl))
 f257:=Tryz.func168.trans (congrArg some (by kernel_rfl))
 f294:=Tryz.func200.trans (congrArg some (by kernel_rfl))
 f295:=Tryz.func201.trans (congrArg some (by kernel_rfl))
 f296:=Tryz.func202.trans (congrArg some (by kernel_rfl))
 f297:=Tryz.func203.trans (congrArg some (by kernel_rfl))
 f298:=Tryz.func204.trans (congrArg some (by kernel_rfl))
 f299:=Tryz.func205.trans (congrArg some (by kernel_rfl))
 f300:=Tryz.func207.trans (congrArg some (by kernel_rfl))
 f301:=Tryz.func208.trans (congrArg some (by kernel_rfl))
 f328:=Tryz.func225.trans (congrArg some (by kernel_rfl))
 f329:=Tryz.func219.trans (congrArg some (by kernel_rfl))
 f330:=Tryz.func220.trans (congrArg some (by kernel_rfl))
 f331:=Tryz.func226.trans (congrArg some (by kernel_rfl))
 f332:=Tryz.func227.trans (congrArg some (by kernel_rfl))
 f343:=Tryz.func237.trans (congrArg some (by kernel_rfl))
 t0:=Tryz.underlying0
 a0:=Tryz.isAgg0
 z0:=Tryz.sizeOf0
 v0:=Tryz.zeroValue0
 t3:=Tryz.underlying3
 a3:=Tryz.isAgg3
 z3:=Tryz.sizeOf3
 v3:=Tryz.zeroValue3
 t4:=Tryz.underlying4
 a4:=Tryz.isAgg4
 z4:=Tryz.sizeOf4
 v4:=Tryz.zeroValue4
 t5:=Tryz.underlying5
 a5:=Tryz.isAgg5
 z5:=Tryz.sizeOf5
 v5:=Tryz.zeroValue5
 t9:=Tryz.underlying9
 a9:=Tryz.isAgg9
 z9:=Tryz.sizeOf9
 v9:=Tryz.zeroValue9
 t28:=Tryz.underlying43
 a28:=Tryz.isAgg43
 z28:=Tryz.sizeOf43
 v28:=Tryz.zeroValue43
 t46:=Tryz.underlying289
 a46:=Tryz.isAgg289
 z46:=Tryz.sizeOf289
 v46:=Tryz.zeroValue289
 t51:=Tryz.underlying291
 a51:=Tryz.isAgg291
 z51:=Tryz.sizeOf291
 v51:=Tryz.zeroValue291
 t53:=Tryz.underlying329
 a53:=Tryz.isAgg329
 z53:=Tryz.sizeOf329
 v53:=Tryz.zeroValue329
 t131:=Tryz.underlying275
 a131:=Tryz.isAgg275
 z131:=Tryz.sizeOf275
 v131:=Tryz.zeroValue275
 t182:=Tryz.underlying321
 a182:=Tryz.isAgg321
 z182:=Tryz.sizeOf321
 v182:=Tryz.zeroValue321
 t183:=Tryz.underlying322
 a183:=Tryz.isAgg322
 z183:=Tryz.sizeOf322
 v183:=Tryz.zeroValue322
 t218:=Tryz.underlying348
 a218:=Tryz.isAgg348
 z218:=Tryz.sizeOf348
 v218:=Tryz.zeroValue348
 t222:=Tryz.underlying352
 a222:=Tryz.isAgg352
 z222:=Tryz.sizeOf352
 v222:=Tryz.zeroValue352
 t228:=Tryz.underlying361
 a228:=Tryz.isAgg361
 z228:=Tryz.sizeOf361
 v228:=Tryz.zeroValue361
 t229:=Tryz.underlying118
 a229:=Tryz.isAgg118
 z229:=Tryz.sizeOf118
 v229:=Tryz.zeroValue118 }
def Tryz.compactI_ren:Go.Shelf.Ren:=⟨fun | 20=>164 | n=>n,fun | 22=>43 | 3=>3 | 4=>4 | 0=>0 | n=>n,fun | n=>n⟩
theorem Tryz.compactI : Go.Proofs.Lays2.n20 Tryz.prog Tryz.compactI_ren := {
 mixed:=by kernel_rfl
 f20:=Tryz.func164.trans (congrArg some (by kernel_rfl))
 t0:=Tryz.underlying0
 a0:=Tryz.isAgg0
 z0:=Tryz.sizeOf0
 v0:=Tryz.zeroValue0
 t3:=Tryz.underlying3
 a3:=Tryz.isAgg3
 z3:=Tryz.sizeOf3
 v3:=Tryz.zeroValue3
 t4:=Tryz.underlying4
 a4:=Tryz.isAgg4
 z4:=Tryz.sizeOf4
 v4:=Tryz.zeroValue4
 t22:=Tryz.underlying43
 a22:=Tryz.isAgg43
 z22:=Tryz.sizeOf43
 v22:=Tryz.zeroValue43
 i3:=by kernel_rfl }
end Go.Proofs.YtlejomlppjpchaaGreat
