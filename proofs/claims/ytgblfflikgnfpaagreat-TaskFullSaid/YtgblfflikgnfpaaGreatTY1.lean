/- Texts merged into one, for the number of files a claim may have: LaySortI. -/
import Derived.Shelf.Slices.CompactI
import Derived.Shelf.Slices.In.SortNone
import Derived.Shelf.Sort.Plain
import Derived.Test.YtgblfflikgnfpaaGreatRows
namespace Go.Proofs.YtgblfflikgnfpaaGreat
open Go.Shelf Go.RowKit Go.Lib Go.Sort
set_option maxRecDepth 100000
set_option maxHeartbeats 16000000
set_option linter.unusedVariables false
def Tryz.sortI_ren:Go.Shelf.Ren:=⟨fun | 189=>95 | 125=>132 | 257=>131 | 128=>157 | 129=>158 | 294=>148 | 295=>149 | 296=>150 | 297=>151 | 298=>152 | 299=>153 | 216=>154 | 300=>155 | 301=>156 | 328=>168 | 329=>169 | 330=>170 | 331=>171 | 332=>172 | 215=>173 | 343=>190 | n=>n,fun | 28=>23 | 3=>3 | 46=>236 | 0=>0 | 51=>235 | 53=>274 | 4=>4 | 183=>267 | 182=>266 | 131=>227 | 5=>5 | 9=>9 | 218=>287 | 222=>291 | 228=>308 | 229=>105 | n=>n,fun | n=>n⟩
theorem Tryz.sortI : Go.Proofs.Lays.n189 Tryz.prog Tryz.sortI_ren := {
 mixed:=by kernel_rfl
 f125:=Tryz.func132.trans (congrArg some (by kernel_rfl))
 f128:=Tryz.func157.trans (congrArg some (by kernel_rfl))
 f129:=Tryz.func158.trans (congrArg some (by kernel_rfl))
 f189:=Tryz.func95.trans (congrArg some (by kernel_rfl))
 f215:=Tryz.func173.trans (congrArg some (by kernel_rfl))
 f216:=Tryz.func154.trans (congrArg some (by kernel_rfl))
 f257:=Tryz.func131.trans (congrArg some (by kernel_rfl))
 f294:=Tryz.func148.trans (congrArg some (by kernel_rfl))
 f295:=Tryz.func149.trans (congrArg some (by kernel_rfl))
 f296:=Tryz.func150.trans (congrArg some (by kernel_rfl))
 f297:=Tryz.func151.trans (congrArg some (by kernel_rfl))
 f298:=Tryz.func152.trans (congrArg some (by kernel_rfl))
 f299:=Tryz.func153.trans (congrArg some (by kernel_rfl))
 f300:=Tryz.func155.trans (congrArg some (by kernel_rfl))
 f301:=Tryz.func156.trans (congrArg some (by kernel_rfl))
 f328:=Tryz.func168.trans (congrArg some (by kernel_rfl))
 f329:=Tryz.func169.trans (congrArg some (by kernel_rfl))
 f330:=Tryz.func170.trans (congrArg some (by kernel_rfl))
 f331:=Tryz.func171.trans (congrArg some (by kernel_rfl))
 f332:=Tryz.func172.trans (congrArg some (by kernel_rfl))
 f343:=Tryz.func190.trans (congrArg some (by kernel_rfl))
 t0:=Tryz.underlying0
 a0:=Tryz.isAgg0
 z0:=Tryz.sizeOf0
 v0:=Tryz.zeroValue0
 t3:=Tryz.underlying3
 a3:=Tryz.isAgg3
 z3:=Tryz.sizeOf3
 v3:=Tryz.zeroValue3
 t4:=Tryz.underlying4
 a4:=Tryz.isAgg4
 z4:=Tryz.sizeOf4
 v4:=Tryz.zeroValue4
 t5:=Tryz.underlying5
 a5:=Tryz.isAgg5
 z5:=Tryz.sizeOf5
 v5:=Tryz.zeroValue5
 t9:=Tryz.underlying9
 a9:=Tryz.isAgg9
 z9:=Tryz.sizeOf9
 v9:=Tryz.zeroValue9
 t28:=Tryz.underlying23
 a28:=Tryz.isAgg23
 z28:=Tryz.sizeOf23
 v28:=Tryz.zeroValue23
 t46:=Tryz.underlying236
 a46:=Tryz.isAgg236
 z46:=Tryz.sizeOf236
 v46:=Tryz.zeroValue236
 t51:=Tryz.underlying235
 a51:=Tryz.isAgg235
 z51:=Tryz.sizeOf235
 v51:=Tryz.zeroValue235
 t53:=Tryz.underlying274
 a53:=Tryz.isAgg274
 z53:=Tryz.sizeOf274
 v53:=Tryz.zeroValue274
 t131:=Tryz.underlying227
 a131:=Tryz.isAgg227
 z131:=Tryz.sizeOf227
 v131:=Tryz.zeroValue227
 t182:=Tryz.underlying266
 a182:=Tryz.isAgg266
 z182:=Tryz.sizeOf266
 v182:=Tryz.zeroValue266
 t183:=Tryz.underlying267
 a183:=Tryz.isAgg267
 z183:=Tryz.sizeOf267
 v183:=Tryz.zeroValue267
 t218:=Tryz.underlying287
 a218:=Tryz.isAgg287
 z218:=Tryz.sizeOf287
 v218:=Tryz.zeroValue287
 t222:=Tryz.underlying291
 a222:=Tryz.isAgg291
 z222:=Tryz.sizeOf291
 v222:=Tryz.zeroValue291
 t228:=Tryz.underlying308
 a228:=Tryz.isAgg308
 z228:=Tryz.sizeOf308
 v228:=Tryz.zeroValue308
 t229:=Tryz.underlying105
 a229:=Tryz.isAgg105
 z229:=Tryz.sizeOf105
 v229:=Tryz.zeroValue105 }
def Tryz.compactI_ren:Go.Shelf.Ren:=⟨fun | 20=>125 | n=>n,fun | 22=>23 | 3=>3 | 4=>4 | 0=>0 | n=>n,fun | n=>n⟩
theorem Tryz.compactI : Go.Proofs.Lays2.n20 Tryz.prog Tryz.compactI_ren := {
 mixed:=by kernel_rfl
 f20:=Tryz.func125.trans (congrArg some (by kernel_rfl))
 t0:=Tryz.underlying0
 a0:=Tryz.isAgg0
 z0:=Tryz.sizeOf0
 v0:=Tryz.zeroValue0
 t3:=Tryz.underlying3
 a3:=Tryz.isAgg3
 z3:=Tryz.sizeOf3
 v3:=Tryz.zeroValue3
 t4:=Tryz.underlying4
 a4:=Tryz.isAgg4
 z4:=Tryz.sizeOf4
 v4:=Tryz.zeroValue4
 t22:=Tryz.underlying23
 a22:=Tryz.isAgg23
 z22:=Tryz.sizeOf23
 v22:=Tryz.zeroValue23
 i3:=by kernel_rfl }
end Go.Proofs.YtgblfflikgnfpaaGreat
