/- Texts merged into one, for the number of files a claim may have: LayEnt. -/
import Derived.Shelf.SlSortCmp.WholeK
import Derived.Test.YtlejomlppjpchaaGreatRows
namespace Go.Proofs.YtlejomlppjpchaaGreat
open Go.Shelf Go.RowKit Go.Lib Go.Sort
set_option maxRecDepth 100000
set_option maxHeartbeats 16000000
set_option linter.unusedVariables false
def Tryz.sortEnt_ren:Go.Shelf.Ren:=⟨fun | 6=>102 | 15=>150 | 14=>149 | 28=>194 | 29=>195 | 20=>186 | 21=>187 | 22=>188 | 23=>189 | 24=>190 | 25=>191 | 26=>192 | 27=>193 | 46=>218 | 47=>219 | 48=>220 | 49=>221 | 50=>222 | 57=>231 | n=>n,fun | 22=>38 | 24=>111 | 25=>228 | 3=>3 | 39=>289 | 0=>0 | 53=>291 | 55=>329 | 4=>4 | 46=>322 | 45=>321 | 50=>275 | 5=>5 | 9=>9 | 66=>348 | 70=>352 | 76=>361 | 77=>118 | n=>n,fun | n=>n⟩
theorem Tryz.sortEnt : Go.Proofs.SlLaysF0.n6 Tryz.prog Tryz.sortEnt_ren := {
 mixed:=by kernel_rfl
 f6:=⟨Tryz.f102.name,by decide,Tryz.func102.trans (congrArg some (by kernel_rfl))⟩
 f14:=⟨Tryz.f149.name,by decide,Tryz.func149.trans (congrArg some (by kernel_rfl))⟩
 f15:=Tryz.func150.trans (congrArg some (by kernel_rfl))
 f20:=⟨Tryz.f186.name,by decide,Tryz.func186.trans (congrArg some (by kernel_rfl))⟩
 f21:=⟨Tryz.f187.name,by decide,Tryz.func187.trans (congrArg some (by kernel_rfl))⟩
 f22:=⟨Tryz.f188.name,by decide,Tryz.func188.trans (congrArg some (by kernel_rfl))⟩
 f23:=⟨Tryz.f189.name,by decide,Tryz.func189.trans (congrArg some (by kernel_rfl))⟩
 f24:=⟨Tryz.f190.name,by decide,Tryz.func190.trans (congrArg some (by kernel_rfl))⟩
 f25:=⟨Tryz.f191.name,by decide,Tryz.func191.trans (congrArg some (by kernel_rfl))⟩
 f26:=⟨Tryz.f192.name,by decide,Tryz.func192.trans (congrArg some (by kernel_rfl))⟩
 f27:=⟨Tryz.f193.name,by decide,Tryz.func193.trans (congrArg some (by kernel_rfl))⟩
 f28:=Tryz.func194.trans (congrArg some (by kernel_rfl))
 f29:=Tryz.func195.trans (congrArg some (by kernel_rfl))
 f46:=⟨Tryz.f218.name,by decide,Tryz.func218.trans (congrArg some (by kernel_rfl))⟩
 f47:=Tryz.func219.trans (congrArg some (by kernel_rfl))
 f48:=Tryz.func220.trans (congrArg some (by kernel_rfl))
 f49:=⟨Tryz.f221.name,by decide,Tryz.func221.trans (congrArg some (by kernel_rfl))⟩
 f50:=⟨Tryz.f222.name,by decide,Tryz.func222.trans (congrArg some (by kernel_rfl))⟩
 f57:=⟨Tryz.f231.name,by decide,Tryz.func231.trans (congrArg some (by kernel_rfl))⟩
 t0:=Tryz.underlying0
 a0:=Tryz.isAgg0
 z0:=Tryz.sizeOf0
 v0:=Tryz.zeroValue0
 t3:=Tryz.underlying3
 a3:=Tryz.isAgg3
 z3:=Tryz.sizeOf3
 v3:=Tryz.zeroValue3
 t4:=Tryz.underlying4
 a4:=Tryz.isAgg4
 z4:=Tryz.sizeOf4
 v4:=Tryz.zeroValue4
 t5:=Tryz.underlying5
 a5:=Tryz.isAgg5
 z5:=Tryz.sizeOf5
 v5:=Tryz.zeroValue5
 t9:=Tryz.underlying9
 a9:=Tryz.isAgg9
 z9:=Tryz.sizeOf9
 v9:=Tryz.zeroValue9
 t22:=Tryz.underlying38
 a22:=Tryz.isAgg38
 z22:=Tryz.sizeOf38
 v22:=Tryz.zeroValue38
 t25:=Tryz.underlying228
 a25:=Tryz.isAgg228
 z25:=Tryz.sizeOf228
 v25:=Tryz.zeroValue228
 t39:=Tryz.underlying289
 a39:=Tryz.isAgg289
 z39:=Tryz.sizeOf289
 v39:=Tryz.zeroValue289
 t45:=Tryz.underlying321
 a45:=Tryz.isAgg321
 z45:=Tryz.sizeOf321
 v45:=Tryz.zeroValue321
 t46:=Tryz.underlying322
 a46:=Tryz.isAgg322
 z46:=Tryz.sizeOf322
 v46:=Tryz.zeroValue322
 t50:=Tryz.underlying275
 a50:=Tryz.isAgg275
 z50:=Tryz.sizeOf275
 v50:=Tryz.zeroValue275
 t53:=Tryz.underlying291
 a53:=Tryz.isAgg291
 z53:=Tryz.sizeOf291
 v53:=Tryz.zeroValue291
 t55:=Tryz.underlying329
 a55:=Tryz.isAgg329
 z55:=Tryz.sizeOf329
 v55:=Tryz.zeroValue329
 t66:=Tryz.underlying348
 a66:=Tryz.isAgg348
 z66:=Tryz.sizeOf348
 v66:=Tryz.zeroValue348
 t70:=Tryz.underlying352
 a70:=Tryz.isAgg352
 z70:=Tryz.sizeOf352
 v70:=Tryz.zeroValue352
 t76:=Tryz.underlying361
 a76:=Tryz.isAgg361
 z76:=Tryz.sizeOf361
 v76:=Tryz.zeroValue361
 t77:=Tryz.underlying118
 a77:=Tryz.isAgg118
 z77:=Tryz.sizeOf118
 v77:=Tryz.zeroValue118 }
end Go.Proofs.YtlejomlppjpchaaGreat
