import Derived.Test.YtcfmiocdlcapoaaGreatMCS0
import Derived.Shelf.Sort.Plain
namespace Go.Proofs.YtcfmiocdlcapoaaGreat
set_option linter.all false
set_option maxRecDepth 100000
open Go.RowKit Go.Proofs.Tryz
section
open Go.Shelf
def Ex : Go.Shelf.Ren:=⟨fun | 189=>70 | 125=>135 | 257=>134 | 128=>204 | 129=>205 | 294=>195 | 295=>196 | 296=>197 | 297=>198 | 298=>199 | 299=>200 | 216=>201 | 300=>202 | 301=>203 | 328=>242 | 329=>243 | 330=>244 | 331=>245 | 332=>246 | 215=>247 | 343=>267 | n=>n,fun | 28=>22 | 3=>3 | 46=>156 | 0=>0 | 51=>210 | 53=>212 | 4=>4 | 183=>203 | 182=>202 | 131=>207 | 5=>5 | 9=>9 | 218=>241 | 222=>245 | 228=>255 | 229=>256 | n=>n,λn=>n⟩
theorem Ic : Go.Proofs.Lays.n189 prog Ex:={
 mixed:=by kernel_rfl
 f125:=func135.trans (congrArg some (by kernel_rfl))
 f128:=func204.trans (congrArg some (by kernel_rfl))
 f129:=func205.trans (congrArg some (by kernel_rfl))
 f189:=func70.trans (congrArg some (by kernel_rfl))
 f215:=func247.trans (congrArg some (by kernel_rfl))
 f216:=func201.trans (congrArg some (by kernel_rfl))
 f257:=func134.trans (congrArg some (by kernel_rfl))
 f294:=func195.trans (congrArg some (by kernel_rfl))
 f295:=func196.trans (congrArg some (by kernel_rfl))
 f296:=func197.trans (congrArg some (by kernel_rfl))
 f297:=func198.trans (congrArg some (by kernel_rfl))
 f298:=func199.trans (congrArg some (by kernel_rfl))
 f299:=func200.trans (congrArg some (by kernel_rfl))
 f300:=func202.trans (congrArg some (by kernel_rfl))
 f301:=func203.trans (congrArg some (by kernel_rfl))
 f328:=func242.trans (congrArg some (by kernel_rfl))
 f329:=func243.trans (congrArg some (by kernel_rfl))
 f330:=func244.trans (congrArg some (by kernel_rfl))
 f331:=func245.trans (congrArg some (by kernel_rfl))
 f332:=func246.trans (congrArg some (by kernel_rfl))
 f343:=func267.trans (congrArg some (by kernel_rfl))
 t0:=underlying0
 a0:=isAgg0
 z0:=sizeOf0
 v0:=zeroValue0
 t3:=underlying3
 a3:=isAgg3
 z3:=sizeOf3
 v3:=zeroValue3
 t4:=underlying4
 a4:=isAgg4
 z4:=sizeOf4
 v4:=zeroValue4
 t5:=underlying5
 a5:=isAgg5
 z5:=sizeOf5
 v5:=zeroValue5
 t9:=underlying9
 a9:=isAgg9
 z9:=sizeOf9
 v9:=zeroValue9
 t28:=underlying22
 a28:=isAgg22
 z28:=sizeOf22
 v28:=zeroValue22
 t46:=underlying156
 a46:=isAgg156
 z46:=sizeOf156
 v46:=zeroValue156
 t51:=underlying210
 a51:=isAgg210
 z51:=sizeOf210
 v51:=zeroValue210
 t53:=underlying212
 a53:=isAgg212
 z53:=sizeOf212
 v53:=zeroValue212
 t131:=underlying207
 a131:=isAgg207
 z131:=sizeOf207
 v131:=zeroValue207
 t182:=underlying202
 a182:=isAgg202
 z182:=sizeOf202
 v182:=zeroValue202
 t183:=underlying203
 a183:=isAgg203
 z183:=sizeOf203
 v183:=zeroValue203
 t218:=underlying241
 a218:=isAgg241
 z218:=sizeOf241
 v218:=zeroValue241
 t222:=underlying245
 a222:=isAgg245
 z222:=sizeOf245
 v222:=zeroValue245
 t228:=underlying255
 a228:=isAgg255
 z228:=sizeOf255
 v228:=zeroValue255
 t229:=underlying256
 a229:=isAgg256
 z229:=sizeOf256
 v229:=zeroValue256 }
end
end Go.Proofs.YtcfmiocdlcapoaaGreat
