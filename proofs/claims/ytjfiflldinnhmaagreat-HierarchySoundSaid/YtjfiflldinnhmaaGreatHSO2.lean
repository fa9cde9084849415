import Derived.Test.YtjfiflldinnhmaaGreatHSO0
import Derived.Shelf.Sort.Plain
namespace Go.Proofs.YtjfiflldinnhmaaGreat
set_option linter.all false
set_option maxRecDepth 100000
open Go.RowKit Go.Proofs.Tryz
section
open Go.Shelf
def An : Go.Shelf.Ren:=⟨fun | 189=>87 | 125=>152 | 257=>151 | 128=>211 | 129=>212 | 294=>202 | 295=>203 | 296=>204 | 297=>205 | 298=>206 | 299=>207 | 216=>208 | 300=>209 | 301=>210 | 328=>251 | 329=>252 | 330=>253 | 331=>254 | 332=>255 | 215=>256 | 343=>281 | n=>n,fun | 28=>22 | 3=>3 | 46=>172 | 0=>0 | 51=>31 | 53=>228 | 4=>4 | 183=>219 | 182=>218 | 131=>224 | 5=>5 | 9=>9 | 218=>252 | 222=>256 | 228=>272 | 229=>273 | n=>n,λn=>n⟩
theorem DS : Go.Proofs.Lays.n189 prog An:={
 mixed:=by kernel_rfl
 f125:=func152.trans (congrArg some (by kernel_rfl))
 f128:=func211.trans (congrArg some (by kernel_rfl))
 f129:=func212.trans (congrArg some (by kernel_rfl))
 f189:=func87.trans (congrArg some (by kernel_rfl))
 f215:=func256.trans (congrArg some (by kernel_rfl))
 f216:=func208.trans (congrArg some (by kernel_rfl))
 f257:=func151.trans (congrArg some (by kernel_rfl))
 f294:=func202.trans (congrArg some (by kernel_rfl))
 f295:=func203.trans (congrArg some (by kernel_rfl))
 f296:=func204.trans (congrArg some (by kernel_rfl))
 f297:=func205.trans (congrArg some (by kernel_rfl))
 f298:=func206.trans (congrArg some (by kernel_rfl))
 f299:=func207.trans (congrArg some (by kernel_rfl))
 f300:=func209.trans (congrArg some (by kernel_rfl))
 f301:=func210.trans (congrArg some (by kernel_rfl))
 f328:=func251.trans (congrArg some (by kernel_rfl))
 f329:=func252.trans (congrArg some (by kernel_rfl))
 f330:=func253.trans (congrArg some (by kernel_rfl))
 f331:=func254.trans (congrArg some (by kernel_rfl))
 f332:=func255.trans (congrArg some (by kernel_rfl))
 f343:=func281.trans (congrArg some (by kernel_rfl))
 t0:=underlying0
 a0:=isAgg0
 z0:=sizeOf0
 v0:=zeroValue0
 t3:=underlying3
 a3:=isAgg3
 z3:=sizeOf3
 v3:=zeroValue3
 t4:=underlying4
 a4:=isAgg4
 z4:=sizeOf4
 v4:=zeroValue4
 t5:=underlying5
 a5:=isAgg5
 z5:=sizeOf5
 v5:=zeroValue5
 t9:=underlying9
 a9:=isAgg9
 z9:=sizeOf9
 v9:=zeroValue9
 t28:=underlying22
 a28:=isAgg22
 z28:=sizeOf22
 v28:=zeroValue22
 t46:=underlying172
 a46:=isAgg172
 z46:=sizeOf172
 v46:=zeroValue172
 t51:=underlying31
 a51:=isAgg31
 z51:=sizeOf31
 v51:=zeroValue31
 t53:=underlying228
 a53:=isAgg228
 z53:=sizeOf228
 v53:=zeroValue228
 t131:=underlying224
 a131:=isAgg224
 z131:=sizeOf224
 v131:=zeroValue224
 t182:=underlying218
 a182:=isAgg218
 z182:=sizeOf218
 v182:=zeroValue218
 t183:=underlying219
 a183:=isAgg219
 z183:=sizeOf219
 v183:=zeroValue219
 t218:=underlying252
 a218:=isAgg252
 z218:=sizeOf252
 v218:=zeroValue252
 t222:=underlying256
 a222:=isAgg256
 z222:=sizeOf256
 v222:=zeroValue256
 t228:=underlying272
 a228:=isAgg272
 z228:=sizeOf272
 v228:=zeroValue272
 t229:=underlying273
 a229:=isAgg273
 z229:=sizeOf273
 v229:=zeroValue273 }
end
end Go.Proofs.YtjfiflldinnhmaaGreat
