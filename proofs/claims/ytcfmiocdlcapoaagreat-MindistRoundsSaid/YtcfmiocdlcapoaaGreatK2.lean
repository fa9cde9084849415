import Derived.Lib.Hide
import Derived.Shelf.Sort.Plain
import Derived.Test.YtcfmiocdlcapoaaGreatProg
namespace Go.Proofs.YtcfmiocdlcapoaaGreat
set_option linter.unusedVariables false
set_option linter.unusedSimpArgs false
set_option linter.unusedSectionVars false
set_option maxRecDepth 100000
open Go.RowKit
abbrev Lz:=List Int
abbrev Ll:=List (List Int)
abbrev LN:=List Nat
abbrev OA:=Option Addr
abbrev La:=List (Option Addr × Nat)
theorem Z5 {p : Prop} (h : p) : Hid p:=Lib.hid h
section
open Go.Shelf
def EM : Go.Shelf.Ren:=⟨fun | 189=>70 | 125=>135 | 257=>134 | 128=>204 | 129=>205 | 294=>195 | 295=>196 | 296=>197 | 297=>198 | 298=>199 | 299=>200 | 216=>201 | 300=>202 | 301=>203 | 328=>242 | 329=>243 | 330=>244 | 331=>245 | 332=>246 | 215=>247 | 343=>267 | n=>n,fun | 28=>22 | 3=>3 | 46=>156 | 0=>0 | 51=>210 | 53=>212 | 4=>4 | 183=>203 | 182=>202 | 131=>207 | 5=>5 | 9=>9 | 218=>241 | 222=>245 | 228=>255 | 229=>256 | n=>n,λn=>n⟩
theorem JN : Go.Proofs.Lays.n189 Tryz.prog EM:={
 mixed:=by kernel_rfl
 f125:=Tryz.func135.trans (congrArg some (by kernel_rfl))
 f128:=Tryz.func204.trans (congrArg some (by kernel_rfl))
 f129:=Tryz.func205.trans (congrArg some (by kernel_rfl))
 f189:=Tryz.func70.trans (congrArg some (by kernel_rfl))
 f215:=Tryz.func247.trans (congrArg some (by kernel_rfl))
 f216:=Tryz.func201.trans (congrArg some (by kernel_rfl))
 f257:=Tryz.func134.trans (congrArg some (by kernel_rfl))
 f294:=Tryz.func195.trans (congrArg some (by kernel_rfl))
 f295:=Tryz.func196.trans (congrArg some (by kernel_rfl))
 f296:=Tryz.func197.trans (congrArg some (by kernel_rfl))
 f297:=Tryz.func198.trans (congrArg some (by kernel_rfl))
 f298:=Tryz.func199.trans (congrArg some (by kernel_rfl))
 f299:=Tryz.func200.trans (congrArg some (by kernel_rfl))
 f300:=Tryz.func202.trans (congrArg some (by kernel_rfl))
 f301:=Tryz.func203.trans (congrArg some (by kernel_rfl))
 f328:=Tryz.func242.trans (congrArg some (by kernel_rfl))
 f329:=Tryz.func243.trans (congrArg some (by kernel_rfl))
 f330:=Tryz.func244.trans (congrArg some (by kernel_rfl))
 f331:=Tryz.func245.trans (congrArg some (by kernel_rfl))
 f332:=Tryz.func246.trans (congrArg some (by kernel_rfl))
 f343:=Tryz.func267.trans (congrArg some (by kernel_rfl))
 t0:=Tryz.underlying0
 a0:=Tryz.isAgg0
 z0:=Tryz.sizeOf0
 v0:=Tryz.zeroValue0
 t3:=Tryz.underlying3
 a3:=Tryz.isAgg3
 z3:=Tryz.sizeOf3
 v3:=Tryz.zeroValue3
 t4:=Tryz.underlying4
 a4:=Tryz.isAgg4
 z4:=Tryz.sizeOf4
 v4:=Tryz.zeroValue4
 t5:=Tryz.underlying5
 a5:=Tryz.isAgg5
 z5:=Tryz.sizeOf5
 v5:=Tryz.zeroValue5
 t9:=Tryz.underlying9
 a9:=Tryz.isAgg9
 z9:=Tryz.sizeOf9
 v9:=Tryz.zeroValue9
 t28:=Tryz.underlying22
 a28:=Tryz.isAgg22
 z28:=Tryz.sizeOf22
 v28:=Tryz.zeroValue22
 t46:=Tryz.underlying156
 a46:=Tryz.isAgg156
 z46:=Tryz.sizeOf156
 v46:=Tryz.zeroValue156
 t51:=Tryz.underlying210
 a51:=Tryz.isAgg210
 z51:=Tryz.sizeOf210
 v51:=Tryz.zeroValue210
 t53:=Tryz.underlying212
 a53:=Tryz.isAgg212
 z53:=Tryz.sizeOf212
 v53:=Tryz.zeroValue212
 t131:=Tryz.underlying207
 a131:=Tryz.isAgg207
 z131:=Tryz.sizeOf207
 v131:=Tryz.zeroValue207
 t182:=Tryz.underlying202
 a182:=Tryz.isAgg202
 z182:=Tryz.sizeOf202
 v182:=Tryz.zeroValue202
 t183:=Tryz.underlying203
 a183:=Tryz.isAgg203
 z183:=Tryz.sizeOf203
 v183:=Tryz.zeroValue203
 t218:=Tryz.underlying241
 a218:=Tryz.isAgg241
 z218:=Tryz.sizeOf241
 v218:=Tryz.zeroValue241
 t222:=Tryz.underlying245
 a222:=Tryz.isAgg245
 z222:=Tryz.sizeOf245
 v222:=Tryz.zeroValue245
 t228:=Tryz.underlying255
 a228:=Tryz.isAgg255
 z228:=Tryz.sizeOf255
 v228:=Tryz.zeroValue255
 t229:=Tryz.underlying256
 a229:=Tryz.isAgg256
 z229:=Tryz.sizeOf256
 v229:=Tryz.zeroValue256 }
end
end Go.Proofs.YtcfmiocdlcapoaaGreat
