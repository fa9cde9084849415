import Derived.Test.YthglbncgemdcbaaGreatBO0
import Derived.Shelf.Sort.Plain
namespace Go.Proofs.YthglbncgemdcbaaGreat
set_option linter.all false
set_option maxRecDepth 100000
open Go.RowKit Go.Proofs.Tryz
section
open Go.Shelf
def Jl:Go.Shelf.Ren:=⟨fun | 189=>67 | 125=>117 | 257=>116 | 128=>175 | 129=>176 | 294=>166 | 295=>167 | 296=>168 | 297=>169 | 298=>170 | 299=>171 | 216=>172 | 300=>173 | 301=>174 | 328=>216 | 329=>217 | 330=>218 | 331=>219 | 332=>220 | 215=>221 | 343=>252 | n=>n,fun | 28=>22 | 3=>3 | 46=>134 | 0=>0 | 51=>63 | 53=>198 | 4=>4 | 183=>189 | 182=>188 | 131=>194 | 5=>5 | 9=>9 | 218=>227 | 222=>231 | 228=>252 | 229=>253 | n=>n,λn=>n⟩
theorem Mr:Go.Proofs.Lays.n189 prog Jl:={
 mixed:=by kernel_rfl
 f125:=func117.trans (congrArg some (by kernel_rfl))
 f128:=func175.trans (congrArg some (by kernel_rfl))
 f129:=func176.trans (congrArg some (by kernel_rfl))
 f189:=func67.trans (congrArg some (by kernel_rfl))
 f215:=func221.trans (congrArg some (by kernel_rfl))
 f216:=func172.trans (congrArg some (by kernel_rfl))
 f257:=func116.trans (congrArg some (by kernel_rfl))
 f294:=func166.trans (congrArg some (by kernel_rfl))
 f295:=func167.trans (congrArg some (by kernel_rfl))
 f296:=func168.trans (congrArg some (by kernel_rfl))
 f297:=func169.trans (congrArg some (by kernel_rfl))
 f298:=func170.trans (congrArg some (by kernel_rfl))
 f299:=func171.trans (congrArg some (by kernel_rfl))
 f300:=func173.trans (congrArg some (by kernel_rfl))
 f301:=func174.trans (congrArg some (by kernel_rfl))
 f328:=func216.trans (congrArg some (by kernel_rfl))
 f329:=func217.trans (congrArg some (by kernel_rfl))
 f330:=func218.trans (congrArg some (by kernel_rfl))
 f331:=func219.trans (congrArg some (by kernel_rfl))
 f332:=func220.trans (congrArg some (by kernel_rfl))
 f343:=func252.trans (congrArg some (by kernel_rfl))
 t0:=underlying0
 a0:=isAgg0
 z0:=sizeOf0
 v0:=zeroValue0
 t3:=underlying3
 a3:=isAgg3
 z3:=sizeOf3
 v3:=zeroValue3
 t4:=underlying4
 a4:=isAgg4
 z4:=sizeOf4
 v4:=zeroValue4
 t5:=underlying5
 a5:=isAgg5
 z5:=sizeOf5
 v5:=zeroValue5
 t9:=underlying9
 a9:=isAgg9
 z9:=sizeOf9
 v9:=zeroValue9
 t28:=underlying22
 a28:=isAgg22
 z28:=sizeOf22
 v28:=zeroValue22
 t46:=underlying134
 a46:=isAgg134
 z46:=sizeOf134
 v46:=zeroValue134
 t51:=underlying63
 a51:=isAgg63
 z51:=sizeOf63
 v51:=zeroValue63
 t53:=underlying198
 a53:=isAgg198
 z53:=sizeOf198
 v53:=zeroValue198
 t131:=underlying194
 a131:=isAgg194
 z131:=sizeOf194
 v131:=zeroValue194
 t182:=underlying188
 a182:=isAgg188
 z182:=sizeOf188
 v182:=zeroValue188
 t183:=underlying189
 a183:=isAgg189
 z183:=sizeOf189
 v183:=zeroValue189
 t218:=underlying227
 a218:=isAgg227
 z218:=sizeOf227
 v218:=zeroValue227
 t222:=underlying231
 a222:=isAgg231
 z222:=sizeOf231
 v222:=zeroValue231
 t228:=underlying252
 a228:=isAgg252
 z228:=sizeOf252
 v228:=zeroValue252
 t229:=underlying253
 a229:=isAgg253
 z229:=sizeOf253
 v229:=zeroValue253 }
end
end Go.Proofs.YthglbncgemdcbaaGreat
