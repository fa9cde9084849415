import Derived.Test.YtcfmiocdlcapoaaGreatMCS12
namespace Go.Proofs.YtcfmiocdlcapoaaGreat
set_option linter.all false
set_option maxRecDepth 100000
open Go.RowKit
theorem ER : dg 3 2 9 vx 0 9=true:=by decide +kernel
theorem Gy : eZ 3 2 9 vx:=aF (cI 3 2 9 vx) ER
theorem EA : dg 3 3 27 vP 0 27=true:=by decide +kernel
theorem Gt : eZ 3 3 27 vP:=aF (cI 3 3 27 vP) EA
theorem EX : dg 3 4 81 mT 0 32=true:=by decide +kernel
theorem BE : dg 3 4 81 mT 32 32=true:=by decide +kernel
theorem Cq : dg 3 4 81 mT 64 17=true:=by decide +kernel
theorem Gw : eZ 3 4 81 mT:=aF (aF (aF (cI 3 4 81 mT) EX) BE) Cq
theorem C3 : dg 3 5 243 gj 0 27=true:=by decide +kernel
theorem BF : dg 3 5 243 gj 27 27=true:=by decide +kernel
theorem BB : dg 3 5 243 gj 54 27=true:=by decide +kernel
theorem BH : dg 3 5 243 gj 81 27=true:=by decide +kernel
theorem za : dg 3 5 243 gj 108 27=true:=by decide +kernel
theorem y5 : dg 3 5 243 gj 135 27=true:=by decide +kernel
theorem Aj : dg 3 5 243 gj 162 27=true:=by decide +kernel
theorem Aw : dg 3 5 243 gj 189 27=true:=by decide +kernel
theorem Aq : dg 3 5 243 gj 216 27=true:=by decide +kernel
theorem G0 : eZ 3 5 243 gj:=aF (aF (aF (aF (aF (aF (aF (aF (aF (cI 3 5 243 gj) C3) BF) BB) BH) za) y5) Aj) Aw) Aq
end Go.Proofs.YtcfmiocdlcapoaaGreat
