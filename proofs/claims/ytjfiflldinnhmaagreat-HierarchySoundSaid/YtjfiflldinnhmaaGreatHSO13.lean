import Derived.Test.YtjfiflldinnhmaaGreatHSO10
namespace Go.Proofs.YtjfiflldinnhmaaGreat
set_option linter.all false
set_option maxRecDepth 100000
open Go.RowKit
theorem zJ : b9 3 2 9 rX 0 9=true:=by decide +kernel
theorem Dr : dZ 3 2 9 rX:=aD (bM 3 2 9 rX) zJ
theorem AB : b9 3 3 27 sG 0 27=true:=by decide +kernel
theorem Dp : dZ 3 3 27 sG:=aD (bM 3 3 27 sG) AB
theorem Ay : b9 3 4 81 lj 0 32=true:=by decide +kernel
theorem yB : b9 3 4 81 lj 32 32=true:=by decide +kernel
theorem yg : b9 3 4 81 lj 64 17=true:=by decide +kernel
theorem Dw : dZ 3 4 81 lj:=aD (aD (aD (bM 3 4 81 lj) Ay) yB) yg
theorem A0 : b9 3 5 243 fs 0 27=true:=by decide +kernel
theorem yh : b9 3 5 243 fs 27 27=true:=by decide +kernel
theorem zf : b9 3 5 243 fs 54 27=true:=by decide +kernel
theorem zu : b9 3 5 243 fs 81 27=true:=by decide +kernel
theorem wa : b9 3 5 243 fs 108 27=true:=by decide +kernel
theorem wM : b9 3 5 243 fs 135 27=true:=by decide +kernel
theorem vm : b9 3 5 243 fs 162 27=true:=by decide +kernel
theorem vC : b9 3 5 243 fs 189 27=true:=by decide +kernel
theorem vl : b9 3 5 243 fs 216 27=true:=by decide +kernel
theorem CN : dZ 3 5 243 fs:=aD (aD (aD (aD (aD (aD (aD (aD (aD (bM 3 5 243 fs) A0) yh) zf) zu) wa) wM) vm) vC) vl
end Go.Proofs.YtjfiflldinnhmaaGreat
