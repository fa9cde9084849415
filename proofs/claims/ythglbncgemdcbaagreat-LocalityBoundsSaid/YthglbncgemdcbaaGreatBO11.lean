import Derived.Test.YthglbncgemdcbaaGreatBO9
namespace Go.Proofs.YthglbncgemdcbaaGreat
set_option linter.all false
set_option maxRecDepth 100000
open Go.RowKit
theorem GL:dt 3 2 9 xl 0 9=true:=by decide +kernel
theorem LM:fp 3 2 9 xl:=aJ (cO 3 2 9 xl) GL
theorem Jc:dt 3 3 27 we 0 27=true:=by decide +kernel
theorem L8:fp 3 3 27 we:=aJ (cO 3 3 27 we) Jc
theorem Ie:dt 3 4 81 oR 0 32=true:=by decide +kernel
theorem Et:dt 3 4 81 oR 32 32=true:=by decide +kernel
theorem EO:dt 3 4 81 oR 64 17=true:=by decide +kernel
theorem Lm:fp 3 4 81 oR:=aJ (aJ (aJ (cO 3 4 81 oR) Ie) Et) EO
theorem GV:dt 3 5 243 gG 0 27=true:=by decide +kernel
theorem EW:dt 3 5 243 gG 27 27=true:=by decide +kernel
theorem Ev:dt 3 5 243 gG 54 27=true:=by decide +kernel
theorem Fe:dt 3 5 243 gG 81 27=true:=by decide +kernel
theorem Cz:dt 3 5 243 gG 108 27=true:=by decide +kernel
theorem CH:dt 3 5 243 gG 135 27=true:=by decide +kernel
theorem Cc:dt 3 5 243 gG 162 27=true:=by decide +kernel
theorem CN:dt 3 5 243 gG 189 27=true:=by decide +kernel
theorem BC:dt 3 5 243 gG 216 27=true:=by decide +kernel
theorem LB:fp 3 5 243 gG:=aJ (aJ (aJ (aJ (aJ (aJ (aJ (aJ (aJ (cO 3 5 243 gG) GV) EW) Ev) Fe) Cz) CH) Cc) CN) BC
end Go.Proofs.YthglbncgemdcbaaGreat
