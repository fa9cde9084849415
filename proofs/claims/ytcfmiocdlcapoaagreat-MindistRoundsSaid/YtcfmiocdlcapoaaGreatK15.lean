import Derived.Test.YtcfmiocdlcapoaaGreatK13
namespace Go.Proofs.YtcfmiocdlcapoaaGreat
set_option linter.unusedVariables false
set_option linter.unusedSimpArgs false
set_option linter.unusedSectionVars false
set_option maxRecDepth 100000
open Go.RowKit
theorem E4 : dy 3 2 9 wC 0 9=true:=by decide +kernel
theorem Jd : fT 3 2 9 wC:=aO (da 3 2 9 wC) E4
theorem Gs : dy 3 3 27 xy 0 27=true:=by decide +kernel
theorem Jh : fT 3 3 27 xy:=aO (da 3 3 27 xy) Gs
theorem Gn : dy 3 4 81 pB 0 32=true:=by decide +kernel
theorem D7 : dy 3 4 81 pB 32 32=true:=by decide +kernel
theorem Dj : dy 3 4 81 pB 64 17=true:=by decide +kernel
theorem Jp : fT 3 4 81 pB:=aO (aO (aO (da 3 4 81 pB) Gn) D7) Dj
theorem Fg : dy 3 5 243 gW 0 27=true:=by decide +kernel
theorem Da : dy 3 5 243 gW 27 27=true:=by decide +kernel
theorem Ef : dy 3 5 243 gW 54 27=true:=by decide +kernel
theorem Dc : dy 3 5 243 gW 81 27=true:=by decide +kernel
theorem B4 : dy 3 5 243 gW 108 27=true:=by decide +kernel
theorem A5 : dy 3 5 243 gW 135 27=true:=by decide +kernel
theorem AU : dy 3 5 243 gW 162 27=true:=by decide +kernel
theorem BT : dy 3 5 243 gW 189 27=true:=by decide +kernel
theorem BB : dy 3 5 243 gW 216 27=true:=by decide +kernel
theorem I4 : fT 3 5 243 gW:=aO (aO (aO (aO (aO (aO (aO (aO (aO (da 3 5 243 gW) Fg) Da) Ef) Dc) B4) A5) AU) BT) BB
end Go.Proofs.YtcfmiocdlcapoaaGreat
