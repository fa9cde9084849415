import Derived.Test.YtcfmiocdlcapoaaGreatK13
namespace Go.Proofs.YtcfmiocdlcapoaaGreat
set_option linter.unusedVariables false
set_option linter.unusedSimpArgs false
set_option linter.unusedSectionVars false
set_option maxRecDepth 100000
open Go.RowKit
theorem Fj : dy 2 2 4 yc 0 4=true:=by decide +kernel
theorem Jq : fT 2 2 4 yc:=aO (da 2 2 4 yc) Fj
theorem FN : dy 2 3 8 wY 0 8=true:=by decide +kernel
theorem Jj : fT 2 3 8 wY:=aO (da 2 3 8 wY) FN
theorem EU : dy 2 4 16 xB 0 16=true:=by decide +kernel
theorem JB : fT 2 4 16 xB:=aO (da 2 4 16 xB) EU
theorem Fq : dy 2 5 32 ym 0 32=true:=by decide +kernel
theorem I8 : fT 2 5 32 ym:=aO (da 2 5 32 ym) Fq
theorem Gd : dy 2 6 64 sB 0 32=true:=by decide +kernel
theorem DN : dy 2 6 64 sB 32 32=true:=by decide +kernel
theorem Jr : fT 2 6 64 sB:=aO (aO (da 2 6 64 sB) Gd) DN
theorem Fu : dy 2 7 128 nN 0 32=true:=by decide +kernel
theorem Dk : dy 2 7 128 nN 32 32=true:=by decide +kernel
theorem DD : dy 2 7 128 nN 64 32=true:=by decide +kernel
theorem DB : dy 2 7 128 nN 96 32=true:=by decide +kernel
theorem Js : fT 2 7 128 nN:=aO (aO (aO (aO (da 2 7 128 nN) Fu) Dk) DD) DB
theorem Fi : dy 2 8 256 eo 0 16=true:=by decide +kernel
theorem DW : dy 2 8 256 eo 16 16=true:=by decide +kernel
theorem DC : dy 2 8 256 eo 32 16=true:=by decide +kernel
theorem Ek : dy 2 8 256 eo 48 16=true:=by decide +kernel
theorem C5 : dy 2 8 256 eo 64 16=true:=by decide +kernel
theorem C7 : dy 2 8 256 eo 80 16=true:=by decide +kernel
theorem Dg : dy 2 8 256 eo 96 16=true:=by decide +kernel
theorem B5 : dy 2 8 256 eo 112 16=true:=by decide +kernel
theorem Az : dy 2 8 256 eo 128 16=true:=by decide +kernel
theorem Bz : dy 2 8 256 eo 144 16=true:=by decide +kernel
theorem BU : dy 2 8 256 eo 160 16=true:=by decide +kernel
theorem BY : dy 2 8 256 eo 176 16=true:=by decide +kernel
theorem BP : dy 2 8 256 eo 192 16=true:=by decide +kernel
theorem BW : dy 2 8 256 eo 208 16=true:=by decide +kernel
theorem Bw : dy 2 8 256 eo 224 16=true:=by decide +kernel
theorem BF : dy 2 8 256 eo 240 16=true:=by decide +kernel
theorem Jo : fT 2 8 256 eo:=aO (aO (aO (aO (aO (aO (aO (aO (aO (aO (aO (aO (aO (aO (aO (aO (da 2 8 256 eo) Fi) DW) DC) Ek) C5) C7) Dg) B5) Az) Bz) BU) BY) BP) BW) Bw) BF
end Go.Proofs.YtcfmiocdlcapoaaGreat
