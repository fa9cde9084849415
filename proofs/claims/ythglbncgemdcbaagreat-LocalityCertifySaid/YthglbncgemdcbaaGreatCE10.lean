import Derived.Test.YthglbncgemdcbaaGreatCE9
namespace Go.Proofs.YthglbncgemdcbaaGreat
set_option linter.all false
set_option maxRecDepth 100000
open Go.RowKit
theorem Gj:dt 2 2 4 xa 0 4=true:=by decide +kernel
theorem Jo:fs 2 2 4 xa:=aH (cX 2 2 4 xa) Gj
theorem EG:dt 2 3 8 vH 0 8=true:=by decide +kernel
theorem Jq:fs 2 3 8 vH:=aH (cX 2 3 8 vH) EG
theorem Gv:dt 2 4 16 vu 0 16=true:=by decide +kernel
theorem JG:fs 2 4 16 vu:=aH (cX 2 4 16 vu) Gv
theorem Fb:dt 2 5 32 vx 0 32=true:=by decide +kernel
theorem JT:fs 2 5 32 vx:=aH (cX 2 5 32 vx) Fb
theorem Gn:dt 2 6 64 qO 0 32=true:=by decide +kernel
theorem C3:dt 2 6 64 qO 32 32=true:=by decide +kernel
theorem JC:fs 2 6 64 qO:=aH (aH (cX 2 6 64 qO) Gn) C3
theorem EF:dt 2 7 128 my 0 32=true:=by decide +kernel
theorem Dc:dt 2 7 128 my 32 32=true:=by decide +kernel
theorem D2:dt 2 7 128 my 64 32=true:=by decide +kernel
theorem DD:dt 2 7 128 my 96 32=true:=by decide +kernel
theorem JB:fs 2 7 128 my:=aH (aH (aH (aH (cX 2 7 128 my) EF) Dc) D2) DD
theorem ES:dt 2 8 256 dT 0 16=true:=by decide +kernel
theorem Dm:dt 2 8 256 dT 16 16=true:=by decide +kernel
theorem DF:dt 2 8 256 dT 32 16=true:=by decide +kernel
theorem C7:dt 2 8 256 dT 48 16=true:=by decide +kernel
theorem Dj:dt 2 8 256 dT 64 16=true:=by decide +kernel
theorem Ex:dt 2 8 256 dT 80 16=true:=by decide +kernel
theorem Ek:dt 2 8 256 dT 96 16=true:=by decide +kernel
theorem Bt:dt 2 8 256 dT 112 16=true:=by decide +kernel
theorem AN:dt 2 8 256 dT 128 16=true:=by decide +kernel
theorem A0:dt 2 8 256 dT 144 16=true:=by decide +kernel
theorem AT:dt 2 8 256 dT 160 16=true:=by decide +kernel
theorem Ab:dt 2 8 256 dT 176 16=true:=by decide +kernel
theorem A9:dt 2 8 256 dT 192 16=true:=by decide +kernel
theorem Af:dt 2 8 256 dT 208 16=true:=by decide +kernel
theorem AW:dt 2 8 256 dT 224 16=true:=by decide +kernel
theorem zV:dt 2 8 256 dT 240 16=true:=by decide +kernel
theorem Jt:fs 2 8 256 dT:=aH (aH (aH (aH (aH (aH (aH (aH (aH (aH (aH (aH (aH (aH (aH (aH (cX 2 8 256 dT) ES) Dm) DF) C7) Dj) Ex) Ek) Bt) AN) A0) AT) Ab) A9) Af) AW) zV
end Go.Proofs.YthglbncgemdcbaaGreat
