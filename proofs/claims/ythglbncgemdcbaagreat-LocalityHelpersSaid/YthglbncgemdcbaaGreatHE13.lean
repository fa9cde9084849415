import Derived.Test.YthglbncgemdcbaaGreatHE10
namespace Go.Proofs.YthglbncgemdcbaaGreat
set_option linter.all false
set_option maxRecDepth 100000
open Go.RowKit
theorem Ca : cR 2 2 4 uc 0 4=true:=by decide +kernel
theorem FB : eE 2 2 4 uc:=aF (bR 2 2 4 uc) Ca
theorem Dk : cR 2 3 8 td 0 8=true:=by decide +kernel
theorem Fp : eE 2 3 8 td:=aF (bR 2 3 8 td) Dk
theorem Cr : cR 2 4 16 um 0 16=true:=by decide +kernel
theorem FN : eE 2 4 16 um:=aF (bR 2 4 16 um) Cr
theorem CK : cR 2 5 32 tf 0 32=true:=by decide +kernel
theorem F2 : eE 2 5 32 tf:=aF (bR 2 5 32 tf) CK
theorem CO : cR 2 6 64 oS 0 32=true:=by decide +kernel
theorem AL : cR 2 6 64 oS 32 32=true:=by decide +kernel
theorem FJ : eE 2 6 64 oS:=aF (aF (bR 2 6 64 oS) CO) AL
theorem Dj : cR 2 7 128 kS 0 32=true:=by decide +kernel
theorem A1 : cR 2 7 128 kS 32 32=true:=by decide +kernel
theorem BG : cR 2 7 128 kS 64 32=true:=by decide +kernel
theorem Bv : cR 2 7 128 kS 96 32=true:=by decide +kernel
theorem Fw : eE 2 7 128 kS:=aF (aF (aF (aF (bR 2 7 128 kS) Dj) A1) BG) Bv
theorem B4 : cR 2 8 256 dx 0 16=true:=by decide +kernel
theorem BN : cR 2 8 256 dx 16 16=true:=by decide +kernel
theorem Be : cR 2 8 256 dx 32 16=true:=by decide +kernel
theorem AJ : cR 2 8 256 dx 48 16=true:=by decide +kernel
theorem BI : cR 2 8 256 dx 64 16=true:=by decide +kernel
theorem A9 : cR 2 8 256 dx 80 16=true:=by decide +kernel
theorem AV : cR 2 8 256 dx 96 16=true:=by decide +kernel
theorem yR : cR 2 8 256 dx 112 16=true:=by decide +kernel
theorem xo : cR 2 8 256 dx 128 16=true:=by decide +kernel
theorem yG : cR 2 8 256 dx 144 16=true:=by decide +kernel
theorem yS : cR 2 8 256 dx 160 16=true:=by decide +kernel
theorem za : cR 2 8 256 dx 176 16=true:=by decide +kernel
theorem yQ : cR 2 8 256 dx 192 16=true:=by decide +kernel
theorem yD : cR 2 8 256 dx 208 16=true:=by decide +kernel
theorem yx : cR 2 8 256 dx 224 16=true:=by decide +kernel
theorem yg : cR 2 8 256 dx 240 16=true:=by decide +kernel
theorem FK : eE 2 8 256 dx:=aF (aF (aF (aF (aF (aF (aF (aF (aF (aF (aF (aF (aF (aF (aF (aF (bR 2 8 256 dx) B4) BN) Be) AJ) BI) A9) AV) yR) xo) yG) yS) za) yQ) yD) yx) yg
end Go.Proofs.YthglbncgemdcbaaGreat
