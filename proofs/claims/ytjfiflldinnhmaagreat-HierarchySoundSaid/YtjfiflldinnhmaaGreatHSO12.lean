import Derived.Test.YtjfiflldinnhmaaGreatHSO10
namespace Go.Proofs.YtjfiflldinnhmaaGreat
set_option linter.all false
set_option maxRecDepth 100000
open Go.RowKit
theorem AK : b9 2 2 4 sE 0 4=true:=by decide +kernel
theorem CX : dZ 2 2 4 sE:=aD (bM 2 2 4 sE) AK
theorem Au : b9 2 3 8 rK 0 8=true:=by decide +kernel
theorem Dh : dZ 2 3 8 rK:=aD (bM 2 3 8 rK) Au
theorem A9 : b9 2 4 16 sD 0 16=true:=by decide +kernel
theorem C8 : dZ 2 4 16 sD:=aD (bM 2 4 16 sD) A9
theorem AS : b9 2 5 32 rh 0 32=true:=by decide +kernel
theorem CW : dZ 2 5 32 rh:=aD (bM 2 5 32 rh) AS
theorem A3 : b9 2 6 64 nA 0 32=true:=by decide +kernel
theorem yT : b9 2 6 64 nA 32 32=true:=by decide +kernel
theorem Dj : dZ 2 6 64 nA:=aD (aD (bM 2 6 64 nA) A3) yT
theorem zF : b9 2 7 128 jZ 0 32=true:=by decide +kernel
theorem yj : b9 2 7 128 jZ 32 32=true:=by decide +kernel
theorem yU : b9 2 7 128 jZ 64 32=true:=by decide +kernel
theorem ya : b9 2 7 128 jZ 96 32=true:=by decide +kernel
theorem Dx : dZ 2 7 128 jZ:=aD (aD (aD (aD (bM 2 7 128 jZ) zF) yj) yU) ya
theorem Ad : b9 2 8 256 df 0 16=true:=by decide +kernel
theorem y7 : b9 2 8 256 df 16 16=true:=by decide +kernel
theorem yc : b9 2 8 256 df 32 16=true:=by decide +kernel
theorem yV : b9 2 8 256 df 48 16=true:=by decide +kernel
theorem za : b9 2 8 256 df 64 16=true:=by decide +kernel
theorem yd : b9 2 8 256 df 80 16=true:=by decide +kernel
theorem yp : b9 2 8 256 df 96 16=true:=by decide +kernel
theorem vo : b9 2 8 256 df 112 16=true:=by decide +kernel
theorem wo : b9 2 8 256 df 128 16=true:=by decide +kernel
theorem vD : b9 2 8 256 df 144 16=true:=by decide +kernel
theorem vK : b9 2 8 256 df 160 16=true:=by decide +kernel
theorem wk : b9 2 8 256 df 176 16=true:=by decide +kernel
theorem vd : b9 2 8 256 df 192 16=true:=by decide +kernel
theorem wB : b9 2 8 256 df 208 16=true:=by decide +kernel
theorem wi : b9 2 8 256 df 224 16=true:=by decide +kernel
theorem wG : b9 2 8 256 df 240 16=true:=by decide +kernel
theorem CV : dZ 2 8 256 df:=aD (aD (aD (aD (aD (aD (aD (aD (aD (aD (aD (aD (aD (aD (aD (aD (bM 2 8 256 df) Ad) y7) yc) yV) za) yd) yp) vo) wo) vD) vK) wk) vd) wB) wi) wG
end Go.Proofs.YtjfiflldinnhmaaGreat
