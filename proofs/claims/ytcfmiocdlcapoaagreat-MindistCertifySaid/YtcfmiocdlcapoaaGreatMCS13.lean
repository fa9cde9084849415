import Derived.Test.YtcfmiocdlcapoaaGreatMCS12
namespace Go.Proofs.YtcfmiocdlcapoaaGreat
set_option linter.all false
set_option maxRecDepth 100000
open Go.RowKit
theorem Ef : dg 2 2 4 u6 0 4=true:=by decide +kernel
theorem Gi : eZ 2 2 4 u6:=aF (cI 2 2 4 u6) Ef
theorem EI : dg 2 3 8 vy 0 8=true:=by decide +kernel
theorem Gl : eZ 2 3 8 vy:=aF (cI 2 3 8 vy) EI
theorem DK : dg 2 4 16 vj 0 16=true:=by decide +kernel
theorem Gp : eZ 2 4 16 vj:=aF (cI 2 4 16 vj) DK
theorem Df : dg 2 5 32 vC 0 32=true:=by decide +kernel
theorem Gh : eZ 2 5 32 vC:=aF (cI 2 5 32 vC) Df
theorem C1 : dg 2 6 64 pP 0 32=true:=by decide +kernel
theorem Cd : dg 2 6 64 pP 32 32=true:=by decide +kernel
theorem GQ : eZ 2 6 64 pP:=aF (aF (cI 2 6 64 pP) C1) Cd
theorem Eo : dg 2 7 128 lG 0 32=true:=by decide +kernel
theorem B9 : dg 2 7 128 lG 32 32=true:=by decide +kernel
theorem Cx : dg 2 7 128 lG 64 32=true:=by decide +kernel
theorem Cb : dg 2 7 128 lG 96 32=true:=by decide +kernel
theorem Gv : eZ 2 7 128 lG:=aF (aF (aF (aF (cI 2 7 128 lG) Eo) B9) Cx) Cb
theorem D5 : dg 2 8 256 dL 0 16=true:=by decide +kernel
theorem Cw : dg 2 8 256 dL 16 16=true:=by decide +kernel
theorem CB : dg 2 8 256 dL 32 16=true:=by decide +kernel
theorem Bu : dg 2 8 256 dL 48 16=true:=by decide +kernel
theorem CN : dg 2 8 256 dL 64 16=true:=by decide +kernel
theorem CL : dg 2 8 256 dL 80 16=true:=by decide +kernel
theorem Cu : dg 2 8 256 dL 96 16=true:=by decide +kernel
theorem zN : dg 2 8 256 dL 112 16=true:=by decide +kernel
theorem yW : dg 2 8 256 dL 128 16=true:=by decide +kernel
theorem zd : dg 2 8 256 dL 144 16=true:=by decide +kernel
theorem zL : dg 2 8 256 dL 160 16=true:=by decide +kernel
theorem Am : dg 2 8 256 dL 176 16=true:=by decide +kernel
theorem zQ : dg 2 8 256 dL 192 16=true:=by decide +kernel
theorem zh : dg 2 8 256 dL 208 16=true:=by decide +kernel
theorem An : dg 2 8 256 dL 224 16=true:=by decide +kernel
theorem zu : dg 2 8 256 dL 240 16=true:=by decide +kernel
theorem Gz : eZ 2 8 256 dL:=aF (aF (aF (aF (aF (aF (aF (aF (aF (aF (aF (aF (aF (aF (aF (aF (cI 2 8 256 dL) D5) Cw) CB) Bu) CN) CL) Cu) zN) yW) zd) zL) Am) zQ) zh) An) zu
end Go.Proofs.YtcfmiocdlcapoaaGreat
