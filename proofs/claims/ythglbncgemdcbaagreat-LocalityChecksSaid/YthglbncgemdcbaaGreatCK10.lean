import Derived.Test.YthglbncgemdcbaaGreatCK9
namespace Go.Proofs.YthglbncgemdcbaaGreat
set_option linter.all false
set_option maxRecDepth 100000
open Go.RowKit
theorem EJ : dj 2 2 4 vK 0 4=true:=by decide +kernel
theorem Iv : eW 2 2 4 vK:=aG (cI 2 2 4 vK) EJ
theorem DB : dj 2 3 8 ub 0 8=true:=by decide +kernel
theorem IN : eW 2 3 8 ub:=aG (cI 2 3 8 ub) DB
theorem Fl : dj 2 4 16 uq 0 16=true:=by decide +kernel
theorem IK : eW 2 4 16 uq:=aG (cI 2 4 16 uq) Fl
theorem Ef : dj 2 5 32 uf 0 32=true:=by decide +kernel
theorem IA : eW 2 5 32 uf:=aG (cI 2 5 32 uf) Ef
theorem Dv : dj 2 6 64 pZ 0 32=true:=by decide +kernel
theorem CH : dj 2 6 64 pZ 32 32=true:=by decide +kernel
theorem IG : eW 2 6 64 pZ:=aG (aG (cI 2 6 64 pZ) Dv) CH
theorem DC : dj 2 7 128 lI 0 32=true:=by decide +kernel
theorem Cb : dj 2 7 128 lI 32 32=true:=by decide +kernel
theorem Dj : dj 2 7 128 lI 64 32=true:=by decide +kernel
theorem Cr : dj 2 7 128 lI 96 32=true:=by decide +kernel
theorem IP : eW 2 7 128 lI:=aG (aG (aG (aG (cI 2 7 128 lI) DC) Cb) Dj) Cr
theorem Ek : dj 2 8 256 dJ 0 16=true:=by decide +kernel
theorem CF : dj 2 8 256 dJ 16 16=true:=by decide +kernel
theorem Cu : dj 2 8 256 dJ 32 16=true:=by decide +kernel
theorem B8 : dj 2 8 256 dJ 48 16=true:=by decide +kernel
theorem Cw : dj 2 8 256 dJ 64 16=true:=by decide +kernel
theorem Cp : dj 2 8 256 dJ 80 16=true:=by decide +kernel
theorem Dq : dj 2 8 256 dJ 96 16=true:=by decide +kernel
theorem zS : dj 2 8 256 dJ 112 16=true:=by decide +kernel
theorem zq : dj 2 8 256 dJ 128 16=true:=by decide +kernel
theorem yM : dj 2 8 256 dJ 144 16=true:=by decide +kernel
theorem zB : dj 2 8 256 dJ 160 16=true:=by decide +kernel
theorem As : dj 2 8 256 dJ 176 16=true:=by decide +kernel
theorem Av : dj 2 8 256 dJ 192 16=true:=by decide +kernel
theorem yT : dj 2 8 256 dJ 208 16=true:=by decide +kernel
theorem yK : dj 2 8 256 dJ 224 16=true:=by decide +kernel
theorem zG : dj 2 8 256 dJ 240 16=true:=by decide +kernel
theorem Ir : eW 2 8 256 dJ:=aG (aG (aG (aG (aG (aG (aG (aG (aG (aG (aG (aG (aG (aG (aG (aG (cI 2 8 256 dJ) Ek) CF) Cu) B8) Cw) Cp) Dq) zS) zq) yM) zB) As) Av) yT) yK) zG
end Go.Proofs.YthglbncgemdcbaaGreat
