import Derived.Test.YthglbncgemdcbaaGreatBO9
namespace Go.Proofs.YthglbncgemdcbaaGreat
set_option linter.all false
set_option maxRecDepth 100000
open Go.RowKit
theorem GI:dt 2 2 4 xS 0 4=true:=by decide +kernel
theorem Lf:fp 2 2 4 xS:=aJ (cO 2 2 4 xS) GI
theorem ID:dt 2 3 8 xP 0 8=true:=by decide +kernel
theorem Lt:fp 2 3 8 xP:=aJ (cO 2 3 8 xP) ID
theorem IS:dt 2 4 16 xM 0 16=true:=by decide +kernel
theorem Lh:fp 2 4 16 xM:=aJ (cO 2 4 16 xM) IS
theorem IQ:dt 2 5 32 xu 0 32=true:=by decide +kernel
theorem Lq:fp 2 5 32 xu:=aJ (cO 2 5 32 xu) IQ
theorem Ia:dt 2 6 64 rq 0 32=true:=by decide +kernel
theorem Fa:dt 2 6 64 rq 32 32=true:=by decide +kernel
theorem L9:fp 2 6 64 rq:=aJ (aJ (cO 2 6 64 rq) Ia) Fa
theorem Is:dt 2 7 128 mA 0 32=true:=by decide +kernel
theorem FX:dt 2 7 128 mA 32 32=true:=by decide +kernel
theorem E5:dt 2 7 128 mA 64 32=true:=by decide +kernel
theorem Fs:dt 2 7 128 mA 96 32=true:=by decide +kernel
theorem L0:fp 2 7 128 mA:=aJ (aJ (aJ (aJ (cO 2 7 128 mA) Is) FX) E5) Fs
theorem G8:dt 2 8 256 ee 0 16=true:=by decide +kernel
theorem Eu:dt 2 8 256 ee 16 16=true:=by decide +kernel
theorem EI:dt 2 8 256 ee 32 16=true:=by decide +kernel
theorem EA:dt 2 8 256 ee 48 16=true:=by decide +kernel
theorem Fi:dt 2 8 256 ee 64 16=true:=by decide +kernel
theorem Fm:dt 2 8 256 ee 80 16=true:=by decide +kernel
theorem EB:dt 2 8 256 ee 96 16=true:=by decide +kernel
theorem Cq:dt 2 8 256 ee 112 16=true:=by decide +kernel
theorem BU:dt 2 8 256 ee 128 16=true:=by decide +kernel
theorem BE:dt 2 8 256 ee 144 16=true:=by decide +kernel
theorem Bu:dt 2 8 256 ee 160 16=true:=by decide +kernel
theorem C1:dt 2 8 256 ee 176 16=true:=by decide +kernel
theorem CG:dt 2 8 256 ee 192 16=true:=by decide +kernel
theorem Bl:dt 2 8 256 ee 208 16=true:=by decide +kernel
theorem B7:dt 2 8 256 ee 224 16=true:=by decide +kernel
theorem Bj:dt 2 8 256 ee 240 16=true:=by decide +kernel
theorem Ll:fp 2 8 256 ee:=aJ (aJ (aJ (aJ (aJ (aJ (aJ (aJ (aJ (aJ (aJ (aJ (aJ (aJ (aJ (aJ (cO 2 8 256 ee) G8) Eu) EI) EA) Fi) Fm) EB) Cq) BU) BE) Bu) C1) CG) Bl) B7) Bj
end Go.Proofs.YthglbncgemdcbaaGreat
