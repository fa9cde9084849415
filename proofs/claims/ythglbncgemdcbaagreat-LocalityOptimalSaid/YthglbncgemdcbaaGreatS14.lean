import Derived.Test.YthglbncgemdcbaaGreatS10
namespace Go.Proofs.YthglbncgemdcbaaGreat
set_option linter.all false
set_option maxRecDepth 100000
open Go.RowKit
theorem IZ : dT 3 2 9 zh 0 9=true:=by decide +kernel
theorem LF : il 3 2 9 zh:=aQ (dA 3 2 9 zh) IZ
theorem Iy : dT 3 3 27 zt 0 27=true:=by decide +kernel
theorem Mf : il 3 3 27 zt:=aQ (dA 3 3 27 zt) Iy
theorem Jv : dT 3 4 81 td 0 32=true:=by decide +kernel
theorem GO : dT 3 4 81 td 32 32=true:=by decide +kernel
theorem Ih : dT 3 4 81 td 64 17=true:=by decide +kernel
theorem LA : il 3 4 81 td:=aQ (aQ (aQ (dA 3 4 81 td) Jv) GO) Ih
theorem JU : dT 3 5 243 jN 0 27=true:=by decide +kernel
theorem GM : dT 3 5 243 jN 27 27=true:=by decide +kernel
theorem Gt : dT 3 5 243 jN 54 27=true:=by decide +kernel
theorem H9 : dT 3 5 243 jN 81 27=true:=by decide +kernel
theorem C6 : dT 3 5 243 jN 108 27=true:=by decide +kernel
theorem Ej : dT 3 5 243 jN 135 27=true:=by decide +kernel
theorem Ep : dT 3 5 243 jN 162 27=true:=by decide +kernel
theorem DR : dT 3 5 243 jN 189 27=true:=by decide +kernel
theorem DE : dT 3 5 243 jN 216 27=true:=by decide +kernel
theorem LI : il 3 5 243 jN:=aQ (aQ (aQ (aQ (aQ (aQ (aQ (aQ (aQ (dA 3 5 243 jN) JU) GM) Gt) H9) C6) Ej) Ep) DR) DE
end Go.Proofs.YthglbncgemdcbaaGreat
