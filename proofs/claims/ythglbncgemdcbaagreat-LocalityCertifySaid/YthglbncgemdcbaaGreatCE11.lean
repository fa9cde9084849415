import Derived.Test.YthglbncgemdcbaaGreatCE9
namespace Go.Proofs.YthglbncgemdcbaaGreat
set_option linter.all false
set_option maxRecDepth 100000
open Go.RowKit
theorem Fe:dt 3 2 9 wq 0 9=true:=by decide +kernel
theorem JH:fs 3 2 9 wq:=aH (cX 3 2 9 wq) Fe
theorem Ga:dt 3 3 27 wU 0 27=true:=by decide +kernel
theorem JK:fs 3 3 27 wU:=aH (cX 3 3 27 wU) Ga
theorem Ge:dt 3 4 81 oK 0 32=true:=by decide +kernel
theorem Ef:dt 3 4 81 oK 32 32=true:=by decide +kernel
theorem C4:dt 3 4 81 oK 64 17=true:=by decide +kernel
theorem Jv:fs 3 4 81 oK:=aH (aH (aH (cX 3 4 81 oK) Ge) Ef) C4
theorem Gx:dt 3 5 243 gI 0 27=true:=by decide +kernel
theorem DJ:dt 3 5 243 gI 27 27=true:=by decide +kernel
theorem DZ:dt 3 5 243 gI 54 27=true:=by decide +kernel
theorem De:dt 3 5 243 gI 81 27=true:=by decide +kernel
theorem Bq:dt 3 5 243 gI 108 27=true:=by decide +kernel
theorem Ax:dt 3 5 243 gI 135 27=true:=by decide +kernel
theorem Aa:dt 3 5 243 gI 162 27=true:=by decide +kernel
theorem Bp:dt 3 5 243 gI 189 27=true:=by decide +kernel
theorem A5:dt 3 5 243 gI 216 27=true:=by decide +kernel
theorem JA:fs 3 5 243 gI:=aH (aH (aH (aH (aH (aH (aH (aH (aH (cX 3 5 243 gI) Gx) DJ) DZ) De) Bq) Ax) Aa) Bp) A5
end Go.Proofs.YthglbncgemdcbaaGreat
