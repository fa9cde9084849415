import Derived.Test.YtcfmiocdlcapoaaGreatHBS11
namespace Go.Proofs.YtcfmiocdlcapoaaGreat
set_option linter.all false
set_option maxRecDepth 100000
open Go.RowKit
theorem GC : dg 3 2 9 wG 0 9=true:=by decide +kernel
theorem J9 : fw 3 2 9 wG:=aG (cB 3 2 9 wG) GC
theorem GI : dg 3 3 27 xr 0 27=true:=by decide +kernel
theorem Km : fw 3 3 27 xr:=aG (cB 3 3 27 xr) GI
theorem FZ : dg 3 4 81 oO 0 32=true:=by decide +kernel
theorem ET : dg 3 4 81 oO 32 32=true:=by decide +kernel
theorem DY : dg 3 4 81 oO 64 17=true:=by decide +kernel
theorem KT : fw 3 4 81 oO:=aG (aG (aG (cB 3 4 81 oO) FZ) ET) DY
theorem GL : dg 3 5 243 gX 0 27=true:=by decide +kernel
theorem DW : dg 3 5 243 gX 27 27=true:=by decide +kernel
theorem DI : dg 3 5 243 gX 54 27=true:=by decide +kernel
theorem DZ : dg 3 5 243 gX 81 27=true:=by decide +kernel
theorem Cy : dg 3 5 243 gX 108 27=true:=by decide +kernel
theorem Cm : dg 3 5 243 gX 135 27=true:=by decide +kernel
theorem Bi : dg 3 5 243 gX 162 27=true:=by decide +kernel
theorem Cc : dg 3 5 243 gX 189 27=true:=by decide +kernel
theorem Bn : dg 3 5 243 gX 216 27=true:=by decide +kernel
theorem J8 : fw 3 5 243 gX:=aG (aG (aG (aG (aG (aG (aG (aG (aG (cB 3 5 243 gX) GL) DW) DI) DZ) Cy) Cm) Bi) Cc) Bn
end Go.Proofs.YtcfmiocdlcapoaaGreat
