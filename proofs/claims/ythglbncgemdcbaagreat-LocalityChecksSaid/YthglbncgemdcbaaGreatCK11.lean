import Derived.Test.YthglbncgemdcbaaGreatCK9
namespace Go.Proofs.YthglbncgemdcbaaGreat
set_option linter.all false
set_option maxRecDepth 100000
open Go.RowKit
theorem DW : dj 3 2 9 uN 0 9=true:=by decide +kernel
theorem IZ : eW 3 2 9 uN:=aG (cI 3 2 9 uN) DW
theorem Fb : dj 3 3 27 vN 0 27=true:=by decide +kernel
theorem IX : eW 3 3 27 vN:=aG (cI 3 3 27 vN) Fb
theorem EW : dj 3 4 81 mQ 0 32=true:=by decide +kernel
theorem CE : dj 3 4 81 mQ 32 32=true:=by decide +kernel
theorem B7 : dj 3 4 81 mQ 64 17=true:=by decide +kernel
theorem Ix : eW 3 4 81 mQ:=aG (aG (aG (cI 3 4 81 mQ) EW) CE) B7
theorem Ej : dj 3 5 243 gh 0 27=true:=by decide +kernel
theorem B2 : dj 3 5 243 gh 27 27=true:=by decide +kernel
theorem BZ : dj 3 5 243 gh 54 27=true:=by decide +kernel
theorem C5 : dj 3 5 243 gh 81 27=true:=by decide +kernel
theorem zW : dj 3 5 243 gh 108 27=true:=by decide +kernel
theorem yZ : dj 3 5 243 gh 135 27=true:=by decide +kernel
theorem Ao : dj 3 5 243 gh 162 27=true:=by decide +kernel
theorem zY : dj 3 5 243 gh 189 27=true:=by decide +kernel
theorem zd : dj 3 5 243 gh 216 27=true:=by decide +kernel
theorem Im : eW 3 5 243 gh:=aG (aG (aG (aG (aG (aG (aG (aG (aG (cI 3 5 243 gh) Ej) B2) BZ) C5) zW) yZ) Ao) zY) zd
end Go.Proofs.YthglbncgemdcbaaGreat
