import Derived.Test.YthglbncgemdcbaaGreatS10
namespace Go.Proofs.YthglbncgemdcbaaGreat
set_option linter.all false
set_option maxRecDepth 100000
open Go.RowKit
theorem I6 : dT 2 2 4 AM 0 4=true:=by decide +kernel
theorem LK : il 2 2 4 AM:=aQ (dA 2 2 4 AM) I6
theorem I7 : dT 2 3 8 Ae 0 8=true:=by decide +kernel
theorem LN : il 2 3 8 Ae:=aQ (dA 2 3 8 Ae) I7
theorem I9 : dT 2 4 16 Am 0 16=true:=by decide +kernel
theorem Ly : il 2 4 16 Am:=aQ (dA 2 4 16 Am) I9
theorem Jq : dT 2 5 32 z8 0 32=true:=by decide +kernel
theorem LP : il 2 5 32 z8:=aQ (dA 2 5 32 z8) Jq
theorem Iw : dT 2 6 64 vd 0 32=true:=by decide +kernel
theorem Gp : dT 2 6 64 vd 32 32=true:=by decide +kernel
theorem LY : il 2 6 64 vd:=aQ (aQ (dA 2 6 64 vd) Iw) Gp
theorem It : dT 2 7 128 qn 0 32=true:=by decide +kernel
theorem Gl : dT 2 7 128 qn 32 32=true:=by decide +kernel
theorem GL : dT 2 7 128 qn 64 32=true:=by decide +kernel
theorem GZ : dT 2 7 128 qn 96 32=true:=by decide +kernel
theorem LG : il 2 7 128 qn:=aQ (aQ (aQ (aQ (dA 2 7 128 qn) It) Gl) GL) GZ
theorem J1 : dT 2 8 256 fy 0 16=true:=by decide +kernel
theorem GW : dT 2 8 256 fy 16 16=true:=by decide +kernel
theorem H8 : dT 2 8 256 fy 32 16=true:=by decide +kernel
theorem G9 : dT 2 8 256 fy 48 16=true:=by decide +kernel
theorem GD : dT 2 8 256 fy 64 16=true:=by decide +kernel
theorem FY : dT 2 8 256 fy 80 16=true:=by decide +kernel
theorem F1 : dT 2 8 256 fy 96 16=true:=by decide +kernel
theorem C9 : dT 2 8 256 fy 112 16=true:=by decide +kernel
theorem D7 : dT 2 8 256 fy 128 16=true:=by decide +kernel
theorem Dj : dT 2 8 256 fy 144 16=true:=by decide +kernel
theorem Dk : dT 2 8 256 fy 160 16=true:=by decide +kernel
theorem C7 : dT 2 8 256 fy 176 16=true:=by decide +kernel
theorem DC : dT 2 8 256 fy 192 16=true:=by decide +kernel
theorem DP : dT 2 8 256 fy 208 16=true:=by decide +kernel
theorem Eo : dT 2 8 256 fy 224 16=true:=by decide +kernel
theorem C4 : dT 2 8 256 fy 240 16=true:=by decide +kernel
theorem L4 : il 2 8 256 fy:=aQ (aQ (aQ (aQ (aQ (aQ (aQ (aQ (aQ (aQ (aQ (aQ (aQ (aQ (aQ (aQ (dA 2 8 256 fy) J1) GW) H8) G9) GD) FY) F1) C9) D7) Dj) Dk) C7) DC) DP) Eo) C4
end Go.Proofs.YthglbncgemdcbaaGreat
