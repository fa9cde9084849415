import Derived.Test.YthglbncgemdcbaaGreatHE10
namespace Go.Proofs.YthglbncgemdcbaaGreat
set_option linter.all false
set_option maxRecDepth 100000
open Go.RowKit
theorem CH : cR 3 2 9 tL 0 9=true:=by decide +kernel
theorem F6 : eE 3 2 9 tL:=aF (bR 3 2 9 tL) CH
theorem Dg : cR 3 3 27 uo 0 27=true:=by decide +kernel
theorem FT : eE 3 3 27 uo:=aF (bR 3 3 27 uo) Dg
theorem De : cR 3 4 81 mg 0 32=true:=by decide +kernel
theorem Au : cR 3 4 81 mg 32 32=true:=by decide +kernel
theorem Bu : cR 3 4 81 mg 64 17=true:=by decide +kernel
theorem FF : eE 3 4 81 mg:=aF (aF (aF (bR 3 4 81 mg) De) Au) Bu
theorem C1 : cR 3 5 243 fJ 0 27=true:=by decide +kernel
theorem AM : cR 3 5 243 fJ 27 27=true:=by decide +kernel
theorem AE : cR 3 5 243 fJ 54 27=true:=by decide +kernel
theorem A7 : cR 3 5 243 fJ 81 27=true:=by decide +kernel
theorem xE : cR 3 5 243 fJ 108 27=true:=by decide +kernel
theorem yw : cR 3 5 243 fJ 135 27=true:=by decide +kernel
theorem xX : cR 3 5 243 fJ 162 27=true:=by decide +kernel
theorem yc : cR 3 5 243 fJ 189 27=true:=by decide +kernel
theorem zh : cR 3 5 243 fJ 216 27=true:=by decide +kernel
theorem Fu : eE 3 5 243 fJ:=aF (aF (aF (aF (aF (aF (aF (aF (aF (bR 3 5 243 fJ) C1) AM) AE) A7) xE) yw) xX) yc) zh
end Go.Proofs.YthglbncgemdcbaaGreat
