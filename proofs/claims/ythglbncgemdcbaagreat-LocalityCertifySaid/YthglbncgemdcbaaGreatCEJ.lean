import Derived.Test.YthglbncgemdcbaaGreatRows
import Derived.Test.YthglbncgemdcbaaGreatCE16
namespace Go.Proofs.YthglbncgemdcbaaGreat
set_option linter.all false
set_option maxRecDepth 100000
open Go.RowKit
section
open Go.ChangeShapes Go.WideShapes Go.ChangeAt Go.RowKit
theorem xY : Tryz.pinned.checked.prog.mayEnter=true:=by kernel_rfl
theorem AF : (Rows.localityCertifyRow.lifted == Tryz.pinned.checked.prog.liftsFinal)=true:=by kernel_rfl
theorem Aw : (Tryz.pinned.checked.prog.make == some Rows.localityCertifyRow.make)=true:=by kernel_rfl
theorem wW : joinedFacts Tryz.pinned.checked.prog 6 Tryz.f6 Rows.localityCertifySpec Rows.localityCertifyRow=true:=by unfold joinedFacts;rw [xY,AF,Aw];kernel_rfl
end
end Go.Proofs.YthglbncgemdcbaaGreat
