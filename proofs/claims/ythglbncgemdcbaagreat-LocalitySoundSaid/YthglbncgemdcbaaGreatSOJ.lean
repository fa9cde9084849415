import Derived.Test.YthglbncgemdcbaaGreatRows
import Derived.Test.YthglbncgemdcbaaGreatSO1
namespace Go.Proofs.YthglbncgemdcbaaGreat
set_option linter.all false
set_option maxRecDepth 100000
open Go.RowKit
section
open Go.ChangeShapes Go.WideShapes Go.ChangeAt Go.RowKit
theorem nq : Tryz.pinned.checked.prog.mayEnter=true:=by kernel_rfl
theorem y6 : (Rows.localitySoundRow.lifted == Tryz.pinned.checked.prog.liftsFinal)=true:=by kernel_rfl
theorem zo : (Tryz.pinned.checked.prog.make == some Rows.localitySoundRow.make)=true:=by kernel_rfl
theorem fp : joinedFacts Tryz.pinned.checked.prog 10 Tryz.f10 Rows.localitySoundSpec Rows.localitySoundRow=true:=by unfold joinedFacts;rw [nq,y6,zo];kernel_rfl
end
end Go.Proofs.YthglbncgemdcbaaGreat
