import Derived.Test.YthglbncgemdcbaaGreatRows
import Derived.Test.YthglbncgemdcbaaGreatHE8
namespace Go.Proofs.YthglbncgemdcbaaGreat
set_option linter.all false
set_option maxRecDepth 100000
open Go.RowKit
section
open Go.ChangeShapes Go.WideShapes Go.ChangeAt Go.RowKit
theorem vU : Tryz.pinned.checked.prog.mayEnter=true:=by kernel_rfl
theorem xP : (Rows.localityHelpersRow.lifted == Tryz.pinned.checked.prog.liftsFinal)=true:=by kernel_rfl
theorem xC : (Tryz.pinned.checked.prog.make == some Rows.localityHelpersRow.make)=true:=by kernel_rfl
theorem uD : joinedFacts Tryz.pinned.checked.prog 3 Tryz.f3 Rows.localityHelpersSpec Rows.localityHelpersRow=true:=by unfold joinedFacts;rw [vU,xP,xC];kernel_rfl
end
end Go.Proofs.YthglbncgemdcbaaGreat
