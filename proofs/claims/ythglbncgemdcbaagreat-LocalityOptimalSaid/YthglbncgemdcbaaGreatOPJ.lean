import Derived.Test.YthglbncgemdcbaaGreatRows
import Derived.Test.YthglbncgemdcbaaGreatOP1
namespace Go.Proofs.YthglbncgemdcbaaGreat
set_option linter.all false
set_option maxRecDepth 100000
open Go.RowKit
section
open Go.ChangeShapes Go.WideShapes Go.ChangeAt Go.RowKit
theorem y6 : Tryz.pinned.checked.prog.mayEnter=true:=by kernel_rfl
theorem H4 : (Rows.localityOptimalRow.lifted == Tryz.pinned.checked.prog.liftsFinal)=true:=by kernel_rfl
theorem H5 : (Tryz.pinned.checked.prog.make == some Rows.localityOptimalRow.make)=true:=by kernel_rfl
theorem fp : joinedFacts Tryz.pinned.checked.prog 11 Tryz.f11 Rows.localityOptimalSpec Rows.localityOptimalRow=true:=by unfold joinedFacts;rw [y6,H4,H5];kernel_rfl
end
end Go.Proofs.YthglbncgemdcbaaGreat
