import Derived.Test.YthglbncgemdcbaaGreatRows
import Derived.Test.YthglbncgemdcbaaGreatLE1
namespace Go.Proofs.YthglbncgemdcbaaGreat
set_option linter.all false
set_option maxRecDepth 100000
open Go.RowKit
section
open Go.ChangeShapes Go.WideShapes Go.ChangeAt Go.RowKit
theorem Ee : Tryz.pinned.checked.prog.mayEnter=true:=by kernel_rfl
theorem Gj : (Rows.localityLeastRow.lifted == Tryz.pinned.checked.prog.liftsFinal)=true:=by kernel_rfl
theorem GP : (Tryz.pinned.checked.prog.make == some Rows.localityLeastRow.make)=true:=by kernel_rfl
theorem Cr : joinedFacts Tryz.pinned.checked.prog 9 Tryz.f9 Rows.localityLeastSpec Rows.localityLeastRow=true:=by unfold joinedFacts;rw [Ee,Gj,GP];kernel_rfl
end
end Go.Proofs.YthglbncgemdcbaaGreat
