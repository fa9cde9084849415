import Derived.Test.YthglbncgemdcbaaGreatRows
import Derived.Test.YthglbncgemdcbaaGreatCK16
namespace Go.Proofs.YthglbncgemdcbaaGreat
set_option linter.all false
set_option maxRecDepth 100000
open Go.RowKit
section
open Go.ChangeShapes Go.WideShapes Go.ChangeAt Go.RowKit
theorem Ai : Tryz.pinned.checked.prog.mayEnter=true:=by kernel_rfl
theorem Dm : (Rows.localityChecksRow.lifted == Tryz.pinned.checked.prog.liftsFinal)=true:=by kernel_rfl
theorem C4 : (Tryz.pinned.checked.prog.make == some Rows.localityChecksRow.make)=true:=by kernel_rfl
theorem xR : joinedFacts Tryz.pinned.checked.prog 7 Tryz.f7 Rows.localityChecksSpec Rows.localityChecksRow=true:=by unfold joinedFacts;rw [Ai,Dm,C4];kernel_rfl
end
end Go.Proofs.YthglbncgemdcbaaGreat
