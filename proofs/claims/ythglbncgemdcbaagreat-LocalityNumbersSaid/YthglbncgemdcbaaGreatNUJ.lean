import Derived.Test.YthglbncgemdcbaaGreatRows
import Derived.Test.YthglbncgemdcbaaGreatS8
namespace Go.Proofs.YthglbncgemdcbaaGreat
set_option linter.all false
set_option maxRecDepth 100000
open Go.RowKit
section
open Go.ChangeShapes Go.WideShapes Go.ChangeAt Go.RowKit
theorem B8 : Tryz.pinned.checked.prog.mayEnter=true:=by kernel_rfl
theorem Ed : (Rows.localityNumbersRow.lifted == Tryz.pinned.checked.prog.liftsFinal)=true:=by kernel_rfl
theorem Em : (Tryz.pinned.checked.prog.make == some Rows.localityNumbersRow.make)=true:=by kernel_rfl
theorem AI : joinedFacts Tryz.pinned.checked.prog 4 Tryz.f4 Rows.localityNumbersSpec Rows.localityNumbersRow=true:=by unfold joinedFacts;rw [B8,Ed,Em];kernel_rfl
end
end Go.Proofs.YthglbncgemdcbaaGreat
