import Derived.Test.YthglbncgemdcbaaGreatRows
import Derived.Test.YthglbncgemdcbaaGreatS8
namespace Go.Proofs.YthglbncgemdcbaaGreat
set_option linter.all false
set_option maxRecDepth 100000
open Go.RowKit
section
open Go.ChangeShapes Go.WideShapes Go.ChangeAt Go.RowKit
theorem gA : Tryz.pinned.checked.prog.mayEnter=true:=by kernel_rfl
theorem y6 : (Rows.localityTamoBargRow.lifted == Tryz.pinned.checked.prog.liftsFinal)=true:=by kernel_rfl
theorem tl : (Tryz.pinned.checked.prog.make == some Rows.localityTamoBargRow.make)=true:=by kernel_rfl
theorem e8 : joinedFacts Tryz.pinned.checked.prog 5 Tryz.f5 Rows.localityTamoBargSpec Rows.localityTamoBargRow=true:=by unfold joinedFacts;rw [gA,y6,tl];kernel_rfl
end
end Go.Proofs.YthglbncgemdcbaaGreat
