import Derived.Test.YthglbncgemdcbaaGreatRows
import Derived.Test.YthglbncgemdcbaaGreatS8
namespace Go.Proofs.YthglbncgemdcbaaGreat
set_option linter.all false
set_option maxRecDepth 100000
open Go.RowKit
section
open Go.ChangeShapes Go.WideShapes Go.ChangeAt Go.RowKit
theorem DM : Tryz.pinned.checked.prog.mayEnter=true:=by kernel_rfl
theorem Ia : (Rows.localityRepairsRow.lifted == Tryz.pinned.checked.prog.liftsFinal)=true:=by kernel_rfl
theorem FZ : (Tryz.pinned.checked.prog.make == some Rows.localityRepairsRow.make)=true:=by kernel_rfl
theorem BV : joinedFacts Tryz.pinned.checked.prog 8 Tryz.f8 Rows.localityRepairsSpec Rows.localityRepairsRow=true:=by unfold joinedFacts;rw [DM,Ia,FZ];kernel_rfl
end
end Go.Proofs.YthglbncgemdcbaaGreat
