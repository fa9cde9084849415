import Derived.Test.YtjfiflldinnhmaaGreatRows
import Derived.Test.YtjfiflldinnhmaaGreatHSO18
namespace Go.Proofs.YtjfiflldinnhmaaGreat
set_option linter.all false
set_option maxRecDepth 100000
open Go.RowKit
section
open Go.ChangeShapes Go.WideShapes Go.ChangeAt Go.RowKit
theorem sq : Tryz.pinned.checked.prog.mayEnter=true:=by kernel_rfl
theorem u0 : (Rows.hierarchySoundRow.lifted == Tryz.pinned.checked.prog.liftsFinal)=true:=by kernel_rfl
theorem tU : (Tryz.pinned.checked.prog.make == some Rows.hierarchySoundRow.make)=true:=by kernel_rfl
theorem pH : joinedFacts Tryz.pinned.checked.prog 3 Tryz.f3 Rows.hierarchySoundSpec Rows.hierarchySoundRow=true:=by unfold joinedFacts;rw [sq,u0,tU];kernel_rfl
end
end Go.Proofs.YtjfiflldinnhmaaGreat
