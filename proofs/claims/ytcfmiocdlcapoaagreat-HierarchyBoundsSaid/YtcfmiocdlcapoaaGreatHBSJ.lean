import Derived.Test.YtcfmiocdlcapoaaGreatRows
import Derived.Test.YtcfmiocdlcapoaaGreatHBS20
namespace Go.Proofs.YtcfmiocdlcapoaaGreat
set_option linter.all false
set_option maxRecDepth 100000
open Go.RowKit
section
open Go.ChangeShapes Go.WideShapes Go.ChangeAt Go.RowKit
theorem uA : Tryz.pinned.checked.prog.mayEnter=true:=by kernel_rfl
theorem xd : (Rows.hierarchyBoundsRow.lifted == Tryz.pinned.checked.prog.liftsFinal)=true:=by kernel_rfl
theorem xY : (Tryz.pinned.checked.prog.make == some Rows.hierarchyBoundsRow.make)=true:=by kernel_rfl
theorem rL : joinedFacts Tryz.pinned.checked.prog 11 Tryz.f11 Rows.hierarchyBoundsSpec Rows.hierarchyBoundsRow=true:=by unfold joinedFacts;rw [uA,xd,xY];kernel_rfl
end
end Go.Proofs.YtcfmiocdlcapoaaGreat
