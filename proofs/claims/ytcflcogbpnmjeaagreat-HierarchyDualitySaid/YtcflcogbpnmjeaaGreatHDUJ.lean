/-  -/
import Derived.Test.YtcflcogbpnmjeaaGreatRows
import Derived.Test.YtcflcogbpnmjeaaGreatK18
import Derived.Test.YtcflcogbpnmjeaaGreatHDU3
namespace Go.Proofs.YtcflcogbpnmjeaaGreat
set_option linter.unusedVariables false
set_option linter.unusedSimpArgs false
set_option linter.unusedSectionVars false

section
open Go.ChangeShapes Go.WideShapes Go.ChangeAt Go.RowKit
set_option maxRecDepth 100000 in
theorem hDuality_enter : Tryz.pinned.checked.prog.mayEnter=true:=by kernel_rfl
set_option maxRecDepth 100000 in
theorem hDuality_lift : (Rows.hierarchyDualityRow.lifted == Tryz.pinned.checked.prog.liftsFinal)=true:=by kernel_rfl
set_option maxRecDepth 100000 in
theorem hDuality_make : (Tryz.pinned.checked.prog.make == some Rows.hierarchyDualityRow.make)=true:=by kernel_rfl
set_option maxRecDepth 100000 in
theorem hDuality_joined : joinedFacts Tryz.pinned.checked.prog 11 Tryz.f11 Rows.hierarchyDualitySpec Rows.hierarchyDualityRow=true:=by
 unfold joinedFacts
 rw [hDuality_enter,hDuality_lift,hDuality_make]
 kernel_rfl
end

end Go.Proofs.YtcflcogbpnmjeaaGreat
