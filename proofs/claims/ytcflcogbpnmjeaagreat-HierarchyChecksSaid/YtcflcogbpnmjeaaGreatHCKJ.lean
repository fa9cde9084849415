/-  -/
import Derived.Test.YtcflcogbpnmjeaaGreatRows
import Derived.Test.YtcflcogbpnmjeaaGreatK18
import Derived.Test.YtcflcogbpnmjeaaGreatHCK5
namespace Go.Proofs.YtcflcogbpnmjeaaGreat
set_option linter.unusedVariables false
set_option linter.unusedSimpArgs false
set_option linter.unusedSectionVars false

section
open Go.ChangeShapes Go.WideShapes Go.ChangeAt Go.RowKit
set_option maxRecDepth 100000 in
theorem hChecks_enter : Tryz.pinned.checked.prog.mayEnter=true:=by kernel_rfl
set_option maxRecDepth 100000 in
theorem hChecks_lift : (Rows.hierarchyChecksRow.lifted == Tryz.pinned.checked.prog.liftsFinal)=true:=by kernel_rfl
set_option maxRecDepth 100000 in
theorem hChecks_make : (Tryz.pinned.checked.prog.make == some Rows.hierarchyChecksRow.make)=true:=by kernel_rfl
set_option maxRecDepth 100000 in
theorem hChecks_joined : joinedFacts Tryz.pinned.checked.prog 9 Tryz.f9 Rows.hierarchyChecksSpec Rows.hierarchyChecksRow=true:=by
 unfold joinedFacts
 rw [hChecks_enter,hChecks_lift,hChecks_make]
 kernel_rfl
end

end Go.Proofs.YtcflcogbpnmjeaaGreat
