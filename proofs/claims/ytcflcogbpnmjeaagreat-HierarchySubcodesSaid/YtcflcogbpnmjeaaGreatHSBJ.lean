/-  -/
import Derived.Test.YtcflcogbpnmjeaaGreatRows
import Derived.Test.YtcflcogbpnmjeaaGreatK18
import Derived.Test.YtcflcogbpnmjeaaGreatHSB5
namespace Go.Proofs.YtcflcogbpnmjeaaGreat
set_option linter.unusedVariables false
set_option linter.unusedSimpArgs false
set_option linter.unusedSectionVars false

section
open Go.ChangeShapes Go.WideShapes Go.ChangeAt Go.RowKit
set_option maxRecDepth 100000 in
theorem hSubcodes_enter : Tryz.pinned.checked.prog.mayEnter=true:=by kernel_rfl
set_option maxRecDepth 100000 in
theorem hSubcodes_lift : (Rows.hierarchySubcodesRow.lifted == Tryz.pinned.checked.prog.liftsFinal)=true:=by kernel_rfl
set_option maxRecDepth 100000 in
theorem hSubcodes_make : (Tryz.pinned.checked.prog.make == some Rows.hierarchySubcodesRow.make)=true:=by kernel_rfl
set_option maxRecDepth 100000 in
theorem hSubcodes_joined : joinedFacts Tryz.pinned.checked.prog 12 Tryz.f12 Rows.hierarchySubcodesSpec Rows.hierarchySubcodesRow=true:=by
 unfold joinedFacts
 rw [hSubcodes_enter,hSubcodes_lift,hSubcodes_make]
 kernel_rfl
end

end Go.Proofs.YtcflcogbpnmjeaaGreat
