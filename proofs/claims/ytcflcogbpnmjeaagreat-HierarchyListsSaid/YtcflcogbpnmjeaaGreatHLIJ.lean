/-  -/
import Derived.Test.YtcflcogbpnmjeaaGreatRows
import Derived.Test.YtcflcogbpnmjeaaGreatK18
import Derived.Test.YtcflcogbpnmjeaaGreatHLI1
namespace Go.Proofs.YtcflcogbpnmjeaaGreat
set_option linter.unusedVariables false
set_option linter.unusedSimpArgs false
set_option linter.unusedSectionVars false

section
open Go.ChangeShapes Go.WideShapes Go.ChangeAt Go.RowKit
set_option maxRecDepth 100000 in
theorem hLists_enter : Tryz.pinned.checked.prog.mayEnter=true:=by kernel_rfl
set_option maxRecDepth 100000 in
theorem hLists_lift : (Rows.hierarchyListsRow.lifted == Tryz.pinned.checked.prog.liftsFinal)=true:=by kernel_rfl
set_option maxRecDepth 100000 in
theorem hLists_make : (Tryz.pinned.checked.prog.make == some Rows.hierarchyListsRow.make)=true:=by kernel_rfl
set_option maxRecDepth 100000 in
theorem hLists_joined : joinedFacts Tryz.pinned.checked.prog 7 Tryz.f7 Rows.hierarchyListsSpec Rows.hierarchyListsRow=true:=by
 unfold joinedFacts
 rw [hLists_enter,hLists_lift,hLists_make]
 kernel_rfl
end

end Go.Proofs.YtcflcogbpnmjeaaGreat
