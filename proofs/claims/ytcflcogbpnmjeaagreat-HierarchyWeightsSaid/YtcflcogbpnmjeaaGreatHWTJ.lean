/-  -/
import Derived.Test.YtcflcogbpnmjeaaGreatRows
import Derived.Test.YtcflcogbpnmjeaaGreatK18
import Derived.Test.YtcflcogbpnmjeaaGreatHWT5
namespace Go.Proofs.YtcflcogbpnmjeaaGreat
set_option linter.unusedVariables false
set_option linter.unusedSimpArgs false
set_option linter.unusedSectionVars false

section
open Go.ChangeShapes Go.WideShapes Go.ChangeAt Go.RowKit
set_option maxRecDepth 100000 in
theorem hWeights_enter : Tryz.pinned.checked.prog.mayEnter=true:=by kernel_rfl
set_option maxRecDepth 100000 in
theorem hWeights_lift : (Rows.hierarchyWeightsRow.lifted == Tryz.pinned.checked.prog.liftsFinal)=true:=by kernel_rfl
set_option maxRecDepth 100000 in
theorem hWeights_make : (Tryz.pinned.checked.prog.make == some Rows.hierarchyWeightsRow.make)=true:=by kernel_rfl
set_option maxRecDepth 100000 in
theorem hWeights_joined : joinedFacts Tryz.pinned.checked.prog 5 Tryz.f5 Rows.hierarchyWeightsSpec Rows.hierarchyWeightsRow=true:=by
 unfold joinedFacts
 rw [hWeights_enter,hWeights_lift,hWeights_make]
 kernel_rfl
end

end Go.Proofs.YtcflcogbpnmjeaaGreat
