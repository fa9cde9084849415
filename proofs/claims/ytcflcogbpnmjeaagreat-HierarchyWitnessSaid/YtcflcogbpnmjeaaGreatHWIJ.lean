/-  -/
import Derived.Test.YtcflcogbpnmjeaaGreatRows
import Derived.Test.YtcflcogbpnmjeaaGreatK18
import Derived.Test.YtcflcogbpnmjeaaGreatHWI5
namespace Go.Proofs.YtcflcogbpnmjeaaGreat
set_option linter.unusedVariables false
set_option linter.unusedSimpArgs false
set_option linter.unusedSectionVars false

section
open Go.ChangeShapes Go.WideShapes Go.ChangeAt Go.RowKit
set_option maxRecDepth 100000 in
theorem hWitness_enter : Tryz.pinned.checked.prog.mayEnter=true:=by kernel_rfl
set_option maxRecDepth 100000 in
theorem hWitness_lift : (Rows.hierarchyWitnessRow.lifted == Tryz.pinned.checked.prog.liftsFinal)=true:=by kernel_rfl
set_option maxRecDepth 100000 in
theorem hWitness_make : (Tryz.pinned.checked.prog.make == some Rows.hierarchyWitnessRow.make)=true:=by kernel_rfl
set_option maxRecDepth 100000 in
theorem hWitness_joined : joinedFacts Tryz.pinned.checked.prog 6 Tryz.f6 Rows.hierarchyWitnessSpec Rows.hierarchyWitnessRow=true:=by
 unfold joinedFacts
 rw [hWitness_enter,hWitness_lift,hWitness_make]
 kernel_rfl
end

end Go.Proofs.YtcflcogbpnmjeaaGreat
