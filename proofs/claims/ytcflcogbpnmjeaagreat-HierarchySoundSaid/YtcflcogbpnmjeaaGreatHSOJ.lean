/-  -/
import Derived.Test.YtcflcogbpnmjeaaGreatRows
import Derived.Test.YtcflcogbpnmjeaaGreatK18
import Derived.Test.YtcflcogbpnmjeaaGreatHSO5
namespace Go.Proofs.YtcflcogbpnmjeaaGreat
set_option linter.unusedVariables false
set_option linter.unusedSimpArgs false
set_option linter.unusedSectionVars false

section
open Go.ChangeShapes Go.WideShapes Go.ChangeAt Go.RowKit
set_option maxRecDepth 100000 in
theorem hSound_enter : Tryz.pinned.checked.prog.mayEnter=true:=by kernel_rfl
set_option maxRecDepth 100000 in
theorem hSound_lift : (Rows.hierarchySoundRow.lifted == Tryz.pinned.checked.prog.liftsFinal)=true:=by kernel_rfl
set_option maxRecDepth 100000 in
theorem hSound_make : (Tryz.pinned.checked.prog.make == some Rows.hierarchySoundRow.make)=true:=by kernel_rfl
set_option maxRecDepth 100000 in
theorem hSound_joined : joinedFacts Tryz.pinned.checked.prog 10 Tryz.f10 Rows.hierarchySoundSpec Rows.hierarchySoundRow=true:=by
 unfold joinedFacts
 rw [hSound_enter,hSound_lift,hSound_make]
 kernel_rfl
end

end Go.Proofs.YtcflcogbpnmjeaaGreat
