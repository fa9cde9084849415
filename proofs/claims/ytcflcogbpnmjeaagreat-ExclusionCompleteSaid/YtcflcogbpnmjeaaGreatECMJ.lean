/- ExclusionComplete: the closed facts. -/
import Derived.Test.YtcflcogbpnmjeaaGreatRows
import Derived.Test.YtcflcogbpnmjeaaGreatK37
namespace Go.Proofs.YtcflcogbpnmjeaaGreat
set_option linter.unusedVariables false
set_option linter.unusedSimpArgs false
set_option linter.unusedSectionVars false

/- ExclusionComplete: the closed facts. -/
section
open Go.ChangeShapes Go.WideShapes Go.ChangeAt Go.RowKit
set_option maxRecDepth 100000 in
theorem exComplete_enter : Tryz.pinned.checked.prog.mayEnter = true := by kernel_rfl
set_option maxRecDepth 100000 in
theorem exComplete_lift : (Rows.exclusionCompleteRow.lifted == Tryz.pinned.checked.prog.liftsFinal) = true := by kernel_rfl
set_option maxRecDepth 100000 in
theorem exComplete_make : (Tryz.pinned.checked.prog.make == some Rows.exclusionCompleteRow.make) = true := by kernel_rfl
set_option maxRecDepth 100000 in
theorem exComplete_joined : joinedFacts Tryz.pinned.checked.prog 3 Tryz.f3 Rows.exclusionCompleteSpec Rows.exclusionCompleteRow = true := by
  unfold joinedFacts
  rw [exComplete_enter, exComplete_lift, exComplete_make]
  kernel_rfl
end

end Go.Proofs.YtcflcogbpnmjeaaGreat
