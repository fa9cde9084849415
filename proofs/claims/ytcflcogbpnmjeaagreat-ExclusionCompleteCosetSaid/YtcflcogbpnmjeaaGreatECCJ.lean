/- ExclusionCompleteCoset: the closed facts. -/
import Derived.Test.YtcflcogbpnmjeaaGreatRows
import Derived.Test.YtcflcogbpnmjeaaGreatK37
namespace Go.Proofs.YtcflcogbpnmjeaaGreat
set_option linter.unusedVariables false
set_option linter.unusedSimpArgs false
set_option linter.unusedSectionVars false

/- ExclusionCompleteCoset: the closed facts. -/
section
open Go.ChangeShapes Go.WideShapes Go.ChangeAt Go.RowKit
set_option maxRecDepth 100000 in
theorem exCompleteCoset_enter : Tryz.pinned.checked.prog.mayEnter = true := by kernel_rfl
set_option maxRecDepth 100000 in
theorem exCompleteCoset_lift : (Rows.exclusionCompleteCosetRow.lifted == Tryz.pinned.checked.prog.liftsFinal) = true := by kernel_rfl
set_option maxRecDepth 100000 in
theorem exCompleteCoset_make : (Tryz.pinned.checked.prog.make == some Rows.exclusionCompleteCosetRow.make) = true := by kernel_rfl
set_option maxRecDepth 100000 in
theorem exCompleteCoset_joined : joinedFacts Tryz.pinned.checked.prog 4 Tryz.f4 Rows.exclusionCompleteCosetSpec Rows.exclusionCompleteCosetRow = true := by
  unfold joinedFacts
  rw [exCompleteCoset_enter, exCompleteCoset_lift, exCompleteCoset_make]
  kernel_rfl
end

end Go.Proofs.YtcflcogbpnmjeaaGreat
