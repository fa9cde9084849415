/- ExclusionCoset: the closed facts. -/
import Derived.Test.YtapjcccpokhhhaaGreatRows
import Derived.Test.YtapjcccpokhhhaaGreatK37
namespace Go.Proofs.YtapjcccpokhhhaaGreat
set_option linter.unusedVariables false
set_option linter.unusedSimpArgs false
set_option linter.unusedSectionVars false

/- ExclusionCoset: the closed facts. -/
section
open Go.ChangeShapes Go.WideShapes Go.ChangeAt Go.RowKit
set_option maxRecDepth 100000 in
theorem exCoset_enter : Tryz.pinned.checked.prog.mayEnter = true := by kernel_rfl
set_option maxRecDepth 100000 in
theorem exCoset_lift : (Rows.exclusionCosetRow.lifted == Tryz.pinned.checked.prog.liftsFinal) = true := by kernel_rfl
set_option maxRecDepth 100000 in
theorem exCoset_make : (Tryz.pinned.checked.prog.make == some Rows.exclusionCosetRow.make) = true := by kernel_rfl
set_option maxRecDepth 100000 in
theorem exCoset_joined : joinedFacts Tryz.pinned.checked.prog 6 Tryz.f6 Rows.exclusionCosetSpec Rows.exclusionCosetRow = true := by
  unfold joinedFacts
  rw [exCoset_enter, exCoset_lift, exCoset_make]
  kernel_rfl
end

end Go.Proofs.YtapjcccpokhhhaaGreat
