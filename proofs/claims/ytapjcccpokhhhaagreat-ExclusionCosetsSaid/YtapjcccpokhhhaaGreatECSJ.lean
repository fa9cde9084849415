/- ExclusionCosets: the closed facts. -/
import Derived.Test.YtapjcccpokhhhaaGreatRows
import Derived.Test.YtapjcccpokhhhaaGreatK37
namespace Go.Proofs.YtapjcccpokhhhaaGreat
set_option linter.unusedVariables false
set_option linter.unusedSimpArgs false
set_option linter.unusedSectionVars false

/- ExclusionCosets: the closed facts. -/
section
open Go.ChangeShapes Go.WideShapes Go.ChangeAt Go.RowKit
set_option maxRecDepth 100000 in
theorem exCosets_enter : Tryz.pinned.checked.prog.mayEnter = true := by kernel_rfl
set_option maxRecDepth 100000 in
theorem exCosets_lift : (Rows.exclusionCosetsRow.lifted == Tryz.pinned.checked.prog.liftsFinal) = true := by kernel_rfl
set_option maxRecDepth 100000 in
theorem exCosets_make : (Tryz.pinned.checked.prog.make == some Rows.exclusionCosetsRow.make) = true := by kernel_rfl
set_option maxRecDepth 100000 in
theorem exCosets_joined : joinedFacts Tryz.pinned.checked.prog 7 Tryz.f7 Rows.exclusionCosetsSpec Rows.exclusionCosetsRow = true := by
  unfold joinedFacts
  rw [exCosets_enter, exCosets_lift, exCosets_make]
  kernel_rfl
end

end Go.Proofs.YtapjcccpokhhhaaGreat
