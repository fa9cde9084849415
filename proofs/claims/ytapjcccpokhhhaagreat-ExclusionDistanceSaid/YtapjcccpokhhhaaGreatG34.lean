/- ExclusionDistance: the closed facts. -/
import Derived.Test.YtapjcccpokhhhaaGreatRows
import Derived.Test.YtapjcccpokhhhaaGreatG29
namespace Go.Proofs.YtapjcccpokhhhaaGreat
set_option linter.unusedVariables false
set_option linter.unusedSimpArgs false
set_option linter.unusedSectionVars false

/- ExclusionDistance: the closed facts. -/
section
open Go.ChangeShapes Go.WideShapes Go.ChangeAt Go.RowKit
set_option maxRecDepth 100000 in
theorem exDistance_enter : Tryz.pinned.checked.prog.mayEnter = true := by kernel_rfl
set_option maxRecDepth 100000 in
theorem exDistance_lift : (Rows.exclusionDistanceRow.lifted == Tryz.pinned.checked.prog.liftsFinal) = true := by kernel_rfl
set_option maxRecDepth 100000 in
theorem exDistance_make : (Tryz.pinned.checked.prog.make == some Rows.exclusionDistanceRow.make) = true := by kernel_rfl
set_option maxRecDepth 100000 in
theorem exDistance_joined : joinedFacts Tryz.pinned.checked.prog 5 Tryz.f5 Rows.exclusionDistanceSpec Rows.exclusionDistanceRow = true := by
  unfold joinedFacts
  rw [exDistance_enter, exDistance_lift, exDistance_make]
  kernel_rfl
end

end Go.Proofs.YtapjcccpokhhhaaGreat
