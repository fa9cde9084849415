/- ExclusionBuilds: the closed facts. -/
import Derived.Test.YtapjcccpokhhhaaGreatRows
import Derived.Test.YtapjcccpokhhhaaGreatK37
namespace Go.Proofs.YtapjcccpokhhhaaGreat
set_option linter.unusedVariables false
set_option linter.unusedSimpArgs false
set_option linter.unusedSectionVars false

/- ExclusionBuilds: the closed facts. -/
section
open Go.ChangeShapes Go.WideShapes Go.ChangeAt Go.RowKit
set_option maxRecDepth 100000 in
theorem exBuilds_enter : Tryz.pinned.checked.prog.mayEnter = true := by kernel_rfl
set_option maxRecDepth 100000 in
theorem exBuilds_lift : (Rows.exclusionBuildsRow.lifted == Tryz.pinned.checked.prog.liftsFinal) = true := by kernel_rfl
set_option maxRecDepth 100000 in
theorem exBuilds_make : (Tryz.pinned.checked.prog.make == some Rows.exclusionBuildsRow.make) = true := by kernel_rfl
set_option maxRecDepth 100000 in
theorem exBuilds_joined : joinedFacts Tryz.pinned.checked.prog 4 Tryz.f4 Rows.exclusionBuildsSpec Rows.exclusionBuildsRow = true := by
  unfold joinedFacts
  rw [exBuilds_enter, exBuilds_lift, exBuilds_make]
  kernel_rfl
end

end Go.Proofs.YtapjcccpokhhhaaGreat
