/- InfosetSystematic: the closed facts. -/
import Derived.Test.YtapjcccpokhhhaaGreatRows
import Derived.Test.YtapjcccpokhhhaaGreatG31
namespace Go.Proofs.YtapjcccpokhhhaaGreat
set_option linter.unusedVariables false
set_option linter.unusedSimpArgs false
set_option linter.unusedSectionVars false

/- InfosetSystematic: the closed facts. -/
section
open Go.ChangeShapes Go.WideShapes Go.ChangeAt Go.RowKit
set_option maxRecDepth 100000 in
theorem infSystematic_enter : Tryz.pinned.checked.prog.mayEnter = true := by kernel_rfl
set_option maxRecDepth 100000 in
theorem infSystematic_lift : (Rows.infosetSystematicRow.lifted == Tryz.pinned.checked.prog.liftsFinal) = true := by kernel_rfl
set_option maxRecDepth 100000 in
theorem infSystematic_make : (Tryz.pinned.checked.prog.make == some Rows.infosetSystematicRow.make) = true := by kernel_rfl
set_option maxRecDepth 100000 in
theorem infSystematic_joined : joinedFacts Tryz.pinned.checked.prog 8 Tryz.f8 Rows.infosetSystematicSpec Rows.infosetSystematicRow = true := by
  unfold joinedFacts
  rw [infSystematic_enter, infSystematic_lift, infSystematic_make]
  kernel_rfl
end

end Go.Proofs.YtapjcccpokhhhaaGreat
