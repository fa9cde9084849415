/- ExclusionSound: the closed facts. -/
import Derived.Test.YtapjcccpokhhhaaGreatRows
import Derived.Test.YtapjcccpokhhhaaGreatG30
namespace Go.Proofs.YtapjcccpokhhhaaGreat
set_option linter.unusedVariables false
set_option linter.unusedSimpArgs false
set_option linter.unusedSectionVars false

/- ExclusionSound: the closed facts. -/
section
open Go.ChangeShapes Go.WideShapes Go.ChangeAt Go.RowKit
set_option maxRecDepth 100000 in
theorem exSound_enter : Tryz.pinned.checked.prog.mayEnter = true := by kernel_rfl
set_option maxRecDepth 100000 in
theorem exSound_lift : (Rows.exclusionSoundRow.lifted == Tryz.pinned.checked.prog.liftsFinal) = true := by kernel_rfl
set_option maxRecDepth 100000 in
theorem exSound_make : (Tryz.pinned.checked.prog.make == some Rows.exclusionSoundRow.make) = true := by kernel_rfl
set_option maxRecDepth 100000 in
theorem exSound_joined : joinedFacts Tryz.pinned.checked.prog 9 Tryz.f9 Rows.exclusionSoundSpec Rows.exclusionSoundRow = true := by
  unfold joinedFacts
  rw [exSound_enter, exSound_lift, exSound_make]
  kernel_rfl
end

end Go.Proofs.YtapjcccpokhhhaaGreat
