/- ExclusionSoundCoset: the closed facts. -/
import Derived.Test.YtapjcccpokhhhaaGreatRows
import Derived.Test.YtapjcccpokhhhaaGreatG31
namespace Go.Proofs.YtapjcccpokhhhaaGreat
set_option linter.unusedVariables false
set_option linter.unusedSimpArgs false
set_option linter.unusedSectionVars false

/- ExclusionSoundCoset: the closed facts. -/
section
open Go.ChangeShapes Go.WideShapes Go.ChangeAt Go.RowKit
set_option maxRecDepth 100000 in
theorem exSoundCoset_enter : Tryz.pinned.checked.prog.mayEnter = true := by kernel_rfl
set_option maxRecDepth 100000 in
theorem exSoundCoset_lift : (Rows.exclusionSoundCosetRow.lifted == Tryz.pinned.checked.prog.liftsFinal) = true := by kernel_rfl
set_option maxRecDepth 100000 in
theorem exSoundCoset_make : (Tryz.pinned.checked.prog.make == some Rows.exclusionSoundCosetRow.make) = true := by kernel_rfl
set_option maxRecDepth 100000 in
theorem exSoundCoset_joined : joinedFacts Tryz.pinned.checked.prog 10 Tryz.f10 Rows.exclusionSoundCosetSpec Rows.exclusionSoundCosetRow = true := by
  unfold joinedFacts
  rw [exSoundCoset_enter, exSoundCoset_lift, exSoundCoset_make]
  kernel_rfl
end

end Go.Proofs.YtapjcccpokhhhaaGreat
