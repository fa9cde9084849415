/- ExclusionSoundRank: the closed facts. -/
import Derived.Test.YtapjcccpokhhhaaGreatRows
import Derived.Test.YtapjcccpokhhhaaGreatG29
namespace Go.Proofs.YtapjcccpokhhhaaGreat
set_option linter.unusedVariables false
set_option linter.unusedSimpArgs false
set_option linter.unusedSectionVars false

/- ExclusionSoundRank: the closed facts. -/
section
open Go.ChangeShapes Go.WideShapes Go.ChangeAt Go.RowKit
set_option maxRecDepth 100000 in
theorem exSoundRank_enter : Tryz.pinned.checked.prog.mayEnter = true := by kernel_rfl
set_option maxRecDepth 100000 in
theorem exSoundRank_lift : (Rows.exclusionSoundRankRow.lifted == Tryz.pinned.checked.prog.liftsFinal) = true := by kernel_rfl
set_option maxRecDepth 100000 in
theorem exSoundRank_make : (Tryz.pinned.checked.prog.make == some Rows.exclusionSoundRankRow.make) = true := by kernel_rfl
set_option maxRecDepth 100000 in
theorem exSoundRank_joined : joinedFacts Tryz.pinned.checked.prog 11 Tryz.f11 Rows.exclusionSoundRankSpec Rows.exclusionSoundRankRow = true := by
  unfold joinedFacts
  rw [exSoundRank_enter, exSoundRank_lift, exSoundRank_make]
  kernel_rfl
end

end Go.Proofs.YtapjcccpokhhhaaGreat
