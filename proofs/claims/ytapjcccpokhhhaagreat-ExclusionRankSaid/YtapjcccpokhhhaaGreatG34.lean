/- ExclusionRank: the closed facts. -/
import Derived.Test.YtapjcccpokhhhaaGreatRows
import Derived.Test.YtapjcccpokhhhaaGreatG29
namespace Go.Proofs.YtapjcccpokhhhaaGreat
set_option linter.unusedVariables false
set_option linter.unusedSimpArgs false
set_option linter.unusedSectionVars false

/- ExclusionRank: the closed facts. -/
section
open Go.ChangeShapes Go.WideShapes Go.ChangeAt Go.RowKit
set_option maxRecDepth 100000 in
theorem exRank_enter : Tryz.pinned.checked.prog.mayEnter = true := by kernel_rfl
set_option maxRecDepth 100000 in
theorem exRank_lift : (Rows.exclusionRankRow.lifted == Tryz.pinned.checked.prog.liftsFinal) = true := by kernel_rfl
set_option maxRecDepth 100000 in
theorem exRank_make : (Tryz.pinned.checked.prog.make == some Rows.exclusionRankRow.make) = true := by kernel_rfl
set_option maxRecDepth 100000 in
theorem exRank_joined : joinedFacts Tryz.pinned.checked.prog 3 Tryz.f3 Rows.exclusionRankSpec Rows.exclusionRankRow = true := by
  unfold joinedFacts
  rw [exRank_enter, exRank_lift, exRank_make]
  kernel_rfl
end

end Go.Proofs.YtapjcccpokhhhaaGreat
