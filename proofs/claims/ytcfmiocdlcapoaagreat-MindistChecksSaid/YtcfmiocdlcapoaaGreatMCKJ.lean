/-  -/
import Derived.Test.YtcfmiocdlcapoaaGreatRows
import Derived.Test.YtcfmiocdlcapoaaGreatK16
import Derived.Test.YtcfmiocdlcapoaaGreatMCK2
namespace Go.Proofs.YtcfmiocdlcapoaaGreat
set_option linter.unusedVariables false
set_option linter.unusedSimpArgs false
set_option linter.unusedSectionVars false

section
set_option maxRecDepth 100000

open Go.ChangeShapes Go.WideShapes Go.ChangeAt Go.RowKit
theorem mChecks_enter : Tryz.pinned.checked.prog.mayEnter=true:=by kernel_rfl
theorem mChecks_lift : (Rows.mindistChecksRow.lifted == Tryz.pinned.checked.prog.liftsFinal)=true:=by kernel_rfl
theorem mChecks_make : (Tryz.pinned.checked.prog.make == some Rows.mindistChecksRow.make)=true:=by kernel_rfl
theorem mChecks_joined : joinedFacts Tryz.pinned.checked.prog 5 Tryz.f5 Rows.mindistChecksSpec Rows.mindistChecksRow=true:=by
 unfold joinedFacts
 rw [mChecks_enter,mChecks_lift,mChecks_make]
 kernel_rfl
end

end Go.Proofs.YtcfmiocdlcapoaaGreat
