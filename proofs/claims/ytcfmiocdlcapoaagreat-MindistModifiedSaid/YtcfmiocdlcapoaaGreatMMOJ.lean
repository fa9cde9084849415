import Derived.Test.YtcfmiocdlcapoaaGreatRows
import Derived.Test.YtcfmiocdlcapoaaGreatMMO2
namespace Go.Proofs.YtcfmiocdlcapoaaGreat
set_option linter.unusedVariables false
set_option linter.unusedSimpArgs false
set_option linter.unusedSectionVars false
set_option maxRecDepth 100000
open Go.RowKit
section
open Go.ChangeShapes Go.WideShapes Go.ChangeAt Go.RowKit
theorem AA : Tryz.pinned.checked.prog.mayEnter=true:=by kernel_rfl
theorem CU : (Rows.mindistModifiedRow.lifted == Tryz.pinned.checked.prog.liftsFinal)=true:=by kernel_rfl
theorem CT : (Tryz.pinned.checked.prog.make == some Rows.mindistModifiedRow.make)=true:=by kernel_rfl
theorem y9 : joinedFacts Tryz.pinned.checked.prog 10 Tryz.f10 Rows.mindistModifiedSpec Rows.mindistModifiedRow=true:=by
 unfold joinedFacts
 rw [AA,CU,CT]
 kernel_rfl
end
end Go.Proofs.YtcfmiocdlcapoaaGreat
