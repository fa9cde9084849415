/-  -/
import Derived.Test.YtcfmiocdlcapoaaGreatRows
import Derived.Test.YtcfmiocdlcapoaaGreatMEN3
namespace Go.Proofs.YtcfmiocdlcapoaaGreat
set_option linter.unusedVariables false
set_option linter.unusedSimpArgs false
set_option linter.unusedSectionVars false

section
set_option maxRecDepth 100000

open Go.ChangeShapes Go.WideShapes Go.ChangeAt Go.RowKit
theorem mEnum_enter : Tryz.pinned.checked.prog.mayEnter=true:=by kernel_rfl
theorem mEnum_lift : (Rows.mindistEnumeratesRow.lifted == Tryz.pinned.checked.prog.liftsFinal)=true:=by kernel_rfl
theorem mEnum_make : (Tryz.pinned.checked.prog.make == some Rows.mindistEnumeratesRow.make)=true:=by kernel_rfl
theorem mEnum_joined : joinedFacts Tryz.pinned.checked.prog 9 Tryz.f9 Rows.mindistEnumeratesSpec Rows.mindistEnumeratesRow=true:=by
 unfold joinedFacts
 rw [mEnum_enter,mEnum_lift,mEnum_make]
 kernel_rfl
end

end Go.Proofs.YtcfmiocdlcapoaaGreat
