/-  -/
import Derived.Test.YtcfmiocdlcapoaaGreatRows
import Derived.Test.YtcfmiocdlcapoaaGreatMEX3
namespace Go.Proofs.YtcfmiocdlcapoaaGreat
set_option linter.unusedVariables false
set_option linter.unusedSimpArgs false
set_option linter.unusedSectionVars false

section
set_option maxRecDepth 100000

open Go.ChangeShapes Go.WideShapes Go.ChangeAt Go.RowKit
theorem mExam_enter : Tryz.pinned.checked.prog.mayEnter=true:=by kernel_rfl
theorem mExam_lift : (Rows.mindistExaminedRow.lifted == Tryz.pinned.checked.prog.liftsFinal)=true:=by kernel_rfl
theorem mExam_make : (Tryz.pinned.checked.prog.make == some Rows.mindistExaminedRow.make)=true:=by kernel_rfl
theorem mExam_joined : joinedFacts Tryz.pinned.checked.prog 6 Tryz.f6 Rows.mindistExaminedSpec Rows.mindistExaminedRow=true:=by
 unfold joinedFacts
 rw [mExam_enter,mExam_lift,mExam_make]
 kernel_rfl
end

end Go.Proofs.YtcfmiocdlcapoaaGreat
