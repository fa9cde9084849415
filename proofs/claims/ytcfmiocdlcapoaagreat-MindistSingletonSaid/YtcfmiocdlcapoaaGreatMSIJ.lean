/-  -/
import Derived.Test.YtcfmiocdlcapoaaGreatRows
import Derived.Test.YtcfmiocdlcapoaaGreatMSI2
namespace Go.Proofs.YtcfmiocdlcapoaaGreat
set_option linter.unusedVariables false
set_option linter.unusedSimpArgs false
set_option linter.unusedSectionVars false

section
set_option maxRecDepth 100000

open Go.ChangeShapes Go.WideShapes Go.ChangeAt Go.RowKit
theorem mSingle_enter : Tryz.pinned.checked.prog.mayEnter=true:=by kernel_rfl
theorem mSingle_lift : (Rows.mindistSingletonRow.lifted == Tryz.pinned.checked.prog.liftsFinal)=true:=by kernel_rfl
theorem mSingle_make : (Tryz.pinned.checked.prog.make == some Rows.mindistSingletonRow.make)=true:=by kernel_rfl
theorem mSingle_joined : joinedFacts Tryz.pinned.checked.prog 8 Tryz.f8 Rows.mindistSingletonSpec Rows.mindistSingletonRow=true:=by
 unfold joinedFacts
 rw [mSingle_enter,mSingle_lift,mSingle_make]
 kernel_rfl
end

end Go.Proofs.YtcfmiocdlcapoaaGreat
