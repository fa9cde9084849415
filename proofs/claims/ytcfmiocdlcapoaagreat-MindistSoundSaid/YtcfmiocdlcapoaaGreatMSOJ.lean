/-  -/
import Derived.Test.YtcfmiocdlcapoaaGreatRows
import Derived.Test.YtcfmiocdlcapoaaGreatK16
import Derived.Test.YtcfmiocdlcapoaaGreatMSO3
namespace Go.Proofs.YtcfmiocdlcapoaaGreat
set_option linter.unusedVariables false
set_option linter.unusedSimpArgs false
set_option linter.unusedSectionVars false

section
set_option maxRecDepth 100000

open Go.ChangeShapes Go.WideShapes Go.ChangeAt Go.RowKit
theorem mSound_enter : Tryz.pinned.checked.prog.mayEnter=true:=by kernel_rfl
theorem mSound_lift : (Rows.mindistSoundRow.lifted == Tryz.pinned.checked.prog.liftsFinal)=true:=by kernel_rfl
theorem mSound_make : (Tryz.pinned.checked.prog.make == some Rows.mindistSoundRow.make)=true:=by kernel_rfl
theorem mSound_joined : joinedFacts Tryz.pinned.checked.prog 7 Tryz.f7 Rows.mindistSoundSpec Rows.mindistSoundRow=true:=by
 unfold joinedFacts
 rw [mSound_enter,mSound_lift,mSound_make]
 kernel_rfl
end

end Go.Proofs.YtcfmiocdlcapoaaGreat
