/-  -/
import Derived.Test.YtcflcogbpnmjeaaGreatRows
import Derived.Test.YtcflcogbpnmjeaaGreatK18
import Derived.Test.YtcflcogbpnmjeaaGreatHCE5
namespace Go.Proofs.YtcflcogbpnmjeaaGreat
set_option linter.unusedVariables false
set_option linter.unusedSimpArgs false
set_option linter.unusedSectionVars false

section
open Go.ChangeShapes Go.WideShapes Go.ChangeAt Go.RowKit
set_option maxRecDepth 100000 in
theorem hCertifyLaw_enter : Tryz.pinned.checked.prog.mayEnter=true:=by kernel_rfl
set_option maxRecDepth 100000 in
theorem hCertifyLaw_lift : (Rows.hierarchyCertifyRow.lifted == Tryz.pinned.checked.prog.liftsFinal)=true:=by kernel_rfl
set_option maxRecDepth 100000 in
theorem hCertifyLaw_make : (Tryz.pinned.checked.prog.make == some Rows.hierarchyCertifyRow.make)=true:=by kernel_rfl
set_option maxRecDepth 100000 in
theorem hCertifyLaw_joined : joinedFacts Tryz.pinned.checked.prog 8 Tryz.f8 Rows.hierarchyCertifySpec Rows.hierarchyCertifyRow=true:=by
 unfold joinedFacts
 rw [hCertifyLaw_enter,hCertifyLaw_lift,hCertifyLaw_make]
 kernel_rfl
end

end Go.Proofs.YtcflcogbpnmjeaaGreat
