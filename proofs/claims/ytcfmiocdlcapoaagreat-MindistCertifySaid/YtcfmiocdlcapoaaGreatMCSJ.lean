import Derived.Test.YtcfmiocdlcapoaaGreatRows
import Derived.Test.YtcfmiocdlcapoaaGreatMCS19
namespace Go.Proofs.YtcfmiocdlcapoaaGreat
set_option linter.all false
set_option maxRecDepth 100000
open Go.RowKit
section
open Go.ChangeShapes Go.WideShapes Go.ChangeAt Go.RowKit
theorem rB : Tryz.pinned.checked.prog.mayEnter=true:=by kernel_rfl
theorem sg : (Rows.mindistCertifyRow.lifted == Tryz.pinned.checked.prog.liftsFinal)=true:=by kernel_rfl
theorem sG : (Tryz.pinned.checked.prog.make == some Rows.mindistCertifyRow.make)=true:=by kernel_rfl
theorem po : joinedFacts Tryz.pinned.checked.prog 4 Tryz.f4 Rows.mindistCertifySpec Rows.mindistCertifyRow=true:=by unfold joinedFacts;rw [rB,sg,sG];kernel_rfl
end
end Go.Proofs.YtcfmiocdlcapoaaGreat
