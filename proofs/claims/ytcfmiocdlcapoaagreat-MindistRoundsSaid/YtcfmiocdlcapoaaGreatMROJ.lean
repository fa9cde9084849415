import Derived.Test.YtcfmiocdlcapoaaGreatRows
import Derived.Test.YtcfmiocdlcapoaaGreatMRO2
namespace Go.Proofs.YtcfmiocdlcapoaaGreat
set_option linter.unusedVariables false
set_option linter.unusedSimpArgs false
set_option linter.unusedSectionVars false
set_option maxRecDepth 100000
open Go.RowKit
section
open Go.ChangeShapes Go.WideShapes Go.ChangeAt Go.RowKit
theorem vb : Tryz.pinned.checked.prog.mayEnter=true:=by kernel_rfl
theorem wW : (Rows.mindistRoundsRow.lifted == Tryz.pinned.checked.prog.liftsFinal)=true:=by kernel_rfl
theorem wZ : (Tryz.pinned.checked.prog.make == some Rows.mindistRoundsRow.make)=true:=by kernel_rfl
theorem tZ : joinedFacts Tryz.pinned.checked.prog 3 Tryz.f3 Rows.mindistRoundsSpec Rows.mindistRoundsRow=true:=by
 unfold joinedFacts
 rw [vb,wW,wZ]
 kernel_rfl
end
end Go.Proofs.YtcfmiocdlcapoaaGreat
