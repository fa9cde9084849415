import Derived.Test.YthglbncgemdcbaaGreatRows
import Derived.Test.YthglbncgemdcbaaGreatBO17
namespace Go.Proofs.YthglbncgemdcbaaGreat
set_option linter.all false
set_option maxRecDepth 100000
open Go.RowKit
section
open Go.ChangeShapes Go.WideShapes Go.ChangeAt Go.RowKit
theorem Cv : Tryz.pinned.checked.prog.mayEnter=true:=by kernel_rfl
theorem Ek : (Rows.localityBoundsRow.lifted == Tryz.pinned.checked.prog.liftsFinal)=true:=by kernel_rfl
theorem E3 : (Tryz.pinned.checked.prog.make == some Rows.localityBoundsRow.make)=true:=by kernel_rfl
theorem yQ : joinedFacts Tryz.pinned.checked.prog 12 Tryz.f12 Rows.localityBoundsSpec Rows.localityBoundsRow=true:=by unfold joinedFacts;rw [Cv,Ek,E3];kernel_rfl
end
end Go.Proofs.YthglbncgemdcbaaGreat
