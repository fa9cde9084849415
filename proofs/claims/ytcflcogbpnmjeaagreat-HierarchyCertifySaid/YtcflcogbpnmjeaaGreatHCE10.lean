/-  -/
import Derived.Test.YtcflcogbpnmjeaaGreatK21
import Derived.Test.YtcflcogbpnmjeaaGreatHCE9
import Derived.Test.YtcflcogbpnmjeaaGreatK25
import Derived.Test.YtcflcogbpnmjeaaGreatHCE8
import Derived.Test.YtcflcogbpnmjeaaGreatHCE1
import Derived.Test.YtcflcogbpnmjeaaGreatK17
import Derived.Test.YtcflcogbpnmjeaaGreatK6
import Derived.Test.YtcflcogbpnmjeaaGreatK27
namespace Go.Proofs.YtcflcogbpnmjeaaGreat
set_option linter.unusedVariables false
set_option linter.unusedSimpArgs false
set_option linter.unusedSectionVars false

section
open Go.RowKit
theorem ints_lit1 (w : World) (x : Int) (e : TypeId) {g : Nat} (hg : g=w.heap.size) : Ints (w.alloc (.cells #[.int .i64 x] e)) (some ⟨g,0,none⟩) 1 [x] :=
 ⟨rfl,fun _=>rfl,by unfold maxLen;omega,fun i hi=>by
  obtain rfl : i=0:=by omega
  exact cell_alloc_at _ _ _ hg 0⟩
end

end Go.Proofs.YtcflcogbpnmjeaaGreat
