import Derived.Test.YtcfmiocdlcapoaaGreatMCS24
import Derived.Test.YtcfmiocdlcapoaaGreatMCS25
namespace Go.Proofs.YtcfmiocdlcapoaaGreat
set_option linter.all false
set_option maxRecDepth 100000
open Go.RowKit
theorem n5 (w : World) (x : Int) (e : TypeId) {g : Nat} (hg : g=w.heap.size) : Ints (w.alloc (.cells #[.int .i64 x] e)) (some ⟨g,0,none⟩) 1 [x] :=
 ⟨rfl,λ_=>rfl,by unfold maxLen;omega,λi hi=>by
  obtain rfl : i=0:=by omega
  exact aG _ _ _ hg 0⟩
end Go.Proofs.YtcfmiocdlcapoaaGreat
