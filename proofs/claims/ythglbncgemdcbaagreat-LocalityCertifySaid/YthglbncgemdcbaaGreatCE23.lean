import Derived.Test.YthglbncgemdcbaaGreatCE21
namespace Go.Proofs.YthglbncgemdcbaaGreat
set_option linter.all false
set_option maxRecDepth 100000
open Go.RowKit
theorem o6 (w:World) (x:Int) (e:TypeId) {g:Nat} (Z:g=w.heap.size):Ints (w.alloc (.cells #[cG x] e)) (some ⟨g,0,none⟩) 1 [x] :=
 ⟨rfl,λ_=>rfl,by unfold maxLen;omega,λi hi=>by
  obtain rfl:i=0:=by omega
  exact aF _ _ _ Z 0⟩
end Go.Proofs.YthglbncgemdcbaaGreat
