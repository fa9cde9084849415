import Derived.Test.YtjfiflldinnhmaaGreatHSO17
namespace Go.Proofs.YtjfiflldinnhmaaGreat
set_option linter.all false
set_option maxRecDepth 100000
open Go.RowKit
section
variable {w : World} {b : Nat} {G : cC}
end
end Go.Proofs.YtjfiflldinnhmaaGreat
