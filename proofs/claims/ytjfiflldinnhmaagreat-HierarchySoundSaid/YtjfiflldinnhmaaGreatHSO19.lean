import Derived.Test.YtjfiflldinnhmaaGreatHSO16
namespace Go.Proofs.YtjfiflldinnhmaaGreat
set_option linter.all false
set_option maxRecDepth 100000
open Go.RowKit
section
open Go.RowKit
end
end Go.Proofs.YtjfiflldinnhmaaGreat
