import Derived.Test.YthglbncgemdcbaaGreatBO20
import Derived.Test.YthglbncgemdcbaaGreatBO21
namespace Go.Proofs.YthglbncgemdcbaaGreat
set_option linter.all false
set_option maxRecDepth 100000
open Go.RowKit
section
open Go.RowKit
end
end Go.Proofs.YthglbncgemdcbaaGreat
