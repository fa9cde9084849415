import Derived.Test.YtcfmiocdlcapoaaGreatMCS17
namespace Go.Proofs.YtcfmiocdlcapoaaGreat
set_option linter.all false
set_option maxRecDepth 100000
open Go.RowKit
section
variable {w : World} {b : Nat} {G : cW}
end
end Go.Proofs.YtcfmiocdlcapoaaGreat
