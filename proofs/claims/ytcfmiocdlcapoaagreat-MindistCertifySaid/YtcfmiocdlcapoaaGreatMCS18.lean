import Derived.Test.YtcfmiocdlcapoaaGreatMCS16
namespace Go.Proofs.YtcfmiocdlcapoaaGreat
set_option linter.all false
set_option maxRecDepth 100000
open Go.RowKit
section
open Go.RowKit
end
end Go.Proofs.YtcfmiocdlcapoaaGreat
