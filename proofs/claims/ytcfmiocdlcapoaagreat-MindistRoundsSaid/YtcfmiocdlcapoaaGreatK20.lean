import Derived.Test.YtcfmiocdlcapoaaGreatK19
namespace Go.Proofs.YtcfmiocdlcapoaaGreat
set_option linter.unusedVariables false
set_option linter.unusedSimpArgs false
set_option linter.unusedSectionVars false
set_option maxRecDepth 100000
open Go.RowKit
section
variable {w : World} {b : Nat} {G : de}
end
end Go.Proofs.YtcfmiocdlcapoaaGreat
