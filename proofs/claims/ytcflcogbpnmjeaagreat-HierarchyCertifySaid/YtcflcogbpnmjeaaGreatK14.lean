/-  -/
import Derived.Test.YtcflcogbpnmjeaaGreatK10
namespace Go.Proofs.YtcflcogbpnmjeaaGreat
set_option linter.unusedVariables false
set_option linter.unusedSimpArgs false
set_option linter.unusedSectionVars false

section

end

end Go.Proofs.YtcflcogbpnmjeaaGreat
