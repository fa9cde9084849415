/- The walks of the references: Field and Make of layer 12. -/
import Derived.Test.YtcflcogbpnmjeaaGreatK19
namespace Go.Proofs.YtcflcogbpnmjeaaGreat
set_option linter.unusedVariables false
set_option linter.unusedSimpArgs false
set_option linter.unusedSectionVars false

/- The walks of the references: Field and Make of layer 12. -/
section
open Go.RowKit
end

end Go.Proofs.YtcflcogbpnmjeaaGreat
