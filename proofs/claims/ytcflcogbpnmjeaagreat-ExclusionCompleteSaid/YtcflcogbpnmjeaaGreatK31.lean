/- The walk of right of the reference's exclusion, for rank claims. -/
import Derived.Test.YtcflcogbpnmjeaaGreatK21
import Derived.Test.YtcflcogbpnmjeaaGreatK30
import Derived.Test.YtcflcogbpnmjeaaGreatK29
import Derived.Test.YtcflcogbpnmjeaaGreatK19
import Derived.Test.YtcflcogbpnmjeaaGreatK20
import Derived.Test.YtcflcogbpnmjeaaGreatK22
namespace Go.Proofs.YtcflcogbpnmjeaaGreat
set_option linter.unusedVariables false
set_option linter.unusedSimpArgs false
set_option linter.unusedSectionVars false

/- The walks of the references: Keep of layer 13, Of of layer 25. -/
section
open Go.RowKit
end

/- The walk of codewrightref25.Sorted. -/
section
open Go.RowKit
end

/- The walk of codewrightref10.Rising. -/
section
open Go.RowKit
end

/- The walk of codewrightref25.sets. -/
section
open Go.RowKit
end

/- The walks of codewrightref25: info, Rank, Is. -/
section
open Go.RowKit
end

/- The walk of codewrightref25.Pick. -/
section
open Go.RowKit
end

/- The walks of codewrightref25.in and codewrightref10.Others. -/
section
open Go.RowKit
end

/- The walks of in, with, kids of the reference's exclusion. -/
section
open Go.RowKit
end

/- The walk of right of the reference's exclusion, for rank claims. -/
section
open Go.RowKit
end

end Go.Proofs.YtcflcogbpnmjeaaGreat
