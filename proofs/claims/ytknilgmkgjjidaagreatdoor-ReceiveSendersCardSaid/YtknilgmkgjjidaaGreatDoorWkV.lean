/- WkV: what the laws need of it. -/
import Derived.Test.YtknilgmkgjjidaaGreatDoorWkN
import Derived.Test.YtknilgmkgjjidaaGreatDoorWkD
import Derived.Test.YtknilgmkgjjidaaGreatDoorWkR
import Derived.Test.YtknilgmkgjjidaaGreatDoorWkF
set_option linter.unusedVariables false
set_option linter.defProp false
set_option linter.all false
set_option linter.unusedSimpArgs false
set_option maxRecDepth 100000
set_option maxHeartbeats 4000000
namespace Go.PE
open Go Go.Proofs

theorem cRaws_dec (l : List Raw6) : cRaws.dec (.list (l.map Raw6.enc)) = some l := cRaws.de l
end Go.PE
