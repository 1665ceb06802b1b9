/- WkSd: what the laws need of it. -/
import Derived.Test.YtknilgmkgjjidaaGreatDoorWkSc
set_option linter.unusedVariables false
set_option linter.defProp false
set_option linter.all false
set_option linter.unusedSimpArgs false
set_option maxRecDepth 100000
set_option maxHeartbeats 4000000
namespace Go.PE
open Go Go.Proofs

def kindAt (last i : Nat) : Int := if i = 0 then 1 else if i = last then 3 else 2
def rangeR (r : Rec) : Prop := u64P r.src ∧ u64P r.dst ∧ u64P r.check
end Go.PE
