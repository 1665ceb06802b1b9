/- WkTp: what the laws need of it. -/
import Derived.Test.YtknilgmkgjjidaaGreatDoorWkTn
import Derived.Test.YtknilgmkgjjidaaGreatDoorWkSd
import Derived.Test.YtknilgmkgjjidaaGreatDoorWkSc
import Derived.Test.YtknilgmkgjjidaaGreatDoorWkSp
set_option linter.unusedVariables false
set_option linter.defProp false
set_option linter.all false
set_option linter.unusedSimpArgs false
set_option maxRecDepth 100000
set_option maxHeartbeats 4000000
namespace Go.PE
open Go Go.Proofs

def boxN (x : Inb) : List AV := x.enc.map .d
theorem boxN_eq (x : Inb) : boxN x = [.d (.bool x.op), .d (.bool x.done), .d (.int .i64 x.count), .d (.int .i64 x.next), .d (.int .u64 x.src), .d (.int .u64 x.dst), .d (.int .u64 x.check), .d (.list (x.msgs.map Msg.enc))] := rfl
end Go.PE
