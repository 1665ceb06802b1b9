/- WkSl: what the laws need of it. -/
import Derived.Test.YtomligcenflpdabGreatDoorWkSh
set_option linter.unusedVariables false
set_option linter.defProp false
set_option linter.all false
set_option linter.unusedSimpArgs false
set_option maxRecDepth 100000
set_option maxHeartbeats 4000000
namespace Go.PE
open Go Go.Proofs

theorem enc_fold (y : Rec) : [D.int .i64 y.kind, D.int .i64 y.seq, D.int .i64 y.count, D.int .u64 y.src, D.int .u64 y.dst, D.int .i64 y.msg.kind, D.str y.msg.key, D.str y.msg.value, D.str y.msg.lo, D.str y.msg.hi, D.str y.msg.fr, D.str y.msg.to, D.int .i64 y.msg.n, D.int .u64 y.check] = y.enc := rfl
end Go.PE
