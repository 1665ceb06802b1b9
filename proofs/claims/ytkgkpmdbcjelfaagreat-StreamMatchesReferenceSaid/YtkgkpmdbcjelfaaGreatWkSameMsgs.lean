/- Lists of messages, compared (reference 6). -/
import Derived.Test.YtkgkpmdbcjelfaaGreatWkA
set_option linter.unusedVariables false
set_option linter.defProp false
set_option linter.all false
set_option linter.unusedSimpArgs false
set_option maxRecDepth 10000
namespace Go.PE
open Go Go.Proofs

def hSameMsgs : Spec := fun ds K => ∃ a b : List Msg, ds = [.list (a.map Msg.enc), .list (b.map Msg.enc)] ∧ K (.ret (.d (.bool (decide (a = b)))))
def plSameMsgs : Nat → List (Nat × Bool × List Nat) := fun _ => [(0, (false, [])), (1, (false, [])), (2, (false, [])), (3, (false, [])), (4, (false, [])), (5, (false, [])), (6, (false, [])), (7, (false, [])), (8, (false, []))]

end Go.PE
