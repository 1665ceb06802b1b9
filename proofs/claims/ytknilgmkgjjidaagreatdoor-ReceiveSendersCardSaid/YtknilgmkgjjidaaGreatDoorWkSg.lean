/- WkSg: what the laws need of it. -/
import Derived.Test.YtknilgmkgjjidaaGreatDoorWkSq
import Derived.Test.YtknilgmkgjjidaaGreatDoorWkN
set_option linter.unusedVariables false
set_option linter.defProp false
set_option linter.all false
set_option linter.unusedSimpArgs false
set_option maxRecDepth 100000
set_option maxHeartbeats 4000000
namespace Go.PE
open Go Go.Proofs

def sA (c : Nat) : Rec := ⟨1, 0, 0, 5, 6, ⟨0, [], [], [], [], [], [], 0⟩, c⟩
def sB (c : Nat) : Rec := ⟨3, 1, 0, 0, 0, ⟨0, [], [], [], [], [], [], 0⟩, c⟩
theorem make56 : ∃ c1 c2 : Nat, makeF 5 6 [] = [sA c1, sB c2] := ⟨_, _, rfl⟩
theorem enc_sA (c : Nat) : (sA c).enc = [.int .i64 1, .int .i64 0, .int .i64 0, .int .u64 5, .int .u64 6, .int .i64 0, .str [], .str [], .str [], .str [], .str [], .str [], .int .i64 0, .int .u64 c] := rfl
theorem enc_sB (c : Nat) : (sB c).enc = [.int .i64 3, .int .i64 1, .int .i64 0, .int .u64 0, .int .u64 0, .int .i64 0, .str [], .str [], .str [], .str [], .str [], .str [], .int .i64 0, .int .u64 c] := rfl
end Go.PE
