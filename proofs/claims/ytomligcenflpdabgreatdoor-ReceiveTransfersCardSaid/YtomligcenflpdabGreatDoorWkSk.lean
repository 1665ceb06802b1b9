/- WkSk: what the laws need of it. -/
import Derived.Test.YtomligcenflpdabGreatDoorWkSh
set_option linter.unusedVariables false
set_option linter.defProp false
set_option linter.all false
set_option linter.unusedSimpArgs false
set_option maxRecDepth 100000
set_option maxHeartbeats 4000000
namespace Go.PE
open Go Go.Proofs

theorem bytesR_pos {r : Rec} (h : okR1 r) : 13 ≤ (bytesR r).length ∧ (bytesR r).length ≤ 131300 := by
  have := plainR_le h.1
  simp only [bytesR, plain_eq, List.length_append, List.length_cons, beN_len] at this ⊢
  omega
end Go.PE
