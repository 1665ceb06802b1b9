/- WkJ: what the laws need of it. -/
import Derived.Test.YtknilgmkgjjidaaGreatDoorWkH
set_option linter.unusedVariables false
set_option linter.defProp false
set_option linter.all false
set_option linter.unusedSimpArgs false
set_option maxRecDepth 100000
set_option maxHeartbeats 4000000
namespace Go.PE
open Go Go.Proofs

theorem Msg.eta (x : Msg) : (⟨x.kind, x.key, x.value, x.lo, x.hi, x.fr, x.to, x.n⟩ : Msg) = x := rfl
theorem fields_le {m : Msg} (h : validB m = true) : (fieldsB m).length ≤ 131078 := by
  have hc := valid_cases h
  unfold fieldsB
  repeat' split
  all_goals (simp only [List.length_append, textB_len, beN_len]; omega)
theorem bytes_le (m : Msg) : (bytesM m).length ≤ 131079 := by
  unfold bytesM
  split
  · rename_i h
    have := fields_le h
    simp only [List.length_cons]
    omega
  · simp
end Go.PE
