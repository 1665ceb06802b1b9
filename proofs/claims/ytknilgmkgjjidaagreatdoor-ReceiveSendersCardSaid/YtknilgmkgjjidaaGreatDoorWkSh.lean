/- WkSh: what the laws need of it. -/
import Derived.Test.YtknilgmkgjjidaaGreatDoorWkSg
import Derived.Test.YtknilgmkgjjidaaGreatDoorWkZ
set_option linter.unusedVariables false
set_option linter.defProp false
set_option linter.all false
set_option linter.unusedSimpArgs false
set_option maxRecDepth 100000
set_option maxHeartbeats 4000000
namespace Go.PE
open Go Go.Proofs

theorem list_valid {l : List Raw6} {n : Int} (h : ∀ x ∈ l, x.ok) : ∀ m ∈ listF l n, validB m = true := by
  intro m hm
  obtain ⟨x, hx, rfl⟩ := List.mem_map.1 hm
  exact made_ok (h x (List.mem_of_mem_take hx))
theorem list_len (l : List Raw6) (n : Int) : (listF l n).length ≤ n.toNat := by
  simp [listF]
  omega
end Go.PE
