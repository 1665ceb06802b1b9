/- WkN: what the laws need of it. -/
import Derived.Test.YtknilgmkgjjidaaGreatDoorWkM
set_option linter.unusedVariables false
set_option linter.defProp false
set_option linter.all false
set_option linter.unusedSimpArgs false
set_option maxRecDepth 100000
set_option maxHeartbeats 4000000
namespace Go.PE
open Go Go.Proofs

def det0 (p : Prop) (f : AV) : Det := fun ds => match ds with | [] => (p, f) | _ => (False, .undef)
theorem det0_eq (p : Prop) (f : AV) : det0 p f [] = (p, f) := rfl
theorem det0_elim {p : Prop} {f : AV} {ds : List D} {K : Out → Prop} (h : (det0 p f).spec ds K) : ds = [] ∧ p ∧ K (.ret f) := by
  unfold Det.spec det0 at h
  split at h
  · exact ⟨rfl, h⟩
  · exact h.1.elim
end Go.PE
