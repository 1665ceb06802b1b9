/- WkTn: what the laws need of it. -/
import Derived.Test.YtknilgmkgjjidaaGreatDoorWkTc
import Derived.Test.YtknilgmkgjjidaaGreatDoorWkZ
import Derived.Test.YtknilgmkgjjidaaGreatDoorWkTl
import Derived.Test.YtknilgmkgjjidaaGreatDoorWkSh
import Derived.Test.YtknilgmkgjjidaaGreatDoorWkZb
import Derived.Test.YtknilgmkgjjidaaGreatDoorWkW
import Derived.Test.YtknilgmkgjjidaaGreatDoorWkX
set_option linter.unusedVariables false
set_option linter.defProp false
set_option linter.all false
set_option linter.unusedSimpArgs false
set_option maxRecDepth 100000
set_option maxHeartbeats 4000000
namespace Go.PE
open Go Go.Proofs

theorem q1 : u64P 1 := ⟨by decide, by decide⟩
theorem q2 : u64P 2 := ⟨by decide, by decide⟩
theorem el_of {α : Type} {enc : α → List D} {l : List α} {k : Nat} {x : α} (hx : l[k]? = some x) {P : List D → Prop} (h : P (enc x)) : ∀ z, (l.map enc)[k]? = some z → P z := by
  intro z hz
  rw [List.getElem?_map, hx] at hz
  injection hz with hz
  subst hz
  exact h
theorem eLn {α : Type} {enc : α → List D} {l : List α} {k : Nat} {x : α} (hx : l[k]? = some x) (n : Nat) (F : Kt (List D → Prop)) : @eL (l.map enc) k n F = ((enc x).length = n ∧ F.v (enc x)) := by
  rw [eL_map]
  exact propext ⟨fun h => h x hx, fun h z hz => by rw [hx] at hz; injection hz with hz; subst hz; exact h⟩
theorem eGn {α : Type} {enc : α → List D} {l : List α} {k : Nat} {x : α} (hx : l[k]? = some x) (g : Bool) (n : Nat) (F : Kt (List D → Prop)) : @eG g (l.map enc) k n F = ((g = true → (enc x).length = n) ∧ F.v (enc x)) := by
  have hm : (l.map enc)[k]? = some (enc x) := by rw [List.getElem?_map, hx]; rfl
  show elemG g (l.map enc) k n F.v = _
  unfold elemG
  refine propext ⟨fun ⟨z, h1, h2, h3⟩ => ?_, fun ⟨h1, h2⟩ => ⟨enc x, fun z hz => by rw [hm] at hz; injection hz, h1, h2⟩⟩
  have := h1 _ hm
  subst this
  exact ⟨h2, h3⟩
end Go.PE
