/- Plain laws for WalReplays: a log is read up to a frame that is not one. -/
import Derived.Test.YtkgkpmdbcjelfaaWkGp
import Derived.Test.YtkgkpmdbcjelfaaWkX
set_option linter.unusedVariables false
set_option linter.defProp false
set_option linter.all false
set_option linter.unusedSimpArgs false
set_option maxRecDepth 10000
set_option maxHeartbeats 4000000
namespace Go.PE
open Go Go.Proofs

theorem cellsI_take {gen : Int} : ∀ (gs : List (List Msg)) (i k : Nat), (cellsI gen i gs).take k = cellsI gen i (gs.take k)
  | [], i, k => by cases k <;> rfl
  | g :: gs, i, 0 => rfl
  | g :: gs, i, k + 1 => by
    simp only [cellsI, List.take_succ_cons, cellsI_take gs]
theorem replay_cut {gen : Int} {gs : List (List Msg)} {k : Nat} {c : List UInt8} (hok : ∀ j g, gs[j]? = some g → (frameF gen ((0 + j : Nat) : Int) g).2 = 0) (hk : k < gs.length) (hc : walF c = none) : replayF gen ((cellsF gen gs).set k c) = gs.take k := by
  have hl : k < (cellsF gen gs).length := by
    show k < (cellsI gen 0 gs).length
    rw [cellsI_len]
    exact hk
  have e : (cellsF gen gs).set k c = cellsI gen 0 (gs.take k) ++ c :: (cellsF gen gs).drop (k + 1) := by
    rw [List.set_eq_take_append_cons_drop, if_pos hl]
    show (cellsI gen 0 gs).take k ++ _ = _
    rw [cellsI_take]
  unfold replayF
  rw [e, replay_good _ _ _ (fun j g hj => hok j g (by
    rw [List.getElem?_take] at hj
    split at hj
    · exact hj
    · cases hj))]
  have : replayI gen (0 + (gs.take k).length) (c :: (cellsF gen gs).drop (k + 1)) = [] := by
    have hb : ∀ i, goodP (walP c) gen i = false := by
      intro i
      simp [goodP, walP, hc]
    simp [replayI, hb]
  rw [this, List.append_nil]
end Go.PE
