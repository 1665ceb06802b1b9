/- Lists of messages, compared (reference 6). -/
import Derived.Test.YtkgkpmdbcjelfaaWkA
set_option linter.unusedVariables false
set_option linter.defProp false
set_option linter.all false
set_option linter.unusedSimpArgs false
set_option maxRecDepth 10000
namespace Go.PE
open Go Go.Proofs

def hSameMsgs : Spec := fun ds K => ∃ a b : List Msg, ds = [.list (a.map Msg.enc), .list (b.map Msg.enc)] ∧ K (.ret (.d (.bool (decide (a = b)))))
def plSameMsgs : Nat → List (Nat × Bool × List Nat) := fun i => if i = 6 then [(0, (false, [])), (1, (false, [])), (2, (false, [])), (3, (false, [])), (4, (false, [])), (5, (false, [])), (6, (false, [])), (7, (false, [])), (8, (false, []))] else []

theorem f_SameMsgs : FPure Try.prog 29 hSameMsgs := by
  refine FPure.runL [] plSameMsgs (by simp) F.mixed Try.func29 (by kernel_rfl) rfl (by kernel_rfl) 26 Try.ntmps29 [.tmp 4] Try.results29 ?_
  intro ds K hl hs
  obtain ⟨a, b, rfl, hK⟩ := hs
  obtain ⟨la, hl⟩ := lensOk_cons_list _ _ hl
  simp only [List.length_map] at la
  simp only [plSameMsgs, eBs, F.fBs, Nat.reduceSub, Nat.reduceAdd, Nat.reduceLT, Nat.reduceEqDiff, Nat.reduceLeDiff, Nat.reduceMul, Nat.reduceBEq, if_true, if_false, reduceCtorEq, if_pos, forall_const, implies_true, eq_self, ne_eq]
  refine ⟨fun h => ?_, fun h => ?_⟩
  · have : a ≠ b := fun e => by subst e; simp at h
    simpa [this] using hK
  have hlen : a.length = b.length := by omega
  refine eK_rounds [0, 1, 4] (fun i => i ≤ a.length ∧ ∀ j, j < i → a[j]? = b[j]?) (fun i => [(5, .d (.int .i64 i))]) (fun _ => []) (fun _ => []) (fun i => a.length - i) 0 ⟨Nat.zero_le _, fun j hj => absurd hj (Nat.not_lt_zero _)⟩ ?_ ?_
  · simp [le_eq, St.head, keepT, setAll, leV, leB, leR, leR0, idsR, idsL, idsA, idsB]
  intro i hi
  simp only [plSameMsgs, le_eq, eBs, F.fBs, Nat.reduceSub, Nat.reduceAdd, Nat.reduceLT, Nat.reduceEqDiff, Nat.reduceLeDiff, Nat.reduceMul, Nat.reduceBEq, if_true, if_false, reduceCtorEq, if_pos, forall_const, implies_true, eq_self, ne_eq]
  refine ⟨fun h1 => ⟨by omega, ?_⟩, fun h1 => ?_⟩
  · refine eG_map _ _ _ _ _ _ ⟨fun _ => rfl, ?_⟩
    simp only [plSameMsgs, le_eq, Msg.enc, eBs, F.fBs, Nat.reduceSub, Nat.reduceAdd, Nat.reduceLT, Nat.reduceEqDiff, Nat.reduceLeDiff, Nat.reduceMul, Nat.reduceBEq, if_true, if_false, reduceCtorEq, if_pos, forall_const, implies_true, eq_self, ne_eq]
    refine ⟨by omega, ?_⟩
    refine eG_map _ _ _ _ _ _ ⟨fun _ => rfl, ?_⟩
    simp only [plSameMsgs, le_eq, Msg.enc, Msg.eqB, eBs, F.fBs, Nat.reduceSub, Nat.reduceAdd, Nat.reduceLT, Nat.reduceEqDiff, Nat.reduceLeDiff, Nat.reduceMul, Nat.reduceBEq, if_true, if_false, reduceCtorEq, if_pos, forall_const, implies_true, eq_self, ne_eq]
    have ha : a[i]? = some (a.getD i default) := by simp [List.getD, show i < a.length by omega]
    have hb : b[i]? = some (b.getD i default) := by simp [List.getD, show i < b.length by omega]
    refine ⟨fun h => ?_, fun h => ⟨i + 1, ⟨by omega, fun j hj => ?_⟩, by omega, ?_⟩⟩
    · have : a ≠ b := fun e => by subst e; exact h rfl
      simpa [this] using hK
    · rcases Nat.lt_or_ge j i with h2 | h2
      · exact hi.2 j h2
      · have : j = i := by omega
        subst this
        rw [ha, hb, h]
    · rw [wrap_i64' (by omega) (by omega)]; rfl
  · have : a = b := by
      apply List.ext_getElem?
      intro j
      rcases Nat.lt_or_ge j i with h2 | h2
      · exact hi.2 j h2
      · rw [List.getElem?_eq_none (by omega), List.getElem?_eq_none (by omega)]
    simpa [this] using hK
end Go.PE
