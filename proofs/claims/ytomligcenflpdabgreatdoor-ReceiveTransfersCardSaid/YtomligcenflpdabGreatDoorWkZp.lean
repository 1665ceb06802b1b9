/- WkZp: what the laws need of it. -/
import Derived.Test.YtomligcenflpdabGreatDoorWkSq
import Derived.Test.YtomligcenflpdabGreatDoorWkI
import Derived.Test.YtomligcenflpdabGreatDoorWkSm
set_option linter.unusedVariables false
set_option linter.defProp false
set_option linter.all false
set_option linter.unusedSimpArgs false
set_option maxRecDepth 100000
set_option maxHeartbeats 4000000
namespace Go.PE
open Go Go.Proofs

theorem rdText_eq (l : List UInt8) : rdText ⟨l, false⟩ = ((textF l).1, ⟨(textF l).2.1, !(textF l).2.2⟩) := by
  unfold rdText rdNum textF
  by_cases h2 : l.length < 2
  · rw [if_pos (.inl h2)]
    have e : rdTake 2 ⟨l, false⟩ = ([], ⟨[], true⟩) := by
      unfold rdTake
      rw [if_neg (by simp only; omega)]
    simp only [e]
    simp [rdTake, readN]
  · have e : rdTake 2 ⟨l, false⟩ = (l.take 2, ⟨l.drop 2, false⟩) := by
      unfold rdTake
      rw [if_pos (by simp only; omega)]
    simp only [e]
    generalize readN (l.take 2) = n
    unfold rdTake
    simp only [List.length_drop]
    by_cases h3 : l.length < 2 + n
    · rw [if_neg (by omega), if_pos (.inr h3)]
      rfl
    · rw [if_pos (by omega), if_neg (by omega)]
      simp only [List.drop_drop, Bool.not_true]
      rw [List.drop_take, Nat.add_sub_cancel_left]
theorem rdText_end : rdText ⟨[], true⟩ = ([], ⟨[], true⟩) := by simp [rdText, rdNum, rdTake, readN]
theorem rdNum_end (k : Nat) : rdNum (k + 1) ⟨[], true⟩ = (0, ⟨[], true⟩) := by simp [rdNum, rdTake, readN]
theorem rdNum4 (l : List UInt8) : rdNum 4 ⟨l, false⟩ = if 4 ≤ l.length then (readN (l.take 4), ⟨l.drop 4, false⟩) else (0, ⟨[], true⟩) := by
  unfold rdNum rdTake
  simp only
  split <;> simp [readN]
theorem textF_none {l : List UInt8} (h : (textF l).2.2 = false) : textF l = ([], [], false) := by
  unfold textF at h ⊢
  split
  · rfl
  · rename_i h1
    rw [if_neg h1] at h
    cases h
theorem valid_other {m : Msg} (h : ¬ (m.kind = 1 ∨ m.kind = 2 ∨ m.kind = 3 ∨ m.kind = 4 ∨ m.kind = 5 ∨ m.kind = 6)) : validB m = false := by
  rw [Bool.eq_false_iff]
  intro hv
  have := valid_cases hv
  apply h
  rcases this with h | h | h | h | h | h <;> (have := h.1; omega)
theorem parse_same (b : List UInt8) : parse2 b = parse1 b := by
  match b with
  | [] => simp [parse2, parse1, rdMsg, rdNum, rdTake, readN]
  | k :: l =>
    have e1 : rdNum 1 ⟨k :: l, false⟩ = (k.toNat, ⟨l, false⟩) := by simp [rdNum, rdTake, readN]
    unfold parse2 parse1 rdMsg
    simp only [e1, rdText_eq]
    by_cases k2 : k.toNat = 2
    · have h1 : readF 1 l = ((textF l).1, [], (textF l).2.1, (textF l).2.2) := by simp [readF, readI]
      simp only [k2, h1, if_true, if_pos, Nat.reduceEqDiff, if_false, Nat.reduceEqDiff, or_self]
      cases h : (textF l).2.2 <;> cases hv : validB { zeroMsg with kind := ((2 : Nat) : Int), key := (textF l).1 } <;> simp [hv]
    · have hf : readF 2 l = if (textF l).2.2 = false then ((textF l).1, [], (textF l).2.1, (textF l).2.2) else ((textF l).1, (textF (textF l).2.1).1, (textF (textF l).2.1).2.1, (textF (textF l).2.1).2.2) := by
        unfold readF
        simp only [Nat.reduceEqDiff, false_or]
        split <;> rfl
      simp only [k2, if_false, hf]
      cases h : (textF l).2.2 with
      | false =>
        have ht := textF_none h
        simp only [if_true, ht, Bool.not_false, rdText_end, rdNum_end]
        by_cases k1 : k.toNat = 1
        · simp [k1]
        by_cases k3 : k.toNat = 3
        · simp [k3]
        by_cases k45 : k.toNat = 4 ∨ k.toNat = 5
        · simp [k1, k3, k45]
        by_cases k6 : k.toNat = 6
        · simp [k6]
        · simp only [k1, k3, k45, k6, if_false]
          have := valid_other (m := { zeroMsg with kind := (k.toNat : Int) }) (by simp only; omega)
          simp [this]
      | true =>
        simp only [Bool.true_eq_false, if_false, Bool.not_true, rdText_eq]
        generalize (textF l).2.1 = l1
        generalize (textF l).1 = t1
        cases h2 : (textF l1).2.2 with
        | false =>
          have ht := textF_none h2
          simp only [if_true, ht, Bool.not_false, rdText_end, rdNum_end]
          by_cases k1 : k.toNat = 1
          · simp [k1]
          by_cases k3 : k.toNat = 3
          · simp [k3]
          by_cases k45 : k.toNat = 4 ∨ k.toNat = 5
          · simp [k1, k3, k45]
          by_cases k6 : k.toNat = 6
          · simp [k6]
          · simp only [k1, k3, k45, k6, if_false]
            have := valid_other (m := { zeroMsg with kind := (k.toNat : Int) }) (by simp only; omega)
            simp [this]
        | true =>
          simp only [Bool.true_eq_false, if_false, Bool.not_true, rdNum4]
          generalize (textF l1).2.1 = l2
          generalize (textF l1).1 = t2
          by_cases k1 : k.toNat = 1
          · simp only [k1, if_true, true_or, num4]
            by_cases h4 : l2.length < 4
            · simp [h4, show ¬ 4 ≤ l2.length by omega]
            · have h4' : 4 ≤ l2.length := by omega
              simp only [if_neg h4, if_pos h4']
              generalize readN (l2.take 4) = n
              cases hv : validB { zeroMsg with kind := ((1 : Nat) : Int), key := t1, value := t2, n := n } <;> simp [hv]
          by_cases k3 : k.toNat = 3
          · simp only [k3, Nat.reduceEqDiff, if_true, if_false, true_or, or_self]
            cases hv : validB { zeroMsg with kind := ((3 : Nat) : Int), lo := t1, hi := t2 } <;> simp [hv]
          by_cases k6 : k.toNat = 6
          · simp only [k6, Nat.reduceEqDiff, if_true, if_false, or_true, or_self, num4]
            by_cases h4 : l2.length < 4
            · simp [h4, show ¬ 4 ≤ l2.length by omega]
            · have h4' : 4 ≤ l2.length := by omega
              simp only [if_neg h4, if_pos h4']
              generalize readN (l2.take 4) = n
              cases hv : validB { zeroMsg with kind := ((6 : Nat) : Int), lo := t1, hi := t2, n := n } <;> simp [hv]
          simp only [k1, k3, k6, if_false, or_self]
          by_cases k45 : k.toNat = 4 ∨ k.toNat = 5
          · rw [if_pos k45]
            cases hv : validB { zeroMsg with kind := (k.toNat : Int), fr := t1, to := t2 } <;> simp [hv]
          · rw [if_neg k45]
            have v1 := valid_other (m := { zeroMsg with kind := (k.toNat : Int), fr := t1, to := t2 }) (by simp only; omega)
            have v2 := valid_other (m := { zeroMsg with kind := (k.toNat : Int) }) (by simp only; omega)
            simp [v1, v2]
end Go.PE
