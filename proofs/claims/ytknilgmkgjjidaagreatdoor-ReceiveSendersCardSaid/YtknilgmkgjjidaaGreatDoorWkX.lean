/- WkX: what the laws need of it. -/
import Derived.Test.YtknilgmkgjjidaaGreatDoorWkN
import Derived.Test.YtknilgmkgjjidaaGreatDoorWkD
import Derived.Test.YtknilgmkgjjidaaGreatDoorWkR
import Derived.Test.YtknilgmkgjjidaaGreatDoorWkF
set_option linter.unusedVariables false
set_option linter.defProp false
set_option linter.all false
set_option linter.unusedSimpArgs false
set_option maxRecDepth 100000
set_option maxHeartbeats 4000000
namespace Go.PE
open Go Go.Proofs

theorem rdTake_inv {n : Nat} {x : Rd} (h : (rdTake n x).2.s = false) : x.s = false ∧ n ≤ x.l.length ∧ (rdTake n x).1 = x.l.take n ∧ (rdTake n x).2.l = x.l.drop n := by
  unfold rdTake at h ⊢
  split
  · rename_i hn; rw [if_pos hn] at h; exact ⟨h, hn, rfl, rfl⟩
  · rename_i hn; rw [if_neg hn] at h; cases h
theorem rdNum_inv {k : Nat} {x : Rd} (h : (rdNum k x).2.s = false) : x.s = false ∧ x.l = beN (rdNum k x).1 k k ++ (rdNum k x).2.l := by
  unfold rdNum at h ⊢
  obtain ⟨h1, h2, h3, h4⟩ := rdTake_inv h
  refine ⟨h1, ?_⟩
  dsimp only
  rw [h3, h4]
  have hk : (x.l.take k).length = k := List.length_take_of_le h2
  have e := beN_readN (x.l.take k)
  rw [hk] at e
  rw [e, List.take_append_drop]
theorem rdText_inv {x : Rd} (h : (rdText x).2.s = false) : x.s = false ∧ x.l = textB (rdText x).1 ++ (rdText x).2.l := by
  unfold rdText at h ⊢
  obtain ⟨h1, h2, h3, h4⟩ := rdTake_inv h
  obtain ⟨h5, h6⟩ := rdNum_inv h1
  refine ⟨h5, ?_⟩
  rw [h3, h4]
  unfold textB
  have hk : ((rdNum 2 x).2.l.take (rdNum 2 x).1).length = (rdNum 2 x).1 := List.length_take_of_le h2
  rw [hk, List.append_assoc, List.take_append_drop, ← h6]
theorem beN_one (n : Nat) : beN n 1 1 = [UInt8.ofNat n] := by simp [beN, beAt, List.range_succ]
theorem rdMsg_inv {b : List UInt8} (h : (rdMsg ⟨b, false⟩).2.s = false) (hv : validB (rdMsg ⟨b, false⟩).1 = true) : b = bytesM (rdMsg ⟨b, false⟩).1 ++ (rdMsg ⟨b, false⟩).2.l := by
  rw [bytesM, if_pos hv]
  unfold rdMsg at h hv ⊢
  generalize hz : rdNum 1 ⟨b, false⟩ = z at h hv ⊢
  have hz1 : z.2.s = false → b = UInt8.ofNat z.1 :: z.2.l := by
    intro h
    rw [← hz] at h
    have h2 := (rdNum_inv h).2
    rw [hz, beN_one] at h2
    exact h2
  dsimp only at h hv ⊢
  have hk : z.1 = 1 ∨ z.1 = 2 ∨ z.1 = 3 ∨ z.1 = 4 ∨ z.1 = 5 ∨ z.1 = 6 ∨ (z.1 ≠ 1 ∧ z.1 ≠ 2 ∧ z.1 ≠ 3 ∧ z.1 ≠ 4 ∧ z.1 ≠ 5 ∧ z.1 ≠ 6) := by omega
  rcases hk with hk | hk | hk | hk | hk | hk | ⟨k1, k2, k3, k4, k5, k6⟩
  case inr.inr.inr.inr.inr.inr =>
    exfalso
    simp only [k1, k2, k3, k4, k5, k6, if_false, or_false] at hv
    have hc := valid_cases hv
    simp only [zeroMsg] at hc
    omega
  · simp only [hk, if_true] at h hv ⊢
    obtain ⟨a1, a2⟩ := rdNum_inv h
    obtain ⟨b1, b2⟩ := rdText_inv a1
    obtain ⟨c1, c2⟩ := rdText_inv b1
    have e := hz1 c1
    generalize rdText z.2 = t1 at *
    generalize rdText t1.2 = t2 at *
    generalize rdNum 4 t2.2 = t3 at *
    rw [e, c2, b2, a2]
    simp [fieldsB, hk]
  · simp only [hk, Nat.reduceEqDiff, if_false, if_true] at h hv ⊢
    obtain ⟨c1, c2⟩ := rdText_inv h
    have e := hz1 c1
    generalize rdText z.2 = t1 at *
    rw [e, c2]
    simp [fieldsB, hk]
  · simp only [hk, Nat.reduceEqDiff, if_false, if_true] at h hv ⊢
    obtain ⟨b1, b2⟩ := rdText_inv h
    obtain ⟨c1, c2⟩ := rdText_inv b1
    have e := hz1 c1
    generalize rdText z.2 = t1 at *
    generalize rdText t1.2 = t2 at *
    rw [e, c2, b2]
    simp [fieldsB, hk]
  · simp only [hk, Nat.reduceEqDiff, if_false, if_true, true_or] at h hv ⊢
    obtain ⟨b1, b2⟩ := rdText_inv h
    obtain ⟨c1, c2⟩ := rdText_inv b1
    have e := hz1 c1
    generalize rdText z.2 = t1 at *
    generalize rdText t1.2 = t2 at *
    rw [e, c2, b2]
    simp [fieldsB, hk]
  · simp only [hk, Nat.reduceEqDiff, if_false, if_true, or_true] at h hv ⊢
    obtain ⟨b1, b2⟩ := rdText_inv h
    obtain ⟨c1, c2⟩ := rdText_inv b1
    have e := hz1 c1
    generalize rdText z.2 = t1 at *
    generalize rdText t1.2 = t2 at *
    rw [e, c2, b2]
    simp [fieldsB, hk]
  · simp only [hk, Nat.reduceEqDiff, if_false, if_true, or_false] at h hv ⊢
    obtain ⟨a1, a2⟩ := rdNum_inv h
    obtain ⟨b1, b2⟩ := rdText_inv a1
    obtain ⟨c1, c2⟩ := rdText_inv b1
    have e := hz1 c1
    generalize rdText z.2 = t1 at *
    generalize rdText t1.2 = t2 at *
    generalize rdNum 4 t2.2 = t3 at *
    rw [e, c2, b2, a2]
    simp [fieldsB, hk]
theorem parse1_inv {q : List UInt8} {m : Msg} {n : Nat} (h : parse1 q = some (m, n)) : validB m = true ∧ n = (bytesM m).length ∧ q = bytesM m ++ q.drop n := by
  unfold parse1 at h
  split at h
  · cases h
  rename_i hc
  injection h with h
  injection h with h1 h2
  have hc' : (rdMsg ⟨q, false⟩).2.s = false ∧ validB (rdMsg ⟨q, false⟩).1 = true := by simpa using hc
  have e := rdMsg_inv hc'.1 hc'.2
  rw [h1] at e hc'
  generalize (rdMsg ⟨q, false⟩).2 = y at e h2
  have hl := congrArg List.length e
  rw [List.length_append] at hl
  have hn : n = (bytesM m).length := by omega
  refine ⟨hc'.2, hn, ?_⟩
  rw [hn]
  conv => rhs; rw [e]
  rw [List.drop_left]
  exact e
end Go.PE
