/- Plain laws: a frame with one byte changed is refused; whatever is read from bytes has these bytes. -/
import Derived.Test.YtkgkpmdbcjelfaaWkU
set_option linter.unusedVariables false
set_option linter.defProp false
set_option linter.all false
set_option linter.unusedSimpArgs false
set_option maxRecDepth 10000
set_option maxHeartbeats 4000000
namespace Go.PE
open Go Go.Proofs

theorem walF_sum {c : List UInt8} {r : Nat × Nat × List Msg} (h : walF c = some r) : 21 ≤ c.length ∧ readN (c.drop (c.length - 8)) = fnv (c.take (c.length - 8)) := by
  unfold walF at h
  split at h
  · cases h
  rename_i h1
  dsimp only at h
  split at h
  · cases h
  rename_i h2
  rw [Classical.not_not] at h2
  exact ⟨by omega, h2.2⟩
theorem set_split : ∀ {l : List UInt8} {i : Nat} (h : i < l.length) (c : UInt8), ∃ a d x, l[i]? = some x ∧ l = a ++ x :: d ∧ l.set i c = a ++ c :: d
  | x :: l, 0, _, c => ⟨[], l, x, rfl, rfl, rfl⟩
  | x :: l, i + 1, h, c => by
    obtain ⟨a, d, y, h1, h2, h3⟩ := set_split (l := l) (i := i) (by simpa using h) c
    exact ⟨x :: a, d, y, by simpa using h1, by rw [h2]; rfl, by rw [List.set_cons_succ, h3]; rfl⟩
theorem walF_one {b : List UInt8} {r : Nat × Nat × List Msg} {i : Nat} {c : UInt8} (h : walF b = some r) (hi : i < b.length) (hc : b[i]? ≠ some c) : walF (b.set i c) = none := by
  cases e : walF (b.set i c) with
  | none => rfl
  | some r' =>
    exfalso
    obtain ⟨h1, h2⟩ := walF_sum h
    obtain ⟨h3, h4⟩ := walF_sum e
    rw [List.length_set] at h4
    rcases Nat.lt_or_ge i (b.length - 8) with h5 | h5
    · rw [List.drop_set_of_lt h5, h2, List.take_set] at h4
      have hl : (b.take (b.length - 8)).length = b.length - 8 := by simp
      obtain ⟨a, d, x, e1, e2, e3⟩ := set_split (l := b.take (b.length - 8)) (i := i) (by omega) c
      rw [e3] at h4
      rw [e2] at h4
      have := fnv_one h4
      subst this
      rw [List.getElem?_take, if_pos h5] at e1
      exact hc e1
    · have e1 : (b.set i c).take (b.length - 8) = b.take (b.length - 8) := List.take_set_of_le h5
      rw [e1, ← h2] at h4
      have e2 := readN_inj (by simp) h4
      have e3 := congrArg (fun l => l[i - (b.length - 8)]?) e2
      simp only [List.getElem?_drop] at e3
      rw [show b.length - 8 + (i - (b.length - 8)) = i by omega, List.getElem?_set_self hi] at e3
      exact hc e3.symm

/-! ### what is read has these bytes -/
theorem rdTake_inv {n : Nat} {x : Rd} (h : (rdTake n x).2.s = false) : x.s = false ∧ n ≤ x.l.length ∧ (rdTake n x).1 = x.l.take n ∧ (rdTake n x).2.l = x.l.drop n := by
  unfold rdTake at h ⊢
  split
  · rename_i hn; rw [if_pos hn] at h; exact ⟨h, hn, rfl, rfl⟩
  · rename_i hn; rw [if_neg hn] at h; cases h
theorem rdNum_inv {k : Nat} {x : Rd} (h : (rdNum k x).2.s = false) : x.s = false ∧ x.l = beN (rdNum k x).1 k k ++ (rdNum k x).2.l := by
  unfold rdNum at h ⊢
  obtain ⟨h1, h2, h3, h4⟩ := rdTake_inv h
  refine ⟨h1, ?_⟩
  dsimp only
  rw [h3, h4]
  have hk : (x.l.take k).length = k := List.length_take_of_le h2
  have e := beN_readN (x.l.take k)
  rw [hk] at e
  rw [e, List.take_append_drop]
theorem rdText_inv {x : Rd} (h : (rdText x).2.s = false) : x.s = false ∧ x.l = textB (rdText x).1 ++ (rdText x).2.l := by
  unfold rdText at h ⊢
  obtain ⟨h1, h2, h3, h4⟩ := rdTake_inv h
  obtain ⟨h5, h6⟩ := rdNum_inv h1
  refine ⟨h5, ?_⟩
  rw [h3, h4]
  unfold textB
  have hk : ((rdNum 2 x).2.l.take (rdNum 2 x).1).length = (rdNum 2 x).1 := List.length_take_of_le h2
  rw [hk, List.append_assoc, List.take_append_drop, ← h6]
theorem beN_one (n : Nat) : beN n 1 1 = [UInt8.ofNat n] := by simp [beN, beAt, List.range_succ]
theorem rdMsg_inv {b : List UInt8} (h : (rdMsg ⟨b, false⟩).2.s = false) (hv : validB (rdMsg ⟨b, false⟩).1 = true) : b = bytesM (rdMsg ⟨b, false⟩).1 ++ (rdMsg ⟨b, false⟩).2.l := by
  rw [bytesM, if_pos hv]
  unfold rdMsg at h hv ⊢
  generalize hz : rdNum 1 ⟨b, false⟩ = z at h hv ⊢
  have hz1 : z.2.s = false → b = UInt8.ofNat z.1 :: z.2.l := by
    intro h
    rw [← hz] at h
    have h2 := (rdNum_inv h).2
    rw [hz, beN_one] at h2
    exact h2
  dsimp only at h hv ⊢
  have hk : z.1 = 1 ∨ z.1 = 2 ∨ z.1 = 3 ∨ z.1 = 4 ∨ z.1 = 5 ∨ z.1 = 6 ∨ (z.1 ≠ 1 ∧ z.1 ≠ 2 ∧ z.1 ≠ 3 ∧ z.1 ≠ 4 ∧ z.1 ≠ 5 ∧ z.1 ≠ 6) := by omega
  rcases hk with hk | hk | hk | hk | hk | hk | ⟨k1, k2, k3, k4, k5, k6⟩
  case inr.inr.inr.inr.inr.inr =>
    exfalso
    simp only [k1, k2, k3, k4, k5, k6, if_false, or_false] at hv
    have hc := valid_cases hv
    simp only [zeroMsg] at hc
    omega
  · simp only [hk, if_true] at h hv ⊢
    obtain ⟨a1, a2⟩ := rdNum_inv h
    obtain ⟨b1, b2⟩ := rdText_inv a1
    obtain ⟨c1, c2⟩ := rdText_inv b1
    have e := hz1 c1
    generalize rdText z.2 = t1 at *
    generalize rdText t1.2 = t2 at *
    generalize rdNum 4 t2.2 = t3 at *
    rw [e, c2, b2, a2]
    simp [fieldsB, hk]
  · simp only [hk, Nat.reduceEqDiff, if_false, if_true] at h hv ⊢
    obtain ⟨c1, c2⟩ := rdText_inv h
    have e := hz1 c1
    generalize rdText z.2 = t1 at *
    rw [e, c2]
    simp [fieldsB, hk]
  · simp only [hk, Nat.reduceEqDiff, if_false, if_true] at h hv ⊢
    obtain ⟨b1, b2⟩ := rdText_inv h
    obtain ⟨c1, c2⟩ := rdText_inv b1
    have e := hz1 c1
    generalize rdText z.2 = t1 at *
    generalize rdText t1.2 = t2 at *
    rw [e, c2, b2]
    simp [fieldsB, hk]
  · simp only [hk, Nat.reduceEqDiff, if_false, if_true, true_or] at h hv ⊢
    obtain ⟨b1, b2⟩ := rdText_inv h
    obtain ⟨c1, c2⟩ := rdText_inv b1
    have e := hz1 c1
    generalize rdText z.2 = t1 at *
    generalize rdText t1.2 = t2 at *
    rw [e, c2, b2]
    simp [fieldsB, hk]
  · simp only [hk, Nat.reduceEqDiff, if_false, if_true, or_true] at h hv ⊢
    obtain ⟨b1, b2⟩ := rdText_inv h
    obtain ⟨c1, c2⟩ := rdText_inv b1
    have e := hz1 c1
    generalize rdText z.2 = t1 at *
    generalize rdText t1.2 = t2 at *
    rw [e, c2, b2]
    simp [fieldsB, hk]
  · simp only [hk, Nat.reduceEqDiff, if_false, if_true, or_false] at h hv ⊢
    obtain ⟨a1, a2⟩ := rdNum_inv h
    obtain ⟨b1, b2⟩ := rdText_inv a1
    obtain ⟨c1, c2⟩ := rdText_inv b1
    have e := hz1 c1
    generalize rdText z.2 = t1 at *
    generalize rdText t1.2 = t2 at *
    generalize rdNum 4 t2.2 = t3 at *
    rw [e, c2, b2, a2]
    simp [fieldsB, hk]
theorem parse1_inv {q : List UInt8} {m : Msg} {n : Nat} (h : parse1 q = some (m, n)) : validB m = true ∧ n = (bytesM m).length ∧ q = bytesM m ++ q.drop n := by
  unfold parse1 at h
  split at h
  · cases h
  rename_i hc
  injection h with h
  injection h with h1 h2
  have hc' : (rdMsg ⟨q, false⟩).2.s = false ∧ validB (rdMsg ⟨q, false⟩).1 = true := by simpa using hc
  have e := rdMsg_inv hc'.1 hc'.2
  rw [h1] at e hc'
  generalize (rdMsg ⟨q, false⟩).2 = y at e h2
  have hl := congrArg List.length e
  rw [List.length_append] at hl
  have hn : n = (bytesM m).length := by omega
  refine ⟨hc'.2, hn, ?_⟩
  rw [hn]
  conv => rhs; rw [e]
  rw [List.drop_left]
  exact e
theorem msgsF_inv : ∀ (f : Nat) (l : List UInt8) (acc ms : List Msg), msgsF f l acc = some ms → acc.length ≤ 64 → ∃ t, ms = acc ++ t ∧ l = t.flatMap bytesM ∧ (∀ m ∈ t, validB m = true) ∧ ms.length ≤ 64
  | 0, _, _, _, h, _ => by cases h
  | f + 1, l, acc, ms, h, h64 => by
    unfold msgsF at h
    split at h
    · rename_i hl
      injection h with h
      subst h hl
      exact ⟨[], by simp, rfl, fun m hm => (nomatch hm), h64⟩
    split at h
    · cases h
    rename_i m n hp
    split at h
    · cases h
    rename_i hne
    obtain ⟨hv, hn, e⟩ := parse1_inv hp
    obtain ⟨t, h1, h2, h3, h4⟩ := msgsF_inv f _ _ _ h (by simp; omega)
    refine ⟨m :: t, by rw [h1]; simp, ?_, fun x hx => ?_, h4⟩
    · rw [List.flatMap_cons, ← h2]
      exact e
    · rcases List.mem_cons.1 hx with rfl | hx
      · exact hv
      · exact h3 x hx
theorem head_inv {B : List UInt8} (h : 13 ≤ B.length) (h0 : B.getD 0 0 = 70) (hn : readN ((B.drop 9).take 4) = B.length - 13) : headF (readN ((B.drop 1).take 4)) (readN ((B.drop 5).take 4)) (B.drop 13) = B := by
  have key : ∀ i, i + 4 ≤ B.length → beN (readN ((B.drop i).take 4)) 4 4 = (B.drop i).take 4 := by
    intro i hi
    have e := beN_readN ((B.drop i).take 4)
    rw [List.length_take, List.length_drop, Nat.min_eq_left (by omega)] at e
    exact e
  have step : ∀ i, B.drop i = (B.drop i).take 4 ++ B.drop (i + 4) := by
    intro i
    rw [← List.drop_drop, List.take_append_drop]
  unfold headF
  rw [List.length_drop, ← hn, key 1 (by omega), key 5 (by omega), key 9 (by omega), ← step 9, ← step 5, ← step 1]
  cases B with
  | nil => simp at h
  | cons x l =>
    simp at h0
    rw [h0]
    rfl
/-- Whatever is read has that frame. -/
theorem walF_inv {c : List UInt8} {g s : Nat} {l : List Msg} (h : walF c = some (g, s, l)) : frameF g s l = (c, 0) := by
  have hs := walF_sum h
  unfold walF at h
  split at h
  · cases h
  rename_i hlen
  dsimp only at h
  split at h
  · cases h
  rename_i h2
  rw [Classical.not_not] at h2
  split at h
  case isFalse => cases h
  rename_i h3
  have hbl : (c.take (c.length - 8)).length = c.length - 8 := by simp
  have hc : c = c.take (c.length - 8) ++ c.drop (c.length - 8) := (List.take_append_drop _ _).symm
  have hcl : (c.drop (c.length - 8)).length = 8 := by simp; omega
  generalize c.take (c.length - 8) = B at *
  generalize c.drop (c.length - 8) = E at *
  split at h
  · cases h
  · cases h
  rename_i m ms hm
  simp only [Option.some.injEq, Prod.mk.injEq] at h
  obtain ⟨e1, e3, e4⟩ := h
  obtain ⟨t, t1, t2, t3, t4⟩ := msgsF_inv _ _ _ _ hm (by simp)
  rw [List.nil_append] at t1
  rw [t1] at t4 e4
  subst e4
  have hh := head_inv (by omega) h2.1 h3.2.2
  rw [e1, e3] at hh h3
  rw [t2] at hh
  have ht1 : 1 ≤ t.length := by rw [← t1]; simp
  have hg : groupB t = true := by
    unfold groupB
    simp only [Bool.and_eq_true, List.all_eq_true, decide_eq_true_eq]
    exact ⟨t3, by omega, by omega⟩
  have hal : (t.flatMap bytesM).length ≤ 65515 := by
    rw [← t2, List.length_drop]
    omega
  unfold frameF
  rw [if_pos (by rw [hg, Bool.and_eq_true, Bool.and_eq_true, n31_iff, n31_iff]; exact ⟨by omega, by omega, rfl⟩), if_pos hal, Int.toNat_natCast, Int.toNat_natCast, hh]
  have e := beN_readN E
  rw [hcl, h2.2] at e
  rw [e, ← hc]
theorem frame_inj {g s g' s' : Int} {a b : List Msg} (h : (frameF g s a).2 = 0) (h' : (frameF g' s' b).2 = 0) (e : (frameF g s a).1 = (frameF g' s' b).1) : g = g' ∧ s = s' ∧ a = b := by
  have h1 := frame_ok h
  have h2 := frame_ok h'
  rw [e, h2] at h1
  simp only [Option.some.injEq, Prod.mk.injEq] at h1
  obtain ⟨e1, e2, e3⟩ := h1
  have pos : ∀ {g s : Int} {l : List Msg}, (frameF g s l).2 = 0 → 0 ≤ g ∧ 0 ≤ s := by
    intro g s l h
    unfold frameF at h
    split at h
    · rename_i hc
      rw [Bool.and_eq_true, Bool.and_eq_true, n31_iff, n31_iff] at hc
      omega
    · cases h
  have p1 := pos h
  have p2 := pos h'
  exact ⟨by omega, by omega, e3.symm⟩
end Go.PE
