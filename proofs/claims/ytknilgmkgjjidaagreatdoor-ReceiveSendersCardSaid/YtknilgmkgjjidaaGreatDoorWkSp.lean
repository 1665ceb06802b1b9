/- WkSp: what the laws need of it. -/
import Derived.Test.YtknilgmkgjjidaaGreatDoorWkSd
import Derived.Test.YtknilgmkgjjidaaGreatDoorWkF
import Derived.Test.YtknilgmkgjjidaaGreatDoorWkM
set_option linter.unusedVariables false
set_option linter.defProp false
set_option linter.all false
set_option linter.unusedSimpArgs false
set_option maxRecDepth 100000
set_option maxHeartbeats 4000000
namespace Go.PE
open Go Go.Proofs

theorem next_withC (r : Rec) (c d : Nat) : nextN c (withC r d) = nextN c r := rfl
theorem valid_withC (r : Rec) (c : Nat) : validR (withC r c) = validR r := by
  obtain ⟨k, s, ct, f, t, m, ch⟩ := r
  simp [validR, withC]
theorem bare_get (src dst : Int) (l : List Msg) (i : Nat) : (bareF src dst l)[i]? = if i = 0 then some (headR src dst l.length) else if i ≤ l.length then (l[i - 1]?).map (bodyR (i - 1)) else if i = l.length + 1 then some (endR l.length) else none := by
  unfold bareF
  cases i with
  | zero => simp
  | succ i =>
    rw [List.getElem?_cons_succ, if_neg (by omega)]
    rcases Nat.lt_or_ge i l.length with h | h
    · rw [List.getElem?_append_left (by rw [bodyI_len]; exact h), if_pos (by omega), bodyI_get]
      simp
    · rw [List.getElem?_append_right (by rw [bodyI_len]; exact h), bodyI_len, if_neg (by omega)]
      by_cases e : i = l.length
      · subst e; simp
      · rw [if_neg (by omega), List.getElem?_eq_none (by simp; omega)]
theorem bare_seq {src dst : Int} {l : List Msg} {i : Nat} {x : Rec} (h : (bareF src dst l)[i]? = some x) : x.seq = i ∧ x.kind = kindAt (l.length + 1) i := by
  rw [bare_get] at h
  unfold kindAt
  split at h
  · rename_i e
    injection h with h
    subst h e
    exact ⟨rfl, rfl⟩
  split at h
  · rename_i e0 e1
    cases hm : l[i - 1]? with
    | none => rw [hm] at h; cases h
    | some m =>
      rw [hm] at h
      injection h with h
      subst h
      rw [if_neg e0, if_neg (by omega)]
      refine ⟨?_, rfl⟩
      simp only [bodyR]
      omega
  split at h
  · rename_i e0 e1 e2
    injection h with h
    subst h
    rw [if_neg e0, if_pos e2]
    refine ⟨?_, rfl⟩
    simp only [endR]
    omega
  · cases h
theorem make_len (src dst : Int) (l : List Msg) : (makeF src dst l).length = l.length + 2 := by
  unfold makeF
  rw [chain_len, bare_len]
theorem make_get (src dst : Int) (l : List Msg) (i : Nat) : (makeF src dst l)[i]? = ((bareF src dst l)[i]?).map fun x => withC x (nextN (chk 0 (bareF src dst l) i) x) := chain_get _ _ _
theorem make_seq {src dst : Int} {l : List Msg} {i : Nat} {x : Rec} (h : (makeF src dst l)[i]? = some x) : x.seq = i ∧ x.kind = kindAt (l.length + 1) i := by
  rw [make_get] at h
  cases hb : (bareF src dst l)[i]? with
  | none => rw [hb] at h; cases h
  | some y =>
    rw [hb] at h
    injection h with h
    subst h
    have := bare_seq hb
    exact this
theorem make_ok {src dst : Int} {l : List Msg} (h1 : u64P src) (h2 : u64P dst) (hl : l.length ≤ 1000000) (hv : ∀ m ∈ l, validB m = true) : ∀ x ∈ makeF src dst l, okR1 x := by
  intro x hx
  obtain ⟨i, hi, e⟩ := List.mem_iff_getElem.1 hx
  have hg : (makeF src dst l)[i]? = some x := by rw [List.getElem?_eq_getElem hi, e]
  rw [make_get] at hg
  cases hb : (bareF src dst l)[i]? with
  | none => rw [hb] at hg; cases hg
  | some y =>
    rw [hb] at hg
    injection hg with hg
    subst hg
    obtain ⟨o1, o2, o3, -⟩ := bare_ok h1 h2 hl hv y (List.mem_of_getElem? hb)
    have hn := nextN_lt (chk 0 (bareF src dst l) i) y
    exact ⟨by rw [valid_withC]; exact o1, o2, o3, by simp only [withC]; omega, by simp only [withC]; omega⟩
theorem make_range {src dst : Int} {l : List Msg} (h1 : u64P src) (h2 : u64P dst) (hl : l.length ≤ 1000000) (hv : ∀ m ∈ l, validB m = true) : ∀ x ∈ makeF src dst l, rangeR x := fun x hx => (make_ok h1 h2 hl hv x hx).2
theorem getD_of {α : Type} {l : List α} {i : Nat} {x d : α} (h : l[i]? = some x) : l.getD i d = x := by simp [List.getD, h]
end Go.PE
