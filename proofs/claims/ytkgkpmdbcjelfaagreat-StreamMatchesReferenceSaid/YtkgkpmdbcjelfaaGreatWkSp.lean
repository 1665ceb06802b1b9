/- Plain laws of streams: what is made is sound; rests; equal streams. -/
import Derived.Test.YtkgkpmdbcjelfaaGreatWkSe
import Derived.Test.YtkgkpmdbcjelfaaGreatWkT
import Derived.Test.YtkgkpmdbcjelfaaGreatWkM
set_option linter.unusedVariables false
set_option linter.defProp false
set_option linter.all false
set_option linter.unusedSimpArgs false
set_option maxRecDepth 10000
set_option maxHeartbeats 4000000
namespace Go.PE
open Go Go.Proofs

theorem plain_withC (r : Rec) (c : Nat) : plainR (withC r c) = plainR r := rfl
theorem next_withC (r : Rec) (c d : Nat) : nextN c (withC r d) = nextN c r := rfl
theorem valid_withC (r : Rec) (c : Nat) : validR (withC r c) = validR r := by
  obtain ⟨k, s, ct, f, t, m, ch⟩ := r
  simp [validR, withC]
theorem bare_get (src dst : Int) (l : List Msg) (i : Nat) : (bareF src dst l)[i]? = if i = 0 then some (headR src dst l.length) else if i ≤ l.length then (l[i - 1]?).map (bodyR (i - 1)) else if i = l.length + 1 then some (endR l.length) else none := by
  unfold bareF
  cases i with
  | zero => simp
  | succ i =>
    rw [List.getElem?_cons_succ, if_neg (by omega)]
    rcases Nat.lt_or_ge i l.length with h | h
    · rw [List.getElem?_append_left (by rw [bodyI_len]; exact h), if_pos (by omega), bodyI_get]
      simp
    · rw [List.getElem?_append_right (by rw [bodyI_len]; exact h), bodyI_len, if_neg (by omega)]
      by_cases e : i = l.length
      · subst e; simp
      · rw [if_neg (by omega), List.getElem?_eq_none (by simp; omega)]
theorem bare_seq {src dst : Int} {l : List Msg} {i : Nat} {x : Rec} (h : (bareF src dst l)[i]? = some x) : x.seq = i ∧ x.kind = kindAt (l.length + 1) i := by
  rw [bare_get] at h
  unfold kindAt
  split at h
  · rename_i e
    injection h with h
    subst h e
    exact ⟨rfl, rfl⟩
  split at h
  · rename_i e0 e1
    cases hm : l[i - 1]? with
    | none => rw [hm] at h; cases h
    | some m =>
      rw [hm] at h
      injection h with h
      subst h
      rw [if_neg e0, if_neg (by omega)]
      refine ⟨?_, rfl⟩
      simp only [bodyR]
      omega
  split at h
  · rename_i e0 e1 e2
    injection h with h
    subst h
    rw [if_neg e0, if_pos e2]
    refine ⟨?_, rfl⟩
    simp only [endR]
    omega
  · cases h
theorem sound_chain (last : Nat) : ∀ (l : List Rec) (i c : Nat), (∀ j x, l[j]? = some x → validR x = true ∧ x.kind = kindAt last (i + j) ∧ x.seq = ((i + j : Nat) : Int)) → soundI last i c (chainF c l) = true
  | [], _, _, _ => rfl
  | r :: l, i, c, h => by
    obtain ⟨h1, h2, h3⟩ := h 0 r rfl
    have ih := sound_chain last l (i + 1) (nextN c r) (fun j x hx => by
      have := h (j + 1) x (by simpa using hx)
      rw [show i + (j + 1) = i + 1 + j by omega] at this
      exact this)
    simp only [chainF, soundI]
    have e : (withC r (nextN c r)).check.toNat = nextN c r := by simp [withC]
    rw [e, ih, Bool.and_true]
    unfold goodR
    rw [valid_withC, h1, next_withC]
    simp only [withC]
    simp only [Nat.add_zero] at h2 h3
    simp [h2, h3]
theorem make_len (src dst : Int) (l : List Msg) : (makeF src dst l).length = l.length + 2 := by
  unfold makeF
  rw [chain_len, bare_len]
theorem make_get (src dst : Int) (l : List Msg) (i : Nat) : (makeF src dst l)[i]? = ((bareF src dst l)[i]?).map fun x => withC x (nextN (chk 0 (bareF src dst l) i) x) := chain_get _ _ _
theorem make_seq {src dst : Int} {l : List Msg} {i : Nat} {x : Rec} (h : (makeF src dst l)[i]? = some x) : x.seq = i ∧ x.kind = kindAt (l.length + 1) i := by
  rw [make_get] at h
  cases hb : (bareF src dst l)[i]? with
  | none => rw [hb] at h; cases h
  | some y =>
    rw [hb] at h
    injection h with h
    subst h
    have := bare_seq hb
    exact this
theorem make_ok {src dst : Int} {l : List Msg} (h1 : u64P src) (h2 : u64P dst) (hl : l.length ≤ 1000000) (hv : ∀ m ∈ l, validB m = true) : ∀ x ∈ makeF src dst l, okR1 x := by
  intro x hx
  obtain ⟨i, hi, e⟩ := List.mem_iff_getElem.1 hx
  have hg : (makeF src dst l)[i]? = some x := by rw [List.getElem?_eq_getElem hi, e]
  rw [make_get] at hg
  cases hb : (bareF src dst l)[i]? with
  | none => rw [hb] at hg; cases hg
  | some y =>
    rw [hb] at hg
    injection hg with hg
    subst hg
    obtain ⟨o1, o2, o3, -⟩ := bare_ok h1 h2 hl hv y (List.mem_of_getElem? hb)
    have hn := nextN_lt (chk 0 (bareF src dst l) i) y
    exact ⟨by rw [valid_withC]; exact o1, o2, o3, by simp only [withC]; omega, by simp only [withC]; omega⟩
theorem make_range {src dst : Int} {l : List Msg} (h1 : u64P src) (h2 : u64P dst) (hl : l.length ≤ 1000000) (hv : ∀ m ∈ l, validB m = true) : ∀ x ∈ makeF src dst l, rangeR x := fun x hx => (make_ok h1 h2 hl hv x hx).2
theorem make_head (src dst : Int) (l : List Msg) : (makeF src dst l)[0]? = some (withC (headR src dst l.length) (nextN 0 (headR src dst l.length))) := by
  rw [make_get, bare_get]
  rfl
theorem make_end (src dst : Int) (l : List Msg) : (makeF src dst l)[l.length + 1]? = some (withC (endR l.length) (nextN (chk 0 (bareF src dst l) (l.length + 1)) (endR l.length))) := by
  rw [make_get, bare_get, if_neg (by omega), if_neg (by omega), if_pos rfl]
  rfl
theorem getD_of {α : Type} {l : List α} {i : Nat} {x d : α} (h : l[i]? = some x) : l.getD i d = x := by simp [List.getD, h]
theorem make_sound {src dst : Int} {l : List Msg} (h1 : u64P src) (h2 : u64P dst) (hl : l.length ≤ 1000000) (hv : ∀ m ∈ l, validB m = true) : soundF (makeF src dst l) = true := by
  have hs := sound_chain (l.length + 1) (bareF src dst l) 0 0 (fun j x hx => by
    obtain ⟨e1, e2⟩ := bare_seq hx
    rw [Nat.zero_add]
    exact ⟨(bare_ok h1 h2 hl hv x (List.mem_of_getElem? hx)).1, e2, e1⟩)
  unfold soundF
  rw [getD_of (make_head src dst l), make_len, show l.length + 2 - 1 = l.length + 1 by omega, getD_of (make_end src dst l)]
  unfold makeF
  rw [hs]
  simp [withC, headR, endR]
theorem make_inj {s d s' d' : Int} {a b : List Msg} (h : makeF s d a = makeF s' d' b) : s = s' ∧ d = d' ∧ a = b := by
  have hl := congrArg List.length h
  rw [make_len, make_len] at hl
  have h0 := congrArg (fun l => l[0]?) h
  simp only [make_head] at h0
  injection h0 with h0
  have e1 := congrArg Rec.src h0
  have e2 := congrArg Rec.dst h0
  refine ⟨e1, e2, List.ext_getElem? fun i => ?_⟩
  rcases Nat.lt_or_ge i a.length with hi | hi
  · have hx := congrArg (fun l => l[i + 1]?) h
    simp only [make_get, bare_get, if_neg (show ¬ i + 1 = 0 by omega), if_pos (show i + 1 ≤ a.length by omega), if_pos (show i + 1 ≤ b.length by omega), Nat.add_sub_cancel] at hx
    rw [List.getElem?_eq_getElem hi, List.getElem?_eq_getElem (show i < b.length by omega)] at hx ⊢
    simp only [Option.map_some] at hx
    injection hx with hx
    have := congrArg Rec.msg hx
    exact congrArg some this
  · rw [List.getElem?_eq_none hi, List.getElem?_eq_none (by omega)]
theorem rest_from {n : Int} : ∀ (l : List Rec) (i : Nat), (∀ j x, l[j]? = some x → x.seq = ((i + j : Nat) : Int)) → l.filter (lateB n) = l.drop (n - i).toNat
  | [], _, _ => by simp
  | x :: l, i, h => by
    have hx := h 0 x rfl
    have ih := rest_from (n := n) l (i + 1) (fun j y hy => by
      have := h (j + 1) y (by simpa using hy)
      rw [show i + (j + 1) = i + 1 + j by omega] at this
      exact this)
    rw [List.filter_cons, ih]
    by_cases hb : x.seq < n
    · rw [if_neg (by simp [lateB, hb])]
      have : (n - i).toNat = (n - (i + 1 : Nat)).toNat + 1 := by omega
      rw [this, List.drop_succ_cons]
    · rw [if_pos (by simp [lateB, hb])]
      have e1 : (n - (i + 1 : Nat)).toNat = 0 := by omega
      have e2 : (n - i).toNat = 0 := by omega
      rw [e1, e2]
      rfl
theorem rest_make (n s d : Int) (l : List Msg) : restF n (makeF s d l) = (makeF s d l).drop n.toNat := by
  have := rest_from (n := n) (makeF s d l) 0 (fun j x hx => by rw [Nat.zero_add]; exact (make_seq hx).1)
  unfold restF
  rw [this]
  congr 1
  omega
theorem rest_rest (n k : Int) (l : List Rec) : restF n (restF k l) = restF (max k n) l := by
  unfold restF
  rw [List.filter_filter]
  congr 1
  funext x
  simp only [lateB, ← Bool.not_or]
  congr 1
  rw [Bool.eq_iff_iff]
  simp only [Bool.or_eq_true, decide_eq_true_eq]
  omega
end Go.PE
