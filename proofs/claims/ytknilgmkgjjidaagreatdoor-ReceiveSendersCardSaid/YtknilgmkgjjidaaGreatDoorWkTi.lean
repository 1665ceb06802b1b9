/- WkTi: what the laws need of it. -/
import Derived.Test.YtknilgmkgjjidaaGreatDoorWkTa
set_option linter.unusedVariables false
set_option linter.defProp false
set_option linter.all false
set_option linter.unusedSimpArgs false
set_option maxRecDepth 100000
set_option maxHeartbeats 4000000
namespace Go.PE
open Go Go.Proofs

theorem inbAt_pos (src dst : Int) (l : List Msg) {i : Nat} (h : i ≠ 0) : inbAt src dst l i = ⟨true, decide (i = l.length + 2), l.length, i, src, dst, (chk 0 (bareF src dst l) i : Nat), l.take (i - 1)⟩ := by
  unfold inbAt
  rw [if_neg h]
theorem inbAt_done (src dst : Int) (l : List Msg) (i : Nat) : (inbAt src dst l i).done = decide (i = l.length + 2) := by
  by_cases h : i = 0
  · subst h
    exact (decide_eq_false (by omega)).symm
  · rw [inbAt_pos src dst l h]
theorem inbAt_count (src dst : Int) (l : List Msg) {i : Nat} (h : i ≠ 0) : (inbAt src dst l i).count = l.length := by rw [inbAt_pos src dst l h]

theorem valid_chk (x : Rec) (c : Int) : validR { x with check := c } = validR x := by
  obtain ⟨k, s, ct, f, t, m, ch⟩ := x
  unfold validR
  simp [Rec.mk.injEq]
theorem again_same {src dst : Int} {l : List Msg} {k n : Nat} {x : Rec} (h1 : u64P src) (h2 : u64P dst) (hl : l.length ≤ 1000000) (hv : ∀ m ∈ l, validB m = true) (h : (makeF src dst l)[k]? = some x) (hk : k < n) (hn : n ≤ l.length + 2) (c : Int) :
    takeF (inbAt src dst l n) { x with check := c } = (inbAt src dst l n, 0) := by
  obtain ⟨⟨hva, hr⟩, hsx, hc, hcs, hh, hb, he, hi⟩ := make_facts h1 h2 hl hv h
  rw [take_again h1 h2 hl hv h hk hn (y := { x with check := c }) ((valid_chk x c).trans hva) hsx]
  refine congrArg _ (if_pos ?_)
  by_cases e0 : k = 0
  · rw [if_pos e0]
    have := hh e0
    refine ⟨?_, ?_, ?_⟩
    · show x.count = _
      rw [this]; rfl
    · show x.src = _
      rw [this]; rfl
    · show x.dst = _
      rw [this]; rfl
  · rw [if_neg e0]
    by_cases e1 : k ≤ l.length
    · rw [if_pos e1]
      obtain ⟨m, hm, hx⟩ := hb (k - 1) (by omega) (by omega)
      exact ⟨by show x.kind = 2; rw [hx]; rfl, rfl⟩
    · rw [if_neg e1]
      have hx := he (by omega)
      exact ⟨by show x.kind = 3; rw [hx]; rfl, by show x.count = _; rw [hx]; rfl⟩
theorem make_kind {src dst : Int} {l : List Msg} {k : Nat} {x : Rec} (h : (makeF src dst l)[k]? = some x) : (x.kind = 1 ∧ k = 0) ∨ (x.kind = 2 ∧ 1 ≤ k ∧ k ≤ l.length) ∨ (x.kind = 3 ∧ k = l.length + 1) := by
  have hs := make_seq h
  have hlt := (List.getElem?_eq_some_iff.1 h).1
  rw [make_len] at hlt
  rw [hs.2]
  unfold kindAt
  by_cases e0 : k = 0
  · left; simp [e0]
  · by_cases e1 : k = l.length + 1
    · right; right; simp [e1]
    · right; left
      rw [if_neg e0, if_neg e1]
      exact ⟨rfl, by omega, by omega⟩
theorem take_far {src dst : Int} {l : List Msg} {n : Nat} {y : Rec} (hy : validR y = true) (hs : (n : Int) < y.seq) : takeF (inbAt src dst l n) y = (inbAt src dst l n, 190) := by
  unfold takeF
  rw [if_neg (by rw [hy]; decide)]
  by_cases h0 : n = 0
  · subst h0
    rw [if_pos (show (inbAt src dst l 0).op = false from rfl), if_pos (by omega)]
  · rw [inbAt_pos src dst l h0]
    rw [if_neg (by simp), if_neg (by simp only; omega), if_pos (.inl hs)]
/-- When a record with the next number is taken. -/
def followsF (x : Inb) (r : Rec) : Bool := decide (r.check = (nextN x.check.toNat r : Nat)) && (decide (x.next = 0) || ((decide (r.kind = 2) == decide (x.next ≤ x.count)) && (decide (r.kind ≠ 3) || decide (r.count = x.count))))
theorem take_follows {src dst : Int} {l : List Msg} {n : Nat} {y : Rec} (hn : n ≤ l.length + 1) (hy : validR y = true) (hs : y.seq = n) : decide ((takeF (inbAt src dst l n) y).2 = 0) = followsF (inbAt src dst l n) y := by
  unfold takeF followsF
  rw [if_neg (by rw [hy]; decide)]
  by_cases h0 : n = 0
  · subst h0
    rw [if_pos (show (inbAt src dst l 0).op = false from rfl), if_neg (by rw [hs]; simp)]
    have e0 : (inbAt src dst l 0).check = 0 := rfl
    have e1 : (inbAt src dst l 0).next = 0 := rfl
    rw [e0, e1]
    by_cases hc : y.check = (nextN 0 y : Nat)
    · rw [if_neg (fun h => h hc)]
      simp [hc]
    · rw [if_pos hc]
      simp [hc]
  · rw [inbAt_pos src dst l h0]
    rw [if_neg (by simp), if_neg (by simp only [hs]; omega), if_neg (by simp only [decide_eq_true_eq, hs]; omega)]
    have hk : y.kind = 2 ∨ y.kind = 3 := by
      rcases validR_cases hy with ⟨-, -, s, -⟩ | ⟨k, -⟩ | ⟨k, -⟩
      · omega
      · exact .inl k
      · exact .inr k
    simp only [Int.toNat_natCast]
    have n0 : ((n : Int) = 0) = False := eq_false (by omega)
    unfold fitsF
    simp only [hs, n0, decide_false, Bool.false_or]
    by_cases hc : y.check = (nextN (chk 0 (bareF src dst l) n) y : Nat)
    · simp only [hc, and_true, decide_true, Bool.true_and]
      by_cases e : (n : Int) ≤ l.length
      · simp only [e, if_true, decide_true]
        rcases hk with hk | hk <;> simp [hk]
      · simp only [e, if_false, decide_false]
        rcases hk with hk | hk
        · simp [hk]
        · by_cases e3 : y.count = l.length <;> simp [hk, e3]
    · simp [hc]
end Go.PE
