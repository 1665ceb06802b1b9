/- WkTi: what the laws need of it. -/
import Derived.Test.YtomligcenflpdaaGreatDoorWkTa
set_option linter.unusedVariables false
set_option linter.defProp false
set_option linter.all false
set_option linter.unusedSimpArgs false
set_option maxRecDepth 100000
set_option maxHeartbeats 4000000
namespace Go.PE
open Go Go.Proofs

theorem inbAt_pos (src dst : Int) (l : List Msg) {i : Nat} (h : i ≠ 0) : inbAt src dst l i = ⟨true, decide (i = l.length + 2), l.length, i, src, dst, (chk 0 (bareF src dst l) i : Nat), l.take (i - 1)⟩ := by
  unfold inbAt
  rw [if_neg h]
theorem inbAt_count (src dst : Int) (l : List Msg) {i : Nat} (h : i ≠ 0) : (inbAt src dst l i).count = l.length := by rw [inbAt_pos src dst l h]

theorem valid_chk (x : Rec) (c : Int) : validR { x with check := c } = validR x := by
  obtain ⟨k, s, ct, f, t, m, ch⟩ := x
  unfold validR
  simp [Rec.mk.injEq]
theorem again_same {src dst : Int} {l : List Msg} {k n : Nat} {x : Rec} (h1 : u64P src) (h2 : u64P dst) (hl : l.length ≤ 1000000) (hv : ∀ m ∈ l, validB m = true) (h : (makeF src dst l)[k]? = some x) (hk : k < n) (hn : n ≤ l.length + 2) (c : Int) :
    takeF (inbAt src dst l n) { x with check := c } = (inbAt src dst l n, 0) := by
  obtain ⟨⟨hva, hr⟩, hsx, hc, hcs, hh, hb, he, hi⟩ := make_facts h1 h2 hl hv h
  rw [take_again h1 h2 hl hv h hk hn (y := { x with check := c }) ((valid_chk x c).trans hva) hsx]
  refine congrArg _ (if_pos ?_)
  by_cases e0 : k = 0
  · rw [if_pos e0]
    have := hh e0
    refine ⟨?_, ?_, ?_⟩
    · show x.count = _
      rw [this]; rfl
    · show x.src = _
      rw [this]; rfl
    · show x.dst = _
      rw [this]; rfl
  · rw [if_neg e0]
    by_cases e1 : k ≤ l.length
    · rw [if_pos e1]
      obtain ⟨m, hm, hx⟩ := hb (k - 1) (by omega) (by omega)
      exact ⟨by show x.kind = 2; rw [hx]; rfl, rfl⟩
    · rw [if_neg e1]
      have hx := he (by omega)
      exact ⟨by show x.kind = 3; rw [hx]; rfl, by show x.count = _; rw [hx]; rfl⟩
theorem take_far {src dst : Int} {l : List Msg} {n : Nat} {y : Rec} (hy : validR y = true) (hs : (n : Int) < y.seq) : takeF (inbAt src dst l n) y = (inbAt src dst l n, 190) := by
  unfold takeF
  rw [if_neg (by rw [hy]; decide)]
  by_cases h0 : n = 0
  · subst h0
    rw [if_pos (show (inbAt src dst l 0).op = false from rfl), if_pos (by omega)]
  · rw [inbAt_pos src dst l h0]
    rw [if_neg (by simp), if_neg (by simp only; omega), if_pos (.inl hs)]
theorem valid_end {s c : Int} (hs : 1 ≤ s) (hs2 : s ≤ 2147483647) (hc : 0 ≤ c) (hc2 : c ≤ 2147483647) (ch : Int) : validR ⟨3, s, c, 0, 0, zeroMsg, ch⟩ = true := by
  unfold validR leastB
  simp [hs, hs2, hc, hc2]
  decide
theorem valid_body {s : Int} {m : Msg} (hs : 1 ≤ s) (hs2 : s ≤ 2147483647) (hm : validB m = true) (ch : Int) : validR ⟨2, s, 0, 0, 0, m, ch⟩ = true := by
  unfold validR leastB
  simp [hs, hs2, hm, zeroRec]
theorem take_late {src dst : Int} {l : List Msg} (hl : l.length ≤ 1000000) (ch : Int) : takeF (inbAt src dst l (l.length + 2)) ⟨3, (l.length + 2 : Nat), l.length, 0, 0, zeroMsg, ch⟩ = (inbAt src dst l (l.length + 2), 190) := by
  unfold takeF
  rw [if_neg (by rw [valid_end (by omega) (by omega) (by omega) (by omega)]; decide)]
  rw [inbAt_pos src dst l (by omega)]
  rw [if_neg (by simp), if_neg (by simp), if_pos (.inr (by simp))]
theorem take_odd {src dst : Int} {l : List Msg} {n : Nat} {y : Rec} (hn0 : n ≠ 0) (hn : n ≤ l.length + 1) (hy : validR y = true) (hs : y.seq = n) (hf : if n ≤ l.length then y.kind ≠ 2 else y.kind ≠ 3) : takeF (inbAt src dst l n) y = (inbAt src dst l n, 192) := by
  unfold takeF
  rw [if_neg (by rw [hy]; decide), inbAt_pos src dst l hn0]
  rw [if_neg (by simp), if_neg (by simp only; omega), if_neg (by simp only [decide_eq_true_eq]; omega), if_neg]
  rintro ⟨h, -⟩
  unfold fitsF at h
  simp only [hs] at h
  by_cases e : n ≤ l.length
  · rw [if_pos (by omega)] at h
    rw [if_pos e] at hf
    exact hf (by simpa using h)
  · rw [if_neg (by omega)] at h
    rw [if_neg e] at hf
    simp only [Bool.and_eq_true, decide_eq_true_eq] at h
    exact hf h.1

end Go.PE
