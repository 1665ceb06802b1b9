/- What WkTg needs and the pruned walks lack. -/
import Derived.Test.YtomligcenflpdaaGreatDoorWkTm
set_option linter.unusedVariables false
set_option linter.defProp false
set_option linter.all false
set_option linter.unusedSimpArgs false
set_option maxRecDepth 100000
set_option maxHeartbeats 4000000
namespace Go.PE
open Go Go.Proofs

theorem fit_u8x3 {d : D} (h : FitsV (.agg [.int .u8, .int .u8, .int .u8]) d) : ∃ p, d = (c3 .u8).enc p ∧ range3 .u8 p := by
  obtain ⟨_, rfl, _, _, rfl, ⟨a, rfl, ha⟩, _, _, rfl, ⟨b, rfl, hb⟩, _, _, rfl, ⟨c, rfl, hc⟩, rfl⟩ := h
  exact ⟨(a, b, c), rfl, bounds_u8 ha, bounds_u8 hb, bounds_u8 hc⟩
theorem make_kind {src dst : Int} {l : List Msg} {k : Nat} {x : Rec} (h : (makeF src dst l)[k]? = some x) : (x.kind = 1 ∧ k = 0) ∨ (x.kind = 2 ∧ 1 ≤ k ∧ k ≤ l.length) ∨ (x.kind = 3 ∧ k = l.length + 1) := by
  have hs := make_seq h
  have hlt := (List.getElem?_eq_some_iff.1 h).1
  rw [make_len] at hlt
  rw [hs.2]
  unfold kindAt
  by_cases e0 : k = 0
  · left; simp [e0]
  · by_cases e1 : k = l.length + 1
    · right; right; simp [e1]
    · right; left
      rw [if_neg e0, if_neg e1]
      exact ⟨rfl, by omega, by omega⟩
/-- A head of another stream. -/
theorem again_head {src dst : Int} {l : List Msg} {n : Nat} {x : Rec} (h1 : u64P src) (h2 : u64P dst) (hl : l.length ≤ 1000000) (hv : ∀ m ∈ l, validB m = true) (h : (makeF src dst l)[0]? = some x) (hk : 0 < n) (hn : n ≤ l.length + 2) (d : Int) :
    takeF (inbAt src dst l n) { x with dst := d } = (inbAt src dst l n, if d = dst then 0 else 192) := by
  obtain ⟨⟨hva, hr⟩, hsx, hc, hcs, hh, hb, he, hi⟩ := make_facts h1 h2 hl hv h
  have hx := hh rfl
  have hva2 : validR { x with dst := d } = true := by
    rw [hx] at hva ⊢
    unfold validR at hva ⊢
    simpa [withC, headR, zeroRec] using hva
  rw [take_again h1 h2 hl hv h hk hn (y := { x with dst := d }) hva2 hsx]
  have e1 : x.count = l.length := by rw [hx]; rfl
  have e2 : x.src = src := by rw [hx]; rfl
  simp [e1, e2]
theorem again_body {src dst : Int} {l : List Msg} {k n : Nat} {x : Rec} (h1 : u64P src) (h2 : u64P dst) (hl : l.length ≤ 1000000) (hv : ∀ m ∈ l, validB m = true) (h : (makeF src dst l)[k]? = some x) (hk : k < n) (hn : n ≤ l.length + 2) (hk1 : 1 ≤ k) (hk2 : k ≤ l.length) {m : Msg} (hm : validB m = true) :
    takeF (inbAt src dst l n) { x with msg := m } = (inbAt src dst l n, if m = x.msg then 0 else 192) := by
  obtain ⟨⟨hva, hr⟩, hsx, hc, hcs, hh, hb, he, hi⟩ := make_facts h1 h2 hl hv h
  obtain ⟨m0, hm0, hx⟩ := hb (k - 1) (by omega) (by omega)
  have hkd : x.kind = 2 := by rw [hx]; rfl
  have hva2 : validR { x with msg := m } = true := by
    rw [hx] at hva ⊢
    unfold validR at hva ⊢
    simp only [withC, bodyR] at hva ⊢
    revert hva
    simp [hm]
    intro h _
    exact h
  rw [take_again h1 h2 hl hv h hk hn (y := { x with msg := m }) hva2 hsx]
  have k0 : k ≠ 0 := by omega
  simp [k0, hk2, hkd]

end Go.PE
