/- Law 24: cuts of frames. -/
import Derived.Test.YtkgkpmdbcjelfaaWkN
import Derived.Test.YtkgkpmdbcjelfaaWkS
import Derived.Test.YtkgkpmdbcjelfaaWkT
set_option linter.unusedVariables false
set_option linter.defProp false
set_option linter.all false
set_option linter.unusedSimpArgs false
set_option maxRecDepth 10000
set_option maxHeartbeats 4000000
namespace Go.PE
open Go Go.Proofs

theorem frame_made {l : List Raw6} {n g s : Int} (h : ∀ x ∈ l, x.ok) (hn : n ≤ 64) (hne : listF l n ≠ []) (hg : 0 ≤ g ∧ g ≤ 2147483647) (hs : 0 ≤ s ∧ s ≤ 2147483647) : (frameF g s (listF l n)).2 = 0 := by
  have hv : (listF l n).all validB = true := by
    rw [List.all_eq_true]
    intro m hm
    obtain ⟨x, hx, rfl⟩ := List.mem_map.1 hm
    exact made_ok (h x (List.mem_of_mem_take hx))
  have hlen : (listF l n).length ≤ 64 := by simp [listF]; omega
  have hl1 : 1 ≤ (listF l n).length := List.length_pos_iff.2 hne
  have hsh : ((listF l n).flatMap bytesM).length ≤ 40 * 64 := by
    have := mades_short (l.take n.toNat) (fun x hx => h x (List.mem_of_mem_take hx))
    have h2 : (l.take n.toNat).length ≤ 64 := by simp; omega
    unfold listF
    omega
  have hgr : groupB (listF l n) = true := by
    unfold groupB
    rw [hv]
    simp
    omega
  unfold frameF
  rw [if_pos (by rw [hgr, Bool.and_eq_true, Bool.and_eq_true, n31_iff, n31_iff]; exact ⟨by omega, by omega, rfl⟩), if_pos (by omega)]
/-- What a frame that is read has: its length. -/
theorem walF_len {c : List UInt8} {r : Nat × Nat × List Msg} (h : walF c = some r) : 21 ≤ c.length ∧ readN ((c.drop 9).take 4) = c.length - 21 := by
  unfold walF at h
  split at h
  · cases h
  rename_i h1
  dsimp only at h
  split at h
  · cases h
  split at h
  · rename_i h2
    refine ⟨by omega, ?_⟩
    have e : (c.take (c.length - 8)).drop 9 = (c.drop 9).take (c.length - 17) := by
      rw [List.drop_take]
      congr 1
    have h3 := h2.2.2
    rw [e, List.take_take, Nat.min_eq_left (by omega), List.length_take, Nat.min_eq_left (by omega)] at h3
    omega
  · cases h
theorem walF_none {c : List UInt8} (h : 21 ≤ c.length → readN ((c.drop 9).take 4) ≠ c.length - 21) : walF c = none := by
  cases e : walF c with
  | none => rfl
  | some r =>
    obtain ⟨h1, h2⟩ := walF_len e
    exact absurd h2 (h h1)
theorem walF_cut {b : List UInt8} {r : Nat × Nat × List Msg} (h : walF b = some r) {i : Nat} (hi : i < b.length) : walF (b.take i) = none := by
  obtain ⟨h1, h2⟩ := walF_len h
  refine walF_none fun h3 => ?_
  rw [List.length_take, Nat.min_eq_left (by omega)] at h3 ⊢
  rw [List.drop_take, List.take_take, Nat.min_eq_left (by omega), h2]
  omega
theorem walF_more {b m : List UInt8} {r : Nat × Nat × List Msg} (h : walF b = some r) (hm : m ≠ []) : walF (b ++ m) = none := by
  obtain ⟨h1, h2⟩ := walF_len h
  have hp : 0 < m.length := List.length_pos_iff.2 hm
  refine walF_none fun h3 => ?_
  rw [List.drop_append_of_le_length (by omega), List.take_append_of_le_length (by simp; omega), h2, List.length_append]
  omega
end Go.PE
