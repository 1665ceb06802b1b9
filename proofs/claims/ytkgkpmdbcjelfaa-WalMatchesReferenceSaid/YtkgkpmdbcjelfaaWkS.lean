/- Made messages are short. -/
import Derived.Test.YtkgkpmdbcjelfaaWkD
import Derived.Test.YtkgkpmdbcjelfaaWkR
set_option linter.unusedVariables false
set_option linter.defProp false
set_option linter.all false
set_option linter.unusedSimpArgs false
set_option maxRecDepth 10000
set_option maxHeartbeats 4000000
namespace Go.PE
open Go Go.Proofs

theorem span_len1 : ∀ a : Fin 5, (prefixF (paths.getD a [])).1.length ≤ 8 ∧ (prefixF (paths.getD a [])).2.length ≤ 8 := by decide +kernel
theorem key_len2 : ∀ a : Fin 20, (key2 a).length ≤ 7 := by decide +kernel
theorem value_len2 : ∀ a : Fin 5, (values.getD a []).length ≤ 10 := by decide +kernel
theorem toP_len : ∀ a b : Fin 5, (toP a b).length ≤ 4 := by decide +kernel
theorem min_len (a b : List UInt8) : (minS a b).length ≤ a.length + b.length := by unfold minS; split <;> omega
theorem max_len (a b : List UInt8) : (maxS a b).length ≤ a.length + b.length := by unfold maxS; split <;> omega
theorem spanR_len (x : Raw6) : (spanR x).1.length ≤ 14 ∧ (spanR x).2.length ≤ 14 := by
  have k1 : (keyF x.x1).length ≤ 7 := keyF_len _
  have k3 : (keyF x.x3).length ≤ 7 := keyF_len _
  have h1 := min_len (keyF x.x1) (keyF x.x3)
  have h2 := max_len (keyF x.x1) (keyF x.x3)
  unfold spanR
  split
  · have := span_len1 ⟨x.x1.toNat % 5, Nat.mod_lt _ (by decide)⟩
    have e : pathF x.x1 = paths.getD (x.x1.toNat % 5) [] := rfl
    rw [e]
    simp only at this
    omega
  split
  · simp; omega
  split
  · simp
  split
  · simp; omega
  · exact ⟨by simp only; omega, by simp only; omega⟩
theorem made_short {x : Raw6} (h : x.ok) : (bytesM (madeF x)).length ≤ 40 := by
  rw [bytesM, if_pos (made_ok h), List.length_cons]
  have k1 : (keyF x.x1).length ≤ 7 := keyF_len _
  have v1 : (valueF x.x2).length ≤ 10 := value_len2 ⟨x.x2.toNat % 5, Nat.mod_lt _ (by decide)⟩
  have p1 := path_len x.x1
  have t1 : (toR x).length ≤ 4 := toP_len ⟨x.x1.toNat % 5, Nat.mod_lt _ (by decide)⟩ ⟨x.x3.toNat % 5, Nat.mod_lt _ (by decide)⟩
  obtain ⟨s1, s2⟩ := spanR_len x
  unfold madeF
  dsimp only
  split
  · simp [fieldsB, textB_len, beN_len]; omega
  split
  · simp [fieldsB, textB_len, beN_len]; omega
  split
  · simp [fieldsB, textB_len, beN_len]; omega
  split
  · simp [fieldsB, textB_len, beN_len]; omega
  split
  · simp [fieldsB, textB_len, beN_len]; omega
  · simp [fieldsB, textB_len, beN_len]; omega
theorem mades_short : ∀ l : List Raw6, (∀ x ∈ l, x.ok) → ((l.map madeF).flatMap bytesM).length ≤ 40 * l.length
  | [], _ => by simp
  | x :: l, h => by
    have h1 := made_short (h x (List.mem_cons_self ..))
    have h2 := mades_short l (fun y hy => h y (List.mem_cons_of_mem _ hy))
    simp only [List.map_cons, List.flatMap_cons, List.length_append, List.length_cons]
    omega
end Go.PE
