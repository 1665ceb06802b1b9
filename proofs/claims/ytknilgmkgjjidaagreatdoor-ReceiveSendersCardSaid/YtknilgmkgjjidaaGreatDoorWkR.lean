/- WkR: what the laws need of it. -/
import Derived.Test.YtknilgmkgjjidaaGreatDoorWkQ
set_option linter.unusedVariables false
set_option linter.defProp false
set_option linter.all false
set_option linter.unusedSimpArgs false
set_option maxRecDepth 100000
set_option maxHeartbeats 4000000
namespace Go.PE
open Go Go.Proofs

def toP (a b : Nat) : List UInt8 := if (beginsB (paths.getD b []) (paths.getD a []) || beginsB (paths.getD a []) (paths.getD b [])) = true then (if paths.getD a [] = [100, 47] then [99, 47] else [100, 47]) else paths.getD b []
def key2 (a : Nat) : List UInt8 := paths.getD (a % 4) [] ++ keys.getD (a / 4 % 5) []
theorem apart_made : ∀ a : Fin 5, ∀ b : Fin 5, apartB (paths.getD a []) (toP a b) = true := by decide +kernel
theorem span_made : ∀ a : Fin 5, spanB (prefixF (paths.getD a [])).1 (prefixF (paths.getD a [])).2 = true := by decide +kernel
theorem span_made2 : ∀ a : Fin 20, spanB (key2 a) [] = true ∧ spanB (key2 a) (key2 a ++ [0]) = true := by decide +kernel
theorem span_made3 : ∀ a b : Fin 20, key2 a = key2 b ∨ spanB (minS (key2 a) (key2 b)) (maxS (key2 a) (key2 b)) = true := by decide +kernel
theorem span_nil : spanB [] [] = true := by decide +kernel
theorem key_made : ∀ a : Fin 20, inB (key2 a).length 1 65535 = true := by decide +kernel
theorem value_made : ∀ a : Fin 5, (values.getD a []).length ≤ 64 := by decide +kernel
theorem keyF_eq (n : Int) : keyF n = key2 (n.toNat % 20) := by
  unfold keyF key2 pathF
  rw [Int.toNat_natCast, show n.toNat % 4 % 5 = n.toNat % 20 % 4 by omega, show n.toNat / 4 % 5 = n.toNat % 20 / 4 % 5 by omega]
theorem spanR_ok (x : Raw6) : spanB (spanR x).1 (spanR x).2 = true := by
  have f : ∀ n : Int, n.toNat % 20 < 20 := fun n => Nat.mod_lt _ (by decide)
  unfold spanR
  split
  · exact span_made ⟨x.x1.toNat % 5, Nat.mod_lt _ (by decide)⟩
  split
  · rw [keyF_eq]; exact (span_made2 ⟨_, f x.x1⟩).1
  split
  · exact span_nil
  split
  · rw [keyF_eq]; exact (span_made2 ⟨_, f x.x1⟩).2
  · rename_i h
    rw [keyF_eq, keyF_eq] at h ⊢
    exact (span_made3 ⟨_, f x.x1⟩ ⟨_, f x.x3⟩).resolve_left h
theorem toR_ok (x : Raw6) : apartB (pathF x.x1) (toR x) = true := apart_made ⟨x.x1.toNat % 5, Nat.mod_lt _ (by decide)⟩ ⟨x.x3.toNat % 5, Nat.mod_lt _ (by decide)⟩
theorem stamp_ok {x : Raw6} (h : x.ok) : inB (IntKind.i64.wrap (x.x5.tmod 8)) 0 1000000000 = true := by
  have e : x.x5.tmod 8 = ((x.x5.toNat % 8 : Nat) : Int) := tmod_u8 h.2.2.2.2.2 8
  rw [e, wrap_i64' (by omega) (by omega)]
  simp only [inB, Bool.and_eq_true, decide_eq_true_eq]
  omega
theorem made_ok {x : Raw6} (h : x.ok) : validB (madeF x) = true := by
  have hk : inB (keyF x.x1).length 1 65535 = true := by rw [keyF_eq]; exact key_made ⟨_, Nat.mod_lt _ (by decide)⟩
  have hv : (valueF x.x2).length ≤ 64 := value_made ⟨x.x2.toNat % 5, Nat.mod_lt _ (by decide)⟩
  have hs := spanR_ok x
  have ht := toR_ok x
  have hn := stamp_ok h
  unfold madeF
  dsimp only
  split
  · simp [validB, zeroMsg, hk, hn]; omega
  split
  · simp [validB, zeroMsg, hk]
  split
  · simp [validB, zeroMsg, hs]
  split
  · simp [validB, zeroMsg, ht]
  split
  · simp [validB, zeroMsg, ht]
  · simp [validB, zeroMsg, hs, hn]
end Go.PE
