/- WkT: what the laws need of it. -/
import Derived.Test.YtomligcenflpdabGreatDoorWkF
set_option linter.unusedVariables false
set_option linter.defProp false
set_option linter.all false
set_option linter.unusedSimpArgs false
set_option maxRecDepth 100000
set_option maxHeartbeats 4000000
namespace Go.PE
open Go Go.Proofs

theorem mulP_inj {a b : Nat} (ha : a < 18446744073709551616) (hb : b < 18446744073709551616) (h : a * 1099511628211 % 18446744073709551616 = b * 1099511628211 % 18446744073709551616) : a = b := by
  have inv : ∀ x, x < 18446744073709551616 → x * 1099511628211 % 18446744073709551616 * 14886173955864302971 % 18446744073709551616 = x := by
    intro x hx
    rw [Nat.mod_mul_mod, Nat.mul_assoc]
    have e : 1099511628211 * 14886173955864302971 % 18446744073709551616 = 1 := by decide
    rw [Nat.mul_mod, e, Nat.mul_one, Nat.mod_mod, Nat.mod_eq_of_lt hx]
  rw [← inv a ha, ← inv b hb, h]
theorem fnvStep_h {h h' : Nat} {c : UInt8} (h1 : h < 18446744073709551616) (h2 : h' < 18446744073709551616) (e : fnvStep h c = fnvStep h' c) : h = h' := by
  unfold fnvStep at e
  have hc : c.toNat < 18446744073709551616 := by have := c.toNat_lt; omega
  have := mulP_inj (Nat.xor_lt_two_pow (n := 64) h1 hc) (Nat.xor_lt_two_pow (n := 64) h2 hc) e
  have e2 := congrArg (· ^^^ c.toNat) this
  simpa [Nat.xor_assoc] using e2
theorem fnvStep_c {h : Nat} {c c' : UInt8} (h1 : h < 18446744073709551616) (e : fnvStep h c = fnvStep h c') : c = c' := by
  unfold fnvStep at e
  have hc : c.toNat < 18446744073709551616 := by have := c.toNat_lt; omega
  have hc' : c'.toNat < 18446744073709551616 := by have := c'.toNat_lt; omega
  have := mulP_inj (Nat.xor_lt_two_pow (n := 64) h1 hc) (Nat.xor_lt_two_pow (n := 64) h1 hc') e
  have e2 := congrArg (h ^^^ ·) this
  simp only [← Nat.xor_assoc, Nat.xor_self, Nat.zero_xor] at e2
  exact UInt8.toNat_inj.1 e2
theorem foldS_inj : ∀ (l : List UInt8) (a b : Nat), a < 18446744073709551616 → b < 18446744073709551616 → l.foldl fnvStep a = l.foldl fnvStep b → a = b
  | [], _, _, _, _, h => h
  | c :: l, a, b, ha, hb, h => fnvStep_h ha hb (foldS_inj l _ _ (fnvStep_lt a c) (fnvStep_lt b c) h)
/-- One byte changed: another check. -/
theorem fnv_one {a b : List UInt8} {c c' : UInt8} (h : fnv (a ++ c :: b) = fnv (a ++ c' :: b)) : c = c' := by
  unfold fnv at h
  rw [List.foldl_append, List.foldl_append, List.foldl_cons, List.foldl_cons] at h
  have hl := fnvF_lt a fnv0 fnv0_lt
  exact fnvStep_c hl (foldS_inj b _ _ (fnvStep_lt _ _) (fnvStep_lt _ _) h)
end Go.PE
