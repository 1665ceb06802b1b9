/- Law 18: StreamBytes. -/
import Derived.Test.YtkgkpmdbcjelfaaGreatWkSh
set_option linter.unusedVariables false
set_option linter.defProp false
set_option linter.all false
set_option linter.unusedSimpArgs false
set_option maxRecDepth 10000
set_option maxHeartbeats 4000000
namespace Go.PE
open Go Go.Proofs

theorem parP_ok {r : Rec} (h : okR1 r) (m : List UInt8) : parP (bytesR r ++ m) = ⟨r, (bytesR r).length, 0⟩ := by
  unfold parP
  rw [parseR_ok h]
theorem parP_cut {r : Rec} (h : okR1 r) {n : Nat} (hn : n < (bytesR r).length) : (parP ((bytesR r).take n)).e = 180 := by
  unfold parP
  rw [parseR_cut h hn]
theorem bytesR_pos {r : Rec} (h : okR1 r) : 13 ≤ (bytesR r).length ∧ (bytesR r).length ≤ 131300 := by
  have := plainR_le h.1
  simp only [bytesR, plain_eq, List.length_append, List.length_cons, beN_len] at this ⊢
  omega
def hBytes18 : Det := det2 cRaws (c2 .u64) (fun l p => (∀ x ∈ l, x.ok) ∧ range2 .u64 p) fun _ _ => .d (.bool true)
end Go.PE
