/- WkSi: what the laws need of it. -/
import Derived.Test.YtomligcenflpdabGreatDoorWkSh
set_option linter.unusedVariables false
set_option linter.defProp false
set_option linter.all false
set_option linter.unusedSimpArgs false
set_option maxRecDepth 100000
set_option maxHeartbeats 4000000
namespace Go.PE
open Go Go.Proofs

theorem parP_cases {b : List UInt8} : (∃ r n, parP b = ⟨r, n, 0⟩ ∧ validR r = true ∧ rangeR r ∧ (0 : Int) ≤ n ∧ n ≤ b.length ∧ bytesR r = b.take n.toNat) ∨ parP b = ⟨zeroRec, 0, 180⟩ := by
  unfold parP
  cases h : parseR b with
  | none => exact .inr rfl
  | some q =>
    obtain ⟨r, n⟩ := q
    obtain ⟨h1, h2, h3, h4⟩ := parseR_inv h
    exact .inl ⟨r, n, rfl, h1, h2, by omega, by omega, by simpa using h4⟩
end Go.PE
