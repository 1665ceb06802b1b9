/- WkY: what the laws need of it. -/
import Derived.Test.YtomligcenflpdabGreatDoorWkW
import Derived.Test.YtomligcenflpdabGreatDoorWkX
set_option linter.unusedVariables false
set_option linter.defProp false
set_option linter.all false
set_option linter.unusedSimpArgs false
set_option maxRecDepth 100000
set_option maxHeartbeats 4000000
namespace Go.PE
open Go Go.Proofs

theorem xor_u8 (x : UInt8) {y : Int} (h0 : 0 ≤ y) (h1 : y < 256) : bitsI .xor .u8 x.toNat y = ((x ^^^ UInt8.ofNat y.toNat).toNat : Int) := by
  obtain ⟨n, rfl⟩ := Int.eq_ofNat_of_zero_le h0
  have hx := x.toNat_lt
  show IntKind.u8.wrap ((BitVec.ofInt 8 (x.toNat : Int) ^^^ BitVec.ofInt 8 (n : Int)).toNat : Int) = _
  rw [BitVec.ofInt_natCast, BitVec.ofInt_natCast, BitVec.toNat_xor, BitVec.toNat_ofNat, BitVec.toNat_ofNat, Nat.mod_eq_of_lt (by omega), Nat.mod_eq_of_lt (by omega), UInt8.toNat_xor, Int.toNat_natCast, UInt8.toNat_ofNat', Nat.mod_eq_of_lt (by omega)]
  have := Nat.xor_lt_two_pow (n := 8) (show x.toNat < 2 ^ 8 by omega) (show n < 2 ^ 8 by omega)
  exact wrap_u8' (by omega) (by omega)
theorem xor_ne (x : UInt8) {y : Int} (h0 : 0 ≤ y) (h1 : y < 256) (hy : y ≠ 0) : x ≠ x ^^^ UInt8.ofNat y.toNat := by
  intro e
  have e2 := congrArg (fun z => x ^^^ z) e
  simp only [← UInt8.xor_assoc, UInt8.xor_self, UInt8.zero_xor] at e2
  have e3 := congrArg UInt8.toNat e2
  rw [UInt8.toNat_ofNat', Nat.mod_eq_of_lt (by omega)] at e3
  have : (0 : UInt8).toNat = 0 := rfl
  omega
end Go.PE
