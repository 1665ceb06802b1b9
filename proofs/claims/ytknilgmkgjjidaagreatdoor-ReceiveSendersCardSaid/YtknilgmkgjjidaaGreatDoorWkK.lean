/- WkK: what the laws need of it. -/
import Derived.Test.YtknilgmkgjjidaaGreatDoorWkJ
set_option linter.unusedVariables false
set_option linter.defProp false
set_option linter.all false
set_option linter.unusedSimpArgs false
set_option maxRecDepth 100000
set_option maxHeartbeats 4000000
namespace Go.PE
open Go Go.Proofs

theorem or_u64 (a b : Nat) (ha : a < 72057594037927936) (hb : b < 256) : bitsI .or .u64 (IntKind.u64.wrap (a * 2 ^ min 8 IntKind.u64.bits)) (IntKind.u64.wrap (b : Int)) = ((256 * a + b : Nat) : Int) := by
  have e1 : ((a : Int) * (2 : Int) ^ min 8 IntKind.u64.bits) = ((a <<< 8 : Nat) : Int) := by
    rw [Nat.shiftLeft_eq]
    show (a : Int) * (2 : Int) ^ 8 = ((a * 2 ^ 8 : Nat) : Int)
    rw [Int.natCast_mul, Int.natCast_pow]
    rfl
  have hs : a <<< 8 = 256 * a := by rw [Nat.shiftLeft_eq]; omega
  have ho : a <<< 8 ||| b = 256 * a + b := by rw [← Nat.shiftLeft_add_eq_or_of_lt (show b < 2 ^ 8 by omega), hs]
  have wu : ∀ x : Nat, x < 18446744073709551616 → IntKind.u64.wrap (x : Int) = (x : Int) := fun x hx => by rw [IntKind.wrap_u64]; omega
  rw [e1, hs, wu _ (by omega), wu _ (by omega)]
  show IntKind.u64.wrap ((BitVec.ofInt 64 ((256 * a : Nat) : Int) ||| BitVec.ofInt 64 (b : Int)).toNat : Int) = _
  rw [BitVec.ofInt_natCast, BitVec.ofInt_natCast, BitVec.toNat_or, BitVec.toNat_ofNat, BitVec.toNat_ofNat, Nat.mod_eq_of_lt (by omega), Nat.mod_eq_of_lt (by omega), ← hs, ho, wu _ (by omega), hs]
def hValue : Det := det1 cBytes (fun l => l.length ≤ 8) fun l => .d (.int .u64 (readN l : Nat))
theorem rdNum1_le (x : Rd) : (rdNum 1 x).2.l.length ≤ x.l.length - 1 := by
  unfold rdNum rdTake
  split
  · simp
  · simp
theorem rdMsg_le1 (x : Rd) : (rdMsg x).2.l.length ≤ (rdNum 1 x).2.l.length := by
  have h2 := rdText_le (rdNum 1 x).2
  have h3 := rdText_le (rdText (rdNum 1 x).2).2
  have h4 := rdNum_le 4 (rdText (rdText (rdNum 1 x).2).2).2
  unfold rdMsg
  dsimp only
  repeat' split
  all_goals (dsimp only; omega)
theorem parse1_pos {l : List UInt8} {m : Msg} {n : Nat} (h : parse1 l = some (m, n)) (hl : l ≠ []) : 1 ≤ n ∧ n ≤ l.length := by
  unfold parse1 at h
  split at h
  · cases h
  · injection h with h
    injection h with h1 h2
    have h3 := rdMsg_le1 ⟨l, false⟩
    have h4 := rdNum1_le ⟨l, false⟩
    have h5 : 0 < l.length := List.length_pos_iff.2 hl
    simp only at h4
    omega
end Go.PE
