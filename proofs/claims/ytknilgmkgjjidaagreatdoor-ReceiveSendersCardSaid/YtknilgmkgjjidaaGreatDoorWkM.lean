/- WkM: what the laws need of it. -/
import Derived.Test.YtknilgmkgjjidaaGreatDoorWkL
set_option linter.unusedVariables false
set_option linter.defProp false
set_option linter.all false
set_option linter.unusedSimpArgs false
set_option maxRecDepth 100000
set_option maxHeartbeats 4000000
namespace Go.PE
open Go Go.Proofs

theorem readN_append : ∀ (l : List UInt8) (a : Nat), l.foldl (fun n c => 256 * n + c.toNat) a = a * 256 ^ l.length + readN l
  | [], a => by simp [readN]
  | x :: l, a => by
    have h1 := readN_append l (256 * a + x.toNat)
    have h2 := readN_append l (256 * 0 + x.toNat)
    unfold readN
    rw [List.foldl_cons, List.foldl_cons, h1, h2, List.length_cons, Nat.pow_succ]
    rw [Nat.add_mul, Nat.mul_zero, Nat.zero_add, Nat.add_assoc, Nat.mul_comm 256 a, Nat.mul_assoc, Nat.mul_comm 256]
theorem readN_cons (x : UInt8) (l : List UInt8) : readN (x :: l) = x.toNat * 256 ^ l.length + readN l := by
  have := readN_append l (256 * 0 + x.toNat)
  unfold readN at this ⊢
  rw [List.foldl_cons, this, Nat.mul_zero, Nat.zero_add]
theorem beN_pre (n size : Nat) : ∀ j, j ≤ size → readN (beN n size j) = n / 256 ^ (size - j) % 256 ^ j
  | 0, _ => by simp [beN_zero, readN]; omega
  | j + 1, h => by
    have ih := beN_pre n size j (by omega)
    have e : beN n size (j + 1) = beN n size j ++ [beAt n size j] := by simp [beN, List.range_succ]
    rw [e, readN_snoc, ih]
    have hp : size - j = (size - (j + 1)) + 1 := by omega
    have hb : (beAt n size j).toNat = n / 256 ^ (size - (j + 1)) % 256 := by
      unfold beAt
      rw [UInt8.toNat_ofNat', Nat.pow_mul, show size - 1 - j = size - (j + 1) by omega]
    rw [hb, hp, Nat.pow_succ, ← Nat.div_div_eq_div_mul, Nat.pow_succ]
    generalize n / 256 ^ (size - (j + 1)) = m
    rw [Nat.mul_comm (256 ^ j) 256, Nat.mod_mul]
    omega
theorem readN_beN {n k : Nat} (h : n < 256 ^ k) : readN (beN n k k) = n := by
  rw [beN_pre n k k (Nat.le_refl _), Nat.sub_self, Nat.pow_zero, Nat.div_one, Nat.mod_eq_of_lt h]
theorem readN_inj : ∀ {a b : List UInt8}, a.length = b.length → readN a = readN b → a = b
  | [], [], _, _ => rfl
  | x :: a, y :: b, hl, h => by
    simp only [List.length_cons, Nat.add_right_cancel_iff] at hl
    rw [readN_cons, readN_cons, hl] at h
    have ha := readN_lt a
    have hb := readN_lt b
    rw [hl] at ha
    have hx : x.toNat = y.toNat := by
      have e1 : (x.toNat * 256 ^ b.length + readN a) / 256 ^ b.length = x.toNat := by
        rw [Nat.mul_comm, Nat.mul_add_div (Nat.pow_pos (by omega)), Nat.div_eq_of_lt ha, Nat.add_zero]
      have e2 : (y.toNat * 256 ^ b.length + readN b) / 256 ^ b.length = y.toNat := by
        rw [Nat.mul_comm, Nat.mul_add_div (Nat.pow_pos (by omega)), Nat.div_eq_of_lt hb, Nat.add_zero]
      rw [← e1, ← e2, h]
    have hr : readN a = readN b := by rw [hx] at h; omega
    rw [UInt8.toNat_inj.1 hx, readN_inj hl hr]
theorem beN_readN (l : List UInt8) : beN (readN l) l.length l.length = l :=
  readN_inj (beN_len _ _ _) (readN_beN (readN_lt l))

theorem rdTake_ok {n : Nat} {a r : List UInt8} {s : Bool} (h : a.length = n) : rdTake n ⟨a ++ r, s⟩ = (a, ⟨r, s⟩) := by
  unfold rdTake
  rw [if_pos (by simp; omega)]
  simp [← h]
theorem rdNum_ok {n k : Nat} {r : List UInt8} {s : Bool} (h : n < 256 ^ k) : rdNum k ⟨beN n k k ++ r, s⟩ = (n, ⟨r, s⟩) := by
  unfold rdNum
  rw [rdTake_ok (beN_len _ _ _)]
  simp only [readN_beN h]
theorem rdText_ok {t r : List UInt8} {s : Bool} (h : t.length ≤ 65535) : rdText ⟨textB t ++ r, s⟩ = (t, ⟨r, s⟩) := by
  unfold rdText textB
  rw [List.append_assoc, rdNum_ok (by omega)]
  exact rdTake_ok rfl
theorem rdKind_ok {k : UInt8} {r : List UInt8} {s : Bool} : rdNum 1 ⟨k :: r, s⟩ = (k.toNat, ⟨r, s⟩) := by
  have : k :: r = [k] ++ r := rfl
  unfold rdNum
  rw [this, rdTake_ok (show [k].length = 1 from rfl)]
  simp [readN]
theorem rdMsg_ok {m : Msg} (h : validB m = true) (r : List UInt8) : rdMsg ⟨bytesM m ++ r, false⟩ = (m, ⟨r, false⟩) := by
  have hc := valid_cases h
  have hb : bytesM m = UInt8.ofNat m.kind.toNat :: fieldsB m := by rw [bytesM, if_pos h]
  rw [hb, List.cons_append]
  unfold rdMsg
  simp only [rdKind_ok]
  unfold fieldsB
  unfold validB at h
  rcases hc with ⟨hk, h1, h2, h3, h4⟩ | ⟨hk, h1⟩ | ⟨hk, h1, h2⟩ | ⟨hk, h1, h2⟩ | ⟨hk, h1, h2⟩ | ⟨hk, h1, h2, h3, h4⟩
  · have hn : m.n.toNat < 256 ^ 4 := by omega
    have hi : ((m.n.toNat : Nat) : Int) = m.n := by omega
    simp [hk] at h ⊢
    simp only [rdText_ok h1, rdText_ok (show m.value.length ≤ 65535 by omega), rdNum_ok hn, and_true, hi]
    exact h.2.2.2.symm
  · simp [hk] at h ⊢
    simp only [rdText_ok h1, and_true]
    exact h.2.symm
  · simp [hk] at h ⊢
    simp only [rdText_ok h1, rdText_ok h2, and_true]
    exact h.2.symm
  · simp [hk] at h ⊢
    simp only [rdText_ok (show m.fr.length ≤ 65535 by omega), rdText_ok (show m.to.length ≤ 65535 by omega), and_true]
    exact h.2.symm
  · simp [hk] at h ⊢
    simp only [rdText_ok (show m.fr.length ≤ 65535 by omega), rdText_ok (show m.to.length ≤ 65535 by omega), and_true]
    exact h.2.symm
  · have hn : m.n.toNat < 256 ^ 4 := by omega
    have hi : ((m.n.toNat : Nat) : Int) = m.n := by omega
    simp [hk] at h ⊢
    simp only [rdText_ok h1, rdText_ok h2, rdNum_ok hn, and_true, hi]
    exact h.2.2.symm
/-- A valid message is read as it was written, whatever comes after. -/
theorem parse1_ok {m : Msg} (h : validB m = true) (r : List UInt8) : parse1 (bytesM m ++ r) = some (m, (bytesM m).length) := by
  unfold parse1
  rw [rdMsg_ok h]
  simp [h]
end Go.PE
