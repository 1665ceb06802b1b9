/- WkSq: what the laws need of it. -/
import Derived.Test.YtknilgmkgjjidaaGreatDoorWkSf
import Derived.Test.YtknilgmkgjjidaaGreatDoorWkSp
import Derived.Test.YtknilgmkgjjidaaGreatDoorWkX
set_option linter.unusedVariables false
set_option linter.defProp false
set_option linter.all false
set_option linter.unusedSimpArgs false
set_option maxRecDepth 100000
set_option maxHeartbeats 4000000
namespace Go.PE
open Go Go.Proofs

def bodyB (r : Rec) : List UInt8 := if r.kind = 1 then beN r.count.toNat 4 4 ++ (beN r.src.toNat 8 8 ++ beN r.dst.toNat 8 8) else if r.kind = 2 then bytesM r.msg else beN r.count.toNat 4 4
theorem plain_eq (r : Rec) : plainR r = UInt8.ofNat r.kind.toNat :: (beN r.seq.toNat 4 4 ++ bodyB r) := rfl
theorem read4 {n : Int} (h : i31P n) (m : List UInt8) : ((readN ((beN n.toNat 4 4 ++ m).take 4) : Nat) : Int) = n := by
  obtain ⟨h1, h2⟩ := h
  have e : (beN n.toNat 4 4 ++ m).take 4 = beN n.toNat 4 4 := by
    rw [List.take_append_of_le_length (by rw [beN_len]; exact Nat.le_refl _), List.take_of_length_le (by rw [beN_len]; exact Nat.le_refl _)]
  rw [e, readN_beN (by omega)]
  omega
theorem read8 {n : Int} (h : u64P n) : ((readN (beN n.toNat 8 8) : Nat) : Int) = n := by
  obtain ⟨h1, h2⟩ := h
  rw [readN_beN (by omega)]
  omega
theorem fields_ok {r : Rec} (h : okR1 r) (m : List UInt8) : fieldsF (start r.kind.toNat r.seq.toNat) (bodyB r ++ m) = ({ r with check := 0 }, (bodyB r).length, true) := by
  obtain ⟨hv, h1, h2, h3⟩ := h
  have hc := validR_cases hv
  obtain ⟨k, s, c, f, t, g, ch⟩ := r
  simp only at hc h1 h2 h3
  rcases hc with ⟨rfl, hc1, rfl, rfl⟩ | ⟨rfl, hs1, ⟨hs2, hs3⟩, hm, rfl, rfl, rfl⟩ | ⟨rfl, hs1, ⟨hs2, hs3⟩, hc1, rfl, rfl, rfl⟩
  · have e1 := read4 hc1 ((beN f.toNat 8 8 ++ beN t.toNat 8 8) ++ m)
    have d4 : (beN c.toNat 4 4 ++ (beN f.toNat 8 8 ++ beN t.toNat 8 8) ++ m).drop 4 = beN f.toNat 8 8 ++ (beN t.toNat 8 8 ++ m) := by
      rw [List.append_assoc, List.drop_left' (beN_len _ _ _), List.append_assoc]
    have d12 : (beN c.toNat 4 4 ++ (beN f.toNat 8 8 ++ beN t.toNat 8 8) ++ m).drop 12 = beN t.toNat 8 8 ++ m := by
      rw [show 12 = 4 + 8 from rfl, ← List.drop_drop, d4, List.drop_left' (beN_len _ _ _)]
    have e2 : ((beN c.toNat 4 4 ++ (beN f.toNat 8 8 ++ beN t.toNat 8 8) ++ m).take 12).drop 4 = beN f.toNat 8 8 := by
      rw [List.drop_take, d4, List.take_left' (beN_len _ _ _)]
    have e3 : ((beN c.toNat 4 4 ++ (beN f.toNat 8 8 ++ beN t.toNat 8 8) ++ m).take 20).drop 12 = beN t.toNat 8 8 := by
      rw [List.drop_take, d12, List.take_left' (beN_len _ _ _)]
    have hl : 20 ≤ (beN c.toNat 4 4 ++ (beN f.toNat 8 8 ++ beN t.toNat 8 8) ++ m).length := by simp [beN_len]; omega
    unfold fieldsF bodyB start
    simp only [Int.reduceEq, if_true, if_false]
    rw [if_neg (by decide), if_pos ⟨rfl, hl⟩, e2, e3, read8 h1, read8 h2]
    rw [← List.append_assoc] at e1
    rw [e1]
    simp [beN_len, zeroMsg]
  · have hp := parse1_ok hm m
    unfold fieldsF bodyB start
    simp only [Int.reduceEq, if_true, if_false]
    rw [if_pos (by decide), hp]
    have : ((s.toNat : Nat) : Int) = s := by omega
    simp [this]
  · have e1 := read4 hc1 m
    have hl : 4 ≤ (beN c.toNat 4 4 ++ m).length := by simp [beN_len]
    have : ((s.toNat : Nat) : Int) = s := by omega
    unfold fieldsF bodyB start
    simp only [Int.reduceEq, if_true, if_false]
    rw [if_neg (by decide), if_neg (fun h => absurd h.1 (by decide)), if_pos ⟨rfl, hl⟩, e1]
    simp [beN_len, zeroMsg, this]
theorem kind_byte {r : Rec} (h : validR r = true) : (UInt8.ofNat r.kind.toNat).toNat = r.kind.toNat := by
  rcases validR_cases h with ⟨e, -⟩ | ⟨e, -⟩ | ⟨e, -⟩ <;> rw [e] <;> rfl
theorem seq31 {r : Rec} (h : validR r = true) : i31P r.seq := by
  rcases validR_cases h with ⟨-, -, e, -⟩ | ⟨-, -, e, -⟩ | ⟨-, -, e, -⟩
  · rw [e]; exact ⟨by decide, by decide⟩
  · exact e
  · exact e
/-- A record is read as it was written, whatever comes after. -/
theorem parseR_ok {r : Rec} (h : okR1 r) (m : List UInt8) : parseR (bytesR r ++ m) = some (r, (bytesR r).length) := by
  have hb : bytesR r ++ m = UInt8.ofNat r.kind.toNat :: (beN r.seq.toNat 4 4 ++ (bodyB r ++ (beN r.check.toNat 8 8 ++ m))) := by
    simp [bytesR, plain_eq]
  have hlen : (bytesR r).length = (bodyB r).length + 5 + 8 := by simp [bytesR, plain_eq, beN_len]; omega
  have d5 : (bytesR r ++ m).drop 5 = bodyB r ++ (beN r.check.toNat 8 8 ++ m) := by
    rw [hb, show 5 = 4 + 1 from rfl, List.drop_succ_cons, List.drop_left' (beN_len _ _ _)]
  have t5 : ((bytesR r ++ m).take 5).drop 1 = beN r.seq.toNat 4 4 := by
    rw [List.drop_take, hb, List.drop_succ_cons, List.drop_zero, List.take_left' (beN_len _ _ _)]
  have g0 : (bytesR r ++ m).getD 0 0 = UInt8.ofNat r.kind.toNat := by rw [hb]; rfl
  have hs := seq31 h.1
  have hsr : readN (beN r.seq.toNat 4 4) = r.seq.toNat := readN_beN (by have := hs.1; have := hs.2; omega)
  have tc : ((bytesR r ++ m).take ((bodyB r).length + 5 + 8)).drop ((bodyB r).length + 5) = beN r.check.toNat 8 8 := by
    rw [List.drop_take, show (bodyB r).length + 5 = 5 + (bodyB r).length by omega, ← List.drop_drop, d5, List.drop_left, show 5 + (bodyB r).length + 8 - (5 + (bodyB r).length) = 8 by omega, List.take_left' (beN_len _ _ _)]
  have hl2 : (bytesR r ++ m).length = (bodyB r).length + 5 + 8 + m.length := by rw [List.length_append, hlen]
  unfold parseR
  rw [if_neg (by omega), g0, t5, hsr, d5, kind_byte h.1, fields_ok h, parse3]
  rw [if_neg (by simp; omega), tc]
  have e8 := read8 h.2.2.2
  have er : ({ r with check := ((readN (beN r.check.toNat 8 8) : Nat) : Int) } : Rec) = r := by rw [e8]
  show (if validR { r with check := ((readN (beN r.check.toNat 8 8) : Nat) : Int) } = true then some (({ r with check := ((readN (beN r.check.toNat 8 8) : Nat) : Int) } : Rec), _) else none) = _
  rw [er, if_pos h.1, hlen]
theorem readN_u64 (l : List UInt8) (h : l.length ≤ 8) : u64P (readN l : Nat) := by
  have := readN_lt' l 8 h
  have h8 : (256 : Nat) ^ 8 = 18446744073709551616 := rfl
  exact ⟨by omega, by omega⟩
theorem fields_inv {k s : Nat} {b : List UInt8} {r : Rec} {n : Nat} (h : fieldsF (start k s) b = (r, n, true)) : n ≤ b.length ∧ r.kind = k ∧ r.seq = s ∧ r.check = 0 ∧ u64P r.src ∧ u64P r.dst ∧ bodyB r = b.take n ∧ (k = 1 ∨ k = 2 ∨ k = 3) := by
  have key : ∀ i j, i + j ≤ b.length → beN (readN ((b.take (i + j)).drop i)) j j = (b.take (i + j)).drop i := by
    intro i j hij
    have e := beN_readN ((b.take (i + j)).drop i)
    rw [List.length_drop, List.length_take, Nat.min_eq_left hij, Nat.add_sub_cancel_left] at e
    exact e
  unfold fieldsF at h
  split at h
  · rename_i hk
    have hk : k = 2 := by simp only [start] at hk; omega
    subst hk
    split at h
    · rename_i m q hp
      simp only [Prod.mk.injEq, and_true] at h
      obtain ⟨rfl, rfl⟩ := h
      obtain ⟨hv, hn, e⟩ := parse1_inv hp
      refine ⟨?_, rfl, rfl, rfl, u64z, u64z, ?_, .inr (.inl rfl)⟩
      · rw [e, hn]; simp
      · unfold bodyB
        rw [if_neg (by simp [start]), if_pos (by simp [start])]
        rw [e, hn, List.take_left]
    · simp at h
  split at h
  · rename_i hk2 hk
    have hk1 : k = 1 := by simp only [start] at hk; omega
    subst hk1
    simp only [Prod.mk.injEq, and_true] at h
    obtain ⟨rfl, rfl⟩ := h
    have hl := hk.2
    refine ⟨hl, rfl, rfl, rfl, readN_u64 _ (by simp; omega), readN_u64 _ (by simp; omega), ?_, .inl rfl⟩
    have k1 := key 0 4 (by omega)
    have k2 := key 4 8 (by omega)
    have k3 := key 12 8 (by omega)
    simp only [Nat.zero_add, List.drop_zero, Nat.reduceAdd] at k1 k2 k3
    unfold bodyB
    rw [if_pos (by simp [start])]
    simp only [Int.toNat_natCast]
    rw [k1, k2, k3]
    have e1 : b.take 12 = b.take 4 ++ (b.take 12).drop 4 := by
      conv => lhs; rw [← List.take_append_drop 4 (b.take 12)]
      rw [List.take_take]
      rfl
    have e2 : b.take 20 = b.take 12 ++ (b.take 20).drop 12 := by
      conv => lhs; rw [← List.take_append_drop 12 (b.take 20)]
      rw [List.take_take]
      rfl
    rw [← List.append_assoc, ← e1, ← e2]
  split at h
  · rename_i hk2 hk1 hk
    have hk3 : k = 3 := by simp only [start] at hk; omega
    subst hk3
    simp only [Prod.mk.injEq, and_true] at h
    obtain ⟨rfl, rfl⟩ := h
    refine ⟨hk.2, rfl, rfl, rfl, u64z, u64z, ?_, .inr (.inr rfl)⟩
    have k1 := key 0 4 (by omega)
    simp only [Nat.zero_add, List.drop_zero] at k1
    unfold bodyB
    rw [if_neg (by simp [start]), if_neg (by simp [start])]
    simp only [Int.toNat_natCast]
    exact k1
  · simp at h
/-- Whatever is read is a valid record with these bytes. -/
theorem parseR_inv {b : List UInt8} {r : Rec} {n : Nat} (h : parseR b = some (r, n)) : validR r = true ∧ rangeR r ∧ n ≤ b.length ∧ bytesR r = b.take n := by
  unfold parseR at h
  split at h
  · cases h
  rename_i h5
  obtain ⟨⟨q, j, ok⟩, hq⟩ : ∃ q, fieldsF (start (b.getD 0 0).toNat (readN ((b.take 5).drop 1))) (b.drop 5) = q := ⟨_, rfl⟩
  rw [hq, parse3] at h
  split at h
  · cases h
  rename_i hok
  simp only [Bool.or_eq_true, Bool.not_eq_true', decide_eq_true_eq, not_or, Bool.not_eq_false] at hok
  obtain ⟨rfl, hl⟩ := hok
  split at h
  case isFalse => cases h
  rename_i hv
  simp only [Option.some.injEq, Prod.mk.injEq] at h
  obtain ⟨rfl, rfl⟩ := h
  obtain ⟨i1, i2, i3, i4, i5, i6, i7, i8⟩ := fields_inv hq
  rw [List.length_drop] at i1
  have hc8 : ((b.take (j + 5 + 8)).drop (j + 5)).length = 8 := by simp; omega
  refine ⟨hv, ⟨i5, i6, readN_u64 _ (by omega)⟩, by omega, ?_⟩
  unfold bytesR
  have eb : plainR { q with check := ((readN ((b.take (j + 5 + 8)).drop (j + 5)) : Nat) : Int) } = UInt8.ofNat q.kind.toNat :: (beN q.seq.toNat 4 4 ++ bodyB q) := rfl
  have es := beN_readN ((b.take 5).drop 1)
  have e4 : ((b.take 5).drop 1).length = 4 := by simp; omega
  rw [e4] at es
  have ec := beN_readN ((b.take (j + 5 + 8)).drop (j + 5))
  rw [hc8] at ec
  rw [eb, i2, i3]
  simp only [Int.toNat_natCast]
  rw [i7, es, ec, UInt8.ofNat_toNat]
  have s1 : b.take 5 = b.getD 0 0 :: (b.take 5).drop 1 := by
    cases b with
    | nil => simp at h5
    | cons x l => simp
  have s2 : b.take (j + 5) = b.take 5 ++ (b.drop 5).take j := by
    rw [show j + 5 = 5 + j by omega, List.take_add]
  have s3 : b.take (j + 5 + 8) = b.take (j + 5) ++ (b.take (j + 5 + 8)).drop (j + 5) := by
    conv => lhs; rw [← List.take_append_drop (j + 5) (b.take (j + 5 + 8))]
    rw [List.take_take, Nat.min_eq_left (by omega)]
  generalize (b.take (j + 5 + 8)).drop (j + 5) = E at *
  generalize (b.take 5).drop 1 = S at *
  rw [s3, s2, s1]
  simp
end Go.PE
