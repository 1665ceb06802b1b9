/- WkTb: what the laws need of it. -/
import Derived.Test.YtknilgmkgjjidaaGreatDoorWkTa
import Derived.Test.YtknilgmkgjjidaaGreatDoorWkSf
set_option linter.unusedVariables false
set_option linter.defProp false
set_option linter.all false
set_option linter.unusedSimpArgs false
set_option maxRecDepth 100000
set_option maxHeartbeats 4000000
namespace Go.PE
open Go Go.Proofs

/-- stream.plain, of any record that may be written. -/
def hPlain0 : Handler := fun args b r K => match args, b, r with
  | [.d x], [], [] => @nK _ (cRec.dec x) ⟨fun x => okR0 x ∧ K (.ret (.arr 1 (plainR x).length)) [] [⟨1, 5, [], false⟩, ⟨1, 5, (plainR x).map byteCell, false⟩]⟩
  | _, _, _ => False
theorem f_streamPlain0 : HOk Tryz.prog 33 hPlain0 := by
  refine HOk.runL [(32, .mem hSNum), (62, .det h05Bytes)] (fun _ => []) (by
    intro p hp
    simp only [List.mem_cons, List.not_mem_nil, or_false] at hp
    rcases hp with rfl | rfl
    · exact f_sNumber
    · exact f_msgBytes) F.mixed Tryz.func33 (by kernel_rfl) rfl (by kernel_rfl) 41 Tryz.ntmps33 [.tmp 2] Tryz.results33 (.inr (fun i => by simp)) ?_
  intro args b r K hl hs
  unfold hPlain0 at hs
  split at hs
  case h_2 => exact hs.elim
  rename_i x
  obtain ⟨⟨k, s, c, f, t, m, ch⟩, hx, ⟨hk, ⟨hs1, hs2⟩, ⟨hc1, hc2⟩, hm, ⟨hf1, hf2⟩, ⟨ht1, ht2⟩, hch⟩, hK⟩ := nK_elim hs
  obtain rfl := cRec.ed _ _ hx
  simp only at hk hs1 hs2 hc1 hc2 hm hf1 hf2 ht1 ht2 hch
  have hb := bytes_le m
  obtain ⟨m1, m2, m3, m4, m5, m6, m7, m8⟩ := m
  simp only [cRec_enc]
  have w1 := wrap_u64n (n := s) ⟨hs1, by omega⟩
  have w2 := wrap_u64n (n := c) ⟨hc1, by omega⟩
  rcases hk with rfl | rfl | rfl
  · have e1 := kindOne 1 (by decide)
    simp (config := { maxSteps := 4000000 }) only [hSNum, rowQ_eq, rowQ1, rowQc, numP, e1, w1, w2, Int.reduceEq, beN_len, List.length_append, eBs, cBs, F.fBs, Nat.reduceSub, Nat.reduceAdd, Nat.reduceLT, Nat.reduceEqDiff, Nat.reduceLeDiff, Nat.reduceMul, Nat.reduceBEq, Int.reduceToNat, Op.operands, if_true, if_false, reduceCtorEq, if_pos, forall_const, implies_true, eq_self, ne_eq, iff_self]
    refine ⟨⟨by omega, by omega, by decide, by decide⟩, ⟨by omega, by omega, by decide, by decide⟩, ⟨by omega, by omega, by decide, by decide⟩, ⟨by omega, by omega, by decide, by decide⟩, ?_⟩
    refine vK_ret _ _ hK ?_
    simp only [eBs, cBs, F.fBs, Nat.reduceSub, Nat.reduceAdd, Nat.reduceLT, Nat.reduceEqDiff, Nat.reduceLeDiff, Nat.reduceMul, Nat.reduceBEq, Int.reduceToNat, Op.operands, if_true, if_false, reduceCtorEq, if_pos, forall_const, implies_true, eq_self, ne_eq, iff_self] <;> simp [plainR, List.append_assoc, beN_len, Nat.add_assoc]
  · have e1 := kindOne 2 (by decide)
    have hv := hm rfl
    simp (config := { maxSteps := 4000000 }) only [hSNum, h05Bytes, cMsg_dec', rowQ_eq, rowQ1, rowQc, numP, e1, w1, Int.reduceEq, beN_len, List.length_append, eBs, cBs, F.fBs, Nat.reduceSub, Nat.reduceAdd, Nat.reduceLT, Nat.reduceEqDiff, Nat.reduceLeDiff, Nat.reduceMul, Nat.reduceBEq, Int.reduceToNat, Op.operands, if_true, if_false, reduceCtorEq, if_pos, forall_const, implies_true, eq_self, ne_eq, iff_self]
    refine ⟨⟨by omega, by omega, by decide, by decide⟩, by omega, ?_⟩
    have hl2 : (plainR ⟨2, s, c, f, t, ⟨m1, m2, m3, m4, m5, m6, m7, m8⟩, ch⟩).length = 4 + (bytesM ⟨m1, m2, m3, m4, m5, m6, m7, m8⟩).length + 1 := by simp [plainR, beN_len]
    rw [hl2] at hK
    refine vK_ret _ _ hK ?_
    simp only [eBs, cBs, F.fBs, Nat.reduceSub, Nat.reduceAdd, Nat.reduceLT, Nat.reduceEqDiff, Nat.reduceLeDiff, Nat.reduceMul, Nat.reduceBEq, Int.reduceToNat, Op.operands, if_true, if_false, reduceCtorEq, if_pos, forall_const, implies_true, eq_self, ne_eq, iff_self] <;> simp [plainR, List.append_assoc, beN_len, Nat.add_assoc]
  · have e1 := kindOne 3 (by decide)
    simp (config := { maxSteps := 4000000 }) only [hSNum, rowQ_eq, rowQ1, rowQc, numP, e1, w1, w2, Int.reduceEq, beN_len, List.length_append, eBs, cBs, F.fBs, Nat.reduceSub, Nat.reduceAdd, Nat.reduceLT, Nat.reduceEqDiff, Nat.reduceLeDiff, Nat.reduceMul, Nat.reduceBEq, Int.reduceToNat, Op.operands, if_true, if_false, reduceCtorEq, if_pos, forall_const, implies_true, eq_self, ne_eq, iff_self]
    refine ⟨⟨by omega, by omega, by decide, by decide⟩, ⟨by omega, by omega, by decide, by decide⟩, ?_⟩
    refine vK_ret _ _ hK ?_
    simp only [eBs, cBs, F.fBs, Nat.reduceSub, Nat.reduceAdd, Nat.reduceLT, Nat.reduceEqDiff, Nat.reduceLeDiff, Nat.reduceMul, Nat.reduceBEq, Int.reduceToNat, Op.operands, if_true, if_false, reduceCtorEq, if_pos, forall_const, implies_true, eq_self, ne_eq, iff_self] <;> simp [plainR, List.append_assoc, beN_len, Nat.add_assoc]
def hBytesR0 : Det := det1 cRec okR0 fun r => .d (.list ((bytesR r).map byteCell))
theorem f_streamBytes0 : FPure Tryz.prog 65 hBytesR0.spec := by
  refine FPure.runL [(32, .mem hSNum), (33, .mem hPlain0)] (fun i => if i = 1 then [(0, (false, [])), (2, (false, [])), (3, (false, [])), (1, (true, [2, 3])), (4, (true, [2])), (5, (true, []))] else []) (by
    intro p hp
    simp only [List.mem_cons, List.not_mem_nil, or_false] at hp
    rcases hp with rfl | rfl
    · exact f_sNumber
    · exact f_streamPlain0) F.mixed Tryz.func65 (by kernel_rfl) rfl (by kernel_rfl) 8 Tryz.ntmps65 [.tmp 2] Tryz.results65 ?_
  intro ds K hl hs
  obtain ⟨r, rfl, ho, hK⟩ := det1_elim hs
  have hb := plainR_le0 r
  simp (config := { maxSteps := 4000000 }) only [cRec_enc, hSNum, hPlain0, cRec_dec, Rec.eta, rowQ_eq, numP, beN_len, List.length_append, eBs, cBs, F.fBs, Nat.reduceSub, Nat.reduceAdd, Nat.reduceLT, Nat.reduceEqDiff, Nat.reduceLeDiff, Nat.reduceMul, Nat.reduceBEq, Int.reduceToNat, Op.operands, if_true, if_false, reduceCtorEq, if_pos, forall_const, implies_true, eq_self, ne_eq, iff_self]
  exact ⟨ho, ⟨⟨ho.2.2.2.2.2.2.1, ho.2.2.2.2.2.2.2, by decide, by decide⟩, by omega⟩, hK⟩
theorem valid_not {r : Rec} (h : ¬ ((1 ≤ r.kind ∧ r.kind ≤ 3) ∧ i31P r.seq ∧ i31P r.count ∧ (r.kind = 2 → validB r.msg = true))) : validR r = false := by
  cases hv : validR r with
  | false => rfl
  | true =>
    exfalso
    apply h
    rcases validR_cases hv with ⟨k, c, s, m⟩ | ⟨k, s1, s2, m, c, -⟩ | ⟨k, s1, s2, c, -⟩
    · exact ⟨by omega, ⟨by omega, by omega⟩, c, fun e => by omega⟩
    · exact ⟨by omega, s2, ⟨by omega, by omega⟩, fun _ => m⟩
    · exact ⟨by omega, s2, c, fun e => by omega⟩
theorem valid_par {r : Rec} (h : okR0 r) : (decide ((parP (bytesR r)).e = 0) && decide ((parP (bytesR r)).r = r)) = validR r := by
  rw [← valid_back h]
  unfold parP
  cases parseR (bytesR r) with
  | none => simp
  | some q => simp
def hRValid : Det := det1 cRec rangeR fun r => .d (.bool (validR r))
theorem f_recvValid : FPure Tryz.prog 40 hRValid.spec := by
  refine FPure.runL [(63, .det hValid), (65, .det hBytesR0), (64, .det hParseR)] (fun _ => []) (by
    intro p hp
    simp only [List.mem_cons, List.not_mem_nil, or_false] at hp
    rcases hp with rfl | rfl | rfl
    · exact f_msgValid
    · exact f_streamBytes0
    · exact f_streamParse) F.mixed Tryz.func40 (by kernel_rfl) rfl (by kernel_rfl) 59 Tryz.ntmps40 [.tmp 2] Tryz.results40 ?_
  intro ds K hl hs
  obtain ⟨⟨k, s, c, f, t, ⟨m1, m2, m3, m4, m5, m6, m7, m8⟩, ch⟩, rfl, hr, hK⟩ := det1_elim hs
  by_cases hg : (1 ≤ k ∧ k ≤ 3) ∧ i31P s ∧ i31P c ∧ (k = 2 → validB ⟨m1, m2, m3, m4, m5, m6, m7, m8⟩ = true)
  · obtain ⟨⟨g1, g2⟩, ⟨g3, g4⟩, ⟨g5, g6⟩, g7⟩ := hg
    have d1 : (k < 1) = False := eq_false (by omega)
    have d2 : ((3 : Int) < k) = False := eq_false (by omega)
    have d3 : (s < 0) = False := eq_false (by omega)
    have d4 : ((2147483648 : Int) ≤ s) = False := eq_false (by omega)
    have d5 : (c < 0) = False := eq_false (by omega)
    have d6 : ((2147483648 : Int) ≤ c) = False := eq_false (by omega)
    have ho : okR0 ⟨k, s, c, f, t, ⟨m1, m2, m3, m4, m5, m6, m7, m8⟩, ch⟩ := ⟨by show k = 1 ∨ k = 2 ∨ k = 3; omega, ⟨g3, g4⟩, ⟨g5, g6⟩, g7, hr⟩
    have hback := valid_par ho
    have hlen : (bytesR ⟨k, s, c, f, t, ⟨m1, m2, m3, m4, m5, m6, m7, m8⟩, ch⟩).length ≤ 100000000 := by
      have := plainR_le0 ⟨k, s, c, f, t, ⟨m1, m2, m3, m4, m5, m6, m7, m8⟩, ch⟩
      simp only [bytesR, List.length_append, beN_len]
      omega
    have hcond : (decide (k = 2) && !validB ⟨m1, m2, m3, m4, m5, m6, m7, m8⟩) = false := by
      by_cases e : k = 2
      · simp [g7 e]
      · simp [e]
    obtain ⟨q, hq⟩ : ∃ q, parP (bytesR ⟨k, s, c, f, t, ⟨m1, m2, m3, m4, m5, m6, m7, m8⟩, ch⟩) = q := ⟨_, rfl⟩
    rw [hq] at hback
    obtain ⟨⟨k', s', c', f', t', ⟨n1, n2, n3, n4, n5, n6, n7, n8⟩, ch'⟩, nn, e'⟩ := q
    rw [← hback] at hK
    simp (config := { maxSteps := 4000000 }) only [cRec_enc, d1, d2, d3, d4, d5, d6, decide_false, Bool.false_or, hValid, cMsg_dec', hBytesR0, cRec_dec, cBytes_dec, hParseR, hcond, parseRA_eq, hq, Rec.em, ← Rec.eqB, eBs, cBs, F.fBs, Nat.reduceSub, Nat.reduceAdd, Nat.reduceLT, Nat.reduceEqDiff, Nat.reduceLeDiff, Nat.reduceMul, Nat.reduceBEq, Int.reduceToNat, Op.operands, if_true, if_false, reduceCtorEq, if_pos, forall_const, implies_true, eq_self, ne_eq, iff_self] at hK ⊢
    exact ⟨ho, hlen, hK⟩
  · have hvf := valid_not (r := ⟨k, s, c, f, t, ⟨m1, m2, m3, m4, m5, m6, m7, m8⟩, ch⟩) hg
    rw [hvf] at hK
    by_cases d1' : k < 1
    · have d1 : (k < 1) = True := eq_true d1'
      simp (config := { maxSteps := 4000000 }) only [cRec_enc, d1, decide_true, decide_false, Bool.true_or, Bool.or_true, Bool.false_or, hValid, cMsg_dec', eBs, cBs, F.fBs, Nat.reduceSub, Nat.reduceAdd, Nat.reduceLT, Nat.reduceEqDiff, Nat.reduceLeDiff, Nat.reduceMul, Nat.reduceBEq, Int.reduceToNat, Op.operands, if_true, if_false, reduceCtorEq, if_pos, forall_const, implies_true, eq_self, ne_eq, iff_self]
      exact hK
    have d1 : (k < 1) = False := eq_false d1'
    by_cases d2' : (3 : Int) < k
    · have d2 : ((3 : Int) < k) = True := eq_true d2'
      simp (config := { maxSteps := 4000000 }) only [cRec_enc, d1, d2, decide_true, decide_false, Bool.true_or, Bool.or_true, Bool.false_or, hValid, cMsg_dec', eBs, cBs, F.fBs, Nat.reduceSub, Nat.reduceAdd, Nat.reduceLT, Nat.reduceEqDiff, Nat.reduceLeDiff, Nat.reduceMul, Nat.reduceBEq, Int.reduceToNat, Op.operands, if_true, if_false, reduceCtorEq, if_pos, forall_const, implies_true, eq_self, ne_eq, iff_self]
      exact hK
    have d2 : ((3 : Int) < k) = False := eq_false d2'
    by_cases d3' : s < 0
    · have d3 : (s < 0) = True := eq_true d3'
      simp (config := { maxSteps := 4000000 }) only [cRec_enc, d1, d2, d3, decide_true, decide_false, Bool.true_or, Bool.or_true, Bool.false_or, hValid, cMsg_dec', eBs, cBs, F.fBs, Nat.reduceSub, Nat.reduceAdd, Nat.reduceLT, Nat.reduceEqDiff, Nat.reduceLeDiff, Nat.reduceMul, Nat.reduceBEq, Int.reduceToNat, Op.operands, if_true, if_false, reduceCtorEq, if_pos, forall_const, implies_true, eq_self, ne_eq, iff_self]
      exact hK
    have d3 : (s < 0) = False := eq_false d3'
    by_cases d4' : (2147483648 : Int) ≤ s
    · have d4 : ((2147483648 : Int) ≤ s) = True := eq_true d4'
      simp (config := { maxSteps := 4000000 }) only [cRec_enc, d1, d2, d3, d4, decide_true, decide_false, Bool.true_or, Bool.or_true, Bool.false_or, hValid, cMsg_dec', eBs, cBs, F.fBs, Nat.reduceSub, Nat.reduceAdd, Nat.reduceLT, Nat.reduceEqDiff, Nat.reduceLeDiff, Nat.reduceMul, Nat.reduceBEq, Int.reduceToNat, Op.operands, if_true, if_false, reduceCtorEq, if_pos, forall_const, implies_true, eq_self, ne_eq, iff_self]
      exact hK
    have d4 : ((2147483648 : Int) ≤ s) = False := eq_false d4'
    by_cases d5' : c < 0
    · have d5 : (c < 0) = True := eq_true d5'
      simp (config := { maxSteps := 4000000 }) only [cRec_enc, d1, d2, d3, d4, d5, decide_true, decide_false, Bool.true_or, Bool.or_true, Bool.false_or, hValid, cMsg_dec', eBs, cBs, F.fBs, Nat.reduceSub, Nat.reduceAdd, Nat.reduceLT, Nat.reduceEqDiff, Nat.reduceLeDiff, Nat.reduceMul, Nat.reduceBEq, Int.reduceToNat, Op.operands, if_true, if_false, reduceCtorEq, if_pos, forall_const, implies_true, eq_self, ne_eq, iff_self]
      exact hK
    have d5 : (c < 0) = False := eq_false d5'
    by_cases d6' : (2147483648 : Int) ≤ c
    · have d6 : ((2147483648 : Int) ≤ c) = True := eq_true d6'
      simp (config := { maxSteps := 4000000 }) only [cRec_enc, d1, d2, d3, d4, d5, d6, decide_true, decide_false, Bool.true_or, Bool.or_true, Bool.false_or, hValid, cMsg_dec', eBs, cBs, F.fBs, Nat.reduceSub, Nat.reduceAdd, Nat.reduceLT, Nat.reduceEqDiff, Nat.reduceLeDiff, Nat.reduceMul, Nat.reduceBEq, Int.reduceToNat, Op.operands, if_true, if_false, reduceCtorEq, if_pos, forall_const, implies_true, eq_self, ne_eq, iff_self]
      exact hK
    have d6 : ((2147483648 : Int) ≤ c) = False := eq_false d6'
    have hk2 : k = 2 ∧ validB ⟨m1, m2, m3, m4, m5, m6, m7, m8⟩ = false := by
      refine Classical.byContradiction fun hn => hg ⟨⟨by omega, by omega⟩, ⟨by omega, by omega⟩, ⟨by omega, by omega⟩, fun e => ?_⟩
      cases hb : validB ⟨m1, m2, m3, m4, m5, m6, m7, m8⟩ with
      | true => rfl
      | false => exact absurd ⟨e, hb⟩ hn
    obtain ⟨rfl, hvb⟩ := hk2
    simp (config := { maxSteps := 4000000 }) only [cRec_enc, d1, d2, d3, d4, d5, d6, hvb, decide_true, decide_false, Bool.false_or, Bool.not_false, Int.reduceLT, hValid, cMsg_dec', eBs, cBs, F.fBs, Nat.reduceSub, Nat.reduceAdd, Nat.reduceLT, Nat.reduceEqDiff, Nat.reduceLeDiff, Nat.reduceMul, Nat.reduceBEq, Int.reduceToNat, Op.operands, if_true, if_false, reduceCtorEq, if_pos, forall_const, implies_true, eq_self, ne_eq, iff_self]
    exact hK
end Go.PE
