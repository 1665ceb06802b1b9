/- WkSb: what the laws need of it. -/
import Derived.Test.YtknilgmkgjjidaaGreatDoorWkSa
set_option linter.unusedVariables false
set_option linter.defProp false
set_option linter.all false
set_option linter.unusedSimpArgs false
set_option maxRecDepth 100000
set_option maxHeartbeats 4000000
namespace Go.PE
open Go Go.Proofs

theorem f_streamValue : FPure Tryz.prog 99 hValue.spec := by
  refine FPure.runL [] (fun _ => []) (by simp) F.mixed Tryz.func99 (by kernel_rfl) rfl (by kernel_rfl) 19 Tryz.ntmps99 [.tmp 2] Tryz.results99 ?_
  intro ds K hl hs
  obtain ⟨l, rfl, h8, hK⟩ := det1_elim hs
  simp only [eBs, cBs, F.fBs, Nat.reduceSub, Nat.reduceAdd, Nat.reduceLT, Nat.reduceEqDiff, Nat.reduceLeDiff, Nat.reduceMul, Nat.reduceBEq, Int.reduceToNat, Op.operands, if_true, if_false, reduceCtorEq, if_pos, forall_const, implies_true, eq_self, ne_eq, iff_self]
  refine eK_rounds [0, 2, 6, 7] (fun i : Nat => i ≤ l.length) (fun i => [(3, .d (.int .u64 (readN (l.take i) : Nat))), (8, .d (.int .i64 i))]) (fun _ => []) (fun _ => []) (fun i => l.length - i) 0 (Nat.zero_le _) ?_ ?_
  · simp [le_eq, St.head, keepT, setAll, leV, leB, leR, leR0, idsR, idsL, idsA, idsB, readN]
  intro i hi
  have bcl : ∀ x : UInt8, byteCell x = [D.int .u8 x.toNat] := fun _ => rfl
  simp only [le_eq, bcl, eBs, cBs, F.fBs, Nat.reduceSub, Nat.reduceAdd, Nat.reduceLT, Nat.reduceEqDiff, Nat.reduceLeDiff, Nat.reduceMul, Nat.reduceBEq, Int.reduceToNat, Op.operands, if_true, if_false, reduceCtorEq, if_pos, forall_const, implies_true, eq_self, ne_eq, iff_self]
  refine ⟨fun h => ⟨⟨by omega, by omega⟩, fun x hx => ⟨by omega, i + 1, by omega, by omega, ?_, ?_⟩⟩, fun h => ?_⟩
  · have hlt := readN_lt' (l.take i) 7 (by simp; omega)
    have h7 : (256 : Nat) ^ 7 = 72057594037927936 := rfl
    have hxl : x.toNat < 256 := x.toNat_lt
    rw [take_snoc hx, readN_snoc, or_u64 _ _ (by omega) hxl]
  · rw [wrap_i64' (by omega) (by omega)]; rfl
  · have : l.take i = l := List.take_of_length_le (by omega)
    rw [this]
    exact hK
def u64P (n : Int) : Prop := 0 ≤ n ∧ n < 18446744073709551616
/-- A valid record whose numbers fit. -/
def okR1 (r : Rec) : Prop := validR r = true ∧ u64P r.src ∧ u64P r.dst ∧ u64P r.check
def i31P (n : Int) : Prop := 0 ≤ n ∧ n ≤ 2147483647
theorem least_iff {n least : Int} : leastB n least = true ↔ least ≤ n ∧ n ≤ 2147483647 := by simp [leastB]
theorem validR_cases {r : Rec} (h : validR r = true) : (r.kind = 1 ∧ i31P r.count ∧ r.seq = 0 ∧ r.msg = zeroMsg) ∨ (r.kind = 2 ∧ 1 ≤ r.seq ∧ i31P r.seq ∧ validB r.msg = true ∧ r.count = 0 ∧ r.src = 0 ∧ r.dst = 0) ∨
    (r.kind = 3 ∧ 1 ≤ r.seq ∧ i31P r.seq ∧ i31P r.count ∧ r.src = 0 ∧ r.dst = 0 ∧ r.msg = zeroMsg) := by
  unfold validR at h
  split at h
  · rename_i hk
    simp only [Bool.and_eq_true, least_iff, decide_eq_true_eq] at h
    have h2 := h.2
    refine .inl ⟨hk, h.1, ?_, ?_⟩ <;> (rw [h2]; rfl)
  split at h
  · rename_i hk
    simp only [Bool.and_eq_true, least_iff, decide_eq_true_eq] at h
    have h2 := h.2.2
    refine .inr (.inl ⟨hk, h.1.1, ⟨by omega, h.1.2⟩, h.2.1, ?_, ?_, ?_⟩) <;> (rw [h2]; rfl)
  split at h
  · rename_i hk
    simp only [Bool.and_eq_true, least_iff, decide_eq_true_eq] at h
    have h2 := h.2.2
    refine .inr (.inr ⟨hk, h.1.1, ⟨by omega, h.1.2⟩, h.2.1, ?_, ?_, ?_⟩) <;> (rw [h2]; rfl)
  · cases h
/-- The plain bytes of a record. -/
def plainR (r : Rec) : List UInt8 := UInt8.ofNat r.kind.toNat :: (beN r.seq.toNat 4 4 ++
  (if r.kind = 1 then beN r.count.toNat 4 4 ++ (beN r.src.toNat 8 8 ++ beN r.dst.toNat 8 8) else if r.kind = 2 then bytesM r.msg else beN r.count.toNat 4 4))
theorem plainR_le {r : Rec} (h : validR r = true) : (plainR r).length ≤ 131200 := by
  have hm := bytes_le r.msg
  unfold plainR
  simp only [List.length_cons, List.length_append]
  split
  · simp [beN_len]
  split
  · simp [beN_len]; omega
  · simp [beN_len]
/-- stream.plain: the bytes lie in a row of their own. -/
def hPlain : Handler := fun args b r K => match args, b, r with
  | [.d x], [], [] => @nK _ (cRec.dec x) ⟨fun x => okR1 x ∧ K (.ret (.arr 1 (plainR x).length)) [] [⟨1, 5, [], false⟩, ⟨1, 5, (plainR x).map byteCell, false⟩]⟩
  | _, _, _ => False
theorem wrap_u64n {n : Int} (h : 0 ≤ n ∧ n < 18446744073709551616) : IntKind.u64.wrap n = n := by rw [IntKind.wrap_u64]; omega
theorem kindOne (k : Int) (h : 0 ≤ k ∧ k < 256) : [[D.int IntKind.u8 (IntKind.u8.wrap k)]] = [UInt8.ofNat k.toNat].map byteCell := by
  rw [kindB k h.1 (by omega)]
  rfl
theorem rowQ1 (x : UInt8) (q : Bool) : rowQ ⟨1, 5, [byteCell x], q⟩ = some ([x], q) := rowQ_eq [x] q
theorem rowQc (x : UInt8) (l : List UInt8) (q : Bool) : rowQ ⟨1, 5, byteCell x :: l.map byteCell, q⟩ = some (x :: l, q) := rowQ_eq (x :: l) q
theorem f_streamPlain : HOk Tryz.prog 33 hPlain := by
  refine HOk.runL [(32, .mem hSNum), (62, .det h05Bytes)] (fun _ => []) (by
    intro p hp
    simp only [List.mem_cons, List.not_mem_nil, or_false] at hp
    rcases hp with rfl | rfl
    · exact f_sNumber
    · exact f_msgBytes) F.mixed Tryz.func33 (by kernel_rfl) rfl (by kernel_rfl) 41 Tryz.ntmps33 [.tmp 2] Tryz.results33 (.inr (fun i => by simp)) ?_
  intro args b r K hl hs
  unfold hPlain at hs
  split at hs
  case h_2 => exact hs.elim
  rename_i x
  obtain ⟨⟨k, s, c, f, t, m, ch⟩, hx, ⟨hv, ⟨hf1, hf2⟩, ⟨ht1, ht2⟩, hch⟩, hK⟩ := nK_elim hs
  obtain rfl := cRec.ed _ _ hx
  simp only at hf1 hf2 ht1 ht2 hch
  have hc := validR_cases hv
  have hb := bytes_le m
  simp only at hc
  obtain ⟨m1, m2, m3, m4, m5, m6, m7, m8⟩ := m
  simp only [cRec_enc]
  rcases hc with ⟨rfl, ⟨hc1, hc2⟩, rfl, -⟩ | ⟨rfl, hs1, ⟨hs2, hs3⟩, hm, rfl, rfl, rfl⟩ | ⟨rfl, hs1, ⟨hs2, hs3⟩, ⟨hc1, hc2⟩, rfl, rfl, -⟩
  · have e1 := kindOne 1 (by decide)
    have w1 := wrap_u64n (n := c) ⟨hc1, by omega⟩
    have w0 := wrap_u64n (n := 0) (by decide)
    simp (config := { maxSteps := 4000000 }) only [hSNum, rowQ_eq, rowQ1, rowQc, numP, e1, w0, w1, Int.reduceEq, beN_len, List.length_append, eBs, cBs, F.fBs, Nat.reduceSub, Nat.reduceAdd, Nat.reduceLT, Nat.reduceEqDiff, Nat.reduceLeDiff, Nat.reduceMul, Nat.reduceBEq, Int.reduceToNat, Op.operands, if_true, if_false, reduceCtorEq, if_pos, forall_const, implies_true, eq_self, ne_eq, iff_self]
    refine ⟨by decide, ⟨by omega, by omega, by decide, by decide⟩, ⟨by omega, by omega, by decide, by decide⟩, ⟨by omega, by omega, by decide, by decide⟩, ?_⟩
    refine vK_ret _ _ hK ?_
    simp only [eBs, cBs, F.fBs, Nat.reduceSub, Nat.reduceAdd, Nat.reduceLT, Nat.reduceEqDiff, Nat.reduceLeDiff, Nat.reduceMul, Nat.reduceBEq, Int.reduceToNat, Op.operands, if_true, if_false, reduceCtorEq, if_pos, forall_const, implies_true, eq_self, ne_eq, iff_self] <;> simp [plainR, List.append_assoc, beN_len, Nat.add_assoc]
  · have e1 := kindOne 2 (by decide)
    have w1 := wrap_u64n (n := s) ⟨hs2, by omega⟩
    simp (config := { maxSteps := 4000000 }) only [hSNum, h05Bytes, cMsg_dec', rowQ_eq, rowQ1, rowQc, numP, e1, w1, Int.reduceEq, beN_len, List.length_append, eBs, cBs, F.fBs, Nat.reduceSub, Nat.reduceAdd, Nat.reduceLT, Nat.reduceEqDiff, Nat.reduceLeDiff, Nat.reduceMul, Nat.reduceBEq, Int.reduceToNat, Op.operands, if_true, if_false, reduceCtorEq, if_pos, forall_const, implies_true, eq_self, ne_eq, iff_self]
    refine ⟨⟨by omega, by omega, by decide, by decide⟩, by omega, ?_⟩
    have hl2 : (plainR ⟨2, s, 0, 0, 0, ⟨m1, m2, m3, m4, m5, m6, m7, m8⟩, ch⟩).length = 4 + (bytesM ⟨m1, m2, m3, m4, m5, m6, m7, m8⟩).length + 1 := by simp [plainR, beN_len]
    rw [hl2] at hK
    refine vK_ret _ _ hK ?_
    simp only [eBs, cBs, F.fBs, Nat.reduceSub, Nat.reduceAdd, Nat.reduceLT, Nat.reduceEqDiff, Nat.reduceLeDiff, Nat.reduceMul, Nat.reduceBEq, Int.reduceToNat, Op.operands, if_true, if_false, reduceCtorEq, if_pos, forall_const, implies_true, eq_self, ne_eq, iff_self] <;> simp [plainR, List.append_assoc, beN_len, Nat.add_assoc]
  · have e1 := kindOne 3 (by decide)
    have w1 := wrap_u64n (n := s) ⟨hs2, by omega⟩
    have w2 := wrap_u64n (n := c) ⟨hc1, by omega⟩
    simp (config := { maxSteps := 4000000 }) only [hSNum, rowQ_eq, rowQ1, rowQc, numP, e1, w1, w2, Int.reduceEq, beN_len, List.length_append, eBs, cBs, F.fBs, Nat.reduceSub, Nat.reduceAdd, Nat.reduceLT, Nat.reduceEqDiff, Nat.reduceLeDiff, Nat.reduceMul, Nat.reduceBEq, Int.reduceToNat, Op.operands, if_true, if_false, reduceCtorEq, if_pos, forall_const, implies_true, eq_self, ne_eq, iff_self]
    refine ⟨⟨by omega, by omega, by decide, by decide⟩, ⟨by omega, by omega, by decide, by decide⟩, ?_⟩
    refine vK_ret _ _ hK ?_
    simp only [eBs, cBs, F.fBs, Nat.reduceSub, Nat.reduceAdd, Nat.reduceLT, Nat.reduceEqDiff, Nat.reduceLeDiff, Nat.reduceMul, Nat.reduceBEq, Int.reduceToNat, Op.operands, if_true, if_false, reduceCtorEq, if_pos, forall_const, implies_true, eq_self, ne_eq, iff_self] <;> simp [plainR, List.append_assoc, beN_len, Nat.add_assoc]
def nextN (c : Nat) (r : Rec) : Nat := fnv (beN c 8 8 ++ plainR r)
theorem nextN_lt (c : Nat) (r : Rec) : nextN c r < 18446744073709551616 := fnv_lt _
def hNext : Det := det2 (cI .u64) cRec (fun c r => u64P c ∧ okR1 r) fun c r => .d (.int .u64 (nextN c.toNat r : Nat))
theorem f_streamNext : FPure Tryz.prog 18 hNext.spec := by
  refine FPure.runL [(32, .mem hSNum), (33, .mem hPlain), (31, .det hCheck)] (fun i => if i = 1 then [(0, (false, [])), (2, (false, [])), (1, (true, [2])), (3, (true, [])), (4, (true, [])), (5, (true, [])), (6, (true, []))] else []) (by
    intro p hp
    simp only [List.mem_cons, List.not_mem_nil, or_false] at hp
    rcases hp with rfl | rfl | rfl
    · exact f_sNumber
    · exact f_streamPlain
    · exact f_nodeCheck) F.mixed Tryz.func18 (by kernel_rfl) rfl (by kernel_rfl) 11 Tryz.ntmps18 [.tmp 4] Tryz.results18 ?_
  intro ds K hl hs
  obtain ⟨c, r, rfl, ⟨hc, ho⟩, hK⟩ := det2_elim hs
  have hb := plainR_le ho.1
  have h0 := hc.1
  have h1 := hc.2
  simp (config := { maxSteps := 4000000 }) only [cRec_enc, hSNum, hPlain, hCheck, cRec_dec, Rec.eta, rowQ_eq, numP, beN_len, List.length_append, eBs, cBs, F.fBs, Nat.reduceSub, Nat.reduceAdd, Nat.reduceLT, Nat.reduceEqDiff, Nat.reduceLeDiff, Nat.reduceMul, Nat.reduceBEq, Int.reduceToNat, Op.operands, if_true, if_false, reduceCtorEq, if_pos, forall_const, implies_true, eq_self, ne_eq, iff_self]
  exact ⟨⟨h0, h1, by decide, by decide⟩, ho, by omega, hK⟩
def bytesR (r : Rec) : List UInt8 := plainR r ++ beN r.check.toNat 8 8
end Go.PE
