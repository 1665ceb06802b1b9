/- WkZa: what the laws need of it. -/
import Derived.Test.YtknilgmkgjjidaaGreatDoorWkSq
import Derived.Test.YtknilgmkgjjidaaGreatDoorWkH
import Derived.Test.YtknilgmkgjjidaaGreatDoorWkSh
import Derived.Test.YtknilgmkgjjidaaGreatDoorWkW
import Derived.Test.YtknilgmkgjjidaaGreatDoorWkX
set_option linter.unusedVariables false
set_option linter.defProp false
set_option linter.all false
set_option linter.unusedSimpArgs false
set_option maxRecDepth 100000
set_option maxHeartbeats 4000000
namespace Go.PE
open Go Go.Proofs

theorem f_18number : FPure Tryz.prog 22 h24number.spec := by
  refine FPure.runL [] (fun _ => []) (by simp) F.mixed Tryz.func22 (by kernel_rfl) rfl (by kernel_rfl) 23 Tryz.ntmps22 [.tmp 4] Tryz.results22 ?_
  intro ds K hl hs
  obtain ⟨n, size, rfl, ⟨h0, h1, h2, h3⟩, hK⟩ := det2_elim hs
  obtain ⟨n, rfl⟩ := Int.eq_ofNat_of_zero_le h0
  obtain ⟨size, rfl⟩ := Int.eq_ofNat_of_zero_le h2
  simp only [Int.toNat_natCast] at hK
  have hw : IntKind.i64.wrap ((size : Int) - 1) = (size : Int) - 1 := wrap_i64' (by omega) (by omega)
  simp only [eBs, cBs, F.fBs, Nat.reduceSub, Nat.reduceAdd, Nat.reduceLT, Nat.reduceEqDiff, Nat.reduceLeDiff, Nat.reduceMul, Nat.reduceBEq, Int.reduceToNat, Op.operands, if_true, if_false, reduceCtorEq, if_pos, forall_const, implies_true, eq_self, ne_eq, iff_self]
  refine eK_rounds [0, 1, 4] (fun j : Nat => j ≤ size) (fun j => [(5, .arr 1 j), (6, .d (.int .i64 ((size : Int) - 1 - j)))]) (fun _ => []) (fun j => [(1, ⟨1, 5, (beN n size j).map byteCell, false⟩)]) (fun j => size - j) 0 (Nat.zero_le _) ?_ ?_
  · simp [le_eq, St.head, keepT, setAll, leV, leB, leR, leR0, idsR, idsL, idsA, idsB, hw, beN]
  intro j hj
  simp only [le_eq, beN_len, eBs, cBs, F.fBs, Nat.reduceSub, Nat.reduceAdd, Nat.reduceLT, Nat.reduceEqDiff, Nat.reduceLeDiff, Nat.reduceMul, Nat.reduceBEq, Int.reduceToNat, Op.operands, if_true, if_false, reduceCtorEq, if_pos, forall_const, implies_true, eq_self, ne_eq, iff_self]
  refine ⟨fun h => ?_, fun h => ?_⟩
  · have := be_step .u64 rfl n size j (by omega) (by omega) []
    simp only [List.nil_append] at this
    rw [this]
    exact ⟨by rw [wrap_i64' (by omega) (by omega)]; omega, by omega, j + 1, by omega, by omega, ⟨by simp [beN_len], by rw [wrap_i64' (by omega) (by omega)]; congr 2; omega⟩, rfl⟩
  · have : j = size := by omega
    subst this
    exact hK
/-- number: the bytes lie in a row of their own. -/
def hNum18 : Handler := fun args b r K => match args, b, r with
  | [.d (.int .u64 n), .d (.int .i64 size)], [], [] => numP 18446744073709551616 n size ∧ K (.ret (.arr 1 size.toNat)) [] [⟨1, 5, [], false⟩, ⟨1, 5, (beN n.toNat size.toNat size.toNat).map byteCell, false⟩]
  | _, _, _ => False
theorem f_18num : HOk Tryz.prog 22 hNum18 := by
  refine HOk.runL [] (fun _ => []) (by simp) F.mixed Tryz.func22 (by kernel_rfl) rfl (by kernel_rfl) 23 Tryz.ntmps22 [.tmp 4] Tryz.results22 (.inr (fun i => by simp)) ?_
  intro args b r K hl hs
  unfold hNum18 at hs
  split at hs
  case h_2 => exact hs.elim
  rename_i n size
  obtain ⟨⟨h0, h1, h2, h3⟩, hK⟩ := hs
  obtain ⟨n, rfl⟩ := Int.eq_ofNat_of_zero_le h0
  obtain ⟨size, rfl⟩ := Int.eq_ofNat_of_zero_le h2
  simp only [Int.toNat_natCast] at hK
  have hw : IntKind.i64.wrap ((size : Int) - 1) = (size : Int) - 1 := wrap_i64' (by omega) (by omega)
  simp only [eBs, cBs, F.fBs, Nat.reduceSub, Nat.reduceAdd, Nat.reduceLT, Nat.reduceEqDiff, Nat.reduceLeDiff, Nat.reduceMul, Nat.reduceBEq, Int.reduceToNat, Op.operands, if_true, if_false, reduceCtorEq, if_pos, forall_const, implies_true, eq_self, ne_eq, iff_self]
  refine eK_rounds [0, 1, 4] (fun j : Nat => j ≤ size) (fun j => [(5, .arr 1 j), (6, .d (.int .i64 ((size : Int) - 1 - j)))]) (fun _ => []) (fun j => [(1, ⟨1, 5, (beN n size j).map byteCell, false⟩)]) (fun j => size - j) 0 (Nat.zero_le _) ?_ ?_
  · simp [le_eq, St.head, keepT, setAll, leV, leB, leR, leR0, idsR, idsL, idsA, idsB, hw, beN]
  intro j hj
  simp only [le_eq, beN_len, eBs, cBs, F.fBs, Nat.reduceSub, Nat.reduceAdd, Nat.reduceLT, Nat.reduceEqDiff, Nat.reduceLeDiff, Nat.reduceMul, Nat.reduceBEq, Int.reduceToNat, Op.operands, if_true, if_false, reduceCtorEq, if_pos, forall_const, implies_true, eq_self, ne_eq, iff_self]
  refine ⟨fun h => ?_, fun h => ?_⟩
  · have := be_step .u64 rfl n size j (by omega) (by omega) []
    simp only [List.nil_append] at this
    rw [this]
    exact ⟨by rw [wrap_i64' (by omega) (by omega)]; omega, by omega, j + 1, by omega, by omega, ⟨by simp [beN_len], by rw [wrap_i64' (by omega) (by omega)]; congr 2; omega⟩, rfl⟩
  · have : j = size := by omega
    subst this
    refine vK_ret _ _ hK ?_
    simp only [eBs, cBs, F.fBs, Nat.reduceSub, Nat.reduceAdd, Nat.reduceLT, Nat.reduceEqDiff, Nat.reduceLeDiff, Nat.reduceMul, Nat.reduceBEq, Int.reduceToNat, Op.operands, if_true, if_false, reduceCtorEq, if_pos, forall_const, implies_true, eq_self, ne_eq, iff_self] <;> simp
theorem f_18plain : HOk Tryz.prog 23 hPlain := by
  refine HOk.runL [(22, .det h24number), (44, .det h05Bytes)] (fun i => if i = 1 then [(0, (false, [])), (1, (false, [])), (2, (false, [])), (4, (false, [])), (5, (false, [])), (6, (false, [])), (7, (false, [])), (3, (true, [0, 1, 4, 5, 6, 7])), (8, (true, [0, 1, 4, 5, 6])), (9, (true, []))] else []) (by
    intro p hp
    simp only [List.mem_cons, List.not_mem_nil, or_false] at hp
    rcases hp with rfl | rfl
    · exact f_18number
    · exact f_05Bytes) F.mixed Tryz.func23 (by kernel_rfl) rfl (by kernel_rfl) 47 Tryz.ntmps23 [.tmp 2] Tryz.results23 (.inr (fun i => by simp)) ?_
  intro args b r K hl hs
  unfold hPlain at hs
  split at hs
  case h_2 => exact hs.elim
  rename_i x
  obtain ⟨⟨k, s, c, f, t, m, ch⟩, hx, ⟨hv, ⟨hf1, hf2⟩, ⟨ht1, ht2⟩, hch⟩, hK⟩ := nK_elim hs
  obtain rfl := cRec.ed _ _ hx
  simp only at hf1 hf2 ht1 ht2 hch
  have hc := validR_cases hv
  have hb := bytes_le m
  simp only at hc
  obtain ⟨m1, m2, m3, m4, m5, m6, m7, m8⟩ := m
  simp only [cRec_enc]
  rcases hc with ⟨rfl, ⟨hc1, hc2⟩, rfl, -⟩ | ⟨rfl, hs1, ⟨hs2, hs3⟩, hm, rfl, rfl, rfl⟩ | ⟨rfl, hs1, ⟨hs2, hs3⟩, ⟨hc1, hc2⟩, rfl, rfl, -⟩
  · have e1 := kindOne 1 (by decide)
    have w1 := wrap_u64n (n := c) ⟨hc1, by omega⟩
    have w0 := wrap_u64n (n := 0) (by decide)
    simp (config := { maxSteps := 4000000 }) only [h24number, numP, e1, w0, w1, Int.reduceEq, beN_len, List.length_append, eBs, cBs, F.fBs, Nat.reduceSub, Nat.reduceAdd, Nat.reduceLT, Nat.reduceEqDiff, Nat.reduceLeDiff, Nat.reduceMul, Nat.reduceBEq, Int.reduceToNat, Op.operands, if_true, if_false, reduceCtorEq, if_pos, forall_const, implies_true, eq_self, ne_eq, iff_self]
    repeat' (first | omega | (with_reducible apply And.intro))
    refine vK_ret _ _ hK ?_
    simp only [eBs, cBs, F.fBs, Nat.reduceSub, Nat.reduceAdd, Nat.reduceLT, Nat.reduceEqDiff, Nat.reduceLeDiff, Nat.reduceMul, Nat.reduceBEq, Int.reduceToNat, Op.operands, if_true, if_false, reduceCtorEq, if_pos, forall_const, implies_true, eq_self, ne_eq, iff_self] <;> simp [plainR, List.append_assoc, beN_len, Nat.add_assoc]
  · have e1 := kindOne 2 (by decide)
    have w1 := wrap_u64n (n := s) ⟨hs2, by omega⟩
    simp (config := { maxSteps := 4000000 }) only [h24number, h05Bytes, cMsg_dec', numP, e1, w1, Int.reduceEq, beN_len, List.length_append, eBs, cBs, F.fBs, Nat.reduceSub, Nat.reduceAdd, Nat.reduceLT, Nat.reduceEqDiff, Nat.reduceLeDiff, Nat.reduceMul, Nat.reduceBEq, Int.reduceToNat, Op.operands, if_true, if_false, reduceCtorEq, if_pos, forall_const, implies_true, eq_self, ne_eq, iff_self]
    repeat' (first | omega | (with_reducible apply And.intro))
    have hl2 : (plainR ⟨2, s, 0, 0, 0, ⟨m1, m2, m3, m4, m5, m6, m7, m8⟩, ch⟩).length = 4 + (bytesM ⟨m1, m2, m3, m4, m5, m6, m7, m8⟩).length + 1 := by simp [plainR, beN_len]
    rw [hl2] at hK
    refine vK_ret _ _ hK ?_
    simp only [eBs, cBs, F.fBs, Nat.reduceSub, Nat.reduceAdd, Nat.reduceLT, Nat.reduceEqDiff, Nat.reduceLeDiff, Nat.reduceMul, Nat.reduceBEq, Int.reduceToNat, Op.operands, if_true, if_false, reduceCtorEq, if_pos, forall_const, implies_true, eq_self, ne_eq, iff_self] <;> simp [plainR, List.append_assoc, beN_len, Nat.add_assoc]
    try omega
  · have e1 := kindOne 3 (by decide)
    have w1 := wrap_u64n (n := s) ⟨hs2, by omega⟩
    have w2 := wrap_u64n (n := c) ⟨hc1, by omega⟩
    simp (config := { maxSteps := 4000000 }) only [h24number, numP, e1, w1, w2, Int.reduceEq, beN_len, List.length_append, eBs, cBs, F.fBs, Nat.reduceSub, Nat.reduceAdd, Nat.reduceLT, Nat.reduceEqDiff, Nat.reduceLeDiff, Nat.reduceMul, Nat.reduceBEq, Int.reduceToNat, Op.operands, if_true, if_false, reduceCtorEq, if_pos, forall_const, implies_true, eq_self, ne_eq, iff_self]
    repeat' (first | omega | (with_reducible apply And.intro))
    refine vK_ret _ _ hK ?_
    simp only [eBs, cBs, F.fBs, Nat.reduceSub, Nat.reduceAdd, Nat.reduceLT, Nat.reduceEqDiff, Nat.reduceLeDiff, Nat.reduceMul, Nat.reduceBEq, Int.reduceToNat, Op.operands, if_true, if_false, reduceCtorEq, if_pos, forall_const, implies_true, eq_self, ne_eq, iff_self] <;> simp [plainR, List.append_assoc, beN_len, Nat.add_assoc]
theorem f_18Next : FPure Tryz.prog 9 hNext.spec := by
  refine FPure.runL [(22, .mem hNum18), (23, .mem hPlain), (21, .det hCheck)] (fun i => if i = 1 then [(0, (false, [])), (2, (false, [])), (1, (true, [2])), (3, (true, [])), (4, (true, [])), (5, (true, [])), (6, (true, []))] else []) (by
    intro p hp
    simp only [List.mem_cons, List.not_mem_nil, or_false] at hp
    rcases hp with rfl | rfl | rfl
    · exact f_18num
    · exact f_18plain
    · exact f_10Check) F.mixed Tryz.func9 (by kernel_rfl) rfl (by kernel_rfl) 11 Tryz.ntmps9 [.tmp 4] Tryz.results9 ?_
  intro ds K hl hs
  obtain ⟨c, r, rfl, ⟨hc, ho⟩, hK⟩ := det2_elim hs
  have hb := plainR_le ho.1
  have h0 := hc.1
  have h1 := hc.2
  simp (config := { maxSteps := 4000000 }) only [cRec_enc, hNum18, hPlain, hCheck, cRec_dec, Rec.eta, numP, beN_len, List.length_append, eBs, cBs, F.fBs, Nat.reduceSub, Nat.reduceAdd, Nat.reduceLT, Nat.reduceEqDiff, Nat.reduceLeDiff, Nat.reduceMul, Nat.reduceBEq, Int.reduceToNat, Op.operands, if_true, if_false, reduceCtorEq, if_pos, forall_const, implies_true, eq_self, ne_eq, iff_self]
  repeat' (first | exact ho | omega | (with_reducible apply And.intro))
  exact hK
end Go.PE
