/- WkCb: what the laws need of it. -/
import Derived.Test.YtknilgmkgjjidaaGreatDoorWkC
set_option linter.unusedVariables false
set_option linter.defProp false
set_option linter.all false
set_option linter.unusedSimpArgs false
set_option maxRecDepth 100000
set_option maxHeartbeats 4000000
namespace Go.PE
open Go Go.Proofs

def ofA (m : Msg) : D := if m.kind = 1 then .iface 193 (.agg m.enc) else if m.kind = 2 then .iface 194 (.agg m.enc) else if m.kind = 3 then .iface 195 (.agg m.enc) else if m.kind = 4 then .iface 196 (.agg m.enc) else if m.kind = 5 then .iface 197 (.agg m.enc) else if m.kind = 6 then .iface 198 (.agg m.enc) else .nilI
def hMsgOf : Det := det1 cMsg (fun _ => True) fun m => .d (ofA m)
theorem f_msgOf : FPure Tryz.prog 89 hMsgOf.spec := by
  refine FPure.runL [] (fun _ => []) (by simp) F.mixed Tryz.func89 (by kernel_rfl) rfl (by kernel_rfl) 29 Tryz.ntmps89 [.tmp 2] Tryz.results89 ?_
  intro ds K hl hs
  obtain ⟨⟨kind, key, value, lo, hi, fr, to, n⟩, rfl, -, hK⟩ := det1_elim hs
  unfold ofA at hK
  have hk : kind = 1 ∨ kind = 2 ∨ kind = 3 ∨ kind = 4 ∨ kind = 5 ∨ kind = 6 ∨ (kind ≠ 1 ∧ kind ≠ 2 ∧ kind ≠ 3 ∧ kind ≠ 4 ∧ kind ≠ 5 ∧ kind ≠ 6) := by omega
  rcases hk with rfl | rfl | rfl | rfl | rfl | rfl | ⟨h1, h2, h3, h4, h5, h6⟩
  case inr.inr.inr.inr.inr.inr =>
    simp only [h1, h2, h3, h4, h5, h6, if_false] at hK
    simp only [cMsg_enc8, h1, h2, h3, h4, h5, h6, eBs, cBs, F.fBs, Nat.reduceSub, Nat.reduceAdd, Nat.reduceLT, Nat.reduceEqDiff, Nat.reduceLeDiff, Nat.reduceMul, Nat.reduceBEq, Int.reduceToNat, Op.operands, if_true, if_false, reduceCtorEq, if_pos, forall_const, implies_true, eq_self, ne_eq, iff_self]
    exact hK
  all_goals
    simp only [cMsg_enc8, Msg.enc, Int.reduceEq, eBs, cBs, F.fBs, Nat.reduceSub, Nat.reduceAdd, Nat.reduceLT, Nat.reduceEqDiff, Nat.reduceLeDiff, Nat.reduceMul, Nat.reduceBEq, Int.reduceToNat, Op.operands, if_true, if_false, reduceCtorEq, if_pos, forall_const, implies_true, eq_self, ne_eq, iff_self] at hK ⊢
    exact hK
def hValidPut : Det := det1 cMsg (fun _ => True) fun m => .d (.bool (inB m.key.length 1 65535 && (decide ((m.value.length : Int) ≤ 64) && inB m.n 0 1000000000)))
theorem f_validPut : FPure Tryz.prog 385 hValidPut.spec := by
  refine FPure.runL [(389, .det h05in)] (fun _ => []) (by
    intro p hp
    simp only [List.mem_cons, List.not_mem_nil, or_false] at hp
    subst hp
    exact f_msgIn) F.mixed Tryz.func385 (by kernel_rfl) rfl (by kernel_rfl) 18 Tryz.ntmps385 [.tmp 2] Tryz.results385 ?_
  intro ds K hl hs
  obtain ⟨m, rfl, -, hK⟩ := det1_elim hs
  simp only [h05in, hSpan, hApart, cMsg_enc8, cSpan_dec, eBs, cBs, F.fBs, Nat.reduceSub, Nat.reduceAdd, Nat.reduceLT, Nat.reduceEqDiff, Nat.reduceLeDiff, Nat.reduceMul, Nat.reduceBEq, Int.reduceToNat, Op.operands, if_true, if_false, reduceCtorEq, if_pos, forall_const, implies_true, eq_self, ne_eq, iff_self]
  exact hK
def hBarePut : Det := det1 cMsg (fun _ => True) fun m => .d (.agg (Msg.enc { zeroMsg with kind := m.kind, key := m.key, value := m.value, n := m.n }))
theorem f_barePut : FPure Tryz.prog 383 hBarePut.spec := by
  refine FPure.runL [] (fun _ => []) (by simp) F.mixed Tryz.func383 (by kernel_rfl) rfl (by kernel_rfl) 12 Tryz.ntmps383 [.cell 2 36] Tryz.results383 ?_
  intro ds K hl hs
  obtain ⟨m, rfl, -, hK⟩ := det1_elim hs
  simp only [cMsg_enc8, Msg.enc, zeroMsg, eBs, cBs, F.fBs, Nat.reduceSub, Nat.reduceAdd, Nat.reduceLT, Nat.reduceEqDiff, Nat.reduceLeDiff, Nat.reduceMul, Nat.reduceBEq, Int.reduceToNat, Op.operands, if_true, if_false, reduceCtorEq, if_pos, forall_const, implies_true, eq_self, ne_eq, iff_self] at hK ⊢
  exact hK
def hValidDel : Det := det1 cMsg (fun _ => True) fun m => .d (.bool (inB m.key.length 1 65535))
theorem f_validDel : FPure Tryz.prog 405 hValidDel.spec := by
  refine FPure.runL [(389, .det h05in)] (fun _ => []) (by
    intro p hp
    simp only [List.mem_cons, List.not_mem_nil, or_false] at hp
    subst hp
    exact f_msgIn) F.mixed Tryz.func405 (by kernel_rfl) rfl (by kernel_rfl) 7 Tryz.ntmps405 [.tmp 2] Tryz.results405 ?_
  intro ds K hl hs
  obtain ⟨m, rfl, -, hK⟩ := det1_elim hs
  simp only [h05in, hSpan, hApart, cMsg_enc8, cSpan_dec, eBs, cBs, F.fBs, Nat.reduceSub, Nat.reduceAdd, Nat.reduceLT, Nat.reduceEqDiff, Nat.reduceLeDiff, Nat.reduceMul, Nat.reduceBEq, Int.reduceToNat, Op.operands, if_true, if_false, reduceCtorEq, if_pos, forall_const, implies_true, eq_self, ne_eq, iff_self]
  exact hK
def hBareDel : Det := det1 cMsg (fun _ => True) fun m => .d (.agg (Msg.enc { zeroMsg with kind := m.kind, key := m.key }))
theorem f_bareDel : FPure Tryz.prog 403 hBareDel.spec := by
  refine FPure.runL [] (fun _ => []) (by simp) F.mixed Tryz.func403 (by kernel_rfl) rfl (by kernel_rfl) 8 Tryz.ntmps403 [.cell 2 36] Tryz.results403 ?_
  intro ds K hl hs
  obtain ⟨m, rfl, -, hK⟩ := det1_elim hs
  simp only [cMsg_enc8, Msg.enc, zeroMsg, eBs, cBs, F.fBs, Nat.reduceSub, Nat.reduceAdd, Nat.reduceLT, Nat.reduceEqDiff, Nat.reduceLeDiff, Nat.reduceMul, Nat.reduceBEq, Int.reduceToNat, Op.operands, if_true, if_false, reduceCtorEq, if_pos, forall_const, implies_true, eq_self, ne_eq, iff_self] at hK ⊢
  exact hK
def hValidDrop : Det := det1 cMsg (fun _ => True) fun m => .d (.bool (spanB m.lo m.hi))
theorem f_validDrop : FPure Tryz.prog 416 hValidDrop.spec := by
  refine FPure.runL [(419, .det hSpan)] (fun _ => []) (by
    intro p hp
    simp only [List.mem_cons, List.not_mem_nil, or_false] at hp
    subst hp
    exact f_msgEnds) F.mixed Tryz.func416 (by kernel_rfl) rfl (by kernel_rfl) 6 Tryz.ntmps416 [.tmp 2] Tryz.results416 ?_
  intro ds K hl hs
  obtain ⟨m, rfl, -, hK⟩ := det1_elim hs
  simp only [h05in, hSpan, hApart, cMsg_enc8, cSpan_dec, eBs, cBs, F.fBs, Nat.reduceSub, Nat.reduceAdd, Nat.reduceLT, Nat.reduceEqDiff, Nat.reduceLeDiff, Nat.reduceMul, Nat.reduceBEq, Int.reduceToNat, Op.operands, if_true, if_false, reduceCtorEq, if_pos, forall_const, implies_true, eq_self, ne_eq, iff_self]
  exact hK
def hBareDrop : Det := det1 cMsg (fun _ => True) fun m => .d (.agg (Msg.enc { zeroMsg with kind := m.kind, lo := m.lo, hi := m.hi }))
theorem f_bareDrop : FPure Tryz.prog 414 hBareDrop.spec := by
  refine FPure.runL [] (fun _ => []) (by simp) F.mixed Tryz.func414 (by kernel_rfl) rfl (by kernel_rfl) 8 Tryz.ntmps414 [.cell 2 36] Tryz.results414 ?_
  intro ds K hl hs
  obtain ⟨m, rfl, -, hK⟩ := det1_elim hs
  simp only [cMsg_enc8, Msg.enc, zeroMsg, eBs, cBs, F.fBs, Nat.reduceSub, Nat.reduceAdd, Nat.reduceLT, Nat.reduceEqDiff, Nat.reduceLeDiff, Nat.reduceMul, Nat.reduceBEq, Int.reduceToNat, Op.operands, if_true, if_false, reduceCtorEq, if_pos, forall_const, implies_true, eq_self, ne_eq, iff_self] at hK ⊢
  exact hK
def hValidMove : Det := det1 cMsg (fun _ => True) fun m => .d (.bool (apartB m.fr m.to))
theorem f_validMove : FPure Tryz.prog 423 hValidMove.spec := by
  refine FPure.runL [(427, .det hApart)] (fun _ => []) (by
    intro p hp
    simp only [List.mem_cons, List.not_mem_nil, or_false] at hp
    subst hp
    exact f_msgApart) F.mixed Tryz.func423 (by kernel_rfl) rfl (by kernel_rfl) 8 Tryz.ntmps423 [.tmp 2] Tryz.results423 ?_
  intro ds K hl hs
  obtain ⟨m, rfl, -, hK⟩ := det1_elim hs
  simp only [h05in, hSpan, hApart, cMsg_enc8, cSpan_dec, eBs, cBs, F.fBs, Nat.reduceSub, Nat.reduceAdd, Nat.reduceLT, Nat.reduceEqDiff, Nat.reduceLeDiff, Nat.reduceMul, Nat.reduceBEq, Int.reduceToNat, Op.operands, if_true, if_false, reduceCtorEq, if_pos, forall_const, implies_true, eq_self, ne_eq, iff_self]
  exact hK
def hBareMove : Det := det1 cMsg (fun _ => True) fun m => .d (.agg (Msg.enc { zeroMsg with kind := m.kind, fr := m.fr, to := m.to }))
theorem f_bareMove : FPure Tryz.prog 421 hBareMove.spec := by
  refine FPure.runL [] (fun _ => []) (by simp) F.mixed Tryz.func421 (by kernel_rfl) rfl (by kernel_rfl) 10 Tryz.ntmps421 [.cell 2 36] Tryz.results421 ?_
  intro ds K hl hs
  obtain ⟨m, rfl, -, hK⟩ := det1_elim hs
  simp only [cMsg_enc8, Msg.enc, zeroMsg, eBs, cBs, F.fBs, Nat.reduceSub, Nat.reduceAdd, Nat.reduceLT, Nat.reduceEqDiff, Nat.reduceLeDiff, Nat.reduceMul, Nat.reduceBEq, Int.reduceToNat, Op.operands, if_true, if_false, reduceCtorEq, if_pos, forall_const, implies_true, eq_self, ne_eq, iff_self] at hK ⊢
  exact hK
def hValidClone : Det := det1 cMsg (fun _ => True) fun m => .d (.bool (apartB m.fr m.to))
theorem f_validClone : FPure Tryz.prog 434 hValidClone.spec := by
  refine FPure.runL [(427, .det hApart)] (fun _ => []) (by
    intro p hp
    simp only [List.mem_cons, List.not_mem_nil, or_false] at hp
    subst hp
    exact f_msgApart) F.mixed Tryz.func434 (by kernel_rfl) rfl (by kernel_rfl) 8 Tryz.ntmps434 [.tmp 2] Tryz.results434 ?_
  intro ds K hl hs
  obtain ⟨m, rfl, -, hK⟩ := det1_elim hs
  simp only [h05in, hSpan, hApart, cMsg_enc8, cSpan_dec, eBs, cBs, F.fBs, Nat.reduceSub, Nat.reduceAdd, Nat.reduceLT, Nat.reduceEqDiff, Nat.reduceLeDiff, Nat.reduceMul, Nat.reduceBEq, Int.reduceToNat, Op.operands, if_true, if_false, reduceCtorEq, if_pos, forall_const, implies_true, eq_self, ne_eq, iff_self]
  exact hK
def hBareClone : Det := det1 cMsg (fun _ => True) fun m => .d (.agg (Msg.enc { zeroMsg with kind := m.kind, fr := m.fr, to := m.to }))
theorem f_bareClone : FPure Tryz.prog 432 hBareClone.spec := by
  refine FPure.runL [] (fun _ => []) (by simp) F.mixed Tryz.func432 (by kernel_rfl) rfl (by kernel_rfl) 10 Tryz.ntmps432 [.cell 2 36] Tryz.results432 ?_
  intro ds K hl hs
  obtain ⟨m, rfl, -, hK⟩ := det1_elim hs
  simp only [cMsg_enc8, Msg.enc, zeroMsg, eBs, cBs, F.fBs, Nat.reduceSub, Nat.reduceAdd, Nat.reduceLT, Nat.reduceEqDiff, Nat.reduceLeDiff, Nat.reduceMul, Nat.reduceBEq, Int.reduceToNat, Op.operands, if_true, if_false, reduceCtorEq, if_pos, forall_const, implies_true, eq_self, ne_eq, iff_self] at hK ⊢
  exact hK
def hValidStamp : Det := det1 cMsg (fun _ => True) fun m => .d (.bool (spanB m.lo m.hi && inB m.n 0 1000000000))
theorem f_validStamp : FPure Tryz.prog 440 hValidStamp.spec := by
  refine FPure.runL [(419, .det hSpan), (389, .det h05in)] (fun _ => []) (by
    intro p hp
    simp only [List.mem_cons, List.not_mem_nil, or_false] at hp
    rcases hp with rfl | rfl
    · exact f_msgEnds
    · exact f_msgIn) F.mixed Tryz.func440 (by kernel_rfl) rfl (by kernel_rfl) 11 Tryz.ntmps440 [.tmp 2] Tryz.results440 ?_
  intro ds K hl hs
  obtain ⟨m, rfl, -, hK⟩ := det1_elim hs
  simp only [h05in, hSpan, hApart, cMsg_enc8, cSpan_dec, eBs, cBs, F.fBs, Nat.reduceSub, Nat.reduceAdd, Nat.reduceLT, Nat.reduceEqDiff, Nat.reduceLeDiff, Nat.reduceMul, Nat.reduceBEq, Int.reduceToNat, Op.operands, if_true, if_false, reduceCtorEq, if_pos, forall_const, implies_true, eq_self, ne_eq, iff_self]
  exact hK
def hBareStamp : Det := det1 cMsg (fun _ => True) fun m => .d (.agg (Msg.enc { zeroMsg with kind := m.kind, lo := m.lo, hi := m.hi, n := m.n }))
theorem f_bareStamp : FPure Tryz.prog 438 hBareStamp.spec := by
  refine FPure.runL [] (fun _ => []) (by simp) F.mixed Tryz.func438 (by kernel_rfl) rfl (by kernel_rfl) 10 Tryz.ntmps438 [.cell 2 36] Tryz.results438 ?_
  intro ds K hl hs
  obtain ⟨m, rfl, -, hK⟩ := det1_elim hs
  simp only [cMsg_enc8, Msg.enc, zeroMsg, eBs, cBs, F.fBs, Nat.reduceSub, Nat.reduceAdd, Nat.reduceLT, Nat.reduceEqDiff, Nat.reduceLeDiff, Nat.reduceMul, Nat.reduceBEq, Int.reduceToNat, Op.operands, if_true, if_false, reduceCtorEq, if_pos, forall_const, implies_true, eq_self, ne_eq, iff_self] at hK ⊢
  exact hK
theorem f_msgValid : FPure Tryz.prog 63 hValid.spec := by
  refine FPure.runL [(89, .det hMsgOf), (385, .det hValidPut), (383, .det hBarePut), (405, .det hValidDel), (403, .det hBareDel), (416, .det hValidDrop), (414, .det hBareDrop), (423, .det hValidMove), (421, .det hBareMove), (434, .det hValidClone), (432, .det hBareClone), (440, .det hValidStamp), (438, .det hBareStamp)] (fun i => if i = 2 then [(0, (true, [])), (1, (true, [])), (2, (false, [])), (3, (false, [])), (4, (true, [])), (5, (false, [])), (6, (false, [])), (7, (false, [])), (9, (false, [])), (8, (true, [5, 9])), (10, (false, [])), (11, (false, [])), (12, (true, []))] else []) (by
    intro p hp
    simp only [List.mem_cons, List.not_mem_nil, or_false] at hp
    rcases hp with rfl | rfl | rfl | rfl | rfl | rfl | rfl | rfl | rfl | rfl | rfl | rfl | rfl
    · exact f_msgOf
    · exact f_validPut
    · exact f_barePut
    · exact f_validDel
    · exact f_bareDel
    · exact f_validDrop
    · exact f_bareDrop
    · exact f_validMove
    · exact f_bareMove
    · exact f_validClone
    · exact f_bareClone
    · exact f_validStamp
    · exact f_bareStamp) F.mixed Tryz.func63 (by kernel_rfl) rfl (by kernel_rfl) 18 Tryz.ntmps63 [.tmp 2] Tryz.results63 ?_
  intro ds K hl hs
  obtain ⟨⟨kind, key, value, lo, hi, fr, to, n⟩, rfl, -, hK⟩ := det1_elim hs
  have hk : kind = 1 ∨ kind = 2 ∨ kind = 3 ∨ kind = 4 ∨ kind = 5 ∨ kind = 6 ∨ (kind ≠ 1 ∧ kind ≠ 2 ∧ kind ≠ 3 ∧ kind ≠ 4 ∧ kind ≠ 5 ∧ kind ≠ 6) := by omega
  unfold validB at hK
  rcases hk with rfl | rfl | rfl | rfl | rfl | rfl | ⟨h1, h2, h3, h4, h5, h6⟩
  case inr.inr.inr.inr.inr.inr =>
    simp only [cMsg_enc8, hMsgOf, ofA, h1, h2, h3, h4, h5, h6, false_or, hValidPut, hBarePut, hValidDel, hBareDel, hValidDrop, hBareDrop, hValidMove, hBareMove, hValidClone, hBareClone, hValidStamp, hBareStamp, Int.reduceEq, Msg.enc, zeroMsg, eBs, cBs, F.fBs, Nat.reduceSub, Nat.reduceAdd, Nat.reduceLT, Nat.reduceEqDiff, Nat.reduceLeDiff, Nat.reduceMul, Nat.reduceBEq, Int.reduceToNat, Op.operands, if_true, if_false, reduceCtorEq, if_pos, forall_const, implies_true, eq_self, ne_eq, iff_self] at hK ⊢
    exact hK
  all_goals
    simp only [cMsg_enc8, hMsgOf, ofA, hValidPut, hBarePut, hValidDel, hBareDel, hValidDrop, hBareDrop, hValidMove, hBareMove, hValidClone, hBareClone, hValidStamp, hBareStamp, Int.reduceEq, Msg.enc, zeroMsg, eBs, cBs, F.fBs, Nat.reduceSub, Nat.reduceAdd, Nat.reduceLT, Nat.reduceEqDiff, Nat.reduceLeDiff, Nat.reduceMul, Nat.reduceBEq, Int.reduceToNat, Op.operands, if_true, if_false, reduceCtorEq, if_pos, forall_const, implies_true, eq_self, ne_eq, iff_self] at hK ⊢
    first
      | exact hK
      | (simpa [Bool.decide_and, Bool.and_assoc, eq_comm] using hK)
end Go.PE
