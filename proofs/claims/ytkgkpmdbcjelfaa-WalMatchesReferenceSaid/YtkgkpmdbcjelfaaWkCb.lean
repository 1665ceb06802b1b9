/- Valid messages, by their kinds (package msg). -/
import Derived.Test.YtkgkpmdbcjelfaaWkC
set_option linter.unusedVariables false
set_option linter.defProp false
set_option linter.all false
set_option linter.unusedSimpArgs false
set_option maxRecDepth 10000
namespace Go.PE
open Go Go.Proofs

def ofA (m : Msg) : D := if m.kind = 1 then .iface 145 (.agg m.enc) else if m.kind = 2 then .iface 146 (.agg m.enc) else if m.kind = 3 then .iface 147 (.agg m.enc) else if m.kind = 4 then .iface 148 (.agg m.enc) else if m.kind = 5 then .iface 149 (.agg m.enc) else if m.kind = 6 then .iface 150 (.agg m.enc) else .nilI
def hMsgOf : Det := det1 cMsg (fun _ => True) fun m => .d (ofA m)
theorem f_msgOf : FPure Try.prog 69 hMsgOf.spec := by
  refine FPure.runL [] (fun _ => []) (by simp) F.mixed Try.func69 (by kernel_rfl) rfl (by kernel_rfl) 29 Try.ntmps69 [.tmp 2] Try.results69 ?_
  intro ds K hl hs
  obtain ⟨⟨kind, key, value, lo, hi, fr, to, n⟩, rfl, -, hK⟩ := det1_elim hs
  unfold ofA at hK
  have hk : kind = 1 ∨ kind = 2 ∨ kind = 3 ∨ kind = 4 ∨ kind = 5 ∨ kind = 6 ∨ (kind ≠ 1 ∧ kind ≠ 2 ∧ kind ≠ 3 ∧ kind ≠ 4 ∧ kind ≠ 5 ∧ kind ≠ 6) := by omega
  rcases hk with rfl | rfl | rfl | rfl | rfl | rfl | ⟨h1, h2, h3, h4, h5, h6⟩
  case inr.inr.inr.inr.inr.inr =>
    simp only [h1, h2, h3, h4, h5, h6, if_false] at hK
    simp only [cMsg_enc8, h1, h2, h3, h4, h5, h6, eBs, cBs, F.fBs, Nat.reduceSub, Nat.reduceAdd, Nat.reduceLT, Nat.reduceEqDiff, Nat.reduceLeDiff, Nat.reduceMul, Nat.reduceBEq, Int.reduceToNat, Op.operands, if_true, if_false, reduceCtorEq, if_pos, forall_const, implies_true, eq_self, ne_eq]
    exact hK
  all_goals
    simp only [cMsg_enc8, Msg.enc, Int.reduceEq, eBs, cBs, F.fBs, Nat.reduceSub, Nat.reduceAdd, Nat.reduceLT, Nat.reduceEqDiff, Nat.reduceLeDiff, Nat.reduceMul, Nat.reduceBEq, Int.reduceToNat, Op.operands, if_true, if_false, reduceCtorEq, if_pos, forall_const, implies_true, eq_self, ne_eq] at hK ⊢
    exact hK
def hValidPut : Det := det1 cMsg (fun _ => True) fun m => .d (.bool (inB m.key.length 1 65535 && (decide ((m.value.length : Int) ≤ 64) && inB m.n 0 1000000000)))
theorem f_validPut : FPure Try.prog 111 hValidPut.spec := by
  refine FPure.runL [(114, .det h05in)] (fun _ => []) (by
    intro p hp
    simp only [List.mem_cons, List.not_mem_nil, or_false] at hp
    subst hp
    exact f_msgIn) F.mixed Try.func111 (by kernel_rfl) rfl (by kernel_rfl) 18 Try.ntmps111 [.tmp 2] Try.results111 ?_
  intro ds K hl hs
  obtain ⟨m, rfl, -, hK⟩ := det1_elim hs
  simp only [h05in, hSpan, hApart, cMsg_enc8, cSpan_dec, eBs, cBs, F.fBs, Nat.reduceSub, Nat.reduceAdd, Nat.reduceLT, Nat.reduceEqDiff, Nat.reduceLeDiff, Nat.reduceMul, Nat.reduceBEq, Int.reduceToNat, Op.operands, if_true, if_false, reduceCtorEq, if_pos, forall_const, implies_true, eq_self, ne_eq]
  exact hK
def hBarePut : Det := det1 cMsg (fun _ => True) fun m => .d (.agg (Msg.enc { zeroMsg with kind := m.kind, key := m.key, value := m.value, n := m.n }))
theorem f_barePut : FPure Try.prog 109 hBarePut.spec := by
  refine FPure.runL [] (fun _ => []) (by simp) F.mixed Try.func109 (by kernel_rfl) rfl (by kernel_rfl) 12 Try.ntmps109 [.cell 2 61] Try.results109 ?_
  intro ds K hl hs
  obtain ⟨m, rfl, -, hK⟩ := det1_elim hs
  simp only [cMsg_enc8, Msg.enc, zeroMsg, eBs, cBs, F.fBs, Nat.reduceSub, Nat.reduceAdd, Nat.reduceLT, Nat.reduceEqDiff, Nat.reduceLeDiff, Nat.reduceMul, Nat.reduceBEq, Int.reduceToNat, Op.operands, if_true, if_false, reduceCtorEq, if_pos, forall_const, implies_true, eq_self, ne_eq] at hK ⊢
  exact hK
def hValidDel : Det := det1 cMsg (fun _ => True) fun m => .d (.bool (inB m.key.length 1 65535))
theorem f_validDel : FPure Try.prog 119 hValidDel.spec := by
  refine FPure.runL [(114, .det h05in)] (fun _ => []) (by
    intro p hp
    simp only [List.mem_cons, List.not_mem_nil, or_false] at hp
    subst hp
    exact f_msgIn) F.mixed Try.func119 (by kernel_rfl) rfl (by kernel_rfl) 7 Try.ntmps119 [.tmp 2] Try.results119 ?_
  intro ds K hl hs
  obtain ⟨m, rfl, -, hK⟩ := det1_elim hs
  simp only [h05in, hSpan, hApart, cMsg_enc8, cSpan_dec, eBs, cBs, F.fBs, Nat.reduceSub, Nat.reduceAdd, Nat.reduceLT, Nat.reduceEqDiff, Nat.reduceLeDiff, Nat.reduceMul, Nat.reduceBEq, Int.reduceToNat, Op.operands, if_true, if_false, reduceCtorEq, if_pos, forall_const, implies_true, eq_self, ne_eq]
  exact hK
def hBareDel : Det := det1 cMsg (fun _ => True) fun m => .d (.agg (Msg.enc { zeroMsg with kind := m.kind, key := m.key }))
theorem f_bareDel : FPure Try.prog 117 hBareDel.spec := by
  refine FPure.runL [] (fun _ => []) (by simp) F.mixed Try.func117 (by kernel_rfl) rfl (by kernel_rfl) 8 Try.ntmps117 [.cell 2 61] Try.results117 ?_
  intro ds K hl hs
  obtain ⟨m, rfl, -, hK⟩ := det1_elim hs
  simp only [cMsg_enc8, Msg.enc, zeroMsg, eBs, cBs, F.fBs, Nat.reduceSub, Nat.reduceAdd, Nat.reduceLT, Nat.reduceEqDiff, Nat.reduceLeDiff, Nat.reduceMul, Nat.reduceBEq, Int.reduceToNat, Op.operands, if_true, if_false, reduceCtorEq, if_pos, forall_const, implies_true, eq_self, ne_eq] at hK ⊢
  exact hK
def hValidDrop : Det := det1 cMsg (fun _ => True) fun m => .d (.bool (spanB m.lo m.hi))
theorem f_validDrop : FPure Try.prog 125 hValidDrop.spec := by
  refine FPure.runL [(128, .det hSpan)] (fun _ => []) (by
    intro p hp
    simp only [List.mem_cons, List.not_mem_nil, or_false] at hp
    subst hp
    exact f_msgEnds) F.mixed Try.func125 (by kernel_rfl) rfl (by kernel_rfl) 6 Try.ntmps125 [.tmp 2] Try.results125 ?_
  intro ds K hl hs
  obtain ⟨m, rfl, -, hK⟩ := det1_elim hs
  simp only [h05in, hSpan, hApart, cMsg_enc8, cSpan_dec, eBs, cBs, F.fBs, Nat.reduceSub, Nat.reduceAdd, Nat.reduceLT, Nat.reduceEqDiff, Nat.reduceLeDiff, Nat.reduceMul, Nat.reduceBEq, Int.reduceToNat, Op.operands, if_true, if_false, reduceCtorEq, if_pos, forall_const, implies_true, eq_self, ne_eq]
  exact hK
def hBareDrop : Det := det1 cMsg (fun _ => True) fun m => .d (.agg (Msg.enc { zeroMsg with kind := m.kind, lo := m.lo, hi := m.hi }))
theorem f_bareDrop : FPure Try.prog 123 hBareDrop.spec := by
  refine FPure.runL [] (fun _ => []) (by simp) F.mixed Try.func123 (by kernel_rfl) rfl (by kernel_rfl) 8 Try.ntmps123 [.cell 2 61] Try.results123 ?_
  intro ds K hl hs
  obtain ⟨m, rfl, -, hK⟩ := det1_elim hs
  simp only [cMsg_enc8, Msg.enc, zeroMsg, eBs, cBs, F.fBs, Nat.reduceSub, Nat.reduceAdd, Nat.reduceLT, Nat.reduceEqDiff, Nat.reduceLeDiff, Nat.reduceMul, Nat.reduceBEq, Int.reduceToNat, Op.operands, if_true, if_false, reduceCtorEq, if_pos, forall_const, implies_true, eq_self, ne_eq] at hK ⊢
  exact hK
def hValidMove : Det := det1 cMsg (fun _ => True) fun m => .d (.bool (apartB m.fr m.to))
theorem f_validMove : FPure Try.prog 133 hValidMove.spec := by
  refine FPure.runL [(136, .det hApart)] (fun _ => []) (by
    intro p hp
    simp only [List.mem_cons, List.not_mem_nil, or_false] at hp
    subst hp
    exact f_msgApart) F.mixed Try.func133 (by kernel_rfl) rfl (by kernel_rfl) 8 Try.ntmps133 [.tmp 2] Try.results133 ?_
  intro ds K hl hs
  obtain ⟨m, rfl, -, hK⟩ := det1_elim hs
  simp only [h05in, hSpan, hApart, cMsg_enc8, cSpan_dec, eBs, cBs, F.fBs, Nat.reduceSub, Nat.reduceAdd, Nat.reduceLT, Nat.reduceEqDiff, Nat.reduceLeDiff, Nat.reduceMul, Nat.reduceBEq, Int.reduceToNat, Op.operands, if_true, if_false, reduceCtorEq, if_pos, forall_const, implies_true, eq_self, ne_eq]
  exact hK
def hBareMove : Det := det1 cMsg (fun _ => True) fun m => .d (.agg (Msg.enc { zeroMsg with kind := m.kind, fr := m.fr, to := m.to }))
theorem f_bareMove : FPure Try.prog 131 hBareMove.spec := by
  refine FPure.runL [] (fun _ => []) (by simp) F.mixed Try.func131 (by kernel_rfl) rfl (by kernel_rfl) 10 Try.ntmps131 [.cell 2 61] Try.results131 ?_
  intro ds K hl hs
  obtain ⟨m, rfl, -, hK⟩ := det1_elim hs
  simp only [cMsg_enc8, Msg.enc, zeroMsg, eBs, cBs, F.fBs, Nat.reduceSub, Nat.reduceAdd, Nat.reduceLT, Nat.reduceEqDiff, Nat.reduceLeDiff, Nat.reduceMul, Nat.reduceBEq, Int.reduceToNat, Op.operands, if_true, if_false, reduceCtorEq, if_pos, forall_const, implies_true, eq_self, ne_eq] at hK ⊢
  exact hK
def hValidClone : Det := det1 cMsg (fun _ => True) fun m => .d (.bool (apartB m.fr m.to))
theorem f_validClone : FPure Try.prog 142 hValidClone.spec := by
  refine FPure.runL [(136, .det hApart)] (fun _ => []) (by
    intro p hp
    simp only [List.mem_cons, List.not_mem_nil, or_false] at hp
    subst hp
    exact f_msgApart) F.mixed Try.func142 (by kernel_rfl) rfl (by kernel_rfl) 8 Try.ntmps142 [.tmp 2] Try.results142 ?_
  intro ds K hl hs
  obtain ⟨m, rfl, -, hK⟩ := det1_elim hs
  simp only [h05in, hSpan, hApart, cMsg_enc8, cSpan_dec, eBs, cBs, F.fBs, Nat.reduceSub, Nat.reduceAdd, Nat.reduceLT, Nat.reduceEqDiff, Nat.reduceLeDiff, Nat.reduceMul, Nat.reduceBEq, Int.reduceToNat, Op.operands, if_true, if_false, reduceCtorEq, if_pos, forall_const, implies_true, eq_self, ne_eq]
  exact hK
def hBareClone : Det := det1 cMsg (fun _ => True) fun m => .d (.agg (Msg.enc { zeroMsg with kind := m.kind, fr := m.fr, to := m.to }))
theorem f_bareClone : FPure Try.prog 140 hBareClone.spec := by
  refine FPure.runL [] (fun _ => []) (by simp) F.mixed Try.func140 (by kernel_rfl) rfl (by kernel_rfl) 10 Try.ntmps140 [.cell 2 61] Try.results140 ?_
  intro ds K hl hs
  obtain ⟨m, rfl, -, hK⟩ := det1_elim hs
  simp only [cMsg_enc8, Msg.enc, zeroMsg, eBs, cBs, F.fBs, Nat.reduceSub, Nat.reduceAdd, Nat.reduceLT, Nat.reduceEqDiff, Nat.reduceLeDiff, Nat.reduceMul, Nat.reduceBEq, Int.reduceToNat, Op.operands, if_true, if_false, reduceCtorEq, if_pos, forall_const, implies_true, eq_self, ne_eq] at hK ⊢
  exact hK
def hValidStamp : Det := det1 cMsg (fun _ => True) fun m => .d (.bool (spanB m.lo m.hi && inB m.n 0 1000000000))
theorem f_validStamp : FPure Try.prog 148 hValidStamp.spec := by
  refine FPure.runL [(128, .det hSpan), (114, .det h05in)] (fun _ => []) (by
    intro p hp
    simp only [List.mem_cons, List.not_mem_nil, or_false] at hp
    rcases hp with rfl | rfl
    · exact f_msgEnds
    · exact f_msgIn) F.mixed Try.func148 (by kernel_rfl) rfl (by kernel_rfl) 11 Try.ntmps148 [.tmp 2] Try.results148 ?_
  intro ds K hl hs
  obtain ⟨m, rfl, -, hK⟩ := det1_elim hs
  simp only [h05in, hSpan, hApart, cMsg_enc8, cSpan_dec, eBs, cBs, F.fBs, Nat.reduceSub, Nat.reduceAdd, Nat.reduceLT, Nat.reduceEqDiff, Nat.reduceLeDiff, Nat.reduceMul, Nat.reduceBEq, Int.reduceToNat, Op.operands, if_true, if_false, reduceCtorEq, if_pos, forall_const, implies_true, eq_self, ne_eq]
  exact hK
def hBareStamp : Det := det1 cMsg (fun _ => True) fun m => .d (.agg (Msg.enc { zeroMsg with kind := m.kind, lo := m.lo, hi := m.hi, n := m.n }))
theorem f_bareStamp : FPure Try.prog 146 hBareStamp.spec := by
  refine FPure.runL [] (fun _ => []) (by simp) F.mixed Try.func146 (by kernel_rfl) rfl (by kernel_rfl) 10 Try.ntmps146 [.cell 2 61] Try.results146 ?_
  intro ds K hl hs
  obtain ⟨m, rfl, -, hK⟩ := det1_elim hs
  simp only [cMsg_enc8, Msg.enc, zeroMsg, eBs, cBs, F.fBs, Nat.reduceSub, Nat.reduceAdd, Nat.reduceLT, Nat.reduceEqDiff, Nat.reduceLeDiff, Nat.reduceMul, Nat.reduceBEq, Int.reduceToNat, Op.operands, if_true, if_false, reduceCtorEq, if_pos, forall_const, implies_true, eq_self, ne_eq] at hK ⊢
  exact hK
theorem f_msgValid : FPure Try.prog 68 hValid.spec := by
  refine FPure.runL [(69, .det hMsgOf), (111, .det hValidPut), (109, .det hBarePut), (119, .det hValidDel), (117, .det hBareDel), (125, .det hValidDrop), (123, .det hBareDrop), (133, .det hValidMove), (131, .det hBareMove), (142, .det hValidClone), (140, .det hBareClone), (148, .det hValidStamp), (146, .det hBareStamp)] (fun i => if i = 2 then [(0, (true, [])), (1, (true, [])), (2, (false, [])), (3, (false, [])), (4, (true, [])), (5, (false, [])), (6, (false, [])), (7, (false, [])), (9, (false, [])), (8, (true, [5, 9])), (10, (false, [])), (11, (false, [])), (12, (true, []))] else []) (by
    intro p hp
    simp only [List.mem_cons, List.not_mem_nil, or_false] at hp
    rcases hp with rfl | rfl | rfl | rfl | rfl | rfl | rfl | rfl | rfl | rfl | rfl | rfl | rfl
    · exact f_msgOf
    · exact f_validPut
    · exact f_barePut
    · exact f_validDel
    · exact f_bareDel
    · exact f_validDrop
    · exact f_bareDrop
    · exact f_validMove
    · exact f_bareMove
    · exact f_validClone
    · exact f_bareClone
    · exact f_validStamp
    · exact f_bareStamp) F.mixed Try.func68 (by kernel_rfl) rfl (by kernel_rfl) 18 Try.ntmps68 [.tmp 2] Try.results68 ?_
  intro ds K hl hs
  obtain ⟨⟨kind, key, value, lo, hi, fr, to, n⟩, rfl, -, hK⟩ := det1_elim hs
  have hk : kind = 1 ∨ kind = 2 ∨ kind = 3 ∨ kind = 4 ∨ kind = 5 ∨ kind = 6 ∨ (kind ≠ 1 ∧ kind ≠ 2 ∧ kind ≠ 3 ∧ kind ≠ 4 ∧ kind ≠ 5 ∧ kind ≠ 6) := by omega
  unfold validB at hK
  rcases hk with rfl | rfl | rfl | rfl | rfl | rfl | ⟨h1, h2, h3, h4, h5, h6⟩
  case inr.inr.inr.inr.inr.inr =>
    simp only [cMsg_enc8, hMsgOf, ofA, h1, h2, h3, h4, h5, h6, false_or, hValidPut, hBarePut, hValidDel, hBareDel, hValidDrop, hBareDrop, hValidMove, hBareMove, hValidClone, hBareClone, hValidStamp, hBareStamp, Int.reduceEq, Msg.enc, zeroMsg, eBs, cBs, F.fBs, Nat.reduceSub, Nat.reduceAdd, Nat.reduceLT, Nat.reduceEqDiff, Nat.reduceLeDiff, Nat.reduceMul, Nat.reduceBEq, Int.reduceToNat, Op.operands, if_true, if_false, reduceCtorEq, if_pos, forall_const, implies_true, eq_self, ne_eq] at hK ⊢
    exact hK
  all_goals
    simp only [cMsg_enc8, hMsgOf, ofA, hValidPut, hBarePut, hValidDel, hBareDel, hValidDrop, hBareDrop, hValidMove, hBareMove, hValidClone, hBareClone, hValidStamp, hBareStamp, Int.reduceEq, Msg.enc, zeroMsg, eBs, cBs, F.fBs, Nat.reduceSub, Nat.reduceAdd, Nat.reduceLT, Nat.reduceEqDiff, Nat.reduceLeDiff, Nat.reduceMul, Nat.reduceBEq, Int.reduceToNat, Op.operands, if_true, if_false, reduceCtorEq, if_pos, forall_const, implies_true, eq_self, ne_eq] at hK ⊢
    first
      | exact hK
      | (simpa [Bool.decide_and, Bool.and_assoc, eq_comm] using hK)
end Go.PE
