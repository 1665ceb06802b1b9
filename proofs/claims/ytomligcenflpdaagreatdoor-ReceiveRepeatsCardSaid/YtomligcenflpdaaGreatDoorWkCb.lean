/- WkCb: what the laws need of it. -/
import Derived.Test.YtomligcenflpdaaGreatDoorWkC
set_option linter.unusedVariables false
set_option linter.defProp false
set_option linter.all false
set_option linter.unusedSimpArgs false
set_option maxRecDepth 100000
set_option maxHeartbeats 4000000
namespace Go.PE
open Go Go.Proofs

def ofA (m : Msg) : D := if m.kind = 1 then .iface 197 (.agg m.enc) else if m.kind = 2 then .iface 198 (.agg m.enc) else if m.kind = 3 then .iface 199 (.agg m.enc) else if m.kind = 4 then .iface 200 (.agg m.enc) else if m.kind = 5 then .iface 201 (.agg m.enc) else if m.kind = 6 then .iface 202 (.agg m.enc) else .nilI
def hMsgOf : Det := det1 cMsg (fun _ => True) fun m => .d (ofA m)
theorem f_msgOf : FPure Tryz.prog 93 hMsgOf.spec := by
  refine FPure.runL [] (fun _ => []) (by simp) F.mixed Tryz.func93 (by kernel_rfl) rfl (by kernel_rfl) 29 Tryz.ntmps93 [.tmp 2] Tryz.results93 ?_
  intro ds K hl hs
  obtain ⟨⟨kind, key, value, lo, hi, fr, to, n⟩, rfl, -, hK⟩ := det1_elim hs
  unfold ofA at hK
  have hk : kind = 1 ∨ kind = 2 ∨ kind = 3 ∨ kind = 4 ∨ kind = 5 ∨ kind = 6 ∨ (kind ≠ 1 ∧ kind ≠ 2 ∧ kind ≠ 3 ∧ kind ≠ 4 ∧ kind ≠ 5 ∧ kind ≠ 6) := by omega
  rcases hk with rfl | rfl | rfl | rfl | rfl | rfl | ⟨h1, h2, h3, h4, h5, h6⟩
  case inr.inr.inr.inr.inr.inr =>
    simp only [h1, h2, h3, h4, h5, h6, if_false] at hK
    simp only [cMsg_enc8, h1, h2, h3, h4, h5, h6, eBs, cBs, F.fBs, Nat.reduceSub, Nat.reduceAdd, Nat.reduceLT, Nat.reduceEqDiff, Nat.reduceLeDiff, Nat.reduceMul, Nat.reduceBEq, Int.reduceToNat, Op.operands, if_true, if_false, reduceCtorEq, if_pos, forall_const, implies_true, eq_self, ne_eq]
    exact hK
  all_goals
    simp only [cMsg_enc8, Msg.enc, Int.reduceEq, eBs, cBs, F.fBs, Nat.reduceSub, Nat.reduceAdd, Nat.reduceLT, Nat.reduceEqDiff, Nat.reduceLeDiff, Nat.reduceMul, Nat.reduceBEq, Int.reduceToNat, Op.operands, if_true, if_false, reduceCtorEq, if_pos, forall_const, implies_true, eq_self, ne_eq] at hK ⊢
    exact hK
def hValidPut : Det := det1 cMsg (fun _ => True) fun m => .d (.bool (inB m.key.length 1 65535 && (decide ((m.value.length : Int) ≤ 64) && inB m.n 0 1000000000)))
theorem f_validPut : FPure Tryz.prog 390 hValidPut.spec := by
  refine FPure.runL [(394, .det h05in)] (fun _ => []) (by
    intro p hp
    simp only [List.mem_cons, List.not_mem_nil, or_false] at hp
    subst hp
    exact f_msgIn) F.mixed Tryz.func390 (by kernel_rfl) rfl (by kernel_rfl) 18 Tryz.ntmps390 [.tmp 2] Tryz.results390 ?_
  intro ds K hl hs
  obtain ⟨m, rfl, -, hK⟩ := det1_elim hs
  simp only [h05in, hSpan, hApart, cMsg_enc8, cSpan_dec, eBs, cBs, F.fBs, Nat.reduceSub, Nat.reduceAdd, Nat.reduceLT, Nat.reduceEqDiff, Nat.reduceLeDiff, Nat.reduceMul, Nat.reduceBEq, Int.reduceToNat, Op.operands, if_true, if_false, reduceCtorEq, if_pos, forall_const, implies_true, eq_self, ne_eq]
  exact hK
def hBarePut : Det := det1 cMsg (fun _ => True) fun m => .d (.agg (Msg.enc { zeroMsg with kind := m.kind, key := m.key, value := m.value, n := m.n }))
theorem f_barePut : FPure Tryz.prog 388 hBarePut.spec := by
  refine FPure.runL [] (fun _ => []) (by simp) F.mixed Tryz.func388 (by kernel_rfl) rfl (by kernel_rfl) 12 Tryz.ntmps388 [.cell 2 29] Tryz.results388 ?_
  intro ds K hl hs
  obtain ⟨m, rfl, -, hK⟩ := det1_elim hs
  simp only [cMsg_enc8, Msg.enc, zeroMsg, eBs, cBs, F.fBs, Nat.reduceSub, Nat.reduceAdd, Nat.reduceLT, Nat.reduceEqDiff, Nat.reduceLeDiff, Nat.reduceMul, Nat.reduceBEq, Int.reduceToNat, Op.operands, if_true, if_false, reduceCtorEq, if_pos, forall_const, implies_true, eq_self, ne_eq] at hK ⊢
  exact hK
def hValidDel : Det := det1 cMsg (fun _ => True) fun m => .d (.bool (inB m.key.length 1 65535))
theorem f_validDel : FPure Tryz.prog 411 hValidDel.spec := by
  refine FPure.runL [(394, .det h05in)] (fun _ => []) (by
    intro p hp
    simp only [List.mem_cons, List.not_mem_nil, or_false] at hp
    subst hp
    exact f_msgIn) F.mixed Tryz.func411 (by kernel_rfl) rfl (by kernel_rfl) 7 Tryz.ntmps411 [.tmp 2] Tryz.results411 ?_
  intro ds K hl hs
  obtain ⟨m, rfl, -, hK⟩ := det1_elim hs
  simp only [h05in, hSpan, hApart, cMsg_enc8, cSpan_dec, eBs, cBs, F.fBs, Nat.reduceSub, Nat.reduceAdd, Nat.reduceLT, Nat.reduceEqDiff, Nat.reduceLeDiff, Nat.reduceMul, Nat.reduceBEq, Int.reduceToNat, Op.operands, if_true, if_false, reduceCtorEq, if_pos, forall_const, implies_true, eq_self, ne_eq]
  exact hK
def hBareDel : Det := det1 cMsg (fun _ => True) fun m => .d (.agg (Msg.enc { zeroMsg with kind := m.kind, key := m.key }))
theorem f_bareDel : FPure Tryz.prog 409 hBareDel.spec := by
  refine FPure.runL [] (fun _ => []) (by simp) F.mixed Tryz.func409 (by kernel_rfl) rfl (by kernel_rfl) 8 Tryz.ntmps409 [.cell 2 29] Tryz.results409 ?_
  intro ds K hl hs
  obtain ⟨m, rfl, -, hK⟩ := det1_elim hs
  simp only [cMsg_enc8, Msg.enc, zeroMsg, eBs, cBs, F.fBs, Nat.reduceSub, Nat.reduceAdd, Nat.reduceLT, Nat.reduceEqDiff, Nat.reduceLeDiff, Nat.reduceMul, Nat.reduceBEq, Int.reduceToNat, Op.operands, if_true, if_false, reduceCtorEq, if_pos, forall_const, implies_true, eq_self, ne_eq] at hK ⊢
  exact hK
def hValidDrop : Det := det1 cMsg (fun _ => True) fun m => .d (.bool (spanB m.lo m.hi))
theorem f_validDrop : FPure Tryz.prog 422 hValidDrop.spec := by
  refine FPure.runL [(425, .det hSpan)] (fun _ => []) (by
    intro p hp
    simp only [List.mem_cons, List.not_mem_nil, or_false] at hp
    subst hp
    exact f_msgEnds) F.mixed Tryz.func422 (by kernel_rfl) rfl (by kernel_rfl) 6 Tryz.ntmps422 [.tmp 2] Tryz.results422 ?_
  intro ds K hl hs
  obtain ⟨m, rfl, -, hK⟩ := det1_elim hs
  simp only [h05in, hSpan, hApart, cMsg_enc8, cSpan_dec, eBs, cBs, F.fBs, Nat.reduceSub, Nat.reduceAdd, Nat.reduceLT, Nat.reduceEqDiff, Nat.reduceLeDiff, Nat.reduceMul, Nat.reduceBEq, Int.reduceToNat, Op.operands, if_true, if_false, reduceCtorEq, if_pos, forall_const, implies_true, eq_self, ne_eq]
  exact hK
def hBareDrop : Det := det1 cMsg (fun _ => True) fun m => .d (.agg (Msg.enc { zeroMsg with kind := m.kind, lo := m.lo, hi := m.hi }))
theorem f_bareDrop : FPure Tryz.prog 420 hBareDrop.spec := by
  refine FPure.runL [] (fun _ => []) (by simp) F.mixed Tryz.func420 (by kernel_rfl) rfl (by kernel_rfl) 8 Tryz.ntmps420 [.cell 2 29] Tryz.results420 ?_
  intro ds K hl hs
  obtain ⟨m, rfl, -, hK⟩ := det1_elim hs
  simp only [cMsg_enc8, Msg.enc, zeroMsg, eBs, cBs, F.fBs, Nat.reduceSub, Nat.reduceAdd, Nat.reduceLT, Nat.reduceEqDiff, Nat.reduceLeDiff, Nat.reduceMul, Nat.reduceBEq, Int.reduceToNat, Op.operands, if_true, if_false, reduceCtorEq, if_pos, forall_const, implies_true, eq_self, ne_eq] at hK ⊢
  exact hK
def hValidMove : Det := det1 cMsg (fun _ => True) fun m => .d (.bool (apartB m.fr m.to))
theorem f_validMove : FPure Tryz.prog 429 hValidMove.spec := by
  refine FPure.runL [(433, .det hApart)] (fun _ => []) (by
    intro p hp
    simp only [List.mem_cons, List.not_mem_nil, or_false] at hp
    subst hp
    exact f_msgApart) F.mixed Tryz.func429 (by kernel_rfl) rfl (by kernel_rfl) 8 Tryz.ntmps429 [.tmp 2] Tryz.results429 ?_
  intro ds K hl hs
  obtain ⟨m, rfl, -, hK⟩ := det1_elim hs
  simp only [h05in, hSpan, hApart, cMsg_enc8, cSpan_dec, eBs, cBs, F.fBs, Nat.reduceSub, Nat.reduceAdd, Nat.reduceLT, Nat.reduceEqDiff, Nat.reduceLeDiff, Nat.reduceMul, Nat.reduceBEq, Int.reduceToNat, Op.operands, if_true, if_false, reduceCtorEq, if_pos, forall_const, implies_true, eq_self, ne_eq]
  exact hK
def hBareMove : Det := det1 cMsg (fun _ => True) fun m => .d (.agg (Msg.enc { zeroMsg with kind := m.kind, fr := m.fr, to := m.to }))
theorem f_bareMove : FPure Tryz.prog 427 hBareMove.spec := by
  refine FPure.runL [] (fun _ => []) (by simp) F.mixed Tryz.func427 (by kernel_rfl) rfl (by kernel_rfl) 10 Tryz.ntmps427 [.cell 2 29] Tryz.results427 ?_
  intro ds K hl hs
  obtain ⟨m, rfl, -, hK⟩ := det1_elim hs
  simp only [cMsg_enc8, Msg.enc, zeroMsg, eBs, cBs, F.fBs, Nat.reduceSub, Nat.reduceAdd, Nat.reduceLT, Nat.reduceEqDiff, Nat.reduceLeDiff, Nat.reduceMul, Nat.reduceBEq, Int.reduceToNat, Op.operands, if_true, if_false, reduceCtorEq, if_pos, forall_const, implies_true, eq_self, ne_eq] at hK ⊢
  exact hK
def hValidClone : Det := det1 cMsg (fun _ => True) fun m => .d (.bool (apartB m.fr m.to))
theorem f_validClone : FPure Tryz.prog 440 hValidClone.spec := by
  refine FPure.runL [(433, .det hApart)] (fun _ => []) (by
    intro p hp
    simp only [List.mem_cons, List.not_mem_nil, or_false] at hp
    subst hp
    exact f_msgApart) F.mixed Tryz.func440 (by kernel_rfl) rfl (by kernel_rfl) 8 Tryz.ntmps440 [.tmp 2] Tryz.results440 ?_
  intro ds K hl hs
  obtain ⟨m, rfl, -, hK⟩ := det1_elim hs
  simp only [h05in, hSpan, hApart, cMsg_enc8, cSpan_dec, eBs, cBs, F.fBs, Nat.reduceSub, Nat.reduceAdd, Nat.reduceLT, Nat.reduceEqDiff, Nat.reduceLeDiff, Nat.reduceMul, Nat.reduceBEq, Int.reduceToNat, Op.operands, if_true, if_false, reduceCtorEq, if_pos, forall_const, implies_true, eq_self, ne_eq]
  exact hK
def hBareClone : Det := det1 cMsg (fun _ => True) fun m => .d (.agg (Msg.enc { zeroMsg with kind := m.kind, fr := m.fr, to := m.to }))
theorem f_bareClone : FPure Tryz.prog 438 hBareClone.spec := by
  refine FPure.runL [] (fun _ => []) (by simp) F.mixed Tryz.func438 (by kernel_rfl) rfl (by kernel_rfl) 10 Tryz.ntmps438 [.cell 2 29] Tryz.results438 ?_
  intro ds K hl hs
  obtain ⟨m, rfl, -, hK⟩ := det1_elim hs
  simp only [cMsg_enc8, Msg.enc, zeroMsg, eBs, cBs, F.fBs, Nat.reduceSub, Nat.reduceAdd, Nat.reduceLT, Nat.reduceEqDiff, Nat.reduceLeDiff, Nat.reduceMul, Nat.reduceBEq, Int.reduceToNat, Op.operands, if_true, if_false, reduceCtorEq, if_pos, forall_const, implies_true, eq_self, ne_eq] at hK ⊢
  exact hK
def hValidStamp : Det := det1 cMsg (fun _ => True) fun m => .d (.bool (spanB m.lo m.hi && inB m.n 0 1000000000))
theorem f_validStamp : FPure Tryz.prog 446 hValidStamp.spec := by
  refine FPure.runL [(425, .det hSpan), (394, .det h05in)] (fun _ => []) (by
    intro p hp
    simp only [List.mem_cons, List.not_mem_nil, or_false] at hp
    rcases hp with rfl | rfl
    · exact f_msgEnds
    · exact f_msgIn) F.mixed Tryz.func446 (by kernel_rfl) rfl (by kernel_rfl) 11 Tryz.ntmps446 [.tmp 2] Tryz.results446 ?_
  intro ds K hl hs
  obtain ⟨m, rfl, -, hK⟩ := det1_elim hs
  simp only [h05in, hSpan, hApart, cMsg_enc8, cSpan_dec, eBs, cBs, F.fBs, Nat.reduceSub, Nat.reduceAdd, Nat.reduceLT, Nat.reduceEqDiff, Nat.reduceLeDiff, Nat.reduceMul, Nat.reduceBEq, Int.reduceToNat, Op.operands, if_true, if_false, reduceCtorEq, if_pos, forall_const, implies_true, eq_self, ne_eq]
  exact hK
def hBareStamp : Det := det1 cMsg (fun _ => True) fun m => .d (.agg (Msg.enc { zeroMsg with kind := m.kind, lo := m.lo, hi := m.hi, n := m.n }))
theorem f_bareStamp : FPure Tryz.prog 444 hBareStamp.spec := by
  refine FPure.runL [] (fun _ => []) (by simp) F.mixed Tryz.func444 (by kernel_rfl) rfl (by kernel_rfl) 10 Tryz.ntmps444 [.cell 2 29] Tryz.results444 ?_
  intro ds K hl hs
  obtain ⟨m, rfl, -, hK⟩ := det1_elim hs
  simp only [cMsg_enc8, Msg.enc, zeroMsg, eBs, cBs, F.fBs, Nat.reduceSub, Nat.reduceAdd, Nat.reduceLT, Nat.reduceEqDiff, Nat.reduceLeDiff, Nat.reduceMul, Nat.reduceBEq, Int.reduceToNat, Op.operands, if_true, if_false, reduceCtorEq, if_pos, forall_const, implies_true, eq_self, ne_eq] at hK ⊢
  exact hK
theorem f_msgValid : FPure Tryz.prog 68 hValid.spec := by
  refine FPure.runL [(93, .det hMsgOf), (390, .det hValidPut), (388, .det hBarePut), (411, .det hValidDel), (409, .det hBareDel), (422, .det hValidDrop), (420, .det hBareDrop), (429, .det hValidMove), (427, .det hBareMove), (440, .det hValidClone), (438, .det hBareClone), (446, .det hValidStamp), (444, .det hBareStamp)] (fun i => if i = 2 then [(0, (true, [])), (1, (true, [])), (2, (false, [])), (3, (false, [])), (4, (true, [])), (5, (false, [])), (6, (false, [])), (7, (false, [])), (9, (false, [])), (8, (true, [5, 9])), (10, (false, [])), (11, (false, [])), (12, (true, []))] else []) (by
    intro p hp
    simp only [List.mem_cons, List.not_mem_nil, or_false] at hp
    rcases hp with rfl | rfl | rfl | rfl | rfl | rfl | rfl | rfl | rfl | rfl | rfl | rfl | rfl
    · exact f_msgOf
    · exact f_validPut
    · exact f_barePut
    · exact f_validDel
    · exact f_bareDel
    · exact f_validDrop
    · exact f_bareDrop
    · exact f_validMove
    · exact f_bareMove
    · exact f_validClone
    · exact f_bareClone
    · exact f_validStamp
    · exact f_bareStamp) F.mixed Tryz.func68 (by kernel_rfl) rfl (by kernel_rfl) 18 Tryz.ntmps68 [.tmp 2] Tryz.results68 ?_
  intro ds K hl hs
  obtain ⟨⟨kind, key, value, lo, hi, fr, to, n⟩, rfl, -, hK⟩ := det1_elim hs
  have hk : kind = 1 ∨ kind = 2 ∨ kind = 3 ∨ kind = 4 ∨ kind = 5 ∨ kind = 6 ∨ (kind ≠ 1 ∧ kind ≠ 2 ∧ kind ≠ 3 ∧ kind ≠ 4 ∧ kind ≠ 5 ∧ kind ≠ 6) := by omega
  unfold validB at hK
  rcases hk with rfl | rfl | rfl | rfl | rfl | rfl | ⟨h1, h2, h3, h4, h5, h6⟩
  case inr.inr.inr.inr.inr.inr =>
    simp only [cMsg_enc8, hMsgOf, ofA, h1, h2, h3, h4, h5, h6, false_or, hValidPut, hBarePut, hValidDel, hBareDel, hValidDrop, hBareDrop, hValidMove, hBareMove, hValidClone, hBareClone, hValidStamp, hBareStamp, Int.reduceEq, Msg.enc, zeroMsg, eBs, cBs, F.fBs, Nat.reduceSub, Nat.reduceAdd, Nat.reduceLT, Nat.reduceEqDiff, Nat.reduceLeDiff, Nat.reduceMul, Nat.reduceBEq, Int.reduceToNat, Op.operands, if_true, if_false, reduceCtorEq, if_pos, forall_const, implies_true, eq_self, ne_eq] at hK ⊢
    exact hK
  all_goals
    simp only [cMsg_enc8, hMsgOf, ofA, hValidPut, hBarePut, hValidDel, hBareDel, hValidDrop, hBareDrop, hValidMove, hBareMove, hValidClone, hBareClone, hValidStamp, hBareStamp, Int.reduceEq, Msg.enc, zeroMsg, eBs, cBs, F.fBs, Nat.reduceSub, Nat.reduceAdd, Nat.reduceLT, Nat.reduceEqDiff, Nat.reduceLeDiff, Nat.reduceMul, Nat.reduceBEq, Int.reduceToNat, Op.operands, if_true, if_false, reduceCtorEq, if_pos, forall_const, implies_true, eq_self, ne_eq] at hK ⊢
    first
      | exact hK
      | (simpa [Bool.decide_and, Bool.and_assoc, eq_comm] using hK)
end Go.PE
