/- Valid messages, by their kinds (package msg). -/
import Derived.Test.YtkgkpmdbcjelfaaGreatWkC
set_option linter.unusedVariables false
set_option linter.defProp false
set_option linter.all false
set_option linter.unusedSimpArgs false
set_option maxRecDepth 10000
namespace Go.PE
open Go Go.Proofs

def ofA (m : Msg) : D := if m.kind = 1 then .iface 98 (.agg m.enc) else if m.kind = 2 then .iface 99 (.agg m.enc) else if m.kind = 3 then .iface 100 (.agg m.enc) else if m.kind = 4 then .iface 101 (.agg m.enc) else if m.kind = 5 then .iface 102 (.agg m.enc) else if m.kind = 6 then .iface 103 (.agg m.enc) else .nilI
def hMsgOf : Det := det1 cMsg (fun _ => True) fun m => .d (ofA m)
theorem f_msgOf : FPure Tryz.prog 56 hMsgOf.spec := by
  refine FPure.runL [] (fun _ => []) (by simp) F.mixed Tryz.func56 (by kernel_rfl) rfl (by kernel_rfl) 29 Tryz.ntmps56 [.tmp 2] Tryz.results56 ?_
  intro ds K hl hs
  obtain ⟨⟨kind, key, value, lo, hi, fr, to, n⟩, rfl, -, hK⟩ := det1_elim hs
  unfold ofA at hK
  have hk : kind = 1 ∨ kind = 2 ∨ kind = 3 ∨ kind = 4 ∨ kind = 5 ∨ kind = 6 ∨ (kind ≠ 1 ∧ kind ≠ 2 ∧ kind ≠ 3 ∧ kind ≠ 4 ∧ kind ≠ 5 ∧ kind ≠ 6) := by omega
  rcases hk with rfl | rfl | rfl | rfl | rfl | rfl | ⟨h1, h2, h3, h4, h5, h6⟩
  case inr.inr.inr.inr.inr.inr =>
    simp only [h1, h2, h3, h4, h5, h6, if_false] at hK
    simp only [cMsg_enc8, h1, h2, h3, h4, h5, h6, eBs, cBs, F.fBs, Nat.reduceSub, Nat.reduceAdd, Nat.reduceLT, Nat.reduceEqDiff, Nat.reduceLeDiff, Nat.reduceMul, Nat.reduceBEq, Int.reduceToNat, Op.operands, if_true, if_false, reduceCtorEq, if_pos, forall_const, implies_true, eq_self, ne_eq]
    exact hK
  all_goals
    simp only [cMsg_enc8, Msg.enc, Int.reduceEq, eBs, cBs, F.fBs, Nat.reduceSub, Nat.reduceAdd, Nat.reduceLT, Nat.reduceEqDiff, Nat.reduceLeDiff, Nat.reduceMul, Nat.reduceBEq, Int.reduceToNat, Op.operands, if_true, if_false, reduceCtorEq, if_pos, forall_const, implies_true, eq_self, ne_eq] at hK ⊢
    exact hK
def hValidPut : Det := det1 cMsg (fun _ => True) fun m => .d (.bool (inB m.key.length 1 65535 && (decide ((m.value.length : Int) ≤ 64) && inB m.n 0 1000000000)))
theorem f_validPut : FPure Tryz.prog 83 hValidPut.spec := by
  refine FPure.runL [(86, .det h05in)] (fun _ => []) (by
    intro p hp
    simp only [List.mem_cons, List.not_mem_nil, or_false] at hp
    subst hp
    exact f_msgIn) F.mixed Tryz.func83 (by kernel_rfl) rfl (by kernel_rfl) 18 Tryz.ntmps83 [.tmp 2] Tryz.results83 ?_
  intro ds K hl hs
  obtain ⟨m, rfl, -, hK⟩ := det1_elim hs
  simp only [h05in, hSpan, hApart, cMsg_enc8, cSpan_dec, eBs, cBs, F.fBs, Nat.reduceSub, Nat.reduceAdd, Nat.reduceLT, Nat.reduceEqDiff, Nat.reduceLeDiff, Nat.reduceMul, Nat.reduceBEq, Int.reduceToNat, Op.operands, if_true, if_false, reduceCtorEq, if_pos, forall_const, implies_true, eq_self, ne_eq]
  exact hK
def hBarePut : Det := det1 cMsg (fun _ => True) fun m => .d (.agg (Msg.enc { zeroMsg with kind := m.kind, key := m.key, value := m.value, n := m.n }))
theorem f_barePut : FPure Tryz.prog 81 hBarePut.spec := by
  refine FPure.runL [] (fun _ => []) (by simp) F.mixed Tryz.func81 (by kernel_rfl) rfl (by kernel_rfl) 12 Tryz.ntmps81 [.cell 2 37] Tryz.results81 ?_
  intro ds K hl hs
  obtain ⟨m, rfl, -, hK⟩ := det1_elim hs
  simp only [cMsg_enc8, Msg.enc, zeroMsg, eBs, cBs, F.fBs, Nat.reduceSub, Nat.reduceAdd, Nat.reduceLT, Nat.reduceEqDiff, Nat.reduceLeDiff, Nat.reduceMul, Nat.reduceBEq, Int.reduceToNat, Op.operands, if_true, if_false, reduceCtorEq, if_pos, forall_const, implies_true, eq_self, ne_eq] at hK ⊢
  exact hK
def hValidDel : Det := det1 cMsg (fun _ => True) fun m => .d (.bool (inB m.key.length 1 65535))
theorem f_validDel : FPure Tryz.prog 91 hValidDel.spec := by
  refine FPure.runL [(86, .det h05in)] (fun _ => []) (by
    intro p hp
    simp only [List.mem_cons, List.not_mem_nil, or_false] at hp
    subst hp
    exact f_msgIn) F.mixed Tryz.func91 (by kernel_rfl) rfl (by kernel_rfl) 7 Tryz.ntmps91 [.tmp 2] Tryz.results91 ?_
  intro ds K hl hs
  obtain ⟨m, rfl, -, hK⟩ := det1_elim hs
  simp only [h05in, hSpan, hApart, cMsg_enc8, cSpan_dec, eBs, cBs, F.fBs, Nat.reduceSub, Nat.reduceAdd, Nat.reduceLT, Nat.reduceEqDiff, Nat.reduceLeDiff, Nat.reduceMul, Nat.reduceBEq, Int.reduceToNat, Op.operands, if_true, if_false, reduceCtorEq, if_pos, forall_const, implies_true, eq_self, ne_eq]
  exact hK
def hBareDel : Det := det1 cMsg (fun _ => True) fun m => .d (.agg (Msg.enc { zeroMsg with kind := m.kind, key := m.key }))
theorem f_bareDel : FPure Tryz.prog 89 hBareDel.spec := by
  refine FPure.runL [] (fun _ => []) (by simp) F.mixed Tryz.func89 (by kernel_rfl) rfl (by kernel_rfl) 8 Tryz.ntmps89 [.cell 2 37] Tryz.results89 ?_
  intro ds K hl hs
  obtain ⟨m, rfl, -, hK⟩ := det1_elim hs
  simp only [cMsg_enc8, Msg.enc, zeroMsg, eBs, cBs, F.fBs, Nat.reduceSub, Nat.reduceAdd, Nat.reduceLT, Nat.reduceEqDiff, Nat.reduceLeDiff, Nat.reduceMul, Nat.reduceBEq, Int.reduceToNat, Op.operands, if_true, if_false, reduceCtorEq, if_pos, forall_const, implies_true, eq_self, ne_eq] at hK ⊢
  exact hK
def hValidDrop : Det := det1 cMsg (fun _ => True) fun m => .d (.bool (spanB m.lo m.hi))
theorem f_validDrop : FPure Tryz.prog 97 hValidDrop.spec := by
  refine FPure.runL [(100, .det hSpan)] (fun _ => []) (by
    intro p hp
    simp only [List.mem_cons, List.not_mem_nil, or_false] at hp
    subst hp
    exact f_msgEnds) F.mixed Tryz.func97 (by kernel_rfl) rfl (by kernel_rfl) 6 Tryz.ntmps97 [.tmp 2] Tryz.results97 ?_
  intro ds K hl hs
  obtain ⟨m, rfl, -, hK⟩ := det1_elim hs
  simp only [h05in, hSpan, hApart, cMsg_enc8, cSpan_dec, eBs, cBs, F.fBs, Nat.reduceSub, Nat.reduceAdd, Nat.reduceLT, Nat.reduceEqDiff, Nat.reduceLeDiff, Nat.reduceMul, Nat.reduceBEq, Int.reduceToNat, Op.operands, if_true, if_false, reduceCtorEq, if_pos, forall_const, implies_true, eq_self, ne_eq]
  exact hK
def hBareDrop : Det := det1 cMsg (fun _ => True) fun m => .d (.agg (Msg.enc { zeroMsg with kind := m.kind, lo := m.lo, hi := m.hi }))
theorem f_bareDrop : FPure Tryz.prog 95 hBareDrop.spec := by
  refine FPure.runL [] (fun _ => []) (by simp) F.mixed Tryz.func95 (by kernel_rfl) rfl (by kernel_rfl) 8 Tryz.ntmps95 [.cell 2 37] Tryz.results95 ?_
  intro ds K hl hs
  obtain ⟨m, rfl, -, hK⟩ := det1_elim hs
  simp only [cMsg_enc8, Msg.enc, zeroMsg, eBs, cBs, F.fBs, Nat.reduceSub, Nat.reduceAdd, Nat.reduceLT, Nat.reduceEqDiff, Nat.reduceLeDiff, Nat.reduceMul, Nat.reduceBEq, Int.reduceToNat, Op.operands, if_true, if_false, reduceCtorEq, if_pos, forall_const, implies_true, eq_self, ne_eq] at hK ⊢
  exact hK
def hValidMove : Det := det1 cMsg (fun _ => True) fun m => .d (.bool (apartB m.fr m.to))
theorem f_validMove : FPure Tryz.prog 105 hValidMove.spec := by
  refine FPure.runL [(108, .det hApart)] (fun _ => []) (by
    intro p hp
    simp only [List.mem_cons, List.not_mem_nil, or_false] at hp
    subst hp
    exact f_msgApart) F.mixed Tryz.func105 (by kernel_rfl) rfl (by kernel_rfl) 8 Tryz.ntmps105 [.tmp 2] Tryz.results105 ?_
  intro ds K hl hs
  obtain ⟨m, rfl, -, hK⟩ := det1_elim hs
  simp only [h05in, hSpan, hApart, cMsg_enc8, cSpan_dec, eBs, cBs, F.fBs, Nat.reduceSub, Nat.reduceAdd, Nat.reduceLT, Nat.reduceEqDiff, Nat.reduceLeDiff, Nat.reduceMul, Nat.reduceBEq, Int.reduceToNat, Op.operands, if_true, if_false, reduceCtorEq, if_pos, forall_const, implies_true, eq_self, ne_eq]
  exact hK
def hBareMove : Det := det1 cMsg (fun _ => True) fun m => .d (.agg (Msg.enc { zeroMsg with kind := m.kind, fr := m.fr, to := m.to }))
theorem f_bareMove : FPure Tryz.prog 103 hBareMove.spec := by
  refine FPure.runL [] (fun _ => []) (by simp) F.mixed Tryz.func103 (by kernel_rfl) rfl (by kernel_rfl) 10 Tryz.ntmps103 [.cell 2 37] Tryz.results103 ?_
  intro ds K hl hs
  obtain ⟨m, rfl, -, hK⟩ := det1_elim hs
  simp only [cMsg_enc8, Msg.enc, zeroMsg, eBs, cBs, F.fBs, Nat.reduceSub, Nat.reduceAdd, Nat.reduceLT, Nat.reduceEqDiff, Nat.reduceLeDiff, Nat.reduceMul, Nat.reduceBEq, Int.reduceToNat, Op.operands, if_true, if_false, reduceCtorEq, if_pos, forall_const, implies_true, eq_self, ne_eq] at hK ⊢
  exact hK
def hValidClone : Det := det1 cMsg (fun _ => True) fun m => .d (.bool (apartB m.fr m.to))
theorem f_validClone : FPure Tryz.prog 114 hValidClone.spec := by
  refine FPure.runL [(108, .det hApart)] (fun _ => []) (by
    intro p hp
    simp only [List.mem_cons, List.not_mem_nil, or_false] at hp
    subst hp
    exact f_msgApart) F.mixed Tryz.func114 (by kernel_rfl) rfl (by kernel_rfl) 8 Tryz.ntmps114 [.tmp 2] Tryz.results114 ?_
  intro ds K hl hs
  obtain ⟨m, rfl, -, hK⟩ := det1_elim hs
  simp only [h05in, hSpan, hApart, cMsg_enc8, cSpan_dec, eBs, cBs, F.fBs, Nat.reduceSub, Nat.reduceAdd, Nat.reduceLT, Nat.reduceEqDiff, Nat.reduceLeDiff, Nat.reduceMul, Nat.reduceBEq, Int.reduceToNat, Op.operands, if_true, if_false, reduceCtorEq, if_pos, forall_const, implies_true, eq_self, ne_eq]
  exact hK
def hBareClone : Det := det1 cMsg (fun _ => True) fun m => .d (.agg (Msg.enc { zeroMsg with kind := m.kind, fr := m.fr, to := m.to }))
theorem f_bareClone : FPure Tryz.prog 112 hBareClone.spec := by
  refine FPure.runL [] (fun _ => []) (by simp) F.mixed Tryz.func112 (by kernel_rfl) rfl (by kernel_rfl) 10 Tryz.ntmps112 [.cell 2 37] Tryz.results112 ?_
  intro ds K hl hs
  obtain ⟨m, rfl, -, hK⟩ := det1_elim hs
  simp only [cMsg_enc8, Msg.enc, zeroMsg, eBs, cBs, F.fBs, Nat.reduceSub, Nat.reduceAdd, Nat.reduceLT, Nat.reduceEqDiff, Nat.reduceLeDiff, Nat.reduceMul, Nat.reduceBEq, Int.reduceToNat, Op.operands, if_true, if_false, reduceCtorEq, if_pos, forall_const, implies_true, eq_self, ne_eq] at hK ⊢
  exact hK
def hValidStamp : Det := det1 cMsg (fun _ => True) fun m => .d (.bool (spanB m.lo m.hi && inB m.n 0 1000000000))
theorem f_validStamp : FPure Tryz.prog 120 hValidStamp.spec := by
  refine FPure.runL [(100, .det hSpan), (86, .det h05in)] (fun _ => []) (by
    intro p hp
    simp only [List.mem_cons, List.not_mem_nil, or_false] at hp
    rcases hp with rfl | rfl
    · exact f_msgEnds
    · exact f_msgIn) F.mixed Tryz.func120 (by kernel_rfl) rfl (by kernel_rfl) 11 Tryz.ntmps120 [.tmp 2] Tryz.results120 ?_
  intro ds K hl hs
  obtain ⟨m, rfl, -, hK⟩ := det1_elim hs
  simp only [h05in, hSpan, hApart, cMsg_enc8, cSpan_dec, eBs, cBs, F.fBs, Nat.reduceSub, Nat.reduceAdd, Nat.reduceLT, Nat.reduceEqDiff, Nat.reduceLeDiff, Nat.reduceMul, Nat.reduceBEq, Int.reduceToNat, Op.operands, if_true, if_false, reduceCtorEq, if_pos, forall_const, implies_true, eq_self, ne_eq]
  exact hK
def hBareStamp : Det := det1 cMsg (fun _ => True) fun m => .d (.agg (Msg.enc { zeroMsg with kind := m.kind, lo := m.lo, hi := m.hi, n := m.n }))
theorem f_bareStamp : FPure Tryz.prog 118 hBareStamp.spec := by
  refine FPure.runL [] (fun _ => []) (by simp) F.mixed Tryz.func118 (by kernel_rfl) rfl (by kernel_rfl) 10 Tryz.ntmps118 [.cell 2 37] Tryz.results118 ?_
  intro ds K hl hs
  obtain ⟨m, rfl, -, hK⟩ := det1_elim hs
  simp only [cMsg_enc8, Msg.enc, zeroMsg, eBs, cBs, F.fBs, Nat.reduceSub, Nat.reduceAdd, Nat.reduceLT, Nat.reduceEqDiff, Nat.reduceLeDiff, Nat.reduceMul, Nat.reduceBEq, Int.reduceToNat, Op.operands, if_true, if_false, reduceCtorEq, if_pos, forall_const, implies_true, eq_self, ne_eq] at hK ⊢
  exact hK
theorem f_msgValid : FPure Tryz.prog 51 hValid.spec := by
  refine FPure.runL [(56, .det hMsgOf), (83, .det hValidPut), (81, .det hBarePut), (91, .det hValidDel), (89, .det hBareDel), (97, .det hValidDrop), (95, .det hBareDrop), (105, .det hValidMove), (103, .det hBareMove), (114, .det hValidClone), (112, .det hBareClone), (120, .det hValidStamp), (118, .det hBareStamp)] (fun i => if i = 2 then [(0, (true, [])), (1, (true, [])), (2, (false, [])), (3, (false, [])), (4, (true, [])), (5, (false, [])), (6, (false, [])), (7, (false, [])), (9, (false, [])), (8, (true, [5, 9])), (10, (false, [])), (11, (false, [])), (12, (true, []))] else []) (by
    intro p hp
    simp only [List.mem_cons, List.not_mem_nil, or_false] at hp
    rcases hp with rfl | rfl | rfl | rfl | rfl | rfl | rfl | rfl | rfl | rfl | rfl | rfl | rfl
    · exact f_msgOf
    · exact f_validPut
    · exact f_barePut
    · exact f_validDel
    · exact f_bareDel
    · exact f_validDrop
    · exact f_bareDrop
    · exact f_validMove
    · exact f_bareMove
    · exact f_validClone
    · exact f_bareClone
    · exact f_validStamp
    · exact f_bareStamp) F.mixed Tryz.func51 (by kernel_rfl) rfl (by kernel_rfl) 18 Tryz.ntmps51 [.tmp 2] Tryz.results51 ?_
  intro ds K hl hs
  obtain ⟨⟨kind, key, value, lo, hi, fr, to, n⟩, rfl, -, hK⟩ := det1_elim hs
  have hk : kind = 1 ∨ kind = 2 ∨ kind = 3 ∨ kind = 4 ∨ kind = 5 ∨ kind = 6 ∨ (kind ≠ 1 ∧ kind ≠ 2 ∧ kind ≠ 3 ∧ kind ≠ 4 ∧ kind ≠ 5 ∧ kind ≠ 6) := by omega
  unfold validB at hK
  rcases hk with rfl | rfl | rfl | rfl | rfl | rfl | ⟨h1, h2, h3, h4, h5, h6⟩
  case inr.inr.inr.inr.inr.inr =>
    simp only [cMsg_enc8, hMsgOf, ofA, h1, h2, h3, h4, h5, h6, false_or, hValidPut, hBarePut, hValidDel, hBareDel, hValidDrop, hBareDrop, hValidMove, hBareMove, hValidClone, hBareClone, hValidStamp, hBareStamp, Int.reduceEq, Msg.enc, zeroMsg, eBs, cBs, F.fBs, Nat.reduceSub, Nat.reduceAdd, Nat.reduceLT, Nat.reduceEqDiff, Nat.reduceLeDiff, Nat.reduceMul, Nat.reduceBEq, Int.reduceToNat, Op.operands, if_true, if_false, reduceCtorEq, if_pos, forall_const, implies_true, eq_self, ne_eq] at hK ⊢
    exact hK
  all_goals
    simp only [cMsg_enc8, hMsgOf, ofA, hValidPut, hBarePut, hValidDel, hBareDel, hValidDrop, hBareDrop, hValidMove, hBareMove, hValidClone, hBareClone, hValidStamp, hBareStamp, Int.reduceEq, Msg.enc, zeroMsg, eBs, cBs, F.fBs, Nat.reduceSub, Nat.reduceAdd, Nat.reduceLT, Nat.reduceEqDiff, Nat.reduceLeDiff, Nat.reduceMul, Nat.reduceBEq, Int.reduceToNat, Op.operands, if_true, if_false, reduceCtorEq, if_pos, forall_const, implies_true, eq_self, ne_eq] at hK ⊢
    first
      | exact hK
      | (simpa [Bool.decide_and, Bool.and_assoc, eq_comm] using hK)
end Go.PE
