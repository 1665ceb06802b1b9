/- WkE: what the laws need of it. -/
import Derived.Test.YtknilgmkgjjidaaGreatDoorWkD
set_option linter.unusedVariables false
set_option linter.defProp false
set_option linter.all false
set_option linter.unusedSimpArgs false
set_option maxRecDepth 100000
set_option maxHeartbeats 4000000
namespace Go.PE
open Go Go.Proofs

theorem nK_intro {α : Type} {x : Option α} {F : α → Prop} (a : α) (e : x = some a) (h : F a) : @nK α x ⟨F⟩ := by subst e; exact h
def hWText : Handler := fun args b r K => match args, b, r with
  | [.ptr 0 0, .d (.str s)], [[.arr 0 m]], [A] => @nK _ (rowB A) ⟨fun l => (m = l.length ∧ s.length ≤ 65535 ∧ l.length ≤ 90000000) ∧
      K (.ret (.tup [])) [[.arr 0 (l.length + (textB s).length)]] [⟨1, 5, (l ++ textB s).map byteCell, false⟩]⟩
  | _, _, _ => False
theorem f_wText : HOk Tryz.prog 381 hWText := by
  refine HOk.runL [(390, .mem hWNum)] (fun _ => []) (by
    intro p hp
    simp only [List.mem_cons, List.not_mem_nil, or_false] at hp
    subst hp
    exact f_wNum) F.mixed Tryz.func381 (by kernel_rfl) rfl (by kernel_rfl) 17 Tryz.ntmps381 [] Tryz.results381 (.inr (fun i => by simp)) ?_
  intro args b r K hl hs
  unfold hWText at hs
  split at hs
  case h_2 => exact hs.elim
  rename_i s m A
  obtain ⟨l, hA, ⟨rfl, h1, h2⟩, hK⟩ := nK_elim hs
  obtain rfl := rowB_inv hA
  simp only [hWNum, rowB_eq, numP, beN_len, textB, List.length_append, Int.toNat_natCast, eBs, cBs, F.fBs, Nat.reduceSub, Nat.reduceAdd, Nat.reduceLT, Nat.reduceEqDiff, Nat.reduceLeDiff, Nat.reduceMul, Nat.reduceBEq, Int.reduceToNat, Op.operands, if_true, if_false, reduceCtorEq, if_pos, forall_const, implies_true, eq_self, ne_eq, iff_self] at hK ⊢
  have e2 : Int.toNat 2 = 2 := rfl
  simp only [e2, List.append_assoc]
  refine ⟨⟨⟨by omega, by omega, by omega, by omega⟩, by omega⟩, by omega, ?_⟩
  refine vK_ret _ _ hK ?_
  simp only [Nat.add_assoc, eBs, cBs, F.fBs, Nat.reduceSub, Nat.reduceAdd, Nat.reduceLT, Nat.reduceEqDiff, Nat.reduceLeDiff, Nat.reduceMul, Nat.reduceBEq, Int.reduceToNat, Op.operands, if_true, if_false, reduceCtorEq, if_pos, forall_const, implies_true, eq_self, ne_eq, iff_self] <;> simp
def hWritePut : Handler := fun args b r K => match args, b, r with
  | [.d x, .ptr 0 0], [[.arr 0 q]], [A] => @nK _ (cMsg.dec x) ⟨fun m => @nK _ (rowB A) ⟨fun l => (q = l.length ∧ (m.key.length ≤ 65535 ∧ m.value.length ≤ 65535 ∧ 0 ≤ m.n ∧ m.n ≤ 1000000000) ∧ l.length ≤ 80000000) ∧
      K (.ret (.tup [])) [[.arr 0 (l.length + (textB m.key ++ (textB m.value ++ beN m.n.toNat 4 4)).length)]] [⟨1, 5, (l ++ (textB m.key ++ (textB m.value ++ beN m.n.toNat 4 4))).map byteCell, false⟩]⟩⟩
  | _, _, _ => False
theorem f_writePut : HOk Tryz.prog 386 hWritePut := by
  refine HOk.runL [(381, .mem hWText), (390, .mem hWNum)] (fun _ => []) (by
    intro p hp
    simp only [List.mem_cons, List.not_mem_nil, or_false] at hp
    rcases hp with rfl | rfl
    · exact f_wText
    · exact f_wNum) F.mixed Tryz.func386 (by kernel_rfl) rfl (by kernel_rfl) 16 Tryz.ntmps386 [] Tryz.results386 (.inr (fun i => by simp)) ?_
  intro args b r K hl hs
  unfold hWritePut at hs
  split at hs
  case h_2 => exact hs.elim
  rename_i x q A
  obtain ⟨m, hx, hs⟩ := nK_elim hs
  obtain ⟨l, hA, ⟨rfl, h1, h2⟩, hK⟩ := nK_elim hs
  obtain rfl := rowB_inv hA
  obtain rfl := cMsg.ed _ _ hx
  have e4 : Int.toNat 4 = 4 := rfl
  simp only [hWText, hWNum, cMsg_enc8, rowB_eq, numP, beN_len, textB_len, e4, List.append_assoc, List.length_append, Nat.add_assoc, eBs, cBs, F.fBs, Nat.reduceSub, Nat.reduceAdd, Nat.reduceLT, Nat.reduceEqDiff, Nat.reduceLeDiff, Nat.reduceMul, Nat.reduceBEq, Int.reduceToNat, Op.operands, if_true, if_false, reduceCtorEq, if_pos, forall_const, implies_true, eq_self, ne_eq, iff_self] at hK ⊢
  repeat' (first | exact vK_ret _ _ hK (by simp [leB, leR, leR0, idsR, leV, idsB, idsL, idsA]) | apply And.intro | omega)
def hWriteDel : Handler := fun args b r K => match args, b, r with
  | [.d x, .ptr 0 0], [[.arr 0 q]], [A] => @nK _ (cMsg.dec x) ⟨fun m => @nK _ (rowB A) ⟨fun l => (q = l.length ∧ (m.key.length ≤ 65535) ∧ l.length ≤ 80000000) ∧
      K (.ret (.tup [])) [[.arr 0 (l.length + (textB m.key).length)]] [⟨1, 5, (l ++ (textB m.key)).map byteCell, false⟩]⟩⟩
  | _, _, _ => False
theorem f_writeDel : HOk Tryz.prog 406 hWriteDel := by
  refine HOk.runL [(381, .mem hWText)] (fun _ => []) (by
    intro p hp
    simp only [List.mem_cons, List.not_mem_nil, or_false] at hp
    subst hp
    exact f_wText) F.mixed Tryz.func406 (by kernel_rfl) rfl (by kernel_rfl) 8 Tryz.ntmps406 [] Tryz.results406 (.inr (fun i => by simp)) ?_
  intro args b r K hl hs
  unfold hWriteDel at hs
  split at hs
  case h_2 => exact hs.elim
  rename_i x q A
  obtain ⟨m, hx, hs⟩ := nK_elim hs
  obtain ⟨l, hA, ⟨rfl, h1, h2⟩, hK⟩ := nK_elim hs
  obtain rfl := rowB_inv hA
  obtain rfl := cMsg.ed _ _ hx
  have e4 : Int.toNat 4 = 4 := rfl
  simp only [hWText, hWNum, cMsg_enc8, rowB_eq, numP, beN_len, textB_len, e4, List.append_assoc, List.length_append, Nat.add_assoc, eBs, cBs, F.fBs, Nat.reduceSub, Nat.reduceAdd, Nat.reduceLT, Nat.reduceEqDiff, Nat.reduceLeDiff, Nat.reduceMul, Nat.reduceBEq, Int.reduceToNat, Op.operands, if_true, if_false, reduceCtorEq, if_pos, forall_const, implies_true, eq_self, ne_eq, iff_self] at hK ⊢
  repeat' (first | exact vK_ret _ _ hK (by simp [leB, leR, leR0, idsR, leV, idsB, idsL, idsA]) | apply And.intro | omega)
def hWriteDrop : Handler := fun args b r K => match args, b, r with
  | [.d x, .ptr 0 0], [[.arr 0 q]], [A] => @nK _ (cMsg.dec x) ⟨fun m => @nK _ (rowB A) ⟨fun l => (q = l.length ∧ (m.lo.length ≤ 65535 ∧ m.hi.length ≤ 65535) ∧ l.length ≤ 80000000) ∧
      K (.ret (.tup [])) [[.arr 0 (l.length + (textB m.lo ++ textB m.hi).length)]] [⟨1, 5, (l ++ (textB m.lo ++ textB m.hi)).map byteCell, false⟩]⟩⟩
  | _, _, _ => False
theorem f_writeDrop : HOk Tryz.prog 417 hWriteDrop := by
  refine HOk.runL [(381, .mem hWText)] (fun _ => []) (by
    intro p hp
    simp only [List.mem_cons, List.not_mem_nil, or_false] at hp
    subst hp
    exact f_wText) F.mixed Tryz.func417 (by kernel_rfl) rfl (by kernel_rfl) 14 Tryz.ntmps417 [] Tryz.results417 (.inr (fun i => by simp)) ?_
  intro args b r K hl hs
  unfold hWriteDrop at hs
  split at hs
  case h_2 => exact hs.elim
  rename_i x q A
  obtain ⟨m, hx, hs⟩ := nK_elim hs
  obtain ⟨l, hA, ⟨rfl, h1, h2⟩, hK⟩ := nK_elim hs
  obtain rfl := rowB_inv hA
  obtain rfl := cMsg.ed _ _ hx
  have e4 : Int.toNat 4 = 4 := rfl
  simp only [hWText, hWNum, cMsg_enc8, rowB_eq, numP, beN_len, textB_len, e4, List.append_assoc, List.length_append, Nat.add_assoc, eBs, cBs, F.fBs, Nat.reduceSub, Nat.reduceAdd, Nat.reduceLT, Nat.reduceEqDiff, Nat.reduceLeDiff, Nat.reduceMul, Nat.reduceBEq, Int.reduceToNat, Op.operands, if_true, if_false, reduceCtorEq, if_pos, forall_const, implies_true, eq_self, ne_eq, iff_self] at hK ⊢
  repeat' (first | exact vK_ret _ _ hK (by simp [leB, leR, leR0, idsR, leV, idsB, idsL, idsA]) | apply And.intro | omega)
def hWriteMove : Handler := fun args b r K => match args, b, r with
  | [.d x, .ptr 0 0], [[.arr 0 q]], [A] => @nK _ (cMsg.dec x) ⟨fun m => @nK _ (rowB A) ⟨fun l => (q = l.length ∧ (m.fr.length ≤ 65535 ∧ m.to.length ≤ 65535) ∧ l.length ≤ 80000000) ∧
      K (.ret (.tup [])) [[.arr 0 (l.length + (textB m.fr ++ textB m.to).length)]] [⟨1, 5, (l ++ (textB m.fr ++ textB m.to)).map byteCell, false⟩]⟩⟩
  | _, _, _ => False
theorem f_writeMove : HOk Tryz.prog 424 hWriteMove := by
  refine HOk.runL [(381, .mem hWText)] (fun _ => []) (by
    intro p hp
    simp only [List.mem_cons, List.not_mem_nil, or_false] at hp
    subst hp
    exact f_wText) F.mixed Tryz.func424 (by kernel_rfl) rfl (by kernel_rfl) 12 Tryz.ntmps424 [] Tryz.results424 (.inr (fun i => by simp)) ?_
  intro args b r K hl hs
  unfold hWriteMove at hs
  split at hs
  case h_2 => exact hs.elim
  rename_i x q A
  obtain ⟨m, hx, hs⟩ := nK_elim hs
  obtain ⟨l, hA, ⟨rfl, h1, h2⟩, hK⟩ := nK_elim hs
  obtain rfl := rowB_inv hA
  obtain rfl := cMsg.ed _ _ hx
  have e4 : Int.toNat 4 = 4 := rfl
  simp only [hWText, hWNum, cMsg_enc8, rowB_eq, numP, beN_len, textB_len, e4, List.append_assoc, List.length_append, Nat.add_assoc, eBs, cBs, F.fBs, Nat.reduceSub, Nat.reduceAdd, Nat.reduceLT, Nat.reduceEqDiff, Nat.reduceLeDiff, Nat.reduceMul, Nat.reduceBEq, Int.reduceToNat, Op.operands, if_true, if_false, reduceCtorEq, if_pos, forall_const, implies_true, eq_self, ne_eq, iff_self] at hK ⊢
  repeat' (first | exact vK_ret _ _ hK (by simp [leB, leR, leR0, idsR, leV, idsB, idsL, idsA]) | apply And.intro | omega)
def hWriteClone : Handler := fun args b r K => match args, b, r with
  | [.d x, .ptr 0 0], [[.arr 0 q]], [A] => @nK _ (cMsg.dec x) ⟨fun m => @nK _ (rowB A) ⟨fun l => (q = l.length ∧ (m.fr.length ≤ 65535 ∧ m.to.length ≤ 65535) ∧ l.length ≤ 80000000) ∧
      K (.ret (.tup [])) [[.arr 0 (l.length + (textB m.fr ++ textB m.to).length)]] [⟨1, 5, (l ++ (textB m.fr ++ textB m.to)).map byteCell, false⟩]⟩⟩
  | _, _, _ => False
theorem f_writeClone : HOk Tryz.prog 435 hWriteClone := by
  refine HOk.runL [(424, .mem hWriteMove)] (fun _ => []) (by
    intro p hp
    simp only [List.mem_cons, List.not_mem_nil, or_false] at hp
    subst hp
    exact f_writeMove) F.mixed Tryz.func435 (by kernel_rfl) rfl (by kernel_rfl) 7 Tryz.ntmps435 [] Tryz.results435 (.inr (fun i => by simp)) ?_
  intro args b r K hl hs
  unfold hWriteClone at hs
  split at hs
  case h_2 => exact hs.elim
  rename_i x q A
  obtain ⟨m, hx, hs⟩ := nK_elim hs
  obtain ⟨l, hA, ⟨rfl, h1, h2⟩, hK⟩ := nK_elim hs
  obtain rfl := rowB_inv hA
  obtain rfl := cMsg.ed _ _ hx
  have e4 : Int.toNat 4 = 4 := rfl
  simp only [hWriteMove, cMsg_enc8, rowB_eq, numP, beN_len, textB_len, e4, List.append_assoc, List.length_append, Nat.add_assoc, eBs, cBs, F.fBs, Nat.reduceSub, Nat.reduceAdd, Nat.reduceLT, Nat.reduceEqDiff, Nat.reduceLeDiff, Nat.reduceMul, Nat.reduceBEq, Int.reduceToNat, Op.operands, if_true, if_false, reduceCtorEq, if_pos, forall_const, implies_true, eq_self, ne_eq, iff_self] at hK ⊢
  repeat' (first | exact vK_ret _ _ hK (by simp [leB, leR, leR0, idsR, leV, idsB, idsL, idsA]) | apply And.intro | omega)
def hWriteStamp : Handler := fun args b r K => match args, b, r with
  | [.d x, .ptr 0 0], [[.arr 0 q]], [A] => @nK _ (cMsg.dec x) ⟨fun m => @nK _ (rowB A) ⟨fun l => (q = l.length ∧ (m.lo.length ≤ 65535 ∧ m.hi.length ≤ 65535 ∧ 0 ≤ m.n ∧ m.n ≤ 1000000000) ∧ l.length ≤ 80000000) ∧
      K (.ret (.tup [])) [[.arr 0 (l.length + (textB m.lo ++ (textB m.hi ++ beN m.n.toNat 4 4)).length)]] [⟨1, 5, (l ++ (textB m.lo ++ (textB m.hi ++ beN m.n.toNat 4 4))).map byteCell, false⟩]⟩⟩
  | _, _, _ => False
theorem f_writeStamp : HOk Tryz.prog 441 hWriteStamp := by
  refine HOk.runL [(417, .mem hWriteDrop), (390, .mem hWNum)] (fun _ => []) (by
    intro p hp
    simp only [List.mem_cons, List.not_mem_nil, or_false] at hp
    rcases hp with rfl | rfl
    · exact f_writeDrop
    · exact f_wNum) F.mixed Tryz.func441 (by kernel_rfl) rfl (by kernel_rfl) 11 Tryz.ntmps441 [] Tryz.results441 (.inr (fun i => by simp)) ?_
  intro args b r K hl hs
  unfold hWriteStamp at hs
  split at hs
  case h_2 => exact hs.elim
  rename_i x q A
  obtain ⟨m, hx, hs⟩ := nK_elim hs
  obtain ⟨l, hA, ⟨rfl, h1, h2⟩, hK⟩ := nK_elim hs
  obtain rfl := rowB_inv hA
  obtain rfl := cMsg.ed _ _ hx
  have e4 : Int.toNat 4 = 4 := rfl
  simp only [hWriteDrop, hWNum, cMsg_enc8, rowB_eq, numP, beN_len, textB_len, e4, List.append_assoc, List.length_append, Nat.add_assoc, eBs, cBs, F.fBs, Nat.reduceSub, Nat.reduceAdd, Nat.reduceLT, Nat.reduceEqDiff, Nat.reduceLeDiff, Nat.reduceMul, Nat.reduceBEq, Int.reduceToNat, Op.operands, if_true, if_false, reduceCtorEq, if_pos, forall_const, implies_true, eq_self, ne_eq, iff_self] at hK ⊢
  repeat' (first | exact vK_ret _ _ hK (by simp [leB, leR, leR0, idsR, leV, idsB, idsL, idsA]) | apply And.intro | omega)
theorem f_msgBytes : FPure Tryz.prog 62 h05Bytes.spec := by
  refine FPure.runL [(89, .det hMsgOf), (63, .det hValid), (386, .mem hWritePut), (406, .mem hWriteDel), (417, .mem hWriteDrop), (424, .mem hWriteMove), (435, .mem hWriteClone), (441, .mem hWriteStamp)] (fun _ => []) (by
    intro p hp
    simp only [List.mem_cons, List.not_mem_nil, or_false] at hp
    rcases hp with rfl | rfl | rfl | rfl | rfl | rfl | rfl | rfl
    · exact f_msgOf
    · exact f_msgValid
    · exact f_writePut
    · exact f_writeDel
    · exact f_writeDrop
    · exact f_writeMove
    · exact f_writeClone
    · exact f_writeStamp) F.mixed Tryz.func62 (by kernel_rfl) rfl (by kernel_rfl) 21 Tryz.ntmps62 [.tmp 2] Tryz.results62 ?_
  intro ds K hl hs
  obtain ⟨m, rfl, -, hK⟩ := det1_elim hs
  simp only [bytesM, fieldsB] at hK
  by_cases hv : validB m = true
  · simp only [hv, if_true] at hK
    have hc := valid_cases hv
    obtain ⟨kind, key, value, lo, hi, fr, to, n⟩ := m
    simp only at hc hK
    rcases hc with ⟨rfl, hc⟩ | ⟨rfl, hc⟩ | ⟨rfl, hc⟩ | ⟨rfl, hc⟩ | ⟨rfl, hc⟩ | ⟨rfl, hc⟩
    all_goals
      simp only [cMsg_enc8, hValid, hMsgOf, ofA, Msg.enc, hWritePut, hWriteDel, hWriteDrop, hWriteMove, hWriteClone, hWriteStamp, hv, Int.reduceEq, eBs, cBs, F.fBs, Nat.reduceSub, Nat.reduceAdd, Nat.reduceLT, Nat.reduceEqDiff, Nat.reduceLeDiff, Nat.reduceMul, Nat.reduceBEq, Int.reduceToNat, Op.operands, if_true, if_false, reduceCtorEq, if_pos, forall_const, implies_true, eq_self, ne_eq, iff_self] at hK ⊢
      rw [kindB _ (by omega) (by omega)]
      refine nK_intro [_] (rowB_eq [_]) ?_
      simp only [textB_len, beN_len, List.length_append, List.cons_append, List.nil_append, eBs, cBs, F.fBs, Nat.reduceSub, Nat.reduceAdd, Nat.reduceLT, Nat.reduceEqDiff, Nat.reduceLeDiff, Nat.reduceMul, Nat.reduceBEq, Int.reduceToNat, Op.operands, if_true, if_false, reduceCtorEq, if_pos, forall_const, implies_true, eq_self, ne_eq, iff_self]
      repeat' (first | (rw [if_pos (by omega)]; exact hK) | apply And.intro | omega)
  · simp only [hv, if_false, Bool.false_eq_true] at hK
    have hv' : validB m = false := by simpa using hv
    simp only [cMsg_enc8, hValid, hv', eBs, cBs, F.fBs, Nat.reduceSub, Nat.reduceAdd, Nat.reduceLT, Nat.reduceEqDiff, Nat.reduceLeDiff, Nat.reduceMul, Nat.reduceBEq, Int.reduceToNat, Op.operands, if_true, if_false, reduceCtorEq, if_pos, forall_const, implies_true, eq_self, ne_eq, iff_self]
    exact hK
end Go.PE
