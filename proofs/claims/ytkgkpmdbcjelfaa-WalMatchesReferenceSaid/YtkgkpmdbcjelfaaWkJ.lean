/- Groups and frames (reference 24, package wal). -/
import Derived.Test.YtkgkpmdbcjelfaaWkH
set_option linter.unusedVariables false
set_option linter.defProp false
set_option linter.all false
set_option linter.unusedSimpArgs false
set_option maxRecDepth 10000
set_option maxHeartbeats 2000000
namespace Go.PE
open Go Go.Proofs

theorem Msg.eta (x : Msg) : (⟨x.kind, x.key, x.value, x.lo, x.hi, x.fr, x.to, x.n⟩ : Msg) = x := rfl
theorem dec70 (l : List UInt8) : cBytes.dec (.list ([.int .u8 70] :: l.map byteCell)) = some (70 :: l) := cBytes.de (70 :: l)
def groupB (l : List Msg) : Bool := l.all validB && (decide (1 ≤ (l.length : Int)) && decide ((l.length : Int) ≤ 64))
def hGroup : Det := det1 cMsgs (fun _ => True) fun l => .d (.bool (groupB l))
theorem group_no {l : List Msg} {i : Nat} {m : Msg} (h : l[i]? = some m) (hv : validB m = false) : groupB l = false := by
  have : l.all validB = false := by
    rw [List.all_eq_false]
    exact ⟨m, List.mem_of_getElem? h, by simp [hv]⟩
  simp [groupB, this]
theorem take_all {l : List Msg} {i : Nat} {m : Msg} (h : l[i]? = some m) (hp : (l.take i).all validB = true) (hv : validB m = true) : (l.take (i + 1)).all validB = true := by
  rw [take_snoc h, List.all_append, hp]
  simp [hv]
theorem f_24Group : FPure Try.prog 44 hGroup.spec := by
  refine FPure.runL [(59, .det hValid)] (fun _ => []) (by
    intro p hp
    simp only [List.mem_cons, List.not_mem_nil, or_false] at hp
    subst hp
    exact f_05Valid) F.mixed Try.func44 (by kernel_rfl) rfl (by kernel_rfl) 24 Try.ntmps44 [.tmp 2] Try.results44 ?_
  intro ds K hl hs
  obtain ⟨l, rfl, -, hK⟩ := det1_elim hs
  have la := map_len_le hl
  simp only [eBs, cBs, F.fBs, Nat.reduceSub, Nat.reduceAdd, Nat.reduceLT, Nat.reduceEqDiff, Nat.reduceLeDiff, Nat.reduceMul, Nat.reduceBEq, Int.reduceToNat, Op.operands, if_true, if_false, reduceCtorEq, if_pos, forall_const, implies_true, eq_self, ne_eq]
  refine eK_rounds [0, 2] (fun i : Nat => i ≤ l.length ∧ (l.take i).all validB = true) (fun i => [(3, .d (.int .i64 i))]) (fun _ => []) (fun _ => []) (fun i => l.length - i) 0 ⟨Nat.zero_le _, by simp⟩ ?_ ?_
  · simp [le_eq, St.head, keepT, setAll, leV, leB, leR, leR0, idsR, idsL, idsA, idsB]
  rintro i ⟨hi, hp⟩
  have em : ∀ x : Msg, x.enc = [.int .i64 x.kind, .str x.key, .str x.value, .str x.lo, .str x.hi, .str x.fr, .str x.to, .int .i64 x.n] := fun _ => rfl
  simp only [le_eq, hValid, em, cMsg_dec', eBs, cBs, F.fBs, Nat.reduceSub, Nat.reduceAdd, Nat.reduceLT, Nat.reduceEqDiff, Nat.reduceLeDiff, Nat.reduceMul, Nat.reduceBEq, Int.reduceToNat, Op.operands, if_true, if_false, reduceCtorEq, if_pos, forall_const, implies_true, eq_self, ne_eq]
  refine ⟨fun h => ⟨⟨by omega, by omega⟩, fun x hx => ⟨fun hv => ?_, fun hv => ⟨i + 1, ⟨by omega, take_all hx hp hv⟩, by omega, ?_⟩⟩⟩, fun h => ?_⟩
  · rw [group_no hx hv] at hK
    exact hK
  · rw [wrap_i64' (by omega) (by omega)]; rfl
  · have : l.take i = l := List.take_of_length_le (by omega)
    rw [this] at hp
    simp only [groupB, hp, Bool.true_and] at hK
    exact hK
theorem f_walGroup : FPure Try.prog 40 hGroup.spec := by
  refine FPure.runL [(68, .det hValid)] (fun _ => []) (by
    intro p hp
    simp only [List.mem_cons, List.not_mem_nil, or_false] at hp
    subst hp
    exact f_msgValid) F.mixed Try.func40 (by kernel_rfl) rfl (by kernel_rfl) 23 Try.ntmps40 [.tmp 2] Try.results40 ?_
  intro ds K hl hs
  obtain ⟨l, rfl, -, hK⟩ := det1_elim hs
  have la := map_len_le hl
  simp only [eBs, cBs, F.fBs, Nat.reduceSub, Nat.reduceAdd, Nat.reduceLT, Nat.reduceEqDiff, Nat.reduceLeDiff, Nat.reduceMul, Nat.reduceBEq, Int.reduceToNat, Op.operands, if_true, if_false, reduceCtorEq, if_pos, forall_const, implies_true, eq_self, ne_eq]
  refine eK_rounds [0, 2, 5, 6] (fun i : Nat => i ≤ l.length ∧ (l.take i).all validB = true) (fun i => [(7, .d (.int .i64 i))]) (fun _ => []) (fun _ => []) (fun i => l.length - i) 0 ⟨Nat.zero_le _, by simp⟩ ?_ ?_
  · simp [le_eq, St.head, keepT, setAll, leV, leB, leR, leR0, idsR, idsL, idsA, idsB]
  rintro i ⟨hi, hp⟩
  have em : ∀ x : Msg, x.enc = [.int .i64 x.kind, .str x.key, .str x.value, .str x.lo, .str x.hi, .str x.fr, .str x.to, .int .i64 x.n] := fun _ => rfl
  simp only [le_eq, hValid, em, cMsg_dec', eBs, cBs, F.fBs, Nat.reduceSub, Nat.reduceAdd, Nat.reduceLT, Nat.reduceEqDiff, Nat.reduceLeDiff, Nat.reduceMul, Nat.reduceBEq, Int.reduceToNat, Op.operands, if_true, if_false, reduceCtorEq, if_pos, forall_const, implies_true, eq_self, ne_eq]
  refine ⟨fun h => ⟨⟨by omega, by omega⟩, fun x hx => ⟨fun hv => ?_, fun hv => ⟨i + 1, ⟨by omega, take_all hx hp hv⟩, by omega, ?_⟩⟩⟩, fun h => ?_⟩
  · rw [group_no hx hv] at hK
    exact hK
  · rw [wrap_i64' (by omega) (by omega)]; rfl
  · have : l.take i = l := List.take_of_length_le (by omega)
    rw [this] at hp
    simp only [groupB, hp, Bool.true_and] at hK
    exact hK

def headF (gen seq : Nat) (all : List UInt8) : List UInt8 := 70 :: (beN gen 4 4 ++ (beN seq 4 4 ++ (beN all.length 4 4 ++ all)))
theorem headF_len (g s : Nat) (l : List UInt8) : (headF g s l).length = 13 + l.length := by simp [headF, beN_len]; omega
def frameF (gen seq : Int) (l : List Msg) : List UInt8 × Int :=
  if (n31B gen && (n31B seq && groupB l)) = true then
    if (l.flatMap bytesM).length ≤ 65515 then (headF gen.toNat seq.toNat (l.flatMap bytesM) ++ beN (fnv (headF gen.toNat seq.toNat (l.flatMap bytesM))) 8 8, 0) else ([], 2)
  else ([], 1)
def frameA (x : List UInt8 × Int) : AV := .tup [.d (.list (x.1.map byteCell)), .d (.int .i64 x.2)]
def hFrame : Det := det3 (cI .i64) (cI .i64) cMsgs (fun _ _ _ => True) fun g s l => frameA (frameF g s l)
theorem fields_le {m : Msg} (h : validB m = true) : (fieldsB m).length ≤ 131078 := by
  have hc := valid_cases h
  unfold fieldsB
  repeat' split
  all_goals (simp only [List.length_append, textB_len, beN_len]; omega)
theorem bytes_le (m : Msg) : (bytesM m).length ≤ 131079 := by
  unfold bytesM
  split
  · rename_i h
    have := fields_le h
    simp only [List.length_cons]
    omega
  · simp
theorem bytess_le : ∀ l : List Msg, (l.flatMap bytesM).length ≤ 131079 * l.length
  | [] => by simp
  | m :: l => by
    have h1 := bytess_le l
    have h2 := bytes_le m
    simp only [List.flatMap_cons, List.length_append, List.length_cons]
    omega
theorem group_le {l : List Msg} (h : groupB l = true) : 1 ≤ l.length ∧ l.length ≤ 64 := by
  simp only [groupB, Bool.and_eq_true, decide_eq_true_eq] at h
  omega
theorem n31_iff {n : Int} : n31B n = true ↔ 0 ≤ n ∧ n < 2147483648 := by simp [n31B]
theorem f_24Frame : FPure Try.prog 21 hFrame.spec := by
  refine FPure.runL [(44, .det hGroup), (45, .det h24in), (46, .det h05Bytes), (47, .det h24number), (48, .det hCheck)] (fun _ => []) (by
    intro p hp
    simp only [List.mem_cons, List.not_mem_nil, or_false] at hp
    rcases hp with rfl | rfl | rfl | rfl | rfl
    · exact f_24Group
    · exact f_24in
    · exact f_05Bytes
    · exact f_24number
    · exact f_10Check) F.mixed Try.func21 (by kernel_rfl) rfl (by kernel_rfl) 67 Try.ntmps21 [.tmp 6, .tmp 7] Try.results21 ?_
  intro ds K hl hs
  obtain ⟨g, s, l, rfl, -, hK⟩ := det3_elim hs
  simp only [hGroup, h24in, eBs, cBs, F.fBs, Nat.reduceSub, Nat.reduceAdd, Nat.reduceLT, Nat.reduceEqDiff, Nat.reduceLeDiff, Nat.reduceMul, Nat.reduceBEq, Int.reduceToNat, Op.operands, if_true, if_false, reduceCtorEq, if_pos, forall_const, implies_true, eq_self, ne_eq]
  unfold frameF at hK
  refine ⟨fun h => ?_, fun h => ?_⟩
  · rw [if_neg (by simp only [Bool.or_eq_true, Bool.not_eq_true'] at h; simp only [Bool.and_eq_true]; rintro ⟨h1, h2, h3⟩; simp [h1, h2, h3] at h)] at hK
    exact hK
  have hg : n31B g = true ∧ n31B s = true ∧ groupB l = true := by simpa [and_assoc] using h
  rw [if_pos (by simp [hg])] at hK
  obtain ⟨g1, g2⟩ := n31_iff.1 hg.1
  obtain ⟨s1, s2⟩ := n31_iff.1 hg.2.1
  obtain ⟨l1, l2⟩ := group_le hg.2.2
  have hall := bytess_le l
  refine eK_rounds [0, 1, 2] (fun i : Nat => i ≤ l.length) (fun i => [(9, .arr 1 ((l.take i).flatMap bytesM).length), (10, .d (.int .i64 i))]) (fun _ => []) (fun i => [(1, ⟨1, 5, ((l.take i).flatMap bytesM).map byteCell, false⟩)]) (fun i => l.length - i) 0 (Nat.zero_le _) ?_ ?_
  · simp [le_eq, St.head, keepT, setAll, leV, leB, leR, leR0, idsR, idsL, idsA, idsB]
  intro i hi
  have hti := bytess_le (l.take i)
  have htk : (l.take i).length ≤ 64 := by simp; omega
  have em : ∀ x : Msg, x.enc = [.int .i64 x.kind, .str x.key, .str x.value, .str x.lo, .str x.hi, .str x.fr, .str x.to, .int .i64 x.n] := fun _ => rfl
  simp only [le_eq, h05Bytes, em, cMsg_dec', Msg.eta, List.length_append, eBs, cBs, F.fBs, Nat.reduceSub, Nat.reduceAdd, Nat.reduceLT, Nat.reduceEqDiff, Nat.reduceLeDiff, Nat.reduceMul, Nat.reduceBEq, Int.reduceToNat, Op.operands, if_true, if_false, reduceCtorEq, if_pos, forall_const, implies_true, eq_self, ne_eq]
  refine ⟨fun h => ⟨⟨by omega, by omega⟩, fun x hx => ?_⟩, fun h => ?_⟩
  · have hx2 := bytes_le x
    refine ⟨by omega, i + 1, by omega, by omega, ⟨?_, ?_⟩, ?_⟩
    · simp [take_snoc hx]
    · rw [wrap_i64' (by omega) (by omega)]; rfl
    · simp [take_snoc hx]
  · have : l.take i = l := List.take_of_length_le (by omega)
    rw [this]
    have w1 : IntKind.u64.wrap g = (g.toNat : Int) := by rw [IntKind.wrap_u64]; omega
    have w2 : IntKind.u64.wrap s = (s.toNat : Int) := by rw [IntKind.wrap_u64]; omega
    have w3 : IntKind.u64.wrap ((l.flatMap bytesM).length : Int) = ((l.flatMap bytesM).length : Int) := by rw [IntKind.wrap_u64]; omega
    refine ⟨fun h => ?_, fun h => ?_⟩
    · rw [if_neg (by omega)] at hK
      exact hK
    rw [if_pos (by omega)] at hK
    generalize l.flatMap bytesM = all at *
    have w8 : ∀ l, ((fnv l : Nat) : Int) < 18446744073709551616 := fun l => by have := fnv_lt l; omega
    simp only [h24number, hCheck, numP, w1, w2, w3, w8, dec70, beN_len, List.length_append, List.append_assoc, eBs, cBs, F.fBs, Nat.reduceSub, Nat.reduceAdd, Nat.reduceLT, Nat.reduceEqDiff, Nat.reduceLeDiff, Nat.reduceMul, Nat.reduceBEq, Int.reduceToNat, Op.operands, if_true, if_false, reduceCtorEq, if_pos, forall_const, implies_true, eq_self, ne_eq]
    simp only [headF, frameA, List.cons_append, List.append_assoc] at hK
    repeat' (first | exact hK | omega | with_reducible apply And.intro)

/-- What the head has after j numbers. -/
def headJ (g s n : Nat) : Nat → List UInt8
  | 0 => [70]
  | 1 => 70 :: beN g 4 4
  | 2 => 70 :: (beN g 4 4 ++ beN s 4 4)
  | _ => 70 :: (beN g 4 4 ++ (beN s 4 4 ++ beN n 4 4))
theorem headJ_len (g s n j : Nat) (h : j ≤ 3) : (headJ g s n j).length = 1 + 4 * j := by
  have : j = 0 ∨ j = 1 ∨ j = 2 ∨ j = 3 := by omega
  rcases this with rfl | rfl | rfl | rfl <;> simp [headJ, beN_len]
theorem f_walFrame : FPure Try.prog 20 hFrame.spec := by
  refine FPure.runL [(40, .det hGroup), (41, .det h05Bytes), (42, .mem hAddNum), (43, .det hCheck)] (fun _ => []) (by
    intro p hp
    simp only [List.mem_cons, List.not_mem_nil, or_false] at hp
    rcases hp with rfl | rfl | rfl | rfl
    · exact f_walGroup
    · exact f_msgBytes
    · exact f_walNumber
    · exact f_nodeCheck) F.mixed Try.func20 (by kernel_rfl) rfl (by kernel_rfl) 66 Try.ntmps20 [.tmp 6, .tmp 7] Try.results20 ?_
  intro ds K hl hs
  obtain ⟨g, s, l, rfl, -, hK⟩ := det3_elim hs
  have la : l.length ≤ 9223372036854775807 := by
    simp only [lensOk, okL, eBs, cBs, F.fBs, Nat.reduceSub, Nat.reduceAdd, Nat.reduceLT, Nat.reduceEqDiff, Nat.reduceLeDiff, Nat.reduceMul, Nat.reduceBEq, Int.reduceToNat, Op.operands, if_true, if_false, reduceCtorEq, if_pos, forall_const, implies_true, eq_self, ne_eq] at hl
    have := hl.2.2.1
    simp only [okD, List.length_map] at this
    first | exact this.1 | exact this
  simp only [hGroup, eBs, cBs, F.fBs, Nat.reduceSub, Nat.reduceAdd, Nat.reduceLT, Nat.reduceEqDiff, Nat.reduceLeDiff, Nat.reduceMul, Nat.reduceBEq, Int.reduceToNat, Op.operands, if_true, if_false, reduceCtorEq, if_pos, forall_const, implies_true, eq_self, ne_eq]
  unfold frameF at hK
  refine ⟨fun h => ?_, fun h => ?_⟩
  · rw [if_neg (by
      simp only [Bool.or_eq_true, Bool.not_eq_true', decide_eq_true_eq] at h
      simp only [Bool.and_eq_true, n31_iff]
      rintro ⟨h1, h2, h3⟩
      rcases h with (h | h) | h
      · omega
      · omega
      · rw [h3] at h; cases h)] at hK
    exact hK
  have hg : n31B g = true ∧ n31B s = true ∧ groupB l = true := by
    simp only [Bool.or_eq_false_iff, Bool.not_eq_false', decide_eq_false_iff_not] at h
    exact ⟨n31_iff.2 ⟨by omega, by omega⟩, n31_iff.2 ⟨by omega, by omega⟩, h.2⟩
  rw [if_pos (by simp [hg])] at hK
  obtain ⟨g1, g2⟩ := n31_iff.1 hg.1
  obtain ⟨s1, s2⟩ := n31_iff.1 hg.2.1
  obtain ⟨l1, l2⟩ := group_le hg.2.2
  have hall := bytess_le l
  refine eK_rounds [0, 1, 2, 29, 30] (fun i : Nat => i ≤ l.length) (fun i => [(8, .arr 1 ((l.take i).flatMap bytesM).length), (31, .d (.int .i64 i))]) (fun _ => []) (fun i => [(1, ⟨1, 5, ((l.take i).flatMap bytesM).map byteCell, false⟩)]) (fun i => l.length - i) 0 (Nat.zero_le _) ?_ ?_
  · simp [le_eq, St.head, keepT, setAll, leV, leB, leR, leR0, idsR, idsL, idsA, idsB]
  intro i hi
  have hti := bytess_le (l.take i)
  have htk : (l.take i).length ≤ 64 := by simp; omega
  have em : ∀ x : Msg, x.enc = [.int .i64 x.kind, .str x.key, .str x.value, .str x.lo, .str x.hi, .str x.fr, .str x.to, .int .i64 x.n] := fun _ => rfl
  simp only [le_eq, h05Bytes, em, cMsg_dec', Msg.eta, List.length_append, eBs, cBs, F.fBs, Nat.reduceSub, Nat.reduceAdd, Nat.reduceLT, Nat.reduceEqDiff, Nat.reduceLeDiff, Nat.reduceMul, Nat.reduceBEq, Int.reduceToNat, Op.operands, if_true, if_false, reduceCtorEq, if_pos, forall_const, implies_true, eq_self, ne_eq]
  refine ⟨fun h => ⟨⟨by omega, by omega⟩, fun x hx => ?_⟩, fun h => ?_⟩
  · have hx2 := bytes_le x
    refine ⟨by omega, i + 1, by omega, by omega, ⟨?_, ?_⟩, ?_⟩
    · simp [take_snoc hx]
    · rw [wrap_i64' (by omega) (by omega)]; rfl
    · simp [take_snoc hx]
  · have : l.take i = l := List.take_of_length_le (by omega)
    rw [this]
    refine ⟨fun h => ?_, fun h => ?_⟩
    · rw [if_neg (by omega)] at hK
      exact hK
    rw [if_pos (by omega)] at hK
    generalize l.flatMap bytesM = all at *
    have hcell : ∀ x : List UInt8, ([D.int IntKind.u8 70] :: x.map byteCell) = (70 :: x).map byteCell := fun _ => rfl
    have w1 : IntKind.u64.wrap g = (g.toNat : Int) := by rw [IntKind.wrap_u64]; omega
    have w2 : IntKind.u64.wrap s = (s.toNat : Int) := by rw [IntKind.wrap_u64]; omega
    have w3 : IntKind.u64.wrap (all.length : Int) = (all.length : Int) := by rw [IntKind.wrap_u64]; omega
    have w8 : ∀ l, ((fnv l : Nat) : Int) < 18446744073709551616 := fun l => by have := fnv_lt l; omega
    have ha : all.length ≤ 65515 := by omega
    refine eK_rounds [0, 1, 2, 8, 48, 49] (fun j : Nat => j ≤ 3) (fun j => [(11, .arr 2 (1 + 4 * j)), (50, .d (.int .i64 j))]) (fun _ => []) (fun j => [(2, ⟨1, 5, (headJ g.toNat s.toNat all.length j).map byteCell, false⟩)]) (fun j => 3 - j) 0 (by omega) ?_ ?_
    · simp [le_eq, St.head, keepT, setAll, leV, leB, leR, leR0, idsR, idsL, idsA, idsB, headJ, byteCell]
    intro j hj
    have hj4 : j = 0 ∨ j = 1 ∨ j = 2 ∨ j = 3 := by omega
    have hlen := headJ_len g.toNat s.toNat all.length j hj
    rcases hj4 with rfl | rfl | rfl | rfl
    · simp only [le_eq, hAddNum, rowQ_eq, numP, w1, w2, w3, beN_len, List.length_append, hlen, eBs, cBs, F.fBs, Nat.reduceSub, Nat.reduceAdd, Nat.reduceLT, Nat.reduceEqDiff, Nat.reduceLeDiff, Nat.reduceMul, Nat.reduceBEq, Int.reduceToNat, Op.operands, if_true, if_false, reduceCtorEq, if_pos, forall_const, implies_true, eq_self, ne_eq]
      refine ⟨fun _ => ⟨⟨by omega, by omega⟩, ⟨by omega, by omega, by omega, by omega⟩, 1, by omega, by omega, ⟨rfl, ?_⟩, ?_⟩, fun h => absurd h (by omega)⟩
      · rw [wrap_i64' (by omega) (by omega)]; rfl
      · simp [headJ]
    · simp only [le_eq, hAddNum, rowQ_eq, numP, w1, w2, w3, beN_len, List.length_append, hlen, eBs, cBs, F.fBs, Nat.reduceSub, Nat.reduceAdd, Nat.reduceLT, Nat.reduceEqDiff, Nat.reduceLeDiff, Nat.reduceMul, Nat.reduceBEq, Int.reduceToNat, Op.operands, if_true, if_false, reduceCtorEq, if_pos, forall_const, implies_true, eq_self, ne_eq]
      refine ⟨fun _ => ⟨⟨by omega, by omega⟩, ⟨by omega, by omega, by omega, by omega⟩, 2, by omega, by omega, ⟨rfl, ?_⟩, ?_⟩, fun h => absurd h (by omega)⟩
      · rw [wrap_i64' (by omega) (by omega)]; rfl
      · simp [headJ]
    · simp only [le_eq, hAddNum, rowQ_eq, numP, w1, w2, w3, beN_len, List.length_append, hlen, eBs, cBs, F.fBs, Nat.reduceSub, Nat.reduceAdd, Nat.reduceLT, Nat.reduceEqDiff, Nat.reduceLeDiff, Nat.reduceMul, Nat.reduceBEq, Int.reduceToNat, Op.operands, if_true, if_false, reduceCtorEq, if_pos, forall_const, implies_true, eq_self, ne_eq]
      refine ⟨fun _ => ⟨⟨by omega, by omega⟩, ⟨by omega, by omega, by omega, by omega⟩, 3, by omega, by omega, ⟨rfl, ?_⟩, ?_⟩, fun h => absurd h (by omega)⟩
      · rw [wrap_i64' (by omega) (by omega)]; rfl
      · simp [headJ]
    · have e : headJ g.toNat s.toNat all.length 3 ++ all = headF g.toNat s.toNat all := by simp [headJ, headF]
      simp only [le_eq, hAddNum, hCheck, rowQ_eq, numP, w8, beN_len, List.length_append, hlen, e, eBs, cBs, F.fBs, Nat.reduceSub, Nat.reduceAdd, Nat.reduceLT, Nat.reduceEqDiff, Nat.reduceLeDiff, Nat.reduceMul, Nat.reduceBEq, Int.reduceToNat, Op.operands, if_true, if_false, reduceCtorEq, if_pos, forall_const, implies_true, eq_self, ne_eq]
      refine ⟨fun h => absurd h (by omega), fun _ => ?_⟩
      have hhl := headF_len g.toNat s.toNat all
      repeat' (first | exact hK | omega | with_reducible apply And.intro)
end Go.PE
