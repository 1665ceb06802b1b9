/- WkSe: what the laws need of it. -/
import Derived.Test.YtomligcenflpdabGreatDoorWkSd
set_option linter.unusedVariables false
set_option linter.defProp false
set_option linter.all false
set_option linter.unusedSimpArgs false
set_option maxRecDepth 100000
set_option maxHeartbeats 4000000
namespace Go.PE
open Go Go.Proofs

def hClone : Handler := fun args b r K => match args, b, r with
  | [.d x], [], [] => @nK _ (cRecs.dec x) ⟨fun l => l.length ≤ 1000000 ∧ K (.ret (.arr 1 l.length)) [] [⟨14, 38, [], false⟩, ⟨14, 38, l.map Rec.enc, false⟩]⟩
  | _, _, _ => False
theorem f_clone : HOk Tryz.prog 35 hClone := by
  refine HOk.runL [] (fun _ => []) (by simp) F.mixed Tryz.func35 (by kernel_rfl) rfl (by kernel_rfl) 8 Tryz.ntmps35 [.tmp 2] Tryz.results35 (.inr (fun i => by simp)) ?_
  intro args b r K hl hs
  unfold hClone at hs
  split at hs
  case h_2 => exact hs.elim
  rename_i x
  obtain ⟨l, hx, hlen, hK⟩ := nK_elim hs
  obtain rfl := cRecs.ed _ _ hx
  simp (config := { maxSteps := 4000000 }) only [cRecs_enc, eBs, cBs, F.fBs, Nat.reduceSub, Nat.reduceAdd, Nat.reduceLT, Nat.reduceEqDiff, Nat.reduceLeDiff, Nat.reduceMul, Nat.reduceBEq, Int.reduceToNat, Op.operands, if_true, if_false, reduceCtorEq, if_pos, forall_const, implies_true, eq_self, ne_eq]
  refine ⟨fun h => ?_, ⟨fun _ _ => rfl, by omega⟩, ?_⟩
  · have hn : l = [] := by
      cases l with
      | nil => rfl
      | cons x l => exact absurd (fun e => by cases e) h
    subst hn
    refine vK_ret _ _ hK ?_
    simp only [eBs, cBs, F.fBs, Nat.reduceSub, Nat.reduceAdd, Nat.reduceLT, Nat.reduceEqDiff, Nat.reduceLeDiff, Nat.reduceMul, Nat.reduceBEq, Int.reduceToNat, Op.operands, if_true, if_false, reduceCtorEq, if_pos, forall_const, implies_true, eq_self, ne_eq] <;> simp
  · refine vK_ret _ _ hK ?_
    simp only [eBs, cBs, F.fBs, Nat.reduceSub, Nat.reduceAdd, Nat.reduceLT, Nat.reduceEqDiff, Nat.reduceLeDiff, Nat.reduceMul, Nat.reduceBEq, Int.reduceToNat, Op.operands, if_true, if_false, reduceCtorEq, if_pos, forall_const, implies_true, eq_self, ne_eq] <;> simp
/-- Records before a number (stream.Rest$1). -/
def hBefore : Handler := fun args b r K => match args, b, r with
  | [.d x, .ptr 0 0], [[.d (.int .i64 n)]], [] => @nK _ (cRec.dec x) ⟨fun x => K (.ret (.d (.bool (decide (x.seq < n))))) [[.d (.int .i64 n)]] []⟩
  | _, _, _ => False
theorem f_before : HOk Tryz.prog 36 hBefore := by
  refine HOk.runL [] (fun _ => []) (by simp) F.mixed Tryz.func36 (by kernel_rfl) rfl (by kernel_rfl) 8 Tryz.ntmps36 [.tmp 3] Tryz.results36 (.inr (fun i => by simp)) ?_
  intro args b r K hl hs
  unfold hBefore at hs
  split at hs
  case h_2 => exact hs.elim
  rename_i x n
  obtain ⟨x, hx, hK⟩ := nK_elim hs
  obtain rfl := cRec.ed _ _ hx
  simp (config := { maxSteps := 4000000 }) only [cRec_enc, eBs, cBs, F.fBs, Nat.reduceSub, Nat.reduceAdd, Nat.reduceLT, Nat.reduceEqDiff, Nat.reduceLeDiff, Nat.reduceMul, Nat.reduceBEq, Int.reduceToNat, Op.operands, if_true, if_false, reduceCtorEq, if_pos, forall_const, implies_true, eq_self, ne_eq]
  refine vK_ret _ _ hK ?_
  simp only [eBs, cBs, F.fBs, Nat.reduceSub, Nat.reduceAdd, Nat.reduceLT, Nat.reduceEqDiff, Nat.reduceLeDiff, Nat.reduceMul, Nat.reduceBEq, Int.reduceToNat, Op.operands, if_true, if_false, reduceCtorEq, if_pos, forall_const, implies_true, eq_self, ne_eq] <;> simp
def lateB (n : Int) (x : Rec) : Bool := !decide (x.seq < n)
/-- The place of the first record before a number. -/
def idxF (n : Int) : Nat → List Rec → Int
  | _, [] => -1
  | i, x :: l => if x.seq < n then (i : Nat) else idxF n (i + 1) l
theorem idx_drop {n : Int} {l : List Rec} {i : Nat} {x : Rec} (hx : l[i]? = some x) : idxF n i (l.drop i) = if x.seq < n then (i : Int) else idxF n (i + 1) (l.drop (i + 1)) := by
  obtain ⟨h, e⟩ := List.getElem?_eq_some_iff.1 hx
  rw [List.drop_eq_getElem_cons h, e, idxF]
theorem idx_spec (n : Int) : ∀ (l : List Rec) (i : Nat), (idxF n i l = -1 ∧ l.filter (lateB n) = l) ∨ ∃ k x, l[k]? = some x ∧ x.seq < n ∧ idxF n i l = ((i + k : Nat) : Int) ∧ (l.take k).filter (lateB n) = l.take k
  | [], i => .inl ⟨rfl, rfl⟩
  | x :: l, i => by
    by_cases h : x.seq < n
    · exact .inr ⟨0, x, rfl, h, by simp [idxF, h], by simp⟩
    · have hl : lateB n x = true := by simp [lateB, h]
      rcases idx_spec n l (i + 1) with ⟨h1, h2⟩ | ⟨k, y, h1, h2, h3, h4⟩
      · exact .inl ⟨by rw [idxF, if_neg h, h1], by rw [List.filter_cons, if_pos hl, h2]⟩
      · exact .inr ⟨k + 1, y, by simpa using h1, h2, by rw [idxF, if_neg h, h3]; congr 1; omega, by rw [List.take_succ_cons, List.filter_cons, if_pos hl, h4]⟩
theorem take_snoc' {l : List Rec} {i : Nat} {x : Rec} (h : l[i]? = some x) : l.take (i + 1) = l.take i ++ [x] := by rw [List.take_add_one, h]; rfl
def hIndex : Handler := fun args b r K => match args, b, r with
  | [.arr 0 m, .fn (.func 36) [] [.ptr 0 0]], [[.d (.int .i64 n)]], [A] => @nK _ (rowRec A) ⟨fun l => (m = l.length ∧ l.length ≤ 1000000) ∧ K (.ret (.d (.int .i64 (idxF n 0 l)))) [[.d (.int .i64 n)]] [⟨14, 38, l.map Rec.enc, false⟩]⟩
  | _, _, _ => False
theorem f_index : HOk Tryz.prog 62 hIndex := by
  refine HOk.runL [(36, .mem hBefore)] (fun _ => []) (by
    intro p hp
    simp only [List.mem_cons, List.not_mem_nil, or_false] at hp
    subst hp
    exact f_before) F.mixed Tryz.func62 (by kernel_rfl) rfl (by kernel_rfl) 19 Tryz.ntmps62 [.tmp 4] Tryz.results62 (.inr (fun i => by simp)) ?_
  intro args b r K hl hs
  unfold hIndex at hs
  split at hs
  case h_2 => exact hs.elim
  rename_i m n A
  obtain ⟨l, hx, ⟨rfl, hlen⟩, hK⟩ := nK_elim hs
  obtain rfl := rowRec_inv hx
  simp (config := { maxSteps := 4000000 }) only [eBs, cBs, F.fBs, Nat.reduceSub, Nat.reduceAdd, Nat.reduceLT, Nat.reduceEqDiff, Nat.reduceLeDiff, Nat.reduceMul, Nat.reduceBEq, Int.reduceToNat, Op.operands, if_true, if_false, reduceCtorEq, if_pos, forall_const, implies_true, eq_self, ne_eq]
  refine eK_rounds [0, 1, 7] (fun i : Nat => i ≤ l.length ∧ idxF n 0 l = idxF n i (l.drop i)) (fun i => [(8, .d (.int .i64 i))]) (fun _ => []) (fun _ => []) (fun i => l.length - i) 0 ⟨Nat.zero_le _, by simp⟩ ?_ ?_
  · simp [le_eq, St.head, keepT, setAll, leV, leB, leR, leR0, idsR, idsL, idsA, idsB]
  rintro i ⟨hi, hix⟩
  rcases Nat.lt_or_ge i l.length with hlt | hge
  · have h3 : ((i : Int) < l.length) = True := eq_true (by omega)
    have hx : l[i]? = some l[i] := List.getElem?_eq_getElem hlt
    generalize l[i] = x at hx
    have hg : (l.map Rec.enc).getD i [] = x.enc := by
      rw [List.getD_eq_getElem?_getD, List.getElem?_map, hx]
      rfl
    rw [idx_drop hx] at hix
    simp (config := { maxSteps := 4000000 }) only [le_eq, h3, hg, Rec.em, hBefore, cRec_dec, Rec.eta, eBs, cBs, F.fBs, Nat.reduceSub, Nat.reduceAdd, Nat.reduceLT, Nat.reduceEqDiff, Nat.reduceLeDiff, Nat.reduceMul, Nat.reduceBEq, Int.reduceToNat, Op.operands, if_true, if_false, reduceCtorEq, if_pos, forall_const, implies_true, eq_self, ne_eq]
    refine ⟨by omega, by omega, fun h => ?_, fun h => ⟨i + 1, ⟨by omega, by rw [hix, if_neg h]⟩, by omega, by rw [wrap_i64' (by omega) (by omega)]; rfl⟩⟩
    rw [hix, if_pos h] at hK
    refine vK_ret _ _ hK ?_
    simp only [eBs, cBs, F.fBs, Nat.reduceSub, Nat.reduceAdd, Nat.reduceLT, Nat.reduceEqDiff, Nat.reduceLeDiff, Nat.reduceMul, Nat.reduceBEq, Int.reduceToNat, Op.operands, if_true, if_false, reduceCtorEq, if_pos, forall_const, implies_true, eq_self, ne_eq] <;> simp
  · have : i = l.length := by omega
    subst this
    have h3 : ((l.length : Int) < l.length) = False := eq_false (by omega)
    rw [List.drop_of_length_le (Nat.le_refl _), idxF] at hix
    rw [hix] at hK
    simp (config := { maxSteps := 4000000 }) only [le_eq, h3, eBs, cBs, F.fBs, Nat.reduceSub, Nat.reduceAdd, Nat.reduceLT, Nat.reduceEqDiff, Nat.reduceLeDiff, Nat.reduceMul, Nat.reduceBEq, Int.reduceToNat, Op.operands, if_true, if_false, reduceCtorEq, if_pos, forall_const, implies_true, eq_self, ne_eq]
    refine vK_ret _ _ hK ?_
    simp only [eBs, cBs, F.fBs, Nat.reduceSub, Nat.reduceAdd, Nat.reduceLT, Nat.reduceEqDiff, Nat.reduceLeDiff, Nat.reduceMul, Nat.reduceBEq, Int.reduceToNat, Op.operands, if_true, if_false, reduceCtorEq, if_pos, forall_const, implies_true, eq_self, ne_eq] <;> simp
theorem oK_take2 {cx : Kt Cx} {G : List (Nat × Bool)} {st : St} {K1 : Kt (St → Prop)} {KP : Kt (AV → St → Prop)} (o1 o2 : Oper) (l : List Oper) : @oK cx G st ⟨List.take 2 (o1 :: o2 :: l)⟩ K1 KP = @oK cx G st ⟨[o1, o2]⟩ K1 KP := rfl
def hDelete : Handler := fun args b r K => match args, b, r with
  | [.arr 0 m, .fn (.func 36) [] [.ptr 0 0]], [[.d (.int .i64 n)]], [A] => @nK _ (rowRec A) ⟨fun l => (m = l.length ∧ l.length ≤ 1000000) ∧ ∀ l' : List Rec, K (.ret (.d (.list ((l.filter (lateB n)).map Rec.enc)))) [[.d (.int .i64 n)]] [⟨14, 38, l'.map Rec.enc, true⟩]⟩
  | _, _, _ => False
theorem f_delete : HOk Tryz.prog 34 hDelete := by
  refine HOk.runL [(62, .mem hIndex), (36, .mem hBefore)] (fun _ => []) (by
    intro p hp
    simp only [List.mem_cons, List.not_mem_nil, or_false] at hp
    rcases hp with rfl | rfl
    · exact f_index
    · exact f_before) F.mixed Tryz.func34 (by kernel_rfl) rfl (by kernel_rfl) 42 Tryz.ntmps34 [.tmp 4] Tryz.results34 (.inr (fun i => by simp)) ?_
  intro args b r K hl hs
  unfold hDelete at hs
  split at hs
  case h_2 => exact hs.elim
  rename_i m n A
  obtain ⟨l, hx, ⟨rfl, hlen⟩, hK⟩ := nK_elim hs
  obtain rfl := rowRec_inv hx
  simp (config := { maxSteps := 4000000 }) only [hIndex, rowRec_eq, eBs, cBs, F.fBs, Nat.reduceSub, Nat.reduceAdd, Nat.reduceLT, Nat.reduceEqDiff, Nat.reduceLeDiff, Nat.reduceMul, Nat.reduceBEq, Int.reduceToNat, Op.operands, if_true, if_false, reduceCtorEq, if_pos, forall_const, implies_true, eq_self, ne_eq]
  refine ⟨hlen, fun h => ?_, fun h => ?_⟩
  · have hf : l.filter (lateB n) = l := by
      rcases idx_spec n l 0 with ⟨-, h2⟩ | ⟨k, x, -, -, h2, -⟩
      · exact h2
      · rw [h2] at h; omega
    rw [hf] at hK
    refine vK_dat _ _ _ (hK l) (by simp [toO, toD]) ?_
    simp only [arrIdsO, eBs, cBs, F.fBs, Nat.reduceSub, Nat.reduceAdd, Nat.reduceLT, Nat.reduceEqDiff, Nat.reduceLeDiff, Nat.reduceMul, Nat.reduceBEq, Int.reduceToNat, Op.operands, if_true, if_false, reduceCtorEq, if_pos, forall_const, implies_true, eq_self, ne_eq] <;> simp
  obtain ⟨k, x, hx0, hx1, h2, h4⟩ : ∃ k x, l[k]? = some x ∧ x.seq < n ∧ idxF n 0 l = (k : Nat) ∧ (l.take k).filter (lateB n) = l.take k := by
    rcases idx_spec n l 0 with ⟨h2, -⟩ | ⟨k, x, h1, h2, h3, h4⟩
    · exact absurd h2 h
    · exact ⟨k, x, h1, h2, by rw [h3, Nat.zero_add], h4⟩
  have hk : k < l.length := (List.getElem?_eq_some_iff.1 hx0).1
  have w1 : IntKind.i64.wrap ((k : Int) + 1) = ((k + 1 : Nat) : Int) := by rw [wrap_i64' (by omega) (by omega)]; rfl
  rw [h2, w1]
  have hf1 : (l.take (k + 1)).filter (lateB n) = l.take k := by
    rw [take_snoc' hx0, List.filter_append, h4]
    simp [lateB, hx1]
  have hkl : (l.take k).length = k := by simp; omega
  refine eK_rounds [0, 1] (fun p : Nat × List Rec => p.1 ≤ l.length ∧ p.2.length = l.length ∧ ((l.take p.1).filter (lateB n)).length ≤ p.1 ∧ p.2.take ((l.take p.1).filter (lateB n)).length = (l.take p.1).filter (lateB n) ∧ p.2.drop p.1 = l.drop p.1)
    (fun p => [(5, .d (.int .i64 ((l.take p.1).filter (lateB n)).length)), (6, .d (.int .i64 p.1))]) (fun _ => []) (fun p => [(0, ⟨14, 38, p.2.map Rec.enc, false⟩)]) (fun p => l.length - p.1) (k + 1, l) ⟨by simp only; omega, rfl, by simp only [hf1, hkl]; omega, by simp only [hf1, hkl], rfl⟩ ?_ ?_
  · simp [le_eq, St.head, keepT, setAll, leV, leB, leR, leR0, idsR, idsL, idsA, idsB, hf1, hkl]
  rintro ⟨j, R⟩ ⟨hj, hR, hi, hRi, hRj⟩
  simp only at hj hR hi hRi hRj
  have hnew : ∀ {y : Rec}, l[j]? = some y → (l.take (j + 1)).filter (lateB n) = (l.take j).filter (lateB n) ++ if lateB n y then [y] else [] := by
    intro y hy
    rw [take_snoc' hy, List.filter_append]
    congr 1
    simp [List.filter_cons]
  generalize hC : (l.take j).filter (lateB n) = C at *
  rcases Nat.lt_or_ge j l.length with hlt | hge
  · have h3 : ((j : Int) < l.length) = True := eq_true (by omega)
    have hx : l[j]? = some l[j] := List.getElem?_eq_getElem hlt
    generalize l[j] = y at hx
    have hn := hnew hx
    have hRx : R[j]? = some y := by
      have := congrArg (fun q => q[0]?) hRj
      simpa [hx] using this
    have hg : (R.map Rec.enc).getD j [] = y.enc := by
      rw [List.getD_eq_getElem?_getD, List.getElem?_map, hRx]
      rfl
    simp (config := { maxSteps := 4000000 }) only [le_eq, hR, h3, hg, Rec.em, hBefore, cRec_dec, Rec.eta, eBs, cBs, F.fBs, Nat.reduceSub, Nat.reduceAdd, Nat.reduceLT, Nat.reduceEqDiff, Nat.reduceLeDiff, Nat.reduceMul, Nat.reduceBEq, Int.reduceToNat, Op.operands, if_true, if_false, reduceCtorEq, if_pos, forall_const, implies_true, eq_self, ne_eq]
    have hC1 : C.length ≤ j := hi
    refine ⟨by omega, by omega, fun hy => ?_, fun hy => ?_⟩
    · have hlb : lateB n y = true := by simp [lateB, hy]
      rw [if_pos hlb] at hn
      have hcl : C.length < R.length := by omega
      have e2 : (R.set C.length y).take (C.length + 1) = C ++ [y] := by
        rw [List.take_add_one, List.getElem?_set_self hcl, List.take_set_of_le (Nat.le_refl _), hRi]
        rfl
      refine ⟨⟨by omega, by omega⟩, by omega, (j + 1, R.set C.length y), ⟨by simp only; omega, by simp only [List.length_set]; exact hR, by rw [hn]; simp only [List.length_append, List.length_cons, List.length_nil]; omega, ?_, ?_⟩, by simp only; omega, ⟨?_, by rw [wrap_i64' (by omega) (by omega)]; rfl⟩, ?_⟩
      · simp only [hn, List.length_append, List.length_cons, List.length_nil]
        exact e2
      · simp only
        rw [List.drop_set_of_lt (by omega), ← List.drop_drop, hRj, List.drop_drop]
      · simp only [hn, List.length_append, List.length_cons, List.length_nil]
        rw [wrap_i64' (by omega) (by omega)]
        rfl
      · simp only
        rw [List.map_set, drop14]
        rfl
    · have hlb : ¬ lateB n y = true := by simp [lateB, hy]
      rw [if_neg hlb, List.append_nil] at hn
      refine ⟨(j + 1, R), ⟨by simp only; omega, hR, by rw [hn]; simp only; omega, by rw [hn]; exact hRi, ?_⟩, by simp only; omega, ⟨by rw [hn], by rw [wrap_i64' (by omega) (by omega)]; rfl⟩, rfl⟩
      simp only
      rw [← List.drop_drop, hRj, List.drop_drop]
  · have : j = l.length := by omega
    subst this
    have h3 : ((l.length : Int) < l.length) = False := eq_false (by omega)
    simp (config := { maxSteps := 4000000 }) only [le_eq, oK_take2, hR, h3, eBs, cBs, F.fBs, Nat.reduceSub, Nat.reduceAdd, Nat.reduceLT, Nat.reduceEqDiff, Nat.reduceLeDiff, Nat.reduceMul, Nat.reduceBEq, Int.reduceToNat, Op.operands, if_true, if_false, reduceCtorEq, if_pos, forall_const, implies_true, eq_self, ne_eq]
    have hz : (R.take C.length).map Rec.enc ++ List.replicate (l.length - C.length) [D.int IntKind.i64 0, D.int IntKind.i64 0, D.int IntKind.i64 0, D.int IntKind.u64 0, D.int IntKind.u64 0, D.int IntKind.i64 0, D.str [], D.str [], D.str [], D.str [], D.str [], D.str [], D.int IntKind.i64 0, D.int IntKind.u64 0] = (C ++ List.replicate (l.length - C.length) zeroRec).map Rec.enc := by
      rw [hRi]
      simp [List.map_replicate, Rec.enc, zeroRec, zeroMsg]
    have hzl : (C ++ List.replicate (l.length - C.length) zeroRec).length = l.length := by simp; omega
    have hCl : l.filter (lateB n) = C := by
      rw [← hC, List.take_of_length_le (Nat.le_refl _)]
    have hzt : ((C ++ List.replicate (l.length - C.length) zeroRec).map Rec.enc).take C.length = C.map Rec.enc := by
      rw [← List.map_take, List.take_left]
    rw [hz, hzt, List.length_map, hzl]
    refine ⟨⟨by omega, by omega⟩, ⟨⟨by omega, by omega, by omega⟩, rfl⟩, ?_⟩
    rw [hCl] at hK
    refine vK_ret _ _ (hK (C ++ List.replicate (l.length - C.length) zeroRec)) ?_
    simp only [eBs, cBs, F.fBs, Nat.reduceSub, Nat.reduceAdd, Nat.reduceLT, Nat.reduceEqDiff, Nat.reduceLeDiff, Nat.reduceMul, Nat.reduceBEq, Int.reduceToNat, Op.operands, if_true, if_false, reduceCtorEq, if_pos, forall_const, implies_true, eq_self, ne_eq] <;> simp
def restF (n : Int) (l : List Rec) : List Rec := l.filter (lateB n)
def hRest : Det := det2 cRecs (cI .i64) (fun l _ => l.length ≤ 1000000) fun l n => .d (.list ((restF n l).map Rec.enc))
theorem f_streamRest : FPure Tryz.prog 18 hRest.spec := by
  refine FPure.runL [(35, .mem hClone), (34, .mem hDelete)] (fun _ => []) (by
    intro p hp
    simp only [List.mem_cons, List.not_mem_nil, or_false] at hp
    rcases hp with rfl | rfl
    · exact f_clone
    · exact f_delete) F.mixed Tryz.func18 (by kernel_rfl) rfl (by kernel_rfl) 9 Tryz.ntmps18 [.tmp 4] Tryz.results18 ?_
  intro ds K hl hs
  obtain ⟨l, n, rfl, hlen, hK⟩ := det2_elim hs
  unfold restF at hK
  simp (config := { maxSteps := 4000000 }) only [cRecs_enc, cRecs_dec, hClone, hDelete, rowRec_eq, eBs, cBs, F.fBs, Nat.reduceSub, Nat.reduceAdd, Nat.reduceLT, Nat.reduceEqDiff, Nat.reduceLeDiff, Nat.reduceMul, Nat.reduceBEq, Int.reduceToNat, Op.operands, if_true, if_false, reduceCtorEq, if_pos, forall_const, implies_true, eq_self, ne_eq]
  exact ⟨hlen, hlen, hK⟩
end Go.PE
