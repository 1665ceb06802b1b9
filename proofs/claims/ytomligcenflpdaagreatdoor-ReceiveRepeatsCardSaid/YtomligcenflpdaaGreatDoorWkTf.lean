/- WkTf: what the laws need of it. -/
import Derived.Test.YtomligcenflpdaaGreatDoorWkTc
import Derived.Test.YtomligcenflpdaaGreatDoorWkZ
set_option linter.unusedVariables false
set_option linter.defProp false
set_option linter.all false
set_option linter.unusedSimpArgs false
set_option maxRecDepth 100000
set_option maxHeartbeats 4000000
namespace Go.PE
open Go Go.Proofs

/-- What the box has after i rounds. -/
def wholeC (l : List Rec) (i : Nat) : List AV := if i = 0 then [.d (.bool false), .d (.bool false), .d (.int .i64 0), .d (.int .i64 0), .d (.int .u64 0), .d (.int .u64 0), .d (.int .u64 0), .nilS] else (wholeF (l.take i)).enc.map .d
theorem whole_snoc {l : List Rec} {i : Nat} {y : Rec} (h : l[i]? = some y) : wholeF (l.take (i + 1)) = (takeF (wholeF (l.take i)) y).1 := by
  unfold wholeF
  rw [List.take_add_one, h]
  simp [List.foldl_append]
def hWhole : Det := det1 cRecs (fun l => l.length ≤ 1000000 ∧ ∀ x ∈ l, rangeR x) fun l => .d (.agg (wholeF l).enc)
theorem f_19Whole : FPure Tryz.prog 16 hWhole.spec := by
  refine FPure.runL [(10, .det h19Take)] (fun i => if i = 5 then [(0, (false, [])), (1, (false, [])), (2, (false, [])), (3, (false, [])), (4, (false, [])), (5, (true, [1, 2, 3])), (6, (false, [])), (7, (true, []))] else []) (by
    intro p hp
    simp only [List.mem_cons, List.not_mem_nil, or_false] at hp
    subst hp
    exact f_19Take) F.mixed Tryz.func16 (by kernel_rfl) rfl (by kernel_rfl) 20 Tryz.ntmps16 [.cell 2 39] Tryz.results16 ?_
  intro ds K hl hs
  obtain ⟨l, rfl, ⟨hn, hr⟩, hK⟩ := det1_elim hs
  simp (config := { maxSteps := 4000000 }) only [cRecs_enc, eBs, cBs, F.fBs, Nat.reduceSub, Nat.reduceAdd, Nat.reduceLT, Nat.reduceEqDiff, Nat.reduceLeDiff, Nat.reduceMul, Nat.reduceBEq, Int.reduceToNat, Op.operands, if_true, if_false, reduceCtorEq, if_pos, forall_const, implies_true, eq_self, ne_eq]
  refine eK_rounds [0, 2, 3] (fun i : Nat => i ≤ l.length) (fun i => [(4, .d (.int .i64 i))]) (fun i => [(1, wholeC l i)]) (fun _ => []) (fun i => l.length - i) 0 (Nat.zero_le _) ?_ ?_
  · simp [le_eq, St.head, keepT, setAll, leV, leB, leR, leR0, idsR, idsL, idsA, idsB, wholeC]
  intro i hi
  have hok : okI (wholeF (l.take i)) := whole_ok (l.take i) zeroInb zero_ok fun r h => hr r (List.mem_of_mem_take h)
  have hwi : IntKind.i64.wrap ((i : Int) + 1) = ((i + 1 : Nat) : Int) := by rw [wrap_i64' (by omega) (by omega)]; rfl
  rcases Nat.lt_or_ge i l.length with hlt | hge
  · have h3 : ((i : Int) < l.length) = True := eq_true (by omega)
    have hx : l[i]? = some l[i] := List.getElem?_eq_getElem hlt
    have hrx := hr _ (List.getElem_mem hlt)
    generalize l[i] = y at hx hrx
    have gx : l.getD i default = y := getD_of hx
    have hstep := whole_snoc hx
    have cs : wholeC l (i + 1) = (takeF (wholeF (l.take i)) y).1.enc.map .d := by
      unfold wholeC
      rw [if_neg (by omega), hstep]
    have ge : ∀ z : List D, (List.map Rec.enc l)[i]? = some z → z.length = 14 ∧ AV.cptr z = AV.cptr y.enc := by
      intro z hz
      rw [List.getElem?_map, hx] at hz
      simp only [Option.map_some, Option.some.injEq] at hz
      subst hz
      exact ⟨rfl, rfl⟩
    rcases Nat.eq_zero_or_pos i with e | e
    · subst e
      have w0 : wholeF (l.take 0) = zeroInb := rfl
      rw [w0] at hok cs
      have c0 : wholeC l 0 = [.d (.bool false), .d (.bool false), .d (.int .i64 0), .d (.int .i64 0), .d (.int .u64 0), .d (.int .u64 0), .d (.int .u64 0), .nilS] := rfl
      have c1 : wholeC l 1 = (wholeF (l.take 1)).enc.map .d := rfl
      unfold zeroInb at hok cs
      simp (config := { maxSteps := 4000000 }) only [le_eq, h3, gx, c0, Rec.em, h19Take, cInb_dec0, cRec_dec, Rec.eta, tknE, eBs, cBs, F.fBs, Nat.reduceSub, Nat.reduceAdd, Nat.reduceLT, Nat.reduceEqDiff, Nat.reduceLeDiff, Nat.reduceMul, Nat.reduceBEq, Int.reduceToNat, Op.operands, if_true, if_false, reduceCtorEq, if_pos, forall_const, implies_true, eq_self, ne_eq]
      refine ⟨by omega, ?_⟩
      refine eG_map _ _ _ _ _ _ ⟨fun _ => rfl, ?_⟩
      simp (config := { maxSteps := 4000000 }) only [le_eq, h3, gx, c0, hwi, Rec.em, h19Take, cInb_dec0, cRec_dec, Rec.eta, tknE, eBs, cBs, F.fBs, Nat.reduceSub, Nat.reduceAdd, Nat.reduceLT, Nat.reduceEqDiff, Nat.reduceLeDiff, Nat.reduceMul, Nat.reduceBEq, Int.reduceToNat, Op.operands, if_true, if_false, reduceCtorEq, if_pos, forall_const, implies_true, eq_self, ne_eq]
      refine ⟨⟨hok, hrx⟩, ⟨by omega, ge⟩, rfl, 1, by omega, by omega, rfl, ?_⟩
      rw [show wholeC l 1 = _ from cs]
      simp [leV, idsL, idsA, Inb.em]
    · have ce : wholeC l i = (wholeF (l.take i)).enc.map .d := by unfold wholeC; rw [if_neg (by omega)]
      simp (config := { maxSteps := 4000000 }) only [le_eq, h3, gx, ce, Inb.em, Rec.em, h19Take, cInb_dec, cRec_dec, Inb.eta, Rec.eta, tknE, eBs, cBs, F.fBs, Nat.reduceSub, Nat.reduceAdd, Nat.reduceLT, Nat.reduceEqDiff, Nat.reduceLeDiff, Nat.reduceMul, Nat.reduceBEq, Int.reduceToNat, Op.operands, if_true, if_false, reduceCtorEq, if_pos, forall_const, implies_true, eq_self, ne_eq]
      refine ⟨by omega, ?_⟩
      refine eG_map _ _ _ _ _ _ ⟨fun _ => rfl, ?_⟩
      simp (config := { maxSteps := 4000000 }) only [le_eq, h3, gx, ce, hwi, Inb.em, Rec.em, h19Take, cInb_dec, cRec_dec, Inb.eta, Rec.eta, tknE, eBs, cBs, F.fBs, Nat.reduceSub, Nat.reduceAdd, Nat.reduceLT, Nat.reduceEqDiff, Nat.reduceLeDiff, Nat.reduceMul, Nat.reduceBEq, Int.reduceToNat, Op.operands, if_true, if_false, reduceCtorEq, if_pos, forall_const, implies_true, eq_self, ne_eq]
      refine ⟨⟨hok, hrx⟩, ⟨by omega, ge⟩, rfl, i + 1, by omega, by omega, rfl, ?_⟩
      rw [cs]
      simp [leV, idsL, idsA, Inb.em]
  · have : i = l.length := by omega
    subst this
    have h3 : ((l.length : Int) < l.length) = False := eq_false (by omega)
    rw [List.take_length] at hok
    rcases Nat.eq_zero_or_pos l.length with e | e
    · have hl0 : l = [] := List.eq_nil_of_length_eq_zero e
      subst hl0
      have c0 : wholeC [] 0 = [.d (.bool false), .d (.bool false), .d (.int .i64 0), .d (.int .i64 0), .d (.int .u64 0), .d (.int .u64 0), .d (.int .u64 0), .nilS] := rfl
      have w0 : wholeF [] = ⟨false, false, 0, 0, 0, 0, 0, []⟩ := rfl
      rw [w0] at hK
      simp (config := { maxSteps := 4000000 }) only [le_eq, h3, c0, Inb.em, eBs, cBs, F.fBs, Nat.reduceSub, Nat.reduceAdd, Nat.reduceLT, Nat.reduceEqDiff, Nat.reduceLeDiff, Nat.reduceMul, Nat.reduceBEq, Int.reduceToNat, Op.operands, if_true, if_false, reduceCtorEq, if_pos, forall_const, implies_true, eq_self, ne_eq] at hK ⊢
      exact ⟨fun h => absurd h (by simp), fun _ => hK⟩
    · have ce : wholeC l l.length = (wholeF l).enc.map .d := by unfold wholeC; rw [if_neg (by omega), List.take_length]
      simp (config := { maxSteps := 4000000 }) only [le_eq, h3, ce, Inb.em, eBs, cBs, F.fBs, Nat.reduceSub, Nat.reduceAdd, Nat.reduceLT, Nat.reduceEqDiff, Nat.reduceLeDiff, Nat.reduceMul, Nat.reduceBEq, Int.reduceToNat, Op.operands, if_true, if_false, reduceCtorEq, if_pos, forall_const, implies_true, eq_self, ne_eq] at hK ⊢
      exact hK

/-- A record in which something may be changed. -/
def changedF (r : Rec) (a b : Int) : Rec :=
  if a.tmod 8 = 0 then { r with seq := IntKind.i64.wrap (r.seq + IntKind.i64.wrap (b - 100)) }
  else if a.tmod 8 = 1 then { r with count := IntKind.i64.wrap (r.count + b) }
  else if a.tmod 8 = 2 then { r with src := IntKind.u64.wrap (r.src + b) }
  else if a.tmod 8 = 3 then { r with check := IntKind.u64.wrap (r.check + b) }
  else if a.tmod 8 = 4 then { r with kind := b.tmod 5 }
  else r
theorem changed_range {r : Rec} (a b : Int) (h : rangeR r) : rangeR (changedF r a b) := by
  have w : ∀ n : Int, u64P (IntKind.u64.wrap n) := fun n => by
    rw [IntKind.wrap_u64]
    exact ⟨by omega, by omega⟩
  unfold changedF
  split
  · exact h
  split
  · exact h
  split
  · exact ⟨w _, h.2.1, h.2.2⟩
  split
  · exact ⟨h.1, h.2.1, w _⟩
  split <;> exact h
def hChanged : Det := det2 cRec (c2 .u8) (fun r p => rangeR r ∧ range2 .u8 p) fun r p => .d (.agg (changedF r p.1 p.2).enc)
theorem f_19changed : FPure Tryz.prog 9 hChanged.spec := by
  refine FPure.runL [] (fun _ => []) (by simp) F.mixed Tryz.func9 (by kernel_rfl) rfl (by kernel_rfl) 53 Tryz.ntmps9 [.cell 4 31] Tryz.results9 ?_
  intro ds K hl hs
  obtain ⟨⟨k, sq, ct, f, t, ⟨m1, m2, m3, m4, m5, m6, m7, m8⟩, ch⟩, ⟨a, b⟩, rfl, ⟨hr, ⟨ha1, ha2⟩, ⟨hb1, hb2⟩⟩, hK⟩ := det2_elim hs
  simp only at ha1 ha2 hb1 hb2
  have wb : IntKind.i64.wrap b = b := wrap_i64' (by omega) (by omega)
  have wb2 : IntKind.u64.wrap b = b := wrap_u64n ⟨by omega, by omega⟩
  unfold changedF at hK
  simp only at hK
  have n2 : ((2 : Nat) : Int) = 2 := rfl
  by_cases h0 : a.tmod 8 = 0
  · have h0' := eq_true h0
    rw [if_pos h0] at hK
    simp (config := { maxSteps := 4000000 }) only [cRec_enc, c2_enc, h0', wb, n2, Int.reduceLT, Int.reduceLE, Int.reduceEq, Rec.em, eBs, cBs, F.fBs, Nat.reduceSub, Nat.reduceAdd, Nat.reduceLT, Nat.reduceEqDiff, Nat.reduceLeDiff, Nat.reduceMul, Nat.reduceBEq, Int.reduceToNat, Op.operands, if_true, if_false, reduceCtorEq, if_pos, forall_const, implies_true, eq_self, ne_eq] at hK ⊢
    exact hK
  have h0' := eq_false h0
  rw [if_neg h0] at hK
  by_cases h1 : a.tmod 8 = 1
  · have h1' := eq_true h1
    rw [if_pos h1] at hK
    simp (config := { maxSteps := 4000000 }) only [cRec_enc, c2_enc, h0', h1', wb, n2, Int.reduceLT, Int.reduceLE, Int.reduceEq, Rec.em, eBs, cBs, F.fBs, Nat.reduceSub, Nat.reduceAdd, Nat.reduceLT, Nat.reduceEqDiff, Nat.reduceLeDiff, Nat.reduceMul, Nat.reduceBEq, Int.reduceToNat, Op.operands, if_true, if_false, reduceCtorEq, if_pos, forall_const, implies_true, eq_self, ne_eq] at hK ⊢
    exact hK
  have h1' := eq_false h1
  rw [if_neg h1] at hK
  by_cases h2 : a.tmod 8 = 2
  · have h2' := eq_true h2
    rw [if_pos h2] at hK
    simp (config := { maxSteps := 4000000 }) only [cRec_enc, c2_enc, h0', h1', h2', wb2, n2, Int.reduceLT, Int.reduceLE, Int.reduceEq, Rec.em, eBs, cBs, F.fBs, Nat.reduceSub, Nat.reduceAdd, Nat.reduceLT, Nat.reduceEqDiff, Nat.reduceLeDiff, Nat.reduceMul, Nat.reduceBEq, Int.reduceToNat, Op.operands, if_true, if_false, reduceCtorEq, if_pos, forall_const, implies_true, eq_self, ne_eq] at hK ⊢
    exact hK
  have h2' := eq_false h2
  rw [if_neg h2] at hK
  by_cases h3 : a.tmod 8 = 3
  · have h3' := eq_true h3
    rw [if_pos h3] at hK
    simp (config := { maxSteps := 4000000 }) only [cRec_enc, c2_enc, h0', h1', h2', h3', wb2, n2, Int.reduceLT, Int.reduceLE, Int.reduceEq, Rec.em, eBs, cBs, F.fBs, Nat.reduceSub, Nat.reduceAdd, Nat.reduceLT, Nat.reduceEqDiff, Nat.reduceLeDiff, Nat.reduceMul, Nat.reduceBEq, Int.reduceToNat, Op.operands, if_true, if_false, reduceCtorEq, if_pos, forall_const, implies_true, eq_self, ne_eq] at hK ⊢
    exact hK
  have h3' := eq_false h3
  rw [if_neg h3] at hK
  by_cases h4 : a.tmod 8 = 4
  · have h4' := eq_true h4
    rw [if_pos h4] at hK
    simp (config := { maxSteps := 4000000 }) only [cRec_enc, c2_enc, h0', h1', h2', h3', h4', wb, n2, Int.reduceLT, Int.reduceLE, Int.reduceEq, Rec.em, eBs, cBs, F.fBs, Nat.reduceSub, Nat.reduceAdd, Nat.reduceLT, Nat.reduceEqDiff, Nat.reduceLeDiff, Nat.reduceMul, Nat.reduceBEq, Int.reduceToNat, Op.operands, if_true, if_false, reduceCtorEq, if_pos, forall_const, implies_true, eq_self, ne_eq] at hK ⊢
    exact hK
  have h4' := eq_false h4
  rw [if_neg h4] at hK
  simp (config := { maxSteps := 4000000 }) only [cRec_enc, c2_enc, h0', h1', h2', h3', h4', wb, n2, Int.reduceLT, Int.reduceLE, Int.reduceEq, Rec.em, eBs, cBs, F.fBs, Nat.reduceSub, Nat.reduceAdd, Nat.reduceLT, Nat.reduceEqDiff, Nat.reduceLeDiff, Nat.reduceMul, Nat.reduceBEq, Int.reduceToNat, Op.operands, if_true, if_false, reduceCtorEq, if_pos, forall_const, implies_true, eq_self, ne_eq] at hK ⊢
  exact hK
end Go.PE
