/- WkZb: what the laws need of it. -/
import Derived.Test.YtknilgmkgjjidaaGreatDoorWkZa
set_option linter.unusedVariables false
set_option linter.defProp false
set_option linter.all false
set_option linter.unusedSimpArgs false
set_option maxRecDepth 100000
set_option maxHeartbeats 4000000
namespace Go.PE
open Go Go.Proofs

/-- The records after i rounds of checks. -/
def updI (l : List Rec) (i : Nat) : List Rec := (chainF 0 l).take i ++ l.drop i
theorem upd_len {l : List Rec} {i : Nat} : (updI l i).length = l.length := by simp [updI, chain_len]; omega
theorem upd_get {l : List Rec} {i : Nat} (h : i ≤ l.length) : (updI l i)[i]? = l[i]? := by
  unfold updI
  have ht : ((chainF 0 l).take i).length = i := by simp [chain_len]; omega
  rw [List.getElem?_append_right (by omega), ht, Nat.sub_self, List.getElem?_drop, Nat.add_zero]
theorem upd_set {l : List Rec} {i : Nat} {x : Rec} (h : l[i]? = some x) : (updI l i).set i (withC x (nextN (chk 0 l i) x)) = updI l (i + 1) := by
  have hi : i < l.length := (List.getElem?_eq_some_iff.1 h).1
  have hx : (chainF 0 l)[i]? = some (withC x (nextN (chk 0 l i) x)) := by rw [chain_get, h]; rfl
  have ht : ((chainF 0 l).take i).length = i := by simp [chain_len]; omega
  unfold updI
  rw [List.set_append_right _ _ (by omega), ht, Nat.sub_self]
  obtain ⟨h1, e⟩ := List.getElem?_eq_some_iff.1 h
  rw [List.drop_eq_getElem_cons h1, List.set_cons_zero, List.take_add_one, hx]
  simp
theorem upd_all (l : List Rec) : updI l l.length = chainF 0 l := by
  unfold updI
  rw [List.take_of_length_le (by rw [chain_len]; exact Nat.le_refl _)]
  simp
theorem f_18Make : FPure Tryz.prog 7 hMake.spec := by
  refine FPure.runL [(9, .det hNext)] (fun _ => []) (by
    intro p hp
    simp only [List.mem_cons, List.not_mem_nil, or_false] at hp
    subst hp
    exact f_18Next) F.mixed Tryz.func7 (by kernel_rfl) rfl (by kernel_rfl) 60 Tryz.ntmps7 [.tmp 6] Tryz.results7 ?_
  intro ds K hl hs
  obtain ⟨src, dst, l, rfl, ⟨h1, h2, hlen, hv⟩, hK⟩ := det3_elim hs
  simp (config := { maxSteps := 4000000 }) only [eBs, cBs, F.fBs, Nat.reduceSub, Nat.reduceAdd, Nat.reduceLT, Nat.reduceEqDiff, Nat.reduceLeDiff, Nat.reduceMul, Nat.reduceBEq, Int.reduceToNat, Op.operands, if_true, if_false, reduceCtorEq, if_pos, forall_const, implies_true, eq_self, ne_eq, iff_self]
  refine eK_rounds [0, 1, 2, 6] (fun i : Nat => i ≤ l.length) (fun i => [(7, .arr 1 (1 + i)), (8, .d (.int .i64 i))]) (fun _ => []) (fun i => [(1, ⟨14, 38, (headR src dst l.length :: bodyI 0 (l.take i)).map Rec.enc, false⟩)]) (fun i => l.length - i) 0 (Nat.zero_le _) ?_ ?_
  · simp [le_eq, St.head, keepT, setAll, leV, leB, leR, leR0, idsR, idsL, idsA, idsB, Rec.enc, headR, zeroRec, zeroMsg, bodyI]
  intro i hi
  have em : ∀ x : Msg, x.enc = [.int .i64 x.kind, .str x.key, .str x.value, .str x.lo, .str x.hi, .str x.fr, .str x.to, .int .i64 x.n] := fun _ => rfl
  have hbl : (bodyI 0 (l.take i)).length = i := by rw [bodyI_len]; simp; omega
  have ok0 := bare_ok h1 h2 (by omega) hv
  have bl := bare_len src dst l
  rcases Nat.lt_or_ge i l.length with hlt | hge
  · have h3 : ((i : Int) < l.length) = True := eq_true (by omega)
    simp (config := { maxSteps := 4000000 }) only [le_eq, h3, em, hbl, eBs, cBs, F.fBs, Nat.reduceSub, Nat.reduceAdd, Nat.reduceLT, Nat.reduceEqDiff, Nat.reduceLeDiff, Nat.reduceMul, Nat.reduceBEq, Int.reduceToNat, Op.operands, if_true, if_false, reduceCtorEq, if_pos, forall_const, implies_true, eq_self, ne_eq, iff_self]
    refine ⟨by omega, fun x hx => ?_⟩
    have w : IntKind.i64.wrap ((i : Int) + 1) = ((i + 1 : Nat) : Int) := by rw [wrap_i64' (by omega) (by omega)]; rfl
    rw [w]
    refine ⟨⟨by omega, by omega⟩, i + 1, by omega, by omega, ⟨by simp [hbl]; omega, rfl⟩, ?_⟩
    rw [bodyI_snoc hx]
    simp [bodyR, Rec.enc, zeroRec, zeroMsg]
  · have : i = l.length := by omega
    subst this
    have h3 : ((l.length : Int) < l.length) = False := eq_false (by omega)
    simp (config := { maxSteps := 4000000 }) only [le_eq, h3, em, hbl, eBs, cBs, F.fBs, Nat.reduceSub, Nat.reduceAdd, Nat.reduceLT, Nat.reduceEqDiff, Nat.reduceLeDiff, Nat.reduceMul, Nat.reduceBEq, Int.reduceToNat, Op.operands, if_true, if_false, reduceCtorEq, if_pos, forall_const, implies_true, eq_self, ne_eq, iff_self]
    have w : IntKind.i64.wrap ((l.length : Int) + 1) = ((l.length + 1 : Nat) : Int) := by rw [wrap_i64' (by omega) (by omega)]; rfl
    have hbl2 : (bodyI 0 l).length = l.length := bodyI_len _ _
    have hes : (headR src dst l.length).enc :: ((bodyI 0 l).map Rec.enc ++ [[D.int IntKind.i64 3, D.int IntKind.i64 ((l.length + 1 : Nat) : Int), D.int IntKind.i64 l.length, D.int IntKind.u64 0, D.int IntKind.u64 0, D.int IntKind.i64 0, D.str [], D.str [], D.str [], D.str [], D.str [], D.str [], D.int IntKind.i64 0, D.int IntKind.u64 0]]) = (bareF src dst l).map Rec.enc := by
      simp [bareF, endR, Rec.enc, zeroRec, zeroMsg]
    rw [w, hes]
    simp only [List.length_append, List.length_map, List.length_cons, List.length_nil, hbl2]
    refine ⟨⟨by omega, by omega⟩, ?_⟩
    unfold makeF at hK
    generalize hB : bareF src dst l = B at *
    have e2 : l.length + (0 + 1) + 1 = B.length := by omega
    rw [e2]
    refine eK_rounds [6] (fun i : Nat => i ≤ B.length) (fun i => [(7, .arr 1 B.length), (9, .d (.int .u64 (chk 0 B i : Nat))), (10, .d (.int .i64 i))]) (fun _ => []) (fun i => [(1, ⟨14, 38, (updI B i).map Rec.enc, false⟩)]) (fun i => B.length - i) 0 (Nat.zero_le _) ?_ ?_
    · simp [le_eq, St.head, keepT, setAll, leV, leB, leR, leR0, idsR, idsL, idsA, idsB, chk, updI]
    intro i hi
    have ul := upd_len (l := B) (i := i)
    rcases Nat.lt_or_ge i B.length with hlt | hge
    · have h4 : ((i : Int) < B.length) = True := eq_true (by omega)
      have hx : B[i]? = some B[i] := List.getElem?_eq_getElem hlt
      have hox := ok0 _ (List.getElem_mem hlt)
      generalize B[i] = x at hx hox
      have hug := upd_get hi
      rw [hx] at hug
      have hg : ((updI B i).map Rec.enc).getD i [] = x.enc := by
        rw [List.getD_eq_getElem?_getD, List.getElem?_map, hug]
        rfl
      simp (config := { maxSteps := 4000000 }) only [le_eq, h4, hg, ul, Rec.em, hNext, cRec_dec, Rec.eta, eBs, cBs, F.fBs, Nat.reduceSub, Nat.reduceAdd, Nat.reduceLT, Nat.reduceEqDiff, Nat.reduceLeDiff, Nat.reduceMul, Nat.reduceBEq, Int.reduceToNat, Op.operands, if_true, if_false, reduceCtorEq, if_pos, forall_const, implies_true, eq_self, ne_eq, iff_self]
      have hc2 : (0 : Nat) < 18446744073709551616 := by decide
      have hlt2 := chk_lt (l := B) (i := i) hc2
      refine ⟨by omega, hlt, ⟨⟨by omega, by omega⟩, hox⟩, by omega, hlt, i + 1, by omega, by omega, ⟨by rw [chk_succ hx], by rw [wrap_i64' (by omega) (by omega)]; rfl⟩, ?_⟩
      rw [← upd_set hx, List.map_set]
      rfl
    · have : i = B.length := by omega
      subst this
      have h4 : ((B.length : Int) < B.length) = False := eq_false (by omega)
      have hua := upd_all B
      simp (config := { maxSteps := 4000000 }) only [le_eq, h4, ul, hua, chain_len, eBs, cBs, F.fBs, Nat.reduceSub, Nat.reduceAdd, Nat.reduceLT, Nat.reduceEqDiff, Nat.reduceLeDiff, Nat.reduceMul, Nat.reduceBEq, Int.reduceToNat, Op.operands, if_true, if_false, reduceCtorEq, if_pos, forall_const, implies_true, eq_self, ne_eq, iff_self]
      exact hK
end Go.PE
