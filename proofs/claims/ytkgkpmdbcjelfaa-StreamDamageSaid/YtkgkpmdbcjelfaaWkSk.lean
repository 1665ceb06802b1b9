/- Law 18: StreamBytes. -/
import Derived.Test.YtkgkpmdbcjelfaaWkSh
set_option linter.unusedVariables false
set_option linter.defProp false
set_option linter.all false
set_option linter.unusedSimpArgs false
set_option maxRecDepth 10000
set_option maxHeartbeats 4000000
namespace Go.PE
open Go Go.Proofs

theorem parP_ok {r : Rec} (h : okR1 r) (m : List UInt8) : parP (bytesR r ++ m) = ⟨r, (bytesR r).length, 0⟩ := by
  unfold parP
  rw [parseR_ok h]
theorem parP_cut {r : Rec} (h : okR1 r) {n : Nat} (hn : n < (bytesR r).length) : (parP ((bytesR r).take n)).e = 180 := by
  unfold parP
  rw [parseR_cut h hn]
theorem bytesR_pos {r : Rec} (h : okR1 r) : 13 ≤ (bytesR r).length ∧ (bytesR r).length ≤ 131300 := by
  have := plainR_le h.1
  simp only [bytesR, plain_eq, List.length_append, List.length_cons, beN_len] at this ⊢
  omega
def hBytes18 : Det := det2 cRaws (c2 .u64) (fun l p => (∀ x ∈ l, x.ok) ∧ range2 .u64 p) fun _ _ => .d (.bool true)
theorem f_StreamBytes : FPure Try.prog 11 hBytes18.spec := by
  refine FPure.runL [(30, .det hTrue18), (28, .det hList), (31, .det hMake), (34, .det hBytesR), (35, .det h18parsed)] (fun i => if i = 2 then [(0, (false, [])), (1, (false, [])), (2, (false, [])), (3, (false, [])), (4, (false, [])), (5, (true, [0, 1, 2, 3])), (6, (true, [0, 2])), (7, (true, []))] else if i = 18 then [(0, (true, [])), (1, (true, [])), (2, (false, [])), (3, (false, [])), (4, (false, [])), (5, (false, [])), (6, (false, [])), (7, (false, [])), (8, (false, [])), (9, (false, [])), (10, (false, [])), (11, (false, [])), (12, (false, [])), (13, (false, [])), (14, (false, [])), (15, (false, [])), (16, (false, [])), (17, (false, [])), (18, (false, [])), (19, (false, [])), (20, (false, [])), (21, (false, [])), (22, (false, [])), (23, (false, []))] else []) (by
    intro p hp
    simp only [List.mem_cons, List.not_mem_nil, or_false] at hp
    rcases hp with rfl | rfl | rfl | rfl | rfl
    · exact f_18sanity
    · exact f_05List
    · exact f_streamMake
    · exact f_streamBytes
    · exact f_18parsed) F.mixed Try.func11 (by kernel_rfl) rfl (by kernel_rfl) 90 Try.ntmps11 [.tmp 4] Try.results11 ?_
  intro ds K hl hs
  obtain ⟨l, ⟨s, d⟩, rfl, ⟨ho, ⟨⟨hs1, hs2⟩, ⟨hd1, hd2⟩⟩⟩, hK⟩ := det2_elim hs
  simp only at hs1 hs2 hd1 hd2
  have ps : u64P s := ⟨by omega, by omega⟩
  have pd : u64P d := ⟨by omega, by omega⟩
  have hv := list_valid (n := 10) ho
  have hn := list_len l 10
  have t10 : Int.toNat 10 = 10 := rfl
  rw [t10] at hn
  have mo := make_ok ps pd (show (listF l 10).length ≤ 1000000 by omega) hv
  have ml := make_len s d (listF l 10)
  generalize hM : listF l 10 = M at *
  generalize hL : makeF s d M = L at *
  simp (config := { maxSteps := 4000000 }) only [hTrue18, det0_eq, c2_enc, cRaws_enc, cRaws_dec, cMsgs_dec, hList, hMake, hM, hL, eBs, cBs, F.fBs, Nat.reduceSub, Nat.reduceAdd, Nat.reduceLT, Nat.reduceEqDiff, Nat.reduceLeDiff, Nat.reduceMul, Nat.reduceBEq, Int.reduceToNat, Op.operands, if_true, if_false, reduceCtorEq, if_pos, forall_const, implies_true, eq_self, ne_eq]
  repeat' (first | exact ho | exact ps | exact pd | exact hv | omega | (with_reducible apply And.intro))
  have hsl : ∀ i, i ≤ L.length → ((L.take i).flatMap bytesR).length ≤ 131300 * i := by
    intro i
    induction i with
    | zero => simp
    | succ i ih =>
      intro hi
      have hx : L[i]? = some L[i] := List.getElem?_eq_getElem (by omega)
      have hp := (bytesR_pos (mo _ (List.getElem_mem (show i < L.length by omega)))).2
      rw [take_snoc hx, List.flatMap_append, List.length_append]
      simp only [List.flatMap_cons, List.flatMap_nil, List.append_nil]
      have := ih (by omega)
      omega
  refine eK_rounds [5, 6] (fun i : Nat => i ≤ L.length) (fun i => [(7, .arr 0 ((L.take i).flatMap bytesR).length), (8, .d (.int .i64 i))]) (fun _ => []) (fun i => [(0, ⟨1, 5, ((L.take i).flatMap bytesR).map byteCell, false⟩)]) (fun i => L.length - i) 0 (Nat.zero_le _) ?_ ?_
  · simp [le_eq, St.head, keepT, setAll, leV, leB, leR, idsL, idsA, idsB]
  intro i hi
  have hti := hsl i hi
  rcases Nat.lt_or_ge i L.length with hlt | hge
  · have h3 : ((i : Int) < L.length) = True := eq_true (by omega)
    have hx : L[i]? = some L[i] := List.getElem?_eq_getElem hlt
    have hox := mo _ (List.getElem_mem hlt)
    generalize L[i] = x at hx hox
    obtain ⟨b1, b2⟩ := bytesR_pos hox
    simp (config := { maxSteps := 4000000 }) only [le_eq, h3, Rec.em, hBytesR, cRec_dec, Rec.eta, eBs, cBs, F.fBs, Nat.reduceSub, Nat.reduceAdd, Nat.reduceLT, Nat.reduceEqDiff, Nat.reduceLeDiff, Nat.reduceMul, Nat.reduceBEq, Int.reduceToNat, Op.operands, if_true, if_false, reduceCtorEq, if_pos, forall_const, implies_true, eq_self, ne_eq]
    refine ⟨by omega, fun y hy => ?_⟩
    rw [hx] at hy
    injection hy with hy
    subst hy
    refine ⟨hox, ?_⟩
    refine eK_rounds [5, 6, 7, 8, 9] (fun j : Nat => j ≤ (bytesR x).length) (fun j => [(10, .d (.int .i64 j))]) (fun _ => []) (fun _ => []) (fun j => (bytesR x).length - j) 0 (Nat.zero_le _) ?_ ?_
    · simp [le_eq, St.head, keepT, setAll, leV, leB, leR, idsL, idsA, idsB]
    intro j hj
    rcases Nat.lt_or_ge j (bytesR x).length with hjl | hjg
    · have h4 : ((j : Int) < (bytesR x).length) = True := eq_true (by omega)
      have hcut := parP_cut hox hjl
      have n0 : (¬ (180 : Int) = 180) = False := eq_false (fun h => h rfl)
      have hP : ∃ P, parP ((bytesR x).take j) = P ∧ P.e = 180 := ⟨_, rfl, hcut⟩
      obtain ⟨P, hP, hPe⟩ := hP
      simp (config := { maxSteps := 4000000 }) only [le_eq, h4, h18parsed, hP, ParsedR.enc, Rec.em, hPe, n0, eBs, cBs, F.fBs, Nat.reduceSub, Nat.reduceAdd, Nat.reduceLT, Nat.reduceEqDiff, Nat.reduceLeDiff, Nat.reduceMul, Nat.reduceBEq, Int.reduceToNat, Op.operands, if_true, if_false, reduceCtorEq, if_pos, forall_const, implies_true, eq_self, ne_eq]
      have ht := List.length_take_le j (bytesR x)
      exact ⟨⟨by omega, by omega, by omega⟩, by omega, rfl, j + 1, by omega, by omega, by rw [wrap_i64' (by omega) (by omega)]; rfl⟩
    · have : j = (bytesR x).length := by omega
      subst this
      have h4 : (((bytesR x).length : Int) < (bytesR x).length) = False := eq_false (by omega)
      simp (config := { maxSteps := 4000000 }) only [le_eq, h4, eBs, cBs, F.fBs, Nat.reduceSub, Nat.reduceAdd, Nat.reduceLT, Nat.reduceEqDiff, Nat.reduceLeDiff, Nat.reduceMul, Nat.reduceBEq, Int.reduceToNat, Op.operands, if_true, if_false, reduceCtorEq, if_pos, forall_const, implies_true, eq_self, ne_eq]
      exact ⟨by omega, i + 1, by omega, by omega, ⟨by simp [take_snoc hx], by rw [wrap_i64' (by omega) (by omega)]; rfl⟩, by simp [take_snoc hx]⟩
  · have : i = L.length := by omega
    subst this
    have h3 : ((L.length : Int) < L.length) = False := eq_false (by omega)
    rw [List.take_of_length_le (Nat.le_refl _)]
    simp (config := { maxSteps := 4000000 }) only [le_eq, h3, eBs, cBs, F.fBs, Nat.reduceSub, Nat.reduceAdd, Nat.reduceLT, Nat.reduceEqDiff, Nat.reduceLeDiff, Nat.reduceMul, Nat.reduceBEq, Int.reduceToNat, Op.operands, if_true, if_false, reduceCtorEq, if_pos, forall_const, implies_true, eq_self, ne_eq]
    have hal := hsl L.length (Nat.le_refl _)
    rw [List.take_of_length_le (Nat.le_refl _)] at hal
    have hdr : ∀ {i : Nat} {x : Rec}, L[i]? = some x → (L.drop i).flatMap bytesR = bytesR x ++ (L.drop (i + 1)).flatMap bytesR := by
      intro i x hx
      obtain ⟨h, e⟩ := List.getElem?_eq_some_iff.1 hx
      rw [List.drop_eq_getElem_cons h, e, List.flatMap_cons]
    refine eK_rounds [5, 6] (fun i : Nat => i ≤ L.length) (fun i => [(7, match i with
      | 0 => .arr 0 (L.flatMap bytesR).length
      | i + 1 => .d (.list (((L.drop (i + 1)).flatMap bytesR).map byteCell))), (11, .d (.int .i64 i))]) (fun _ => []) (fun i => [(0, ⟨1, 5, (L.flatMap bytesR).map byteCell, decide (0 < i)⟩)]) (fun i => L.length - i) 0 (Nat.zero_le _) ?_ ?_
    · simp [le_eq, St.head, keepT, setAll, leV, leB, leR, idsL, idsA, idsB]
    intro i hi
    cases i with
    | zero =>
      have h4 : (((0 : Nat) : Int) < L.length) = True := eq_true (by omega)
      have hx : L[0]? = some L[0] := List.getElem?_eq_getElem (by omega)
      have hox := mo _ (List.getElem_mem (show 0 < L.length by omega))
      generalize L[0]'(by omega) = x at hx hox
      have hd0 := hdr hx
      rw [List.drop_zero] at hd0
      have hp := parP_ok hox ((L.drop (0 + 1)).flatMap bytesR)
      rw [← hd0] at hp
      have gx : L.getD 0 default = x := by simp [List.getD, hx]
      have df : decide (0 < 0) = false := rfl
      simp (config := { maxSteps := 4000000 }) only [le_eq, h4, df, h18parsed, hp, ParsedR.enc, gx, Rec.em, eBs, cBs, F.fBs, Nat.reduceSub, Nat.reduceAdd, Nat.reduceLT, Nat.reduceEqDiff, Nat.reduceLeDiff, Nat.reduceMul, Nat.reduceBEq, Int.reduceToNat, Op.operands, if_true, if_false, reduceCtorEq, if_pos, forall_const, implies_true, eq_self, ne_eq]
      refine ⟨by omega, by omega, ?_⟩
      refine eG_map _ _ _ _ _ _ ⟨fun _ => rfl, ?_⟩
      simp (config := { maxSteps := 4000000 }) only [le_eq, h4, df, h18parsed, hp, ParsedR.enc, gx, Rec.em, eBs, cBs, F.fBs, Nat.reduceSub, Nat.reduceAdd, Nat.reduceLT, Nat.reduceEqDiff, Nat.reduceLeDiff, Nat.reduceMul, Nat.reduceBEq, Int.reduceToNat, Op.operands, if_true, if_false, reduceCtorEq, if_pos, forall_const, implies_true, eq_self, ne_eq]
      obtain ⟨b1, b2⟩ := bytesR_pos hox
      have hln := congrArg List.length hd0
      rw [List.length_append] at hln
      have hdd : (L.flatMap bytesR).drop (bytesR x).length = (L.drop 1).flatMap bytesR := by rw [hd0, List.drop_left]
      refine ⟨fun h => ?_, fun h => ⟨⟨by omega, by omega, by omega⟩, 1, by omega, by omega, ?_, rfl, rfl⟩⟩
      · exfalso
        simp only [Bool.or_eq_true, decide_eq_true_eq] at h
        omega
      · have w1 : IntKind.i64.wrap (((0 : Nat) : Int) + 1) = ((1 : Nat) : Int) := rfl
        rw [hdd, w1]
        simp [leV]
    | succ i =>
      rcases Nat.lt_or_ge (i + 1) L.length with hlt | hge2
      · have h4 : (((i + 1 : Nat) : Int) < L.length) = True := eq_true (by omega)
        have hx : L[i + 1]? = some L[i + 1] := List.getElem?_eq_getElem hlt
        have hox := mo _ (List.getElem_mem hlt)
        generalize L[i + 1] = x at hx hox
        have hd0 := hdr hx
        have hp := parP_ok hox ((L.drop (i + 1 + 1)).flatMap bytesR)
        rw [← hd0] at hp
        have gx : L.getD (i + 1) default = x := by simp [List.getD, hx]
        have df : decide (0 < i + 1) = true := rfl
        simp (config := { maxSteps := 4000000 }) only [le_eq, h4, df, h18parsed, hp, ParsedR.enc, gx, Rec.em, eBs, cBs, F.fBs, Nat.reduceSub, Nat.reduceAdd, Nat.reduceLT, Nat.reduceEqDiff, Nat.reduceLeDiff, Nat.reduceMul, Nat.reduceBEq, Int.reduceToNat, Op.operands, if_true, if_false, reduceCtorEq, if_pos, forall_const, implies_true, eq_self, ne_eq]
        obtain ⟨b1, b2⟩ := bytesR_pos hox
        have hln := congrArg List.length hd0
        rw [List.length_append] at hln
        have hdrl : ((L.drop (i + 1)).flatMap bytesR).length ≤ (L.flatMap bytesR).length := by
          have : L.flatMap bytesR = (L.take (i + 1)).flatMap bytesR ++ (L.drop (i + 1)).flatMap bytesR := by
            rw [← List.flatMap_append, List.take_append_drop]
          rw [this, List.length_append]
          omega
        have hdd : ((L.drop (i + 1)).flatMap bytesR).drop (bytesR x).length = (L.drop (i + 1 + 1)).flatMap bytesR := by rw [hd0, List.drop_left]
        refine ⟨by omega, by omega, ?_⟩
        refine eG_map _ _ _ _ _ _ ⟨fun _ => rfl, ?_⟩
        simp (config := { maxSteps := 4000000 }) only [le_eq, h4, df, h18parsed, hp, ParsedR.enc, gx, Rec.em, eBs, cBs, F.fBs, Nat.reduceSub, Nat.reduceAdd, Nat.reduceLT, Nat.reduceEqDiff, Nat.reduceLeDiff, Nat.reduceMul, Nat.reduceBEq, Int.reduceToNat, Op.operands, if_true, if_false, reduceCtorEq, if_pos, forall_const, implies_true, eq_self, ne_eq]
        refine ⟨fun h => ?_, fun h => ⟨⟨by omega, by omega, by omega⟩, i + 1 + 1, by omega, by omega, ?_, rfl, rfl⟩⟩
        · exfalso
          simp only [Bool.or_eq_true, decide_eq_true_eq] at h
          omega
        · have w1 : IntKind.i64.wrap (((i + 1 : Nat) : Int) + 1) = ((i + 1 + 1 : Nat) : Int) := by rw [wrap_i64' (by omega) (by omega)]; rfl
          rw [hdd, w1]
          simp [leV]
      · have : L.length = i + 1 := by omega
        have h4 : (((i + 1 : Nat) : Int) < L.length) = False := eq_false (by omega)
        have hnil : (L.drop (i + 1)).flatMap bytesR = [] := by rw [List.drop_of_length_le (by omega)]; rfl
        have df : decide (0 < i + 1) = true := rfl
        simp (config := { maxSteps := 4000000 }) only [le_eq, h4, df, hnil, eBs, cBs, F.fBs, Nat.reduceSub, Nat.reduceAdd, Nat.reduceLT, Nat.reduceEqDiff, Nat.reduceLeDiff, Nat.reduceMul, Nat.reduceBEq, Int.reduceToNat, Op.operands, if_true, if_false, reduceCtorEq, if_pos, forall_const, implies_true, eq_self, ne_eq]
        exact hK
end Go.PE
