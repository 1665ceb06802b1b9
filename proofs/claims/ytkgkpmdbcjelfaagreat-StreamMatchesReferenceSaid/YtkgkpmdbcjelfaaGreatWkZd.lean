/- The reference of chapter 18: what is sound. -/
import Derived.Test.YtkgkpmdbcjelfaaGreatWkZb
set_option linter.unusedVariables false
set_option linter.defProp false
set_option linter.all false
set_option linter.unusedSimpArgs false
set_option maxRecDepth 10000
set_option maxHeartbeats 4000000
namespace Go.PE
open Go Go.Proofs

def midI (l : List Rec) (i : Nat) : List Msg := ((l.take i).drop 1).map Rec.msg
theorem midI_len {l : List Rec} {i : Nat} (h : i ≤ l.length) : (midI l i).length = i - 1 := by simp [midI]; omega
theorem midI_snoc {l : List Rec} {i : Nat} {x : Rec} (hx : l[i]? = some x) (h0 : 1 ≤ i) : midI l (i + 1) = midI l i ++ [x.msg] := by
  have hi := (List.getElem?_eq_some_iff.1 hx).1
  unfold midI
  rw [take_snoc hx, List.drop_append_of_le_length (by simp; omega), List.map_append]
  rfl
theorem mids_valid {l : List Rec} (hm : ∀ i x, l[i]? = some x → i ≠ 0 → i < l.length - 1 → validR x = true ∧ x.kind = 2) : ∀ m ∈ mids l, validB m = true := by
  intro m hm1
  obtain ⟨j, hj, ej⟩ := List.mem_iff_getElem.1 hm1
  rw [mids_len] at hj
  have hx : l[j + 1]? = some l[j + 1] := List.getElem?_eq_getElem (by omega)
  generalize l[j + 1] = x at hx
  obtain ⟨v1, v2⟩ := hm (j + 1) x hx (by omega) (by omega)
  have hg := mids_get hx (by omega) (by omega)
  rw [Nat.add_sub_cancel, List.getElem?_eq_getElem (by rw [mids_len]; exact hj), ej] at hg
  simp only [Option.some.injEq] at hg
  subst hg
  rcases validR_cases v1 with ⟨k1, -⟩ | ⟨-, -, -, h5, -⟩ | ⟨k1, -⟩
  · omega
  · exact h5
  · omega
def hSound2 : Det := det1 cRecs (fun l => l.length ≤ 1000 ∧ ∀ x ∈ l, rangeR x) fun l => .d (.bool (soundF l))
theorem f_18Sound : FPure Tryz.prog 18 hSound2.spec := by
  refine FPure.runL [(25, .det hValidR), (7, .det hMake), (8, .det hSameR)] (fun i => if i = 10 then [(0, (false, [])), (1, (false, [])), (2, (false, [])), (3, (false, [])), (4, (false, [])), (5, (false, [])), (6, (false, [])), (7, (false, [])), (8, (false, [])), (10, (false, [])), (9, (true, [0, 1, 2, 4, 5, 6, 10])), (11, (true, [0, 1, 2, 4, 5, 6])), (12, (true, []))] else []) (by
    intro p hp
    simp only [List.mem_cons, List.not_mem_nil, or_false] at hp
    rcases hp with rfl | rfl | rfl
    · exact f_18Valid
    · exact f_18Make
    · exact f_18Same) F.mixed Tryz.func18 (by kernel_rfl) rfl (by kernel_rfl) 64 Tryz.ntmps18 [.tmp 2] Tryz.results18 ?_
  intro ds K hl hs
  obtain ⟨l, rfl, ⟨hlen, ho⟩, hK⟩ := det1_elim hs
  by_cases h2 : l.length < 2
  · have h0 : ((l.length : Int) < 2) = True := eq_true (by omega)
    have e : soundF l = false := by
      unfold soundF
      rw [decide_eq_false (by omega)]
      rfl
    rw [e] at hK
    simp (config := { maxSteps := 4000000 }) only [cRecs_enc, h0, decide_true, Bool.true_or, hValidR, eBs, cBs, F.fBs, Nat.reduceSub, Nat.reduceAdd, Nat.reduceLT, Nat.reduceEqDiff, Nat.reduceLeDiff, Nat.reduceMul, Nat.reduceBEq, Int.reduceToNat, Op.operands, if_true, if_false, reduceCtorEq, if_pos, forall_const, implies_true, eq_self, ne_eq]
    refine eG_map _ _ _ _ _ _ ⟨fun _ => rfl, ?_⟩
    simp (config := { maxSteps := 4000000 }) only [cRecs_enc, Rec.em, h0, decide_true, Bool.true_or, hValidR, cRec_dec, eBs, cBs, F.fBs, Nat.reduceSub, Nat.reduceAdd, Nat.reduceLT, Nat.reduceEqDiff, Nat.reduceLeDiff, Nat.reduceMul, Nat.reduceBEq, Int.reduceToNat, Op.operands, if_true, if_false, reduceCtorEq, if_pos, forall_const, implies_true, eq_self, ne_eq]
    refine eG_map _ _ _ _ _ _ ⟨fun _ => rfl, ?_⟩
    simp (config := { maxSteps := 4000000 }) only [cRecs_enc, Rec.em, h0, decide_true, Bool.true_or, hValidR, cRec_dec, eBs, cBs, F.fBs, Nat.reduceSub, Nat.reduceAdd, Nat.reduceLT, Nat.reduceEqDiff, Nat.reduceLeDiff, Nat.reduceMul, Nat.reduceBEq, Int.reduceToNat, Op.operands, if_true, if_false, reduceCtorEq, if_pos, forall_const, implies_true, eq_self, ne_eq]
    exact hK
  have h0 : ((l.length : Int) < 2) = False := eq_false (by omega)
  have hx0 : l[0]? = some l[0] := List.getElem?_eq_getElem (by omega)
  generalize l[0]'(by omega) = x0 at hx0
  have g0 : l.getD 0 default = x0 := getD_of hx0
  simp (config := { maxSteps := 4000000 }) only [cRecs_enc, h0, g0, decide_false, Bool.false_or, hValidR, eBs, cBs, F.fBs, Nat.reduceSub, Nat.reduceAdd, Nat.reduceLT, Nat.reduceEqDiff, Nat.reduceLeDiff, Nat.reduceMul, Nat.reduceBEq, Int.reduceToNat, Op.operands, if_true, if_false, reduceCtorEq, if_pos, forall_const, implies_true, eq_self, ne_eq]
  refine ⟨⟨by omega, by omega⟩, ?_⟩
  refine eG_map _ _ _ _ _ _ ⟨fun _ => rfl, ?_⟩
  simp (config := { maxSteps := 4000000 }) only [cRecs_enc, h0, g0, Rec.em, decide_false, Bool.false_or, hValidR, cRec_dec, Rec.eta, eBs, cBs, F.fBs, Nat.reduceSub, Nat.reduceAdd, Nat.reduceLT, Nat.reduceEqDiff, Nat.reduceLeDiff, Nat.reduceMul, Nat.reduceBEq, Int.reduceToNat, Op.operands, if_true, if_false, reduceCtorEq, if_pos, forall_const, implies_true, eq_self, ne_eq]
  refine ⟨fun h => ⟨h, by omega, by omega⟩, ?_⟩
  refine eG_map _ _ _ _ _ _ ⟨fun _ => rfl, ?_⟩
  simp (config := { maxSteps := 4000000 }) only [cRecs_enc, h0, g0, Rec.em, decide_false, Bool.false_or, hValidR, cRec_dec, Rec.eta, eBs, cBs, F.fBs, Nat.reduceSub, Nat.reduceAdd, Nat.reduceLT, Nat.reduceEqDiff, Nat.reduceLeDiff, Nat.reduceMul, Nat.reduceBEq, Int.reduceToNat, Op.operands, if_true, if_false, reduceCtorEq, if_pos, forall_const, implies_true, eq_self, ne_eq]
  refine ⟨fun h => ?_, fun h => ?_⟩
  · have e : soundF l = false := by
      rw [Bool.eq_false_iff]
      intro hsd
      obtain ⟨a1, a2⟩ := sound_kinds hsd hx0
      rw [kindAt, if_pos rfl] at a2
      simp [a1, a2] at h
    rw [e] at hK
    exact hK
  simp only [Bool.or_eq_false_iff, decide_eq_false_iff_not, Bool.not_eq_false', Classical.not_not] at h
  obtain ⟨hv0, hk0⟩ := h
  refine eK_rounds [0] (fun i : Nat => (1 ≤ i ∧ i ≤ l.length - 1) ∧ ∀ j x, l[j]? = some x → j ≠ 0 → j < i → validR x = true ∧ x.kind = 2) (fun i => [(3, .arr 0 (midI l i).length), (4, .d (.int .i64 i))]) (fun _ => []) (fun i => [(0, ⟨8, 37, (midI l i).map Msg.enc, false⟩)]) (fun i => l.length - i) 1 ⟨⟨Nat.le_refl _, by omega⟩, fun j x _ h1 h2 => absurd h2 (by omega)⟩ ?_ ?_
  · simp [le_eq, St.head, keepT, setAll, leV, leB, leR, idsL, idsA, idsB, midI]
  rintro i ⟨⟨hi1, hi⟩, hp⟩
  have ml := midI_len (l := l) (i := i) (by omega)
  have wi : IntKind.i64.wrap ((i : Int) + 1) = ((i + 1 : Nat) : Int) := by rw [wrap_i64' (by omega) (by omega)]; rfl
  rcases Nat.lt_or_ge (i + 1) l.length with hlt | hge
  · have h3 : (((i + 1 : Nat) : Int) < l.length) = True := eq_true (by omega)
    have hx : l[i]? = some l[i] := List.getElem?_eq_getElem (by omega)
    generalize l[i]'(by omega) = x at hx
    have gx : l.getD i default = x := getD_of hx
    simp (config := { maxSteps := 4000000 }) only [le_eq, h3, wi, gx, Rec.em, hValidR, cRec_dec, Rec.eta, eBs, cBs, F.fBs, Nat.reduceSub, Nat.reduceAdd, Nat.reduceLT, Nat.reduceEqDiff, Nat.reduceLeDiff, Nat.reduceMul, Nat.reduceBEq, Int.reduceToNat, Op.operands, if_true, if_false, reduceCtorEq, if_pos, forall_const, implies_true, eq_self, ne_eq]
    refine ⟨⟨by omega, by omega⟩, fun y hy => ?_⟩
    rw [hx] at hy
    simp only [Option.some.injEq] at hy
    subst hy
    refine ⟨fun h => ⟨h, by omega, by omega⟩, ?_⟩
    refine eG_map _ _ _ _ _ _ ⟨fun _ => rfl, ?_⟩
    simp (config := { maxSteps := 4000000 }) only [le_eq, h3, wi, gx, Rec.em, hValidR, cRec_dec, Rec.eta, eBs, cBs, F.fBs, Nat.reduceSub, Nat.reduceAdd, Nat.reduceLT, Nat.reduceEqDiff, Nat.reduceLeDiff, Nat.reduceMul, Nat.reduceBEq, Int.reduceToNat, Op.operands, if_true, if_false, reduceCtorEq, if_pos, forall_const, implies_true, eq_self, ne_eq]
    refine ⟨fun h => ?_, fun h => ?_⟩
    · have e : soundF l = false := by
        rw [Bool.eq_false_iff]
        intro hsd
        obtain ⟨a1, a2⟩ := sound_kinds hsd hx
        rw [kindAt, if_neg (by omega), if_neg (by omega)] at a2
        simp [a1, a2] at h
      rw [e] at hK
      exact hK
    simp only [Bool.or_eq_false_iff, decide_eq_false_iff_not, Bool.not_eq_false', Classical.not_not] at h
    obtain ⟨hv1, hk1⟩ := h
    refine ⟨⟨by omega, by omega⟩, fun y hy => ?_⟩
    rw [hx] at hy
    simp only [Option.some.injEq] at hy
    subst hy
    have hsn := midI_snoc hx hi1
    refine ⟨by omega, i + 1, ⟨⟨by omega, by omega⟩, fun j y hy h1 h2 => ?_⟩, by omega, ⟨by rw [hsn]; simp, rfl⟩, by rw [hsn, List.map_append]; rfl⟩
    rcases Nat.lt_or_ge j i with h | h
    · exact hp j y hy h1 h
    · have : j = i := by omega
      subst this
      rw [hx] at hy
      simp only [Option.some.injEq] at hy
      subst hy
      exact ⟨hv1, hk1⟩
  · have : i = l.length - 1 := by omega
    subst this
    have h3 : (((l.length - 1 + 1 : Nat) : Int) < l.length) = False := eq_false (by omega)
    simp (config := { maxSteps := 4000000 }) only [le_eq, h3, wi, g0, Rec.em, hMake, hSameR, eBs, cBs, F.fBs, Nat.reduceSub, Nat.reduceAdd, Nat.reduceLT, Nat.reduceEqDiff, Nat.reduceLeDiff, Nat.reduceMul, Nat.reduceBEq, Int.reduceToNat, Op.operands, if_true, if_false, reduceCtorEq, if_pos, forall_const, implies_true, eq_self, ne_eq]
    refine ⟨⟨by omega, by omega⟩, ?_⟩
    refine eG_map _ _ _ _ _ _ ⟨fun _ => rfl, ?_⟩
    simp (config := { maxSteps := 4000000 }) only [le_eq, h3, wi, g0, Rec.em, hMake, hSameR, eBs, cBs, F.fBs, Nat.reduceSub, Nat.reduceAdd, Nat.reduceLT, Nat.reduceEqDiff, Nat.reduceLeDiff, Nat.reduceMul, Nat.reduceBEq, Int.reduceToNat, Op.operands, if_true, if_false, reduceCtorEq, if_pos, forall_const, implies_true, eq_self, ne_eq]
    refine ⟨⟨by omega, by omega⟩, ?_⟩
    refine eG_map _ _ _ _ _ _ ⟨fun _ => rfl, ?_⟩
    simp (config := { maxSteps := 4000000 }) only [le_eq, h3, wi, g0, Rec.em, cMsgs_dec, cRecs_dec, hMake, hSameR, eBs, cBs, F.fBs, Nat.reduceSub, Nat.reduceAdd, Nat.reduceLT, Nat.reduceEqDiff, Nat.reduceLeDiff, Nat.reduceMul, Nat.reduceBEq, Int.reduceToNat, Op.operands, if_true, if_false, reduceCtorEq, if_pos, forall_const, implies_true, eq_self, ne_eq]
    have hm : ∀ j y, l[j]? = some y → j ≠ 0 → j < l.length - 1 → validR y = true ∧ y.kind = 2 := hp
    have hr0 := ho x0 (List.mem_of_getElem? hx0)
    have hmv := mids_valid hm
    have e := sound_ref (by omega) (by omega) ho hx0 hv0 hm
    have ge : ∀ z : List D, (List.map Rec.enc l)[0]? = some z → z.length = 14 ∧ AV.cptr z = AV.cptr x0.enc := by
      intro z hz
      rw [List.getElem?_map, hx0] at hz
      simp only [Option.map_some, Option.some.injEq] at hz
      subst hz
      exact ⟨rfl, rfl⟩
    rw [e] at hK
    exact ⟨⟨hr0.1, hr0.2.1, by rw [ml]; omega, hmv⟩, ⟨⟨by omega, by omega⟩, ge⟩, ⟨⟨by omega, by omega⟩, ge⟩, hK⟩
end Go.PE
