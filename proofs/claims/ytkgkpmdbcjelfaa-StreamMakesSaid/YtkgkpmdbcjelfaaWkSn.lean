/- Law 18: StreamMakes. -/
import Derived.Test.YtkgkpmdbcjelfaaWkSl
set_option linter.unusedVariables false
set_option linter.defProp false
set_option linter.all false
set_option linter.unusedSimpArgs false
set_option maxRecDepth 10000
set_option maxHeartbeats 4000000
namespace Go.PE
open Go Go.Proofs

theorem make_first (s d : Int) (l : List Msg) : ∃ x, (makeF s d l)[0]? = some x ∧ x.kind = 1 ∧ x.count = (l.length : Int) ∧ x.src = s ∧ x.dst = d := ⟨_, make_head s d l, rfl, rfl, rfl, rfl⟩
theorem make_last (s d : Int) (l : List Msg) : ∃ x, (makeF s d l)[l.length + 1]? = some x ∧ x.kind = 3 ∧ x.count = (l.length : Int) ∧ x.seq = ((l.length + 1 : Nat) : Int) := ⟨_, make_end s d l, rfl, rfl, rfl⟩
theorem make_body (s d : Int) {l : List Msg} {i : Nat} {m : Msg} (h : l[i]? = some m) : ∃ x, (makeF s d l)[i + 1]? = some x ∧ x.kind = 2 ∧ x.seq = ((i + 1 : Nat) : Int) ∧ x.msg = m := by
  have hi := (List.getElem?_eq_some_iff.1 h).1
  refine ⟨withC (bodyR i m) (nextN (chk 0 (bareF s d l) (i + 1)) (bodyR i m)), ?_, rfl, rfl, rfl⟩
  rw [make_get, bare_get, if_neg (by omega), if_pos (by omega), Nat.add_sub_cancel, h]
  rfl
theorem make_iff (s d s' d' : Int) (a b : List Msg) : decide (makeF s d a = makeF s' d' b) = ((decide (s = s') && decide (d = d')) && decide (a = b)) := by
  by_cases e : makeF s d a = makeF s' d' b
  · obtain ⟨rfl, rfl, rfl⟩ := make_inj e
    simp
  · rw [decide_eq_false e]
    symm
    rw [Bool.eq_false_iff]
    intro h
    simp only [Bool.and_eq_true, decide_eq_true_eq] at h
    obtain ⟨⟨rfl, rfl⟩, rfl⟩ := h
    exact e rfl
def hMakes : Det := det2 cRaws2 (c4 .u8) (fun l p => ((∀ x ∈ l.1, x.ok) ∧ ∀ x ∈ l.2, x.ok) ∧ range4 .u8 p) fun _ _ => .d (.bool true)
theorem f_StreamMakes : FPure Try.prog 10 hMakes.spec := by
  refine FPure.runL [(30, .det hTrue18), (28, .det hList), (31, .det hMake), (32, .det hSound), (33, .det hSameR), (29, .det hSame)] (fun i => if i = 6 then [(0, (false, [])), (1, (false, [])), (2, (false, [])), (3, (false, [])), (4, (false, [])), (5, (false, [])), (6, (false, [])), (7, (false, [])), (8, (true, [0, 1, 2, 3, 4, 5])), (9, (false, [])), (10, (false, [])), (11, (false, [])), (12, (false, [])), (13, (true, [0, 1, 2, 3, 4, 5, 9, 10])), (14, (false, [])), (15, (false, [])), (16, (false, [])), (17, (false, [])), (18, (false, [])), (20, (false, [])), (21, (false, [])), (22, (false, [])), (23, (false, [])), (24, (false, [])), (19, (true, [0, 1, 2, 3, 4, 5, 9, 10, 14, 15, 20, 21, 22, 23, 24])), (25, (false, [])), (26, (false, [])), (27, (false, [])), (28, (false, [])), (29, (false, [])), (30, (false, [])), (31, (false, [])), (32, (false, [])), (33, (false, [])), (34, (false, [])), (35, (true, [0, 1, 2, 3, 4, 5, 9, 10, 14, 15, 20, 21, 22, 23, 24, 25, 26, 27, 28, 29, 30, 31])), (36, (false, [])), (37, (false, [])), (38, (false, []))] else if i = 11 then [(0, (false, [])), (1, (false, [])), (2, (false, [])), (3, (false, [])), (4, (false, [])), (5, (false, [])), (6, (false, [])), (7, (false, [])), (8, (false, [])), (9, (false, [])), (10, (false, [])), (11, (false, [])), (12, (false, [])), (13, (false, [])), (14, (false, [])), (15, (false, [])), (16, (false, [])), (17, (false, [])), (18, (false, [])), (19, (false, [])), (20, (false, [])), (21, (false, [])), (22, (false, [])), (23, (false, [])), (24, (false, [])), (25, (false, [])), (26, (false, [])), (27, (false, [])), (28, (false, [])), (29, (false, [])), (30, (false, []))] else if i = 14 then [(0, (true, [])), (1, (true, [])), (2, (false, [])), (3, (false, [])), (4, (false, [])), (5, (false, [])), (6, (false, [])), (7, (false, [])), (8, (false, [])), (9, (false, [])), (10, (false, [])), (11, (false, [])), (12, (false, [])), (13, (false, [])), (14, (false, [])), (15, (false, [])), (16, (false, [])), (17, (false, [])), (18, (false, [])), (19, (false, [])), (20, (false, [])), (21, (false, [])), (22, (false, [])), (23, (false, [])), (24, (false, [])), (25, (false, [])), (26, (false, [])), (27, (false, [])), (28, (false, [])), (29, (false, [])), (30, (false, [])), (31, (false, [])), (32, (false, [])), (33, (false, [])), (34, (false, [])), (35, (false, [])), (36, (false, [])), (37, (false, [])), (38, (false, [])), (39, (false, [])), (40, (false, [])), (41, (false, [])), (42, (false, [])), (43, (false, [])), (44, (false, [])), (45, (false, [])), (46, (false, [])), (47, (false, [])), (48, (false, [])), (49, (false, [])), (50, (false, [])), (51, (false, [])), (52, (false, [])), (53, (false, [])), (54, (false, [])), (55, (false, [])), (56, (false, [])), (57, (true, []))] else []) (by
    intro p hp
    simp only [List.mem_cons, List.not_mem_nil, or_false] at hp
    rcases hp with rfl | rfl | rfl | rfl | rfl | rfl
    · exact f_18sanity
    · exact f_05List
    · exact f_streamMake
    · exact f_streamSound
    · exact f_18Same
    · exact f_Same) F.mixed Try.func10 (by kernel_rfl) rfl (by kernel_rfl) 174 Try.ntmps10 [.tmp 4] Try.results10 ?_
  intro ds K hl hs
  obtain ⟨l, p, rfl, ⟨⟨ho1, ho2⟩, ⟨hp1, hp2⟩, ⟨hp3, hp4⟩, ⟨hp5, hp6⟩, ⟨hp7, hp8⟩⟩, hK⟩ := det2_elim hs
  obtain ⟨l1, l2⟩ := l
  obtain ⟨p1, p2, p3, p4⟩ := p
  simp only at ho1 ho2 hp1 hp2 hp3 hp4 hp5 hp6 hp7 hp8
  have w1 : IntKind.u64.wrap p1 = p1 := wrap_u64n (by omega)
  have w2 : IntKind.u64.wrap p2 = p2 := wrap_u64n (by omega)
  have w3 : IntKind.u64.wrap p3 = p3 := wrap_u64n (by omega)
  have w4 : IntKind.u64.wrap p4 = p4 := wrap_u64n (by omega)
  have u1 : u64P p1 := ⟨by omega, by omega⟩
  have u2 : u64P p2 := ⟨by omega, by omega⟩
  have u3 : u64P p3 := ⟨by omega, by omega⟩
  have u4 : u64P p4 := ⟨by omega, by omega⟩
  have v1 := list_valid (n := 10) ho1
  have v2 := list_valid (n := 10) ho2
  have n1 := list_len l1 10
  have n2 := list_len l2 10
  have t10 : Int.toNat 10 = 10 := rfl
  rw [t10] at n1 n2
  have r1 := make_range u1 u2 (show (listF l1 10).length ≤ 1000000 by omega) v1
  have r2 := make_range u3 u4 (show (listF l2 10).length ≤ 1000000 by omega) v2
  have s1 := make_sound u1 u2 (show (listF l1 10).length ≤ 1000000 by omega) v1
  have s2 := make_sound u3 u4 (show (listF l2 10).length ≤ 1000000 by omega) v2
  have m1 := make_len p1 p2 (listF l1 10)
  have m2 := make_len p3 p4 (listF l2 10)
  have mi := make_iff p1 p2 p3 p4 (listF l1 10) (listF l2 10)
  have hf := make_first p1 p2 (listF l1 10)
  have hz := make_last p1 p2 (listF l1 10)
  have hb := fun i m => make_body p1 p2 (l := listF l1 10) (i := i) (m := m)
  generalize hA : listF l1 10 = A at *
  generalize hB : listF l2 10 = B at *
  generalize hP : makeF p1 p2 A = P at *
  generalize hQ : makeF p3 p4 B = Q at *
  have wl : IntKind.i64.wrap ((A.length : Int) + 2) = (P.length : Int) := by rw [wrap_i64' (by omega) (by omega)]; omega
  have nn : (¬ (P.length : Int) = P.length) = False := eq_false (fun h => h rfl)
  simp (config := { maxSteps := 4000000 }) only [hTrue18, det0_eq, c4_enc, cRaws2_enc, cRaws_dec, cMsgs_dec, cRecs_dec, hList, hMake, hSound, hSameR, hSame, hA, hB, hP, hQ, w1, w2, w3, w4, s1, s2, wl, nn, mi, decide_false, Bool.not_true, Bool.or_false, Bool.false_or, eBs, cBs, F.fBs, Nat.reduceSub, Nat.reduceAdd, Nat.reduceLT, Nat.reduceEqDiff, Nat.reduceLeDiff, Nat.reduceMul, Nat.reduceBEq, Int.reduceToNat, Op.operands, if_true, if_false, reduceCtorEq, if_pos, forall_const, implies_true, eq_self, ne_eq]
  have c04 : (0 : Int) ≤ 0 ∧ (0 : Int) < ((4 : Nat) : Int) := by decide
  have c14 : (0 : Int) ≤ 1 ∧ (1 : Int) < ((4 : Nat) : Int) := by decide
  have c24 : (0 : Int) ≤ 2 ∧ (2 : Int) < ((4 : Nat) : Int) := by decide
  have c34 : (0 : Int) ≤ 3 ∧ (3 : Int) < ((4 : Nat) : Int) := by decide
  refine ⟨by decide, ⟨ho1, by decide, by decide⟩, by decide, ⟨ho2, by decide, by decide⟩, c04, c14, ⟨u1, u2, by omega, v1⟩, c24, c34, ⟨u3, u4, by omega, v2⟩, ⟨by omega, r1⟩, ⟨by omega, r2⟩, c04, c24, ⟨c04, c24⟩, fun _ => c14, fun _ => c34, ⟨c04, c24, fun _ => c14, fun _ => c34⟩, fun h => ?_, fun _ => ?_⟩
  · rw [beq_self_eq_true] at h
    cases h
  refine eK_rounds [3, 5, 6, 8] (fun i : Nat => i ≤ A.length) (fun i => [(10, .d (.int .i64 i))]) (fun _ => []) (fun _ => []) (fun i => A.length - i) 0 (Nat.zero_le _) ?_ ?_
  · simp [le_eq, St.head, keepT, setAll, leV, leB, leR, idsL, idsA, idsB]
  intro i hi
  rcases Nat.lt_or_ge i A.length with hlt | hge
  · have h3 : ((i : Int) < A.length) = True := eq_true (by omega)
    have hm : A[i]? = some A[i] := List.getElem?_eq_getElem hlt
    generalize A[i] = m at hm
    obtain ⟨x, hx, x1, x2, x3⟩ := hb i m hm
    have gm : A.getD i default = m := getD_of hm
    have gx : P.getD (i + 1) default = x := getD_of hx
    have wi : IntKind.i64.wrap ((i : Int) + 1) = ((i + 1 : Nat) : Int) := by rw [wrap_i64' (by omega) (by omega)]; rfl
    simp (config := { maxSteps := 4000000 }) only [le_eq, h3, gx, gm, wi, Rec.em, Int.toNat_natCast, eBs, cBs, F.fBs, Nat.reduceSub, Nat.reduceAdd, Nat.reduceLT, Nat.reduceEqDiff, Nat.reduceLeDiff, Nat.reduceMul, Nat.reduceBEq, Int.reduceToNat, Op.operands, if_true, if_false, reduceCtorEq, if_pos, forall_const, implies_true, eq_self, ne_eq]
    refine ⟨⟨by omega, by omega⟩, ?_⟩
    refine eG_map _ _ _ _ _ _ ⟨fun _ => rfl, ?_⟩
    simp (config := { maxSteps := 4000000 }) only [le_eq, gx, gm, wi, x1, x2, Rec.em, Int.toNat_natCast, eBs, cBs, F.fBs, Nat.reduceSub, Nat.reduceAdd, Nat.reduceLT, Nat.reduceEqDiff, Nat.reduceLeDiff, Nat.reduceMul, Nat.reduceBEq, Int.reduceToNat, Op.operands, if_true, if_false, reduceCtorEq, if_pos, forall_const, implies_true, eq_self, ne_eq]
    refine ⟨⟨by omega, by omega⟩, ?_⟩
    refine eG_map _ _ _ _ _ _ ⟨fun _ => rfl, ?_⟩
    simp (config := { maxSteps := 4000000 }) only [le_eq, gx, gm, wi, x1, x2, x3, Msg.enc, Msg.eqB, Rec.em, Int.toNat_natCast, eBs, cBs, F.fBs, Nat.reduceSub, Nat.reduceAdd, Nat.reduceLT, Nat.reduceEqDiff, Nat.reduceLeDiff, Nat.reduceMul, Nat.reduceBEq, Int.reduceToNat, Op.operands, if_true, if_false, reduceCtorEq, if_pos, forall_const, implies_true, eq_self, ne_eq]
    refine ⟨⟨by omega, by omega⟩, ?_⟩
    refine eG_map _ _ _ _ _ _ ⟨fun _ => rfl, ?_⟩
    simp (config := { maxSteps := 4000000 }) only [le_eq, gx, gm, wi, x1, x2, x3, Msg.enc, Msg.eqB, Rec.em, Int.toNat_natCast, eBs, cBs, F.fBs, Nat.reduceSub, Nat.reduceAdd, Nat.reduceLT, Nat.reduceEqDiff, Nat.reduceLeDiff, Nat.reduceMul, Nat.reduceBEq, Int.reduceToNat, Op.operands, if_true, if_false, reduceCtorEq, if_pos, forall_const, implies_true, eq_self, ne_eq]
    refine ⟨⟨by omega, by omega⟩, ?_⟩
    refine eG_map _ _ _ _ _ _ ⟨fun _ => rfl, ?_⟩
    simp (config := { maxSteps := 4000000 }) only [le_eq, gx, gm, wi, x1, x2, x3, Msg.enc, Msg.eqB, Rec.em, Int.toNat_natCast, eBs, cBs, F.fBs, Nat.reduceSub, Nat.reduceAdd, Nat.reduceLT, Nat.reduceEqDiff, Nat.reduceLeDiff, Nat.reduceMul, Nat.reduceBEq, Int.reduceToNat, Op.operands, if_true, if_false, reduceCtorEq, if_pos, forall_const, implies_true, eq_self, ne_eq]
    exact ⟨i + 1, by omega, by omega, rfl⟩
  · have : i = A.length := by omega
    subst this
    have h3 : ((A.length : Int) < A.length) = False := eq_false (by omega)
    obtain ⟨x, hx, x1, x2, x3, x4⟩ := hf
    obtain ⟨z, hz, z1, z2, z3⟩ := hz
    have gx : P.getD 0 default = x := getD_of hx
    have gz : P.getD (A.length + 1) default = z := getD_of hz
    have wz : IntKind.i64.wrap ((P.length : Int) - 1) = ((A.length + 1 : Nat) : Int) := by rw [wrap_i64' (by omega) (by omega)]; omega
    have wz2 : IntKind.i64.wrap ((A.length : Int) + 1) = ((A.length + 1 : Nat) : Int) := by rw [wrap_i64' (by omega) (by omega)]; rfl
    simp (config := { maxSteps := 4000000 }) only [le_eq, h3, gx, gz, wz, wz2, Rec.em, Int.toNat_natCast, eBs, cBs, F.fBs, Nat.reduceSub, Nat.reduceAdd, Nat.reduceLT, Nat.reduceEqDiff, Nat.reduceLeDiff, Nat.reduceMul, Nat.reduceBEq, Int.reduceToNat, Op.operands, if_true, if_false, reduceCtorEq, if_pos, forall_const, implies_true, eq_self, ne_eq]
    refine ⟨⟨by omega, by omega⟩, fun z' hz' => ?_⟩
    rw [hz] at hz'
    simp only [Option.some.injEq] at hz'
    subst hz'
    refine ⟨⟨by omega, by omega⟩, ?_⟩
    refine eG_map _ _ _ _ _ _ ⟨fun _ => rfl, ?_⟩
    simp (config := { maxSteps := 4000000 }) only [le_eq, gx, gz, wz, wz2, x1, x2, x3, x4, z1, z2, z3, w1, w2, Rec.em, Int.toNat_natCast, eBs, cBs, F.fBs, Nat.reduceSub, Nat.reduceAdd, Nat.reduceLT, Nat.reduceEqDiff, Nat.reduceLeDiff, Nat.reduceMul, Nat.reduceBEq, Int.reduceToNat, Op.operands, if_true, if_false, reduceCtorEq, if_pos, forall_const, implies_true, eq_self, ne_eq]
    refine ⟨⟨by omega, by omega⟩, ?_⟩
    refine eG_map _ _ _ _ _ _ ⟨fun _ => rfl, ?_⟩
    simp (config := { maxSteps := 4000000 }) only [le_eq, gx, gz, wz, wz2, x1, x2, x3, x4, z1, z2, z3, w1, w2, Rec.em, Int.toNat_natCast, eBs, cBs, F.fBs, Nat.reduceSub, Nat.reduceAdd, Nat.reduceLT, Nat.reduceEqDiff, Nat.reduceLeDiff, Nat.reduceMul, Nat.reduceBEq, Int.reduceToNat, Op.operands, if_true, if_false, reduceCtorEq, if_pos, forall_const, implies_true, eq_self, ne_eq]
    refine ⟨⟨by omega, by omega⟩, ?_⟩
    refine eG_map _ _ _ _ _ _ ⟨fun _ => rfl, ?_⟩
    simp (config := { maxSteps := 4000000 }) only [le_eq, gx, gz, wz, wz2, x1, x2, x3, x4, z1, z2, z3, w1, w2, Rec.em, Int.toNat_natCast, eBs, cBs, F.fBs, Nat.reduceSub, Nat.reduceAdd, Nat.reduceLT, Nat.reduceEqDiff, Nat.reduceLeDiff, Nat.reduceMul, Nat.reduceBEq, Int.reduceToNat, Op.operands, if_true, if_false, reduceCtorEq, if_pos, forall_const, implies_true, eq_self, ne_eq]
    refine ⟨c04, ⟨by omega, by omega⟩, ?_⟩
    refine eG_map _ _ _ _ _ _ ⟨fun _ => rfl, ?_⟩
    simp (config := { maxSteps := 4000000 }) only [le_eq, gx, gz, wz, wz2, x1, x2, x3, x4, z1, z2, z3, w1, w2, Rec.em, Int.toNat_natCast, eBs, cBs, F.fBs, Nat.reduceSub, Nat.reduceAdd, Nat.reduceLT, Nat.reduceEqDiff, Nat.reduceLeDiff, Nat.reduceMul, Nat.reduceBEq, Int.reduceToNat, Op.operands, if_true, if_false, reduceCtorEq, if_pos, forall_const, implies_true, eq_self, ne_eq]
    exact ⟨c14, hK⟩
end Go.PE
