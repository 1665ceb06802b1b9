/- WkTl: what the laws need of it. -/
import Derived.Test.YtknilgmkgjjidaaGreatDoorWkTk
import Derived.Test.YtknilgmkgjjidaaGreatDoorWkTi
import Derived.Test.YtknilgmkgjjidaaGreatDoorWkZb
import Derived.Test.YtknilgmkgjjidaaGreatDoorWkSg
set_option linter.unusedVariables false
set_option linter.defProp false
set_option linter.all false
set_option linter.unusedSimpArgs false
set_option maxRecDepth 100000
set_option maxHeartbeats 4000000
namespace Go.PE
open Go Go.Proofs

def cId : Cod D := ⟨id, some, fun _ => rfl, fun d x h => by cases h; rfl⟩
/-- Apply on the empty forest, of streams that are not from its digest. -/
def hApply0 : Det := det2 cId cInb (fun f x => f = .agg f0L ∧ x.src ≠ 5558979605539197941) fun _ x => .tup [.d (.agg f0L), .d (.int .i64 (if x.done = true then 191 else 190))]
theorem f_recvApply0 : FPure Tryz.prog 14 hApply0.spec := by
  refine FPure.runL [(27, .det hTab0), (28, .det hDig0)] (fun i => if i = 6 then [(0, (false, [])), (2, (false, [])), (3, (false, [])), (1, (true, [2, 3])), (4, (false, [])), (5, (true, [2, 3]))] else if i = 8 then [(0, (false, [])), (1, (false, [])), (2, (false, [])), (5, (false, [])), (6, (false, [])), (3, (true, [1, 5, 6])), (4, (true, [1, 5, 6])), (7, (false, [])), (8, (true, [1, 5, 6]))] else []) (by
    intro p hp
    simp only [List.mem_cons, List.not_mem_nil, or_false] at hp
    rcases hp with rfl | rfl
    · exact f_table0
    · exact f_digest0) F.mixed Tryz.func14 (by kernel_rfl) rfl (by kernel_rfl) 45 Tryz.ntmps14 [.cell 4 55, .tmp 5] Tryz.results14 ?_
  intro ds K hl hs
  obtain ⟨f, x, rfl, ⟨rfl, hne⟩, hK⟩ := det2_elim hs
  have hf : ∀ d, cId.enc d = d := fun _ => rfl
  have hne' : (5558979605539197941 = x.src) = False := eq_false (fun h => hne h.symm)
  cases hd : x.done with
  | false =>
    rw [hd, if_neg (by decide)] at hK
    simp (config := { maxSteps := 4000000 }) only [hf, f0L_eq, cInb_enc, hd, hTab0, hDig0, hCl_eq, eBs, cBs, F.fBs, Nat.reduceSub, Nat.reduceAdd, Nat.reduceLT, Nat.reduceEqDiff, Nat.reduceLeDiff, Nat.reduceMul, Nat.reduceBEq, Int.reduceToNat, Op.operands, if_true, if_false, reduceCtorEq, if_pos, forall_const, implies_true, eq_self, ne_eq, iff_self] at hK ⊢
    exact hK
  | true =>
    rw [hd, if_pos rfl] at hK
    simp (config := { maxSteps := 4000000 }) only [hf, f0L_eq, cInb_enc, hd, hne', hTab0, hDig0, hCl_eq, eBs, cBs, F.fBs, Nat.reduceSub, Nat.reduceAdd, Nat.reduceLT, Nat.reduceEqDiff, Nat.reduceLeDiff, Nat.reduceMul, Nat.reduceBEq, Int.reduceToNat, Op.operands, if_true, if_false, reduceCtorEq, if_pos, forall_const, implies_true, eq_self, ne_eq, iff_self] at hK ⊢
    exact hK
def hTrue19 : Det := det0 True (.d (.bool true))
def sA7 (c : Nat) : Rec := ⟨1, 0, 0, 5, 7, ⟨0, [], [], [], [], [], [], 0⟩, c⟩
def sB7 (c : Nat) : Rec := ⟨3, 1, 0, 0, 0, ⟨0, [], [], [], [], [], [], 0⟩, c⟩
theorem make57 : ∃ c1 c2 : Nat, makeF 5 7 [] = [sA7 c1, sB7 c2] := ⟨_, _, rfl⟩
theorem u5 : u64P 5 := ⟨by decide, by decide⟩
theorem u6 : u64P 6 := ⟨by decide, by decide⟩
theorem u7 : u64P 7 := ⟨by decide, by decide⟩
def sI1 (c : Nat) : Inb := ⟨true, false, 0, 1, 5, 6, c, []⟩
def sI2 (c : Nat) : Inb := ⟨true, true, 0, 2, 5, 6, c, []⟩
theorem takes56 {c1 c2 : Nat} (e : makeF 5 6 [] = [sA c1, sB c2]) : takeF zeroInb (sA c1) = (sI1 c1, 0) ∧ takeF (sI1 c1) (sB c2) = (sI2 c2, 0) ∧ takeF (sI1 c1) (sA c1) = (sI1 c1, 0) ∧ takeF (sI2 c2) (sB c2) = (sI2 c2, 0) ∧ takeF zeroInb (sB c2) = (zeroInb, 190) ∧
    okI (sI1 c1) ∧ okI (sI2 c2) ∧ rangeR (sA c1) ∧ rangeR (sB c2) := by
  have v0 : ∀ m ∈ ([] : List Msg), validB m = true := fun m h => (nomatch h)
  have l0 : ([] : List Msg).length ≤ 1000000 := by decide
  have g0 : (makeF 5 6 [])[0]? = some (sA c1) := by rw [e]; rfl
  have g1 : (makeF 5 6 [])[1]? = some (sB c2) := by rw [e]; rfl
  have m0 := make_facts u5 u6 l0 v0 g0
  have m1 := make_facts u5 u6 l0 v0 g1
  have k1 : ((chk 0 (bareF 5 6 []) 1 : Nat) : Int) = c1 := by rw [m0.2.2.2.1]; exact m0.2.2.1.symm
  have k2 : ((chk 0 (bareF 5 6 []) 2 : Nat) : Int) = c2 := by rw [m1.2.2.2.1]; exact m1.2.2.1.symm
  have i1 : inbAt 5 6 [] 1 = sI1 c1 := by
    rw [inbAt_pos _ _ _ (by decide), k1]; rfl
  have i2 : inbAt 5 6 [] 2 = sI2 c2 := by
    rw [inbAt_pos _ _ _ (by decide), k2]; rfl
  have t0 := take_step u5 u6 l0 v0 g0
  have t1 := take_step u5 u6 l0 v0 g1
  have a0 := again_same u5 u6 l0 v0 g0 (n := 1) (by decide) (by decide) (sA c1).check
  have a1 := again_same u5 u6 l0 v0 g1 (n := 2) (by decide) (by decide) (sB c2).check
  have f1 := take_far (src := 5) (dst := 6) (l := []) (n := 0) m1.1.1 (by show ((0 : Nat) : Int) < 1; decide)
  have o1 := inbAt_ok u5 u6 l0 v0 1 (by decide)
  have o2 := inbAt_ok u5 u6 l0 v0 2 (by decide)
  rw [i1] at t0 t1 a0 o1
  rw [i2] at t1 a1 o2
  exact ⟨t0, t1, a0, a1, f1, o1, o2, m0.1.2, m1.1.2⟩
theorem take7 (c1 c : Nat) : takeF (sI1 c1) (sA7 c) = (sI1 c1, 192) := by
  have hv : validR (sA7 c) = true := by
    unfold validR sA7 leastB
    simp [zeroRec, zeroMsg]
  unfold takeF
  rw [if_neg (by rw [hv]; decide), if_neg (by simp [sI1]), if_pos (by simp [sI1, sA7]), if_neg]
  unfold likeF sI1 sA7
  simp
theorem take0 (x : Inb) : takeF x zeroRec = (x, 180) := by
  unfold takeF
  rw [if_pos (show validR zeroRec = false from rfl)]
theorem range7 (c1 c2 : Nat) (e : makeF 5 7 [] = [sA7 c1, sB7 c2]) : rangeR (sA7 c1) := by
  have v0 : ∀ m ∈ ([] : List Msg), validB m = true := fun m h => (nomatch h)
  exact make_range u5 u7 (by decide) v0 _ (by rw [e]; exact List.mem_cons_self ..)
theorem range0 : rangeR zeroRec := ⟨⟨by decide, by decide⟩, ⟨by decide, by decide⟩, ⟨by decide, by decide⟩⟩
theorem enc_sA7 (c : Nat) : (sA7 c).enc = [.int .i64 1, .int .i64 0, .int .i64 0, .int .u64 5, .int .u64 7, .int .i64 0, .str [], .str [], .str [], .str [], .str [], .str [], .int .i64 0, .int .u64 c] := rfl
theorem enc_sB7 (c : Nat) : (sB7 c).enc = [.int .i64 3, .int .i64 1, .int .i64 0, .int .u64 0, .int .u64 0, .int .i64 0, .str [], .str [], .str [], .str [], .str [], .str [], .int .i64 0, .int .u64 c] := rfl
theorem recD_A (c : Nat) : cRec.dec (.agg [.int .i64 1, .int .i64 0, .int .i64 0, .int .u64 5, .int .u64 6, .int .i64 0, .str [], .str [], .str [], .str [], .str [], .str [], .int .i64 0, .int .u64 c]) = some (sA c) := rfl
theorem recD_B (c : Nat) : cRec.dec (.agg [.int .i64 3, .int .i64 1, .int .i64 0, .int .u64 0, .int .u64 0, .int .i64 0, .str [], .str [], .str [], .str [], .str [], .str [], .int .i64 0, .int .u64 c]) = some (sB c) := rfl
theorem recD_7 (c : Nat) : cRec.dec (.agg [.int .i64 1, .int .i64 0, .int .i64 0, .int .u64 5, .int .u64 7, .int .i64 0, .str [], .str [], .str [], .str [], .str [], .str [], .int .i64 0, .int .u64 c]) = some (sA7 c) := rfl
theorem recD_0 : cRec.dec (.agg [.int .i64 0, .int .i64 0, .int .i64 0, .int .u64 0, .int .u64 0, .int .i64 0, .str [], .str [], .str [], .str [], .str [], .str [], .int .i64 0, .int .u64 0]) = some zeroRec := rfl
theorem inbD_0 : cInb.dec (.agg [.bool false, .bool false, .int .i64 0, .int .i64 0, .int .u64 0, .int .u64 0, .int .u64 0, .list []]) = some zeroInb := rfl
theorem inbD_1 (c : Nat) : cInb.dec (.agg [.bool true, .bool false, .int .i64 0, .int .i64 1, .int .u64 5, .int .u64 6, .int .u64 c, .list []]) = some (sI1 c) := rfl
theorem inbD_2 (c : Nat) : cInb.dec (.agg [.bool true, .bool true, .int .i64 0, .int .i64 2, .int .u64 5, .int .u64 6, .int .u64 c, .list []]) = some (sI2 c) := rfl
theorem tknE_1 (c : Nat) : tknE (sI1 c, 0) = [.bool true, .bool false, .int .i64 0, .int .i64 1, .int .u64 5, .int .u64 6, .int .u64 c, .list [], .int .i64 0] := rfl
theorem tknE_2 (c : Nat) : tknE (sI2 c, 0) = [.bool true, .bool true, .int .i64 0, .int .i64 2, .int .u64 5, .int .u64 6, .int .u64 c, .list [], .int .i64 0] := rfl
theorem tknE_19 : tknE (zeroInb, 190) = [.bool false, .bool false, .int .i64 0, .int .i64 0, .int .u64 0, .int .u64 0, .int .u64 0, .list [], .int .i64 190] := rfl
theorem tknE_7 (c : Nat) : tknE (sI1 c, 192) = [.bool true, .bool false, .int .i64 0, .int .i64 1, .int .u64 5, .int .u64 6, .int .u64 c, .list [], .int .i64 192] := rfl
theorem tknE_0 (c : Nat) : tknE (sI1 c, 180) = [.bool true, .bool false, .int .i64 0, .int .i64 1, .int .u64 5, .int .u64 6, .int .u64 c, .list [], .int .i64 180] := rfl
theorem tknD_1 (c : Nat) : cTkn.dec (.agg [.bool true, .bool false, .int .i64 0, .int .i64 1, .int .u64 5, .int .u64 6, .int .u64 c, .list [], .int .i64 0]) = some (sI1 c, 0) := rfl
theorem tknD_2 (c : Nat) : cTkn.dec (.agg [.bool true, .bool true, .int .i64 0, .int .i64 2, .int .u64 5, .int .u64 6, .int .u64 c, .list [], .int .i64 0]) = some (sI2 c, 0) := rfl
theorem msgsD_0 : cMsgs.dec (.list []) = some [] := rfl
theorem miss_0 : (if zeroInb.done = true then (-1 : Int) else zeroInb.next) = 0 := rfl
theorem miss_1 (c : Nat) : (if (sI1 c).done = true then (-1 : Int) else (sI1 c).next) = 1 := rfl
theorem miss_2 (c : Nat) : (if (sI2 c).done = true then (-1 : Int) else (sI2 c).next) = -1 := rfl
theorem appl_1 (c : Nat) : (if (sI1 c).done = true then (191 : Int) else 190) = 190 := rfl
theorem appl_2 (c : Nat) : (if (sI2 c).done = true then (191 : Int) else 190) = 191 := rfl
theorem f_19sanity : FPure Tryz.prog 4 hTrue19.spec := by
  refine FPure.runL [(7, .det hMake), (8, .det h19Take), (12, .det hSameT), (15, .det hMissing), (11, .det h19Same), (13, .det hMade0), (14, .det hApply0)] (fun i => if i = 4 then [(0, (true, [])), (1, (true, [])), (2, (false, [])), (3, (false, [])), (4, (false, [])), (5, (false, [])), (6, (false, [])), (7, (false, [])), (8, (false, [])), (9, (false, [])), (10, (false, [])), (11, (true, [2, 4, 6, 7, 8, 9])), (12, (false, [])), (13, (false, []))] else if i = 6 then [(0, (false, [])), (1, (false, [])), (2, (false, [])), (3, (false, [])), (4, (false, [])), (5, (false, [])), (6, (true, [0, 1, 2, 3, 4, 5])), (7, (true, []))] else if i = 7 then [(0, (true, [])), (1, (true, [])), (2, (false, [])), (3, (false, [])), (4, (false, [])), (5, (false, [])), (6, (false, [])), (7, (false, [])), (8, (false, [])), (9, (false, [])), (10, (false, [])), (11, (true, [2, 4, 6, 7, 8, 9])), (12, (false, [])), (13, (false, []))] else if i = 9 then [(0, (false, [])), (1, (false, [])), (2, (false, [])), (3, (false, [])), (4, (false, [])), (6, (false, [])), (5, (true, [0, 2, 3, 6])), (7, (true, [0, 2, 3])), (8, (false, [])), (9, (false, [])), (10, (false, [])), (11, (false, [])), (12, (false, [])), (13, (false, [])), (15, (false, [])), (14, (true, [0, 2, 3, 9, 11, 12, 15])), (16, (true, [0, 2, 3, 9, 11, 12])), (17, (false, [])), (18, (true, []))] else if i = 13 then [(0, (true, [])), (1, (true, [])), (2, (false, [])), (3, (false, [])), (4, (false, [])), (5, (false, [])), (6, (true, [3, 4])), (7, (false, [])), (8, (false, [])), (9, (false, [])), (10, (false, [])), (11, (false, [])), (12, (false, [])), (13, (false, [])), (14, (false, [])), (15, (false, [])), (16, (true, [3, 4, 7, 8, 9, 11, 13, 14])), (17, (false, [])), (18, (false, [])), (19, (false, [])), (20, (false, [])), (21, (false, [])), (22, (false, [])), (23, (false, [])), (24, (true, [3, 4, 7, 8, 9, 11, 13, 14, 17, 18, 19, 21])), (25, (false, [])), (26, (false, [])), (27, (false, [])), (28, (false, [])), (29, (false, [])), (30, (true, [3, 4, 7, 8, 9, 11, 13, 14, 17, 18, 19, 21, 25, 26, 27])), (31, (false, [])), (32, (false, [])), (33, (false, [])), (34, (false, [])), (35, (false, [])), (36, (true, [3, 4, 7, 8, 9, 11, 13, 14, 17, 18, 19, 21, 25, 26, 27, 31, 32, 34])), (37, (false, [])), (38, (false, [])), (39, (false, [])), (40, (false, [])), (41, (false, [])), (42, (true, [3, 4, 7, 8, 9, 11, 13, 14, 17, 18, 19, 21, 25, 26, 27, 31, 32, 34, 37, 38, 40])), (43, (false, [])), (44, (false, [])), (45, (false, [])), (46, (false, [])), (47, (false, [])), (48, (false, [])), (49, (false, [])), (50, (false, [])), (51, (false, [])), (52, (false, [])), (53, (true, []))] else []) (by
    intro p hp
    simp only [List.mem_cons, List.not_mem_nil, or_false] at hp
    rcases hp with rfl | rfl | rfl | rfl | rfl | rfl | rfl
    · exact f_18Make
    · exact f_law19take
    · exact f_law19same
    · exact f_recvMissing
    · exact f_19Same
    · exact f_16Made0
    · exact f_recvApply0) F.mixed Tryz.func4 (by kernel_rfl) rfl (by kernel_rfl) 138 Tryz.ntmps4 [.tmp 0] Tryz.results4 ?_
  intro ds K hl hs
  obtain ⟨rfl, -, hK⟩ := det0_elim hs
  have v0 : ∀ m ∈ ([] : List Msg), validB m = true := fun m h => (nomatch h)
  obtain ⟨c1, c2, e⟩ := make56
  obtain ⟨c3, c4, e'⟩ := make57
  obtain ⟨t1, t2, t3, t4, t5, o1, o2, r1, r2⟩ := takes56 e
  have t6 := take7 c1 c3
  have t7 := take0 (sI1 c1)
  have r3 := range7 c3 c4 e'
  have b1 : cId.dec (.agg f0L) = some (.agg f0L) := rfl
  rw [f0L_eq] at b1
  simp (config := { maxSteps := 8000000 }) only [hMake, msgsD_0, e, e', enc_sA, enc_sB, enc_sA7, enc_sB7, h19Take, recD_A, recD_B, recD_7, recD_0, inbD_0, inbD_1, inbD_2, t1, t2, t3, t4, t5, t6, t7, tknE_1, tknE_2, tknE_19, tknE_7, tknE_0, tknD_1, tknD_2, hSameT, h19Same, hMissing, miss_0, miss_1, miss_2, hMade0, hCl_eq, f0L_eq, hApply0, appl_1, appl_2, b1, decide_true, Int.reduceEq, eBs, cBs, F.fBs, Nat.reduceSub, Nat.reduceAdd, Nat.reduceLT, Nat.reduceEqDiff, Nat.reduceLeDiff, Nat.reduceMul, Nat.reduceBEq, Int.reduceToNat, Op.operands, if_true, if_false, reduceCtorEq, if_pos, forall_const, implies_true, eq_self, ne_eq, iff_self]
  clear hs hl e e' t1 t2 t3 t4 t5 t6 t7
  have n1 : (sI1 c1).src ≠ 5558979605539197941 := by show (5 : Int) ≠ _; decide
  have n2 : (sI2 c2).src ≠ 5558979605539197941 := by show (5 : Int) ≠ _; decide
  have z0 := zero_ok
  have q0 := range0
  repeat' (first | exact hK | exact u5 | exact u6 | exact u7 | exact v0 | exact z0 | exact o1 | exact o2 | exact r1 | exact r2 | exact r3 | exact q0 | exact n1 | exact n2 | (with_reducible apply And.intro) | omega | rfl | (intro x hx; injection hx with hx; subst hx; exact ⟨rfl, rfl⟩))
end Go.PE
