/- Law 18: StreamMatchesReference. -/
import Derived.Test.YtkgkpmdbcjelfaaGreatWkZc
import Derived.Test.YtkgkpmdbcjelfaaGreatWkZd
import Derived.Test.YtkgkpmdbcjelfaaGreatWkZ
set_option linter.unusedVariables false
set_option linter.defProp false
set_option linter.all false
set_option linter.unusedSimpArgs false
set_option maxRecDepth 10000
set_option maxHeartbeats 4000000
namespace Go.PE
open Go Go.Proofs

def hMatches : Det := det3 cRaws cBytes (c4 .u32) (fun l _ p => (∀ x ∈ l, x.ok) ∧ range4 .u32 p) fun _ _ _ => .d (.bool true)
theorem set_fold (L : List Rec) (i : Nat) (k s c f t m1 : Int) (a1 a2 a3 a4 a5 a6 : List UInt8) (n ch : Int) : (L.map Rec.enc).set i [.int .i64 k, .int .i64 s, .int .i64 c, .int .u64 f, .int .u64 t, .int .i64 m1, .str a1, .str a2, .str a3, .str a4, .str a5, .str a6, .int .i64 n, .int .u64 ch] = (L.set i ⟨k, s, c, f, t, ⟨m1, a1, a2, a3, a4, a5, a6, n⟩, ch⟩).map Rec.enc := by
  rw [List.map_set]
  rfl
theorem f_StreamMatchesReference : FPure Tryz.prog 3 hMatches.spec := by
  refine FPure.runL [(4, .det hTrue18), (5, .det hList), (6, .det hMake), (7, .det hMake), (8, .det hSameR), (9, .det h18parsed), (10, .det h18parsed), (11, .det hRest), (12, .det hRest), (13, .det hBytesR), (14, .det hBytesR), (15, .det hNext), (16, .det hNext), (17, .det hSound), (18, .det hSound2)] (fun i => if i = 7 then [(0, (false, [])), (1, (false, [])), (2, (true, [])), (3, (false, [])), (4, (false, [])), (5, (false, [])), (7, (false, [])), (6, (true, [3, 7])), (8, (true, [3])), (9, (false, [])), (10, (false, [])), (11, (false, [])), (12, (false, [])), (13, (false, [])), (14, (false, [])), (15, (false, [])), (16, (false, [])), (17, (false, [])), (19, (false, [])), (20, (false, [])), (21, (false, [])), (22, (false, [])), (23, (false, [])), (24, (false, [])), (18, (true, [3, 9, 10, 13, 14, 15, 16, 19, 20, 21, 22, 23, 24])), (25, (true, [3, 9, 10, 13, 14, 15, 16, 20, 21, 22, 23])), (26, (true, [3, 9, 10, 13, 14, 15, 16, 20, 21, 22, 23])), (27, (false, [])), (28, (false, []))] else if i = 12 then [(0, (false, [])), (1, (false, [])), (2, (false, [])), (3, (false, [])), (6, (false, [])), (7, (false, [])), (8, (false, [])), (9, (false, [])), (4, (true, [0, 1, 2, 6, 7, 8, 9])), (5, (false, [])), (10, (true, [0, 1, 2, 6, 7, 8, 5])), (11, (true, [0, 1, 2, 6, 7, 8, 5])), (12, (false, [])), (13, (false, [])), (14, (false, [])), (15, (false, [])), (16, (false, [])), (17, (false, [])), (18, (false, [])), (19, (false, [])), (20, (false, [])), (22, (false, [])), (23, (false, [])), (24, (false, [])), (25, (false, [])), (26, (false, [])), (27, (false, [])), (28, (false, [])), (21, (true, [0, 1, 2, 6, 7, 8, 5, 12, 14, 15, 17, 18, 19, 22, 23, 24, 25, 26, 27, 28])), (29, (true, [0, 1, 2, 6, 7, 8, 5, 12, 14, 15, 17, 18, 19, 22, 23, 25, 26, 27])), (30, (false, [])), (31, (false, []))] else []) (by
    intro p hp
    simp only [List.mem_cons, List.not_mem_nil, or_false] at hp
    rcases hp with rfl | rfl | rfl | rfl | rfl | rfl | rfl | rfl | rfl | rfl | rfl | rfl | rfl | rfl | rfl
    · exact f_18sanity
    · exact f_05List
    · exact f_streamMake
    · exact f_18Make
    · exact f_18Same
    · exact f_18parsed
    · exact f_18Parse
    · exact f_streamRest
    · exact f_18Rest
    · exact f_streamBytes
    · exact f_18Bytes
    · exact f_streamNext
    · exact f_18Next
    · exact f_streamSound
    · exact f_18Sound) F.mixed Tryz.func3 (by kernel_rfl) rfl (by kernel_rfl) 183 Tryz.ntmps3 [.tmp 6] Tryz.results3 ?_
  intro ds K hl hs
  obtain ⟨l, b, p, rfl, ⟨ho, ⟨hp1, hp2⟩, ⟨hp3, hp4⟩, ⟨hp5, hp6⟩, ⟨hp7, hp8⟩⟩, hK⟩ := det3_elim hs
  obtain ⟨p1, p2, p3, p4⟩ := p
  simp only at hp1 hp2 hp3 hp4 hp5 hp6 hp7 hp8
  by_cases hb : 100 < b.length
  · have e1 : (100 < (b.length : Int)) = True := eq_true (by omega)
    simp (config := { maxSteps := 4000000 }) only [hTrue18, det0_eq, c4_enc, e1, eBs, cBs, F.fBs, Nat.reduceSub, Nat.reduceAdd, Nat.reduceLT, Nat.reduceEqDiff, Nat.reduceLeDiff, Nat.reduceMul, Nat.reduceBEq, Int.reduceToNat, Op.operands, if_true, if_false, reduceCtorEq, if_pos, forall_const, implies_true, eq_self, ne_eq]
    exact hK
  have e1 : (100 < (b.length : Int)) = False := eq_false (by omega)
  have w1 : IntKind.u64.wrap p1 = p1 := wrap_u64n (by omega)
  have w2 : IntKind.u64.wrap p2 = p2 := wrap_u64n (by omega)
  have w3 : IntKind.i64.wrap p3 = p3 := wrap_i64' (by omega) (by omega)
  have w4 : IntKind.u64.wrap p4 = p4 := wrap_u64n (by omega)
  obtain ⟨s, hsw, hsP⟩ : ∃ s, IntKind.u64.wrap (p1 * 2 ^ min 32 IntKind.u64.bits) = s ∧ u64P s := by
    refine ⟨_, rfl, ?_⟩
    rw [IntKind.wrap_u64]
    exact ⟨by omega, by omega⟩
  have pd : u64P p2 := ⟨by omega, by omega⟩
  have hv := list_valid (n := 10) ho
  have hn := list_len l 10
  have t10 : Int.toNat 10 = 10 := rfl
  rw [t10] at hn
  have mo := make_ok hsP pd (show (listF l 10).length ≤ 1000000 by omega) hv
  have mr := make_range hsP pd (show (listF l 10).length ≤ 1000000 by omega) hv
  have ml := make_len s p2 (listF l 10)
  generalize hM : listF l 10 = M at *
  generalize hL : makeF s p2 M = L at *
  have de : ∀ a : Rec, (decide (a.kind = a.kind) && (decide (a.seq = a.seq) && (decide (a.count = a.count) && (decide (a.src = a.src) && (decide (a.dst = a.dst) && (decide (a.msg.kind = a.msg.kind) && (decide (a.msg.key = a.msg.key) && (decide (a.msg.value = a.msg.value) && (decide (a.msg.lo = a.msg.lo) && (decide (a.msg.hi = a.msg.hi) && (decide (a.msg.fr = a.msg.fr) && (decide (a.msg.to = a.msg.to) && (decide (a.msg.n = a.msg.n) && decide (a.check = a.check)))))))))))))) = true := by
    intro a
    rw [Rec.eqB]
    simp
  simp (config := { maxSteps := 4000000 }) only [hTrue18, det0_eq, c4_enc, cRaws_enc, cRaws_dec, cMsgs_dec, cRecs_dec, hList, hMake, hSameR, h18parsed, hRest, ParsedR.enc, Rec.em, hM, hL, hsw, w1, w2, w3, w4, e1, decide_true, Bool.not_true, Bool.false_or, Bool.or_false, eBs, cBs, F.fBs, Nat.reduceSub, Nat.reduceAdd, Nat.reduceLT, Nat.reduceEqDiff, Nat.reduceLeDiff, Nat.reduceMul, Nat.reduceBEq, Int.reduceToNat, Op.operands, if_true, if_false, reduceCtorEq, if_pos, forall_const, implies_true, eq_self, ne_eq]
  have c04 : (0 : Int) ≤ 0 ∧ (0 : Int) < ((4 : Nat) : Int) := by decide
  have c14 : (0 : Int) ≤ 1 ∧ (1 : Int) < ((4 : Nat) : Int) := by decide
  have c24 : (0 : Int) ≤ 2 ∧ (2 : Int) < ((4 : Nat) : Int) := by decide
  have c34 : (0 : Int) ≤ 3 ∧ (3 : Int) < ((4 : Nat) : Int) := by decide
  have c16 : ¬ (16 : Int) = 0 := by decide
  refine ⟨⟨ho, by decide, by decide⟩, c04, by decide, c14, ⟨hsP, pd, by omega, hv⟩, c04, by decide, c14, ⟨hsP, pd, by omega, hv⟩, by omega, by omega, c24, c16, c24, c16, by omega, ⟨c24, c16, c24, c16⟩, by omega, ⟨c24, c16, c24, c16⟩, ⟨c24, c16, c24, c16⟩, ?_⟩
  refine eK_rounds [5, 7, 10] (fun i : Nat => i ≤ L.length) (fun i => [(11, .d (.int .i64 i))]) (fun _ => []) (fun _ => []) (fun i => L.length - i) 0 (Nat.zero_le _) ?_ ?_
  · simp [le_eq, St.head, keepT, setAll, leV, leB, leR, idsL, idsA, idsB]
  intro i hi
  have p4d : u64P p4 := ⟨by omega, by omega⟩
  rcases Nat.lt_or_ge i L.length with hlt | hge
  · have h3 : ((i : Int) < L.length) = True := eq_true (by omega)
    have hx : L[i]? = some L[i] := List.getElem?_eq_getElem hlt
    have hox := mo _ (List.getElem_mem hlt)
    generalize L[i] = x at hx hox
    have gx : L.getD i default = x := getD_of hx
    simp (config := { maxSteps := 4000000 }) only [le_eq, h3, gx, w4, Rec.em, hBytesR, hNext, cRec_dec, Rec.eta, eBs, cBs, F.fBs, Nat.reduceSub, Nat.reduceAdd, Nat.reduceLT, Nat.reduceEqDiff, Nat.reduceLeDiff, Nat.reduceMul, Nat.reduceBEq, Int.reduceToNat, Op.operands, if_true, if_false, reduceCtorEq, if_pos, forall_const, implies_true, eq_self, ne_eq]
    refine ⟨by omega, ?_⟩
    refine eG_map _ _ _ _ _ _ ⟨fun _ => rfl, ?_⟩
    simp (config := { maxSteps := 4000000 }) only [le_eq, h3, gx, w4, Rec.em, hBytesR, hNext, cRec_dec, Rec.eta, eBs, cBs, F.fBs, Nat.reduceSub, Nat.reduceAdd, Nat.reduceLT, Nat.reduceEqDiff, Nat.reduceLeDiff, Nat.reduceMul, Nat.reduceBEq, Int.reduceToNat, Op.operands, if_true, if_false, reduceCtorEq, if_pos, forall_const, implies_true, eq_self, ne_eq]
    refine ⟨by omega, ?_⟩
    refine eG_map _ _ _ _ _ _ ⟨fun _ => rfl, ?_⟩
    simp (config := { maxSteps := 4000000 }) only [le_eq, h3, gx, w4, Rec.em, hBytesR, hNext, cRec_dec, Rec.eta, eBs, cBs, F.fBs, Nat.reduceSub, Nat.reduceAdd, Nat.reduceLT, Nat.reduceEqDiff, Nat.reduceLeDiff, Nat.reduceMul, Nat.reduceBEq, Int.reduceToNat, Op.operands, if_true, if_false, reduceCtorEq, if_pos, forall_const, implies_true, eq_self, ne_eq]
    have ge : ∀ z : List D, (List.map Rec.enc L)[i]? = some z → z.length = 14 ∧ AV.cptr z = AV.cptr x.enc := by
      intro z hz
      rw [List.getElem?_map, hx] at hz
      simp only [Option.map_some, Option.some.injEq] at hz
      subst hz
      exact ⟨rfl, rfl⟩
    refine ⟨hox, ⟨by omega, ge⟩, hox, ⟨by omega, ge⟩, ⟨by omega, ge⟩, c34, by omega, ?_⟩
    refine eG_map _ _ _ _ _ _ ⟨fun _ => rfl, ?_⟩
    simp (config := { maxSteps := 4000000 }) only [le_eq, h3, gx, w4, Rec.em, hBytesR, hNext, cRec_dec, Rec.eta, eBs, cBs, F.fBs, Nat.reduceSub, Nat.reduceAdd, Nat.reduceLT, Nat.reduceEqDiff, Nat.reduceLeDiff, Nat.reduceMul, Nat.reduceBEq, Int.reduceToNat, Op.operands, if_true, if_false, reduceCtorEq, if_pos, forall_const, implies_true, eq_self, ne_eq]
    refine ⟨c34, by omega, ?_⟩
    refine eG_map _ _ _ _ _ _ ⟨fun _ => rfl, ?_⟩
    simp (config := { maxSteps := 4000000 }) only [le_eq, h3, gx, w4, Rec.em, hBytesR, hNext, cRec_dec, Rec.eta, decide_true, decide_false, Bool.not_true, Bool.or_false, eBs, cBs, F.fBs, Nat.reduceSub, Nat.reduceAdd, Nat.reduceLT, Nat.reduceEqDiff, Nat.reduceLeDiff, Nat.reduceMul, Nat.reduceBEq, Int.reduceToNat, Op.operands, if_true, if_false, reduceCtorEq, if_pos, forall_const, implies_true, eq_self, ne_eq]
    repeat' (first | exact ge | exact hox | exact p4d | exact c34 | omega | (with_reducible apply And.intro))
    exact ⟨i + 1, by omega, by omega, by rw [wrap_i64' (by omega) (by omega)]; rfl⟩
  · have : i = L.length := by omega
    subst this
    have h3 : ((L.length : Int) < L.length) = False := eq_false (by omega)
    have hk0 := Int.tmod_nonneg (L.length : Int) hp5
    have hk1 := Int.tmod_lt_of_pos p3 (show (0 : Int) < L.length by omega)
    obtain ⟨k, hk⟩ := Int.eq_ofNat_of_zero_le hk0
    have hkl : k < L.length := by omega
    have hx : L[k]? = some L[k] := List.getElem?_eq_getElem hkl
    have hrx := mr _ (List.getElem_mem hkl)
    generalize L[k] = x at hx hrx
    have hg : (L.map Rec.enc).getD k [] = x.enc := by
      rw [List.getD_eq_getElem?_getD, List.getElem?_map, hx]
      rfl
    simp (config := { maxSteps := 4000000 }) only [le_eq, h3, hg, w3, w4, hk, Rec.em, set_fold, List.length_set, hSound, hSound2, cRecs_dec, eBs, cBs, F.fBs, Nat.reduceSub, Nat.reduceAdd, Nat.reduceLT, Nat.reduceEqDiff, Nat.reduceLeDiff, Nat.reduceMul, Nat.reduceBEq, Int.reduceToNat, Op.operands, if_true, if_false, reduceCtorEq, if_pos, forall_const, implies_true, eq_self, ne_eq]
    have wr : ∀ n : Int, u64P (IntKind.u64.wrap n) := by
      intro n
      rw [IntKind.wrap_u64]
      exact ⟨by omega, by omega⟩
    have F : ∀ y, rangeR y → ((L.length ≤ 1000000 ∧ ∀ z ∈ L.set k y, rangeR z) ∧ (L.length ≤ 1000 ∧ ∀ z ∈ L.set k y, rangeR z) ∧ K (.ret (.d (.bool (soundF (L.set k y) == soundF (L.set k y)))))) := by
      intro y hy
      have m : ∀ z ∈ L.set k y, rangeR z := by
        intro z hz
        rcases List.mem_or_eq_of_mem_set hz with h | h
        · exact mr z h
        · exact h ▸ hy
      exact ⟨⟨by omega, m⟩, ⟨by omega, m⟩, by rw [beq_self_eq_true]; exact hK⟩
    have bk : (0 : Int) ≤ (k : Int) ∧ (k : Int) < (L.length : Int) := ⟨by omega, by omega⟩
    refine ⟨c24, by omega, by omega, c34, by decide, fun _ => ⟨bk, hkl, bk, hkl, F _ hrx⟩, fun _ => ⟨fun _ => ⟨bk, hkl, bk, hkl, F _ hrx⟩, fun _ => ⟨fun _ => ⟨bk, hkl, bk, hkl, F _ ⟨wr _, hrx.2⟩⟩, fun _ => ⟨fun _ => ⟨bk, hkl, bk, hkl, F _ ⟨hrx.1, hrx.2.1, wr _⟩⟩, fun _ => ⟨fun _ => ⟨c34, by decide, by decide, bk, hkl, F _ hrx⟩, fun _ => ⟨bk, hkl, F _ hrx⟩⟩⟩⟩⟩⟩
end Go.PE
