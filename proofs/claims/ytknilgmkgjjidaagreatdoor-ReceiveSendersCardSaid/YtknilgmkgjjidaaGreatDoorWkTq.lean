/- Law 19: ReceiveSenders. -/
import Derived.Test.YtknilgmkgjjidaaGreatDoorWkTp
set_option linter.unusedVariables false
set_option linter.defProp false
set_option linter.all false
set_option linter.unusedSimpArgs false
set_option maxRecDepth 10000
set_option maxHeartbeats 4000000
namespace Go.PE
open Go Go.Proofs

def hSenders : Det := det3 cRaws cRaws cBytes (fun l m _ => (∀ x ∈ l, x.ok) ∧ ∀ x ∈ m, x.ok) fun _ _ _ => .d (.bool true)
theorem f_ReceiveSenders : FPure Tryz.prog 3 hSenders.spec := by
  refine FPure.runL [(4, .det hTrue19), (6, .det hList), (5, .det hMake), (7, .det hMake), (9, .det hNext), (8, .det h19Take), (10, .det hSameMs)] (fun i => if i = 14 then [(0, (false, [])), (1, (false, [])), (2, (false, [])), (3, (false, [])), (4, (false, [])), (5, (true, [0, 1, 2])), (6, (false, [])), (7, (false, [])), (8, (false, [])), (9, (false, [])), (10, (false, [])), (11, (false, [])), (12, (false, [])), (13, (false, [])), (14, (false, [])), (15, (false, [])), (16, (false, [])), (17, (false, [])), (18, (false, [])), (19, (false, [])), (20, (false, [])), (21, (false, [])), (22, (false, [])), (23, (false, [])), (24, (false, [])), (25, (false, [])), (26, (false, [])), (27, (false, [])), (28, (false, [])), (29, (false, [])), (30, (false, [])), (31, (false, [])), (32, (false, [])), (33, (false, [])), (34, (false, [])), (35, (true, []))] else if i = 17 then [(0, (false, [])), (1, (false, [])), (2, (false, [])), (3, (false, [])), (4, (false, [])), (5, (false, [])), (6, (false, [])), (7, (true, [0, 1, 2, 3, 4, 5, 6])), (8, (true, []))] else if i = 21 then [(0, (false, [])), (1, (false, [])), (2, (false, [])), (3, (false, [])), (4, (false, [])), (5, (false, [])), (6, (false, [])), (7, (false, [])), (8, (false, [])), (9, (false, [])), (10, (false, [])), (11, (false, [])), (12, (true, [0, 1, 2, 3, 4, 5, 6, 7, 9, 10])), (13, (true, [0, 1, 2, 3, 4, 5, 6, 7, 9])), (14, (false, [])), (15, (false, [])), (16, (false, [])), (17, (false, [])), (18, (false, [])), (19, (false, [])), (20, (false, [])), (21, (false, [])), (22, (false, [])), (23, (false, [])), (24, (true, []))] else []) (by
    intro p hp
    simp only [List.mem_cons, List.not_mem_nil, or_false] at hp
    rcases hp with rfl | rfl | rfl | rfl | rfl | rfl | rfl
    · exact f_19sanity
    · exact f_05List
    · exact f_streamMake
    · exact f_18Make
    · exact f_18Next
    · exact f_law19take
    · exact f_05SameMsgs) F.mixed Tryz.func3 (by kernel_rfl) rfl (by kernel_rfl) 165 Tryz.ntmps3 [.tmp 6] Tryz.results3 ?_
  intro ds K hl hs
  obtain ⟨la, lb, cs, rfl, ⟨hoa, hob⟩, hK⟩ := det3_elim hs
  have hva := list_valid (n := 8) hoa
  have hna := list_len la 8
  have hvb := list_valid (n := 8) hob
  have hnb := list_len lb 8
  have t8 : Int.toNat 8 = 8 := rfl
  rw [t8] at hna hnb
  have hlA : (listF la 8).length ≤ 1000000 := by omega
  have hlB : (listF lb 8).length ≤ 1000000 := by omega
  have mla := make_len 1 2 (listF la 8)
  have mlb := make_len 1 2 (listF lb 8)
  have mra := make_range q1 q2 hlA hva
  have mob := make_ok q1 q2 hlB hvb
  have hlc : (cs.map byteCell).length = cs.length := List.length_map _
  generalize hMA : listF la 8 = MA at *
  generalize hMB : listF lb 8 = MB at *
  obtain ⟨A, hA⟩ : ∃ A, makeF 1 2 MA = A := ⟨_, rfl⟩
  obtain ⟨B, hB⟩ : ∃ B, makeF 1 2 MB = B := ⟨_, rfl⟩
  rw [hA] at mla mra
  rw [hB] at mlb mob
  simp (config := { maxSteps := 4000000 }) only [hTrue19, det0_eq, cRaws_enc, cRaws_dec, cMsgs_dec, hList, hMake, hMA, hMB, hA, hB, Int.reduceLT, Int.reduceLE, eBs, cBs, F.fBs, Nat.reduceSub, Nat.reduceAdd, Nat.reduceLT, Nat.reduceEqDiff, Nat.reduceLeDiff, Nat.reduceMul, Nat.reduceBEq, Int.reduceToNat, Op.operands, if_true, if_false, reduceCtorEq, if_pos, forall_const, implies_true, eq_self, ne_eq, iff_self]
  refine ⟨hoa, ⟨q1, q2, by omega, hva⟩, hoa, ⟨q1, q2, by omega, hva⟩, hob, ⟨q1, q2, by omega, hvb⟩, ?_⟩
  have hbx : boxN (inbAt 1 2 MA 0) = [.d (.bool false), .d (.bool false), .d (.int .i64 0), .d (.int .i64 0), .d (.int .u64 0), .d (.int .u64 0), .d (.int .u64 0), .d (.list [])] := rfl
  have hwh := inbAt_pos 1 2 MA (i := A.length) (by omega)
  have hdz : decide (A.length = MA.length + 2) = true := decide_eq_true mla
  rw [hdz, List.take_of_length_le (by omega)] at hwh
  generalize (chk 0 (bareF 1 2 MA) A.length : Nat) = cz at hwh
  have hA20 : ((20 : Int) < (A.length : Int)) = False := eq_false (by omega)
  refine eK_rounds [0, 2, 7, 8, 9, 10, 11] (fun i : Nat => i ≤ cs.length ∧ i ≤ A.length) (fun i => [(12, .d (.int .i64 i))]) (fun i => [(0, boxN (inbAt 1 2 MA i))]) (fun _ => []) (fun i => A.length - i) 0 ⟨Nat.zero_le _, Nat.zero_le _⟩ ?_ ?_
  · simp [le_eq, St.head, keepT, setAll, leV, leB, leR, leR0, idsR, idsL, idsA, idsB, hbx]
  rintro i ⟨hic, hiA⟩
  have hwi : IntKind.i64.wrap ((i : Int) + 1) = ((i + 1 : Nat) : Int) := by rw [wrap_i64' (by omega) (by omega)]; rfl
  have h20 : ((i : Int) < 20) = True := eq_true (by omega)
  by_cases hiz : i = A.length
  · have g2 : ((cs.length : Int) < (A.length : Int)) = False := eq_false (by omega)
    by_cases hil : i < cs.length
    · have g1 : ((i : Int) < (cs.length : Int)) = True := eq_true (by omega)
      simp (config := { maxSteps := 4000000 }) only [le_eq, g1, g2, h20, hA20, hiz, hwh, boxN_eq, hlc, hSameMs, cMsgs_dec, cRaws_dec, hList, hMA, decide_true, decide_false, eBs, cBs, F.fBs, Nat.reduceSub, Nat.reduceAdd, Nat.reduceLT, Nat.reduceEqDiff, Nat.reduceLeDiff, Nat.reduceMul, Nat.reduceBEq, Int.reduceToNat, Op.operands, if_true, if_false, reduceCtorEq, if_pos, forall_const, implies_true, eq_self, ne_eq, iff_self]
      exact ⟨⟨hoa, by decide, by decide⟩, hK⟩
    · have g1 : ((i : Int) < (cs.length : Int)) = False := eq_false (by omega)
      simp (config := { maxSteps := 4000000 }) only [le_eq, g1, g2, h20, hA20, hiz, hwh, boxN_eq, hlc, hSameMs, cMsgs_dec, cRaws_dec, hList, hMA, decide_true, decide_false, eBs, cBs, F.fBs, Nat.reduceSub, Nat.reduceAdd, Nat.reduceLT, Nat.reduceEqDiff, Nat.reduceLeDiff, Nat.reduceMul, Nat.reduceBEq, Int.reduceToNat, Op.operands, if_true, if_false, reduceCtorEq, if_pos, forall_const, implies_true, eq_self, ne_eq, iff_self]
      exact ⟨⟨hoa, by decide, by decide⟩, hK⟩
  obtain ⟨I, hI⟩ : ∃ I, inbAt 1 2 MA i = I := ⟨_, rfl⟩
  have hnd : I.done = false := by rw [← hI, inbAt_done]; exact decide_eq_false (by omega)
  have hnx : I.next = i := by rw [← hI]; exact inbAt_next 1 2 MA i
  obtain ⟨op, dn, ct, nx, sr, dt, ck, ms⟩ := I
  simp only at hnd hnx
  subst dn nx
  by_cases hil : i < cs.length
  case neg =>
    have g1 : ((i : Int) < (cs.length : Int)) = False := eq_false (by omega)
    have g2 : ((cs.length : Int) < (A.length : Int)) = True := eq_true (by omega)
    simp (config := { maxSteps := 4000000 }) only [le_eq, g1, g2, h20, hA20, hI, boxN_eq, hlc, hSameMs, cMsgs_dec, cRaws_dec, hList, hMA, decide_true, decide_false, eBs, cBs, F.fBs, Nat.reduceSub, Nat.reduceAdd, Nat.reduceLT, Nat.reduceEqDiff, Nat.reduceLeDiff, Nat.reduceMul, Nat.reduceBEq, Int.reduceToNat, Op.operands, if_true, if_false, reduceCtorEq, if_pos, forall_const, implies_true, eq_self, ne_eq, iff_self]
    exact hK
  have g1 : ((i : Int) < (cs.length : Int)) = True := eq_true (by omega)
  have hiA' : i < A.length := by omega
  have k1 : ((A.length : Int) ≤ (i : Int)) = False := eq_false (by omega)
  have hok : okI (inbAt 1 2 MA i) := inbAt_ok q1 q2 hlA hva i (by omega)
  have hx : A[i]? = some A[i] := List.getElem?_eq_getElem hiA'
  have hxr := mra _ (List.getElem_mem hiA')
  have hst := take_step (i := i) (x := A[i]) q1 q2 hlA hva (by rw [hA]; exact hx)
  generalize A[i] = x at hx hxr hst
  have heg := @eGn Rec Rec.enc A i x hx
  have hel := @eLn Rec Rec.enc A i x hx
  obtain ⟨J, hJ⟩ : ∃ J, inbAt 1 2 MA (i + 1) = J := ⟨_, rfl⟩
  have hJn : J.next = ((i + 1 : Nat) : Int) := by rw [← hJ]; exact inbAt_next 1 2 MA (i + 1)
  obtain ⟨jo, jd, jc, jn, js, jt, jk, jm⟩ := J
  simp only at hJn
  subst jn
  rw [hI] at hok
  rw [hI, hJ] at hst
  have n0 : (¬ (0 : Int) = 0) = False := eq_false (fun h => h rfl)
  have nJ : (¬ ((i + 1 : Nat) : Int) = ((i + 1 : Nat) : Int)) = False := eq_false (fun h => h rfl)
  have hcb : cs[i]? = some cs[i] := List.getElem?_eq_getElem hil
  generalize cs[i] = ch at hcb
  have hcg : (cs.map byteCell).getD i [] = [D.int .u8 ch.toNat] := by
    rw [List.getD_eq_getElem?_getD, List.getElem?_map, hcb]
    rfl
  have hcel := @eLn UInt8 byteCell cs i ch hcb
  have bt : List.take 1 (byteCell ch) = [D.int .u8 ch.toNat] := rfl
  have btl : (byteCell ch).length = 1 := rfl
  have hpar : Int.tmod (ch.toNat : Int) 2 = 0 ∨ Int.tmod (ch.toNat : Int) 2 = 1 := by
    have h1 := Int.tmod_nonneg (2 : Int) (show (0 : Int) ≤ (ch.toNat : Int) by omega)
    have h2 := Int.tmod_lt_of_pos (ch.toNat : Int) (show (0 : Int) < 2 by decide)
    omega
  rcases hpar with hp | hp
  · by_cases hiB : i < B.length
    · have k2 : ((i : Int) < (B.length : Int)) = True := eq_true (by omega)
      have hy : B[i]? = some B[i] := List.getElem?_eq_getElem hiB
      have hyo := mob _ (List.getElem_mem hiB)
      have hmy : (makeF 1 2 MB)[i]? = some B[i] := by rw [hB]; exact hy
      have hkd := make_kind hmy
      have hys := (make_seq hmy).1
      generalize B[i] = y at hy hyo hmy hkd hys
      have hego := @eGn Rec Rec.enc B i y hy
      have helo := @eLn Rec Rec.enc B i y hy
      have hfo := take_follows (src := 1) (dst := 2) (l := MA) (n := i) (by omega) hyo.1 hys
      rw [hI] at hfo
      obtain ⟨T, hT⟩ : ∃ T, takeF ⟨op, false, ct, (i : Int), sr, dt, ck, ms⟩ y = T := ⟨_, rfl⟩
      rw [hT] at hfo
      obtain ⟨T, te⟩ := T
      simp only at hfo
      have hIc : i ≠ 0 → ct = MA.length := fun h => by have := inbAt_count 1 2 MA h; rw [hI] at this; exact this
      by_cases c1 : y.check = (nextN ck.toNat y : Nat)
      case neg =>
        have hc1 := eq_false c1
        have hte : (te = 0) = False := eq_false (fun h => by rw [h] at hfo; simp [followsF, c1] at hfo)
        simp (config := { maxSteps := 4000000 }) only [le_eq, g1, h20, k1, hI, boxN_eq, hlc, hcel, bt, btl, hp, Rec.em, Inb.em, h19Take, cInb_dec, cRec_dec, Inb.eta, Rec.eta, hst, tknE, hwi, n0, nJ, k2, hT, hNext, hego, helo, hc1, hte, Int.toNat_natCast, Int.reduceToNat, Int.reduceLT, Int.reduceLE, Int.reduceEq, decide_true, decide_false, eBs, cBs, F.fBs, Nat.reduceSub, Nat.reduceAdd, Nat.reduceLT, Nat.reduceEqDiff, Nat.reduceLeDiff, Nat.reduceMul, Nat.reduceBEq, Int.reduceToNat, Op.operands, if_true, if_false, reduceCtorEq, if_pos, forall_const, implies_true, eq_self, ne_eq, iff_self, heg, hel]
        refine ⟨by omega, by decide, by omega, ⟨hok, hyo.2⟩, ⟨hok.nums.2.2, hyo⟩, ⟨by omega, by omega⟩, ⟨hok, hxr⟩, ⟨⟨⟨by omega, by omega⟩, el_of hx ⟨rfl, rfl⟩⟩, hok, hxr⟩, i + 1, ⟨by omega, by omega⟩, by omega, rfl, ?_⟩
        rw [hJ]
        exact ⟨rfl, rfl, rfl, rfl, rfl, rfl, rfl, rfl⟩
      have hc1 := eq_true c1
      by_cases i0 : (i : Int) = 0
      case pos =>
        have hi0 := eq_true i0
        have hte : (te = 0) = True := eq_true (by simpa [followsF, c1, i0] using hfo)
        simp (config := { maxSteps := 4000000 }) only [le_eq, g1, h20, k1, hI, boxN_eq, hlc, hcel, bt, btl, hp, Rec.em, Inb.em, h19Take, cInb_dec, cRec_dec, Inb.eta, Rec.eta, hst, tknE, hwi, n0, nJ, k2, hT, hNext, hego, helo, hc1, hi0, hte, Int.toNat_natCast, Int.reduceToNat, Int.reduceLT, Int.reduceLE, Int.reduceEq, decide_true, decide_false, eBs, cBs, F.fBs, Nat.reduceSub, Nat.reduceAdd, Nat.reduceLT, Nat.reduceEqDiff, Nat.reduceLeDiff, Nat.reduceMul, Nat.reduceBEq, Int.reduceToNat, Op.operands, if_true, if_false, reduceCtorEq, if_pos, forall_const, implies_true, eq_self, ne_eq, iff_self, heg, hel]
        refine ⟨by omega, by decide, by omega, ⟨hok, hyo.2⟩, ⟨hok.nums.2.2, hyo⟩, ⟨by omega, by omega⟩, ⟨hok, hxr⟩, ⟨⟨⟨by omega, by omega⟩, el_of hx ⟨rfl, rfl⟩⟩, hok, hxr⟩, i + 1, ⟨by omega, by omega⟩, by omega, rfl, ?_⟩
        rw [hJ]
        exact ⟨rfl, rfl, rfl, rfl, rfl, rfl, rfl, rfl⟩
      have hi0 := eq_false i0
      have hIc := hIc (by omega)
      rcases hkd with ⟨kk, k0⟩ | ⟨kk, k0, k3⟩ | ⟨kk, k0⟩
      · exact absurd k0 (by omega)
      · have e2 := eq_true kk
        have e3 : (y.kind = 3) = False := eq_false (by omega)
        by_cases c4 : (i : Int) ≤ ct
        · have hc4 := eq_true c4
          have hte : (te = 0) = True := eq_true (by simpa [followsF, c1, i0, kk, c4] using hfo)
          simp (config := { maxSteps := 4000000 }) only [le_eq, g1, h20, k1, hI, boxN_eq, hlc, hcel, bt, btl, hp, Rec.em, Inb.em, h19Take, cInb_dec, cRec_dec, Inb.eta, Rec.eta, hst, tknE, hwi, n0, nJ, k2, hT, hNext, hego, helo, hc1, hi0, e2, e3, hc4, hte, Int.toNat_natCast, Int.reduceToNat, Int.reduceLT, Int.reduceLE, Int.reduceEq, decide_true, decide_false, eBs, cBs, F.fBs, Nat.reduceSub, Nat.reduceAdd, Nat.reduceLT, Nat.reduceEqDiff, Nat.reduceLeDiff, Nat.reduceMul, Nat.reduceBEq, Int.reduceToNat, Op.operands, if_true, if_false, reduceCtorEq, if_pos, forall_const, implies_true, eq_self, ne_eq, iff_self, heg, hel]
          refine ⟨by omega, by decide, by omega, ⟨hok, hyo.2⟩, ⟨hok.nums.2.2, hyo⟩, ⟨by omega, by omega⟩, ⟨hok, hxr⟩, ⟨⟨⟨by omega, by omega⟩, el_of hx ⟨rfl, rfl⟩⟩, hok, hxr⟩, i + 1, ⟨by omega, by omega⟩, by omega, rfl, ?_⟩
          rw [hJ]
          exact ⟨rfl, rfl, rfl, rfl, rfl, rfl, rfl, rfl⟩
        · have hc4 := eq_false c4
          have hte : (te = 0) = False := eq_false (fun h => by rw [h] at hfo; simp [followsF, c1, i0, kk, c4] at hfo; omega)
          simp (config := { maxSteps := 4000000 }) only [le_eq, g1, h20, k1, hI, boxN_eq, hlc, hcel, bt, btl, hp, Rec.em, Inb.em, h19Take, cInb_dec, cRec_dec, Inb.eta, Rec.eta, hst, tknE, hwi, n0, nJ, k2, hT, hNext, hego, helo, hc1, hi0, e2, e3, hc4, hte, Int.toNat_natCast, Int.reduceToNat, Int.reduceLT, Int.reduceLE, Int.reduceEq, decide_true, decide_false, eBs, cBs, F.fBs, Nat.reduceSub, Nat.reduceAdd, Nat.reduceLT, Nat.reduceEqDiff, Nat.reduceLeDiff, Nat.reduceMul, Nat.reduceBEq, Int.reduceToNat, Op.operands, if_true, if_false, reduceCtorEq, if_pos, forall_const, implies_true, eq_self, ne_eq, iff_self, heg, hel]
          refine ⟨by omega, by decide, by omega, ⟨hok, hyo.2⟩, ⟨hok.nums.2.2, hyo⟩, ⟨by omega, by omega⟩, ⟨hok, hxr⟩, ⟨⟨⟨by omega, by omega⟩, el_of hx ⟨rfl, rfl⟩⟩, hok, hxr⟩, i + 1, ⟨by omega, by omega⟩, by omega, rfl, ?_⟩
          rw [hJ]
          exact ⟨rfl, rfl, rfl, rfl, rfl, rfl, rfl, rfl⟩
      · have e2 : (y.kind = 2) = False := eq_false (by omega)
        have e3 := eq_true kk
        by_cases c4 : (i : Int) ≤ ct
        · have hc4 := eq_true c4
          have hte : (te = 0) = False := eq_false (fun h => by rw [h] at hfo; simp [followsF, c1, i0, kk, c4] at hfo; omega)
          simp (config := { maxSteps := 4000000 }) only [le_eq, g1, h20, k1, hI, boxN_eq, hlc, hcel, bt, btl, hp, Rec.em, Inb.em, h19Take, cInb_dec, cRec_dec, Inb.eta, Rec.eta, hst, tknE, hwi, n0, nJ, k2, hT, hNext, hego, helo, hc1, hi0, e2, e3, hc4, hte, Int.toNat_natCast, Int.reduceToNat, Int.reduceLT, Int.reduceLE, Int.reduceEq, decide_true, decide_false, eBs, cBs, F.fBs, Nat.reduceSub, Nat.reduceAdd, Nat.reduceLT, Nat.reduceEqDiff, Nat.reduceLeDiff, Nat.reduceMul, Nat.reduceBEq, Int.reduceToNat, Op.operands, if_true, if_false, reduceCtorEq, if_pos, forall_const, implies_true, eq_self, ne_eq, iff_self, heg, hel]
          refine ⟨by omega, by decide, by omega, ⟨hok, hyo.2⟩, ⟨hok.nums.2.2, hyo⟩, ⟨by omega, by omega⟩, ⟨hok, hxr⟩, ⟨⟨⟨by omega, by omega⟩, el_of hx ⟨rfl, rfl⟩⟩, hok, hxr⟩, i + 1, ⟨by omega, by omega⟩, by omega, rfl, ?_⟩
          rw [hJ]
          exact ⟨rfl, rfl, rfl, rfl, rfl, rfl, rfl, rfl⟩
        · have hc4 := eq_false c4
          have hyc : y.count = ct := by
            obtain ⟨_, _, _, _, _, _, he, _⟩ := make_facts q1 q2 hlB hvb hmy
            have hy2 : y.count = MB.length := by rw [he k0]; rfl
            omega
          have e4 := eq_true hyc
          have hte : (te = 0) = True := eq_true (by simpa [followsF, c1, i0, kk, c4, hyc] using hfo)
          simp (config := { maxSteps := 4000000 }) only [le_eq, g1, h20, k1, hI, boxN_eq, hlc, hcel, bt, btl, hp, Rec.em, Inb.em, h19Take, cInb_dec, cRec_dec, Inb.eta, Rec.eta, hst, tknE, hwi, n0, nJ, k2, hT, hNext, hego, helo, hc1, hi0, e2, e3, e4, hc4, hte, Int.toNat_natCast, Int.reduceToNat, Int.reduceLT, Int.reduceLE, Int.reduceEq, decide_true, decide_false, eBs, cBs, F.fBs, Nat.reduceSub, Nat.reduceAdd, Nat.reduceLT, Nat.reduceEqDiff, Nat.reduceLeDiff, Nat.reduceMul, Nat.reduceBEq, Int.reduceToNat, Op.operands, if_true, if_false, reduceCtorEq, if_pos, forall_const, implies_true, eq_self, ne_eq, iff_self, heg, hel]
          refine ⟨by omega, by decide, by omega, ⟨hok, hyo.2⟩, ⟨hok.nums.2.2, hyo⟩, ⟨by omega, by omega⟩, ⟨hok, hxr⟩, ⟨⟨⟨by omega, by omega⟩, el_of hx ⟨rfl, rfl⟩⟩, hok, hxr⟩, i + 1, ⟨by omega, by omega⟩, by omega, rfl, ?_⟩
          rw [hJ]
          exact ⟨rfl, rfl, rfl, rfl, rfl, rfl, rfl, rfl⟩
    · have k2 : ((i : Int) < (B.length : Int)) = False := eq_false (by omega)
      simp (config := { maxSteps := 4000000 }) only [le_eq, g1, h20, k1, hI, boxN_eq, hlc, hcel, bt, btl, hp, Rec.em, Inb.em, h19Take, cInb_dec, cRec_dec, Inb.eta, Rec.eta, hst, tknE, hwi, n0, nJ, k2, Int.toNat_natCast, Int.reduceToNat, Int.reduceLT, Int.reduceLE, Int.reduceEq, decide_true, decide_false, eBs, cBs, F.fBs, Nat.reduceSub, Nat.reduceAdd, Nat.reduceLT, Nat.reduceEqDiff, Nat.reduceLeDiff, Nat.reduceMul, Nat.reduceBEq, Int.reduceToNat, Op.operands, if_true, if_false, reduceCtorEq, if_pos, forall_const, implies_true, eq_self, ne_eq, iff_self, heg, hel]
      refine ⟨by omega, by decide, ⟨by omega, by omega⟩, ⟨hok, hxr⟩, ⟨⟨⟨by omega, by omega⟩, el_of hx ⟨rfl, rfl⟩⟩, hok, hxr⟩, i + 1, ⟨by omega, by omega⟩, by omega, rfl, ?_⟩
      rw [hJ]
      exact ⟨rfl, rfl, rfl, rfl, rfl, rfl, rfl, rfl⟩
  · by_cases hiB : i < B.length
    · have k2 : ((i : Int) < (B.length : Int)) = True := eq_true (by omega)
      have hy : B[i]? = some B[i] := List.getElem?_eq_getElem hiB
      have hyo := mob _ (List.getElem_mem hiB)
      have hmy : (makeF 1 2 MB)[i]? = some B[i] := by rw [hB]; exact hy
      have hkd := make_kind hmy
      have hys := (make_seq hmy).1
      generalize B[i] = y at hy hyo hmy hkd hys
      have hego := @eGn Rec Rec.enc B i y hy
      have helo := @eLn Rec Rec.enc B i y hy
      have hfo := take_follows (src := 1) (dst := 2) (l := MA) (n := i) (by omega) hyo.1 hys
      rw [hI] at hfo
      obtain ⟨T, hT⟩ : ∃ T, takeF ⟨op, false, ct, (i : Int), sr, dt, ck, ms⟩ y = T := ⟨_, rfl⟩
      rw [hT] at hfo
      obtain ⟨T, te⟩ := T
      simp only at hfo
      have hIc : i ≠ 0 → ct = MA.length := fun h => by have := inbAt_count 1 2 MA h; rw [hI] at this; exact this
      by_cases c1 : y.check = (nextN ck.toNat y : Nat)
      case neg =>
        have hc1 := eq_false c1
        have hte : (te = 0) = False := eq_false (fun h => by rw [h] at hfo; simp [followsF, c1] at hfo)
        simp (config := { maxSteps := 4000000 }) only [le_eq, g1, h20, k1, hI, boxN_eq, hlc, hcel, bt, btl, hp, Rec.em, Inb.em, h19Take, cInb_dec, cRec_dec, Inb.eta, Rec.eta, hst, tknE, hwi, n0, nJ, k2, hT, hNext, hego, helo, hc1, hte, Int.toNat_natCast, Int.reduceToNat, Int.reduceLT, Int.reduceLE, Int.reduceEq, decide_true, decide_false, eBs, cBs, F.fBs, Nat.reduceSub, Nat.reduceAdd, Nat.reduceLT, Nat.reduceEqDiff, Nat.reduceLeDiff, Nat.reduceMul, Nat.reduceBEq, Int.reduceToNat, Op.operands, if_true, if_false, reduceCtorEq, if_pos, forall_const, implies_true, eq_self, ne_eq, iff_self, heg, hel]
        refine ⟨by omega, by decide, by omega, ⟨hok, hyo.2⟩, ⟨hok.nums.2.2, hyo⟩, ⟨by omega, by omega⟩, ⟨hok, hxr⟩, ⟨⟨⟨by omega, by omega⟩, el_of hx ⟨rfl, rfl⟩⟩, hok, hxr⟩, i + 1, ⟨by omega, by omega⟩, by omega, rfl, ?_⟩
        rw [hJ]
        exact ⟨rfl, rfl, rfl, rfl, rfl, rfl, rfl, rfl⟩
      have hc1 := eq_true c1
      by_cases i0 : (i : Int) = 0
      case pos =>
        have hi0 := eq_true i0
        have hte : (te = 0) = True := eq_true (by simpa [followsF, c1, i0] using hfo)
        simp (config := { maxSteps := 4000000 }) only [le_eq, g1, h20, k1, hI, boxN_eq, hlc, hcel, bt, btl, hp, Rec.em, Inb.em, h19Take, cInb_dec, cRec_dec, Inb.eta, Rec.eta, hst, tknE, hwi, n0, nJ, k2, hT, hNext, hego, helo, hc1, hi0, hte, Int.toNat_natCast, Int.reduceToNat, Int.reduceLT, Int.reduceLE, Int.reduceEq, decide_true, decide_false, eBs, cBs, F.fBs, Nat.reduceSub, Nat.reduceAdd, Nat.reduceLT, Nat.reduceEqDiff, Nat.reduceLeDiff, Nat.reduceMul, Nat.reduceBEq, Int.reduceToNat, Op.operands, if_true, if_false, reduceCtorEq, if_pos, forall_const, implies_true, eq_self, ne_eq, iff_self, heg, hel]
        refine ⟨by omega, by decide, by omega, ⟨hok, hyo.2⟩, ⟨hok.nums.2.2, hyo⟩, ⟨by omega, by omega⟩, ⟨hok, hxr⟩, ⟨⟨⟨by omega, by omega⟩, el_of hx ⟨rfl, rfl⟩⟩, hok, hxr⟩, i + 1, ⟨by omega, by omega⟩, by omega, rfl, ?_⟩
        rw [hJ]
        exact ⟨rfl, rfl, rfl, rfl, rfl, rfl, rfl, rfl⟩
      have hi0 := eq_false i0
      have hIc := hIc (by omega)
      rcases hkd with ⟨kk, k0⟩ | ⟨kk, k0, k3⟩ | ⟨kk, k0⟩
      · exact absurd k0 (by omega)
      · have e2 := eq_true kk
        have e3 : (y.kind = 3) = False := eq_false (by omega)
        by_cases c4 : (i : Int) ≤ ct
        · have hc4 := eq_true c4
          have hte : (te = 0) = True := eq_true (by simpa [followsF, c1, i0, kk, c4] using hfo)
          simp (config := { maxSteps := 4000000 }) only [le_eq, g1, h20, k1, hI, boxN_eq, hlc, hcel, bt, btl, hp, Rec.em, Inb.em, h19Take, cInb_dec, cRec_dec, Inb.eta, Rec.eta, hst, tknE, hwi, n0, nJ, k2, hT, hNext, hego, helo, hc1, hi0, e2, e3, hc4, hte, Int.toNat_natCast, Int.reduceToNat, Int.reduceLT, Int.reduceLE, Int.reduceEq, decide_true, decide_false, eBs, cBs, F.fBs, Nat.reduceSub, Nat.reduceAdd, Nat.reduceLT, Nat.reduceEqDiff, Nat.reduceLeDiff, Nat.reduceMul, Nat.reduceBEq, Int.reduceToNat, Op.operands, if_true, if_false, reduceCtorEq, if_pos, forall_const, implies_true, eq_self, ne_eq, iff_self, heg, hel]
          refine ⟨by omega, by decide, by omega, ⟨hok, hyo.2⟩, ⟨hok.nums.2.2, hyo⟩, ⟨by omega, by omega⟩, ⟨hok, hxr⟩, ⟨⟨⟨by omega, by omega⟩, el_of hx ⟨rfl, rfl⟩⟩, hok, hxr⟩, i + 1, ⟨by omega, by omega⟩, by omega, rfl, ?_⟩
          rw [hJ]
          exact ⟨rfl, rfl, rfl, rfl, rfl, rfl, rfl, rfl⟩
        · have hc4 := eq_false c4
          have hte : (te = 0) = False := eq_false (fun h => by rw [h] at hfo; simp [followsF, c1, i0, kk, c4] at hfo; omega)
          simp (config := { maxSteps := 4000000 }) only [le_eq, g1, h20, k1, hI, boxN_eq, hlc, hcel, bt, btl, hp, Rec.em, Inb.em, h19Take, cInb_dec, cRec_dec, Inb.eta, Rec.eta, hst, tknE, hwi, n0, nJ, k2, hT, hNext, hego, helo, hc1, hi0, e2, e3, hc4, hte, Int.toNat_natCast, Int.reduceToNat, Int.reduceLT, Int.reduceLE, Int.reduceEq, decide_true, decide_false, eBs, cBs, F.fBs, Nat.reduceSub, Nat.reduceAdd, Nat.reduceLT, Nat.reduceEqDiff, Nat.reduceLeDiff, Nat.reduceMul, Nat.reduceBEq, Int.reduceToNat, Op.operands, if_true, if_false, reduceCtorEq, if_pos, forall_const, implies_true, eq_self, ne_eq, iff_self, heg, hel]
          refine ⟨by omega, by decide, by omega, ⟨hok, hyo.2⟩, ⟨hok.nums.2.2, hyo⟩, ⟨by omega, by omega⟩, ⟨hok, hxr⟩, ⟨⟨⟨by omega, by omega⟩, el_of hx ⟨rfl, rfl⟩⟩, hok, hxr⟩, i + 1, ⟨by omega, by omega⟩, by omega, rfl, ?_⟩
          rw [hJ]
          exact ⟨rfl, rfl, rfl, rfl, rfl, rfl, rfl, rfl⟩
      · have e2 : (y.kind = 2) = False := eq_false (by omega)
        have e3 := eq_true kk
        by_cases c4 : (i : Int) ≤ ct
        · have hc4 := eq_true c4
          have hte : (te = 0) = False := eq_false (fun h => by rw [h] at hfo; simp [followsF, c1, i0, kk, c4] at hfo; omega)
          simp (config := { maxSteps := 4000000 }) only [le_eq, g1, h20, k1, hI, boxN_eq, hlc, hcel, bt, btl, hp, Rec.em, Inb.em, h19Take, cInb_dec, cRec_dec, Inb.eta, Rec.eta, hst, tknE, hwi, n0, nJ, k2, hT, hNext, hego, helo, hc1, hi0, e2, e3, hc4, hte, Int.toNat_natCast, Int.reduceToNat, Int.reduceLT, Int.reduceLE, Int.reduceEq, decide_true, decide_false, eBs, cBs, F.fBs, Nat.reduceSub, Nat.reduceAdd, Nat.reduceLT, Nat.reduceEqDiff, Nat.reduceLeDiff, Nat.reduceMul, Nat.reduceBEq, Int.reduceToNat, Op.operands, if_true, if_false, reduceCtorEq, if_pos, forall_const, implies_true, eq_self, ne_eq, iff_self, heg, hel]
          refine ⟨by omega, by decide, by omega, ⟨hok, hyo.2⟩, ⟨hok.nums.2.2, hyo⟩, ⟨by omega, by omega⟩, ⟨hok, hxr⟩, ⟨⟨⟨by omega, by omega⟩, el_of hx ⟨rfl, rfl⟩⟩, hok, hxr⟩, i + 1, ⟨by omega, by omega⟩, by omega, rfl, ?_⟩
          rw [hJ]
          exact ⟨rfl, rfl, rfl, rfl, rfl, rfl, rfl, rfl⟩
        · have hc4 := eq_false c4
          have hyc : y.count = ct := by
            obtain ⟨_, _, _, _, _, _, he, _⟩ := make_facts q1 q2 hlB hvb hmy
            have hy2 : y.count = MB.length := by rw [he k0]; rfl
            omega
          have e4 := eq_true hyc
          have hte : (te = 0) = True := eq_true (by simpa [followsF, c1, i0, kk, c4, hyc] using hfo)
          simp (config := { maxSteps := 4000000 }) only [le_eq, g1, h20, k1, hI, boxN_eq, hlc, hcel, bt, btl, hp, Rec.em, Inb.em, h19Take, cInb_dec, cRec_dec, Inb.eta, Rec.eta, hst, tknE, hwi, n0, nJ, k2, hT, hNext, hego, helo, hc1, hi0, e2, e3, e4, hc4, hte, Int.toNat_natCast, Int.reduceToNat, Int.reduceLT, Int.reduceLE, Int.reduceEq, decide_true, decide_false, eBs, cBs, F.fBs, Nat.reduceSub, Nat.reduceAdd, Nat.reduceLT, Nat.reduceEqDiff, Nat.reduceLeDiff, Nat.reduceMul, Nat.reduceBEq, Int.reduceToNat, Op.operands, if_true, if_false, reduceCtorEq, if_pos, forall_const, implies_true, eq_self, ne_eq, iff_self, heg, hel]
          refine ⟨by omega, by decide, by omega, ⟨hok, hyo.2⟩, ⟨hok.nums.2.2, hyo⟩, ⟨by omega, by omega⟩, ⟨hok, hxr⟩, ⟨⟨⟨by omega, by omega⟩, el_of hx ⟨rfl, rfl⟩⟩, hok, hxr⟩, i + 1, ⟨by omega, by omega⟩, by omega, rfl, ?_⟩
          rw [hJ]
          exact ⟨rfl, rfl, rfl, rfl, rfl, rfl, rfl, rfl⟩
    · have k2 : ((i : Int) < (B.length : Int)) = False := eq_false (by omega)
      simp (config := { maxSteps := 4000000 }) only [le_eq, g1, h20, k1, hI, boxN_eq, hlc, hcel, bt, btl, hp, Rec.em, Inb.em, h19Take, cInb_dec, cRec_dec, Inb.eta, Rec.eta, hst, tknE, hwi, n0, nJ, k2, Int.toNat_natCast, Int.reduceToNat, Int.reduceLT, Int.reduceLE, Int.reduceEq, decide_true, decide_false, eBs, cBs, F.fBs, Nat.reduceSub, Nat.reduceAdd, Nat.reduceLT, Nat.reduceEqDiff, Nat.reduceLeDiff, Nat.reduceMul, Nat.reduceBEq, Int.reduceToNat, Op.operands, if_true, if_false, reduceCtorEq, if_pos, forall_const, implies_true, eq_self, ne_eq, iff_self, heg, hel]
      refine ⟨by omega, by decide, ⟨by omega, by omega⟩, ⟨hok, hxr⟩, ⟨⟨⟨by omega, by omega⟩, el_of hx ⟨rfl, rfl⟩⟩, hok, hxr⟩, i + 1, ⟨by omega, by omega⟩, by omega, rfl, ?_⟩
      rw [hJ]
      exact ⟨rfl, rfl, rfl, rfl, rfl, rfl, rfl, rfl⟩
end Go.PE
