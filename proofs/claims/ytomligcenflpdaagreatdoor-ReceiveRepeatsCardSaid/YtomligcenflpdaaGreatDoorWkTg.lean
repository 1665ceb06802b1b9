/- Law 19: ReceiveRepeats. -/
import Derived.Test.YtomligcenflpdaaGreatDoorWkTm
import Derived.Test.YtomligcenflpdaaGreatDoorPeZd
import Derived.Test.YtomligcenflpdaaGreatDoorWkTv
set_option linter.unusedVariables false
set_option linter.defProp false
set_option linter.all false
set_option linter.unusedSimpArgs false
set_option maxRecDepth 10000
set_option maxHeartbeats 4000000
namespace Go.PE
open Go Go.Proofs

-- facts on [3]uint8 (type 50 of the seat of rows 26-28), which the filtered facts lacked
theorem f50a : kd? Tryz.prog 50 = 4 := by kernel_rfl
theorem f50b : ty? Tryz.prog 50 = some (true, 3) := by kernel_rfl
theorem f50c : sl? Tryz.prog 50 = none := by kernel_rfl
theorem f50d : ar? Tryz.prog 50 = some (3, 1) := by kernel_rfl
theorem f50e : zero? Tryz.prog 50 = some [.d (.int .u8 (0)), .d (.int .u8 (0)), .d (.int .u8 (0))] := by kernel_rfl
def hRepeats : Det := det3 cRaws (c3 .u8) cRaw (fun l p y => (∀ x ∈ l, x.ok) ∧ range3 .u8 p ∧ y.ok) fun _ _ _ => .d (.bool true)
theorem f_ReceiveRepeats : FPure Tryz.prog 4 hRepeats.spec := by
  refine FPure.runLate [(6, .det hTrue19), (8, .det hList), (15, .det hMade), (7, .det hMake), (12, .det h19Take), (11, .det hSameT)] (fun i => if i = 8 then [(0, (false, [])), (1, (false, [])), (2, (false, [])), (3, (false, [])), (4, (false, [])), (5, (false, [])), (6, (true, [0, 1, 2, 3, 4, 5])), (7, (true, []))] else if i = 13 then [(0, (false, [])), (1, (false, [])), (2, (false, [])), (3, (false, [])), (4, (false, [])), (5, (false, [])), (6, (false, [])), (7, (false, [])), (8, (true, [0, 1, 2, 3, 4, 5, 6, 7])), (9, (true, [0, 1, 2, 3, 4, 5, 6, 7])), (10, (true, [4, 5, 6, 7])), (11, (true, []))] else if i = 15 then [(0, (false, [])), (1, (false, [])), (3, (false, [])), (4, (false, [])), (2, (true, [3, 4])), (5, (true, [3])), (6, (false, []))] else if i = 25 then [(0, (false, [])), (1, (false, [])), (2, (false, [])), (3, (false, [])), (4, (false, [])), (5, (false, [])), (6, (false, [])), (7, (false, []))] else if i = 27 then [(0, (false, [])), (1, (false, [])), (3, (false, [])), (4, (false, [])), (5, (false, [])), (2, (true, [3, 4, 5])), (6, (true, [3, 4])), (7, (false, [])), (8, (false, [])), (9, (false, [])), (10, (true, []))] else []) (by
    intro p hp
    simp only [List.mem_cons, List.not_mem_nil, or_false] at hp
    rcases hp with rfl | rfl | rfl | rfl | rfl | rfl
    · exact f_19sanity
    · exact f_05List
    · exact f_05Made
    · exact f_18Make
    · exact f_law19take
    · exact f_law19same) F.mixed Tryz.func4 (by kernel_rfl) rfl 109 Tryz.ntmps4 (by kernel_rfl) [.tmp 6] Tryz.results4 ?_
  intro ds K hl hs
  obtain ⟨l, ⟨a, b, c⟩, y, rfl, ⟨ho, ⟨⟨ha1, ha2⟩, ⟨hb1, hb2⟩, ⟨hc1, hc2⟩⟩, hy⟩, hK⟩ := det3_elim hs
  simp only at ha1 ha2 hb1 hb2 hc1 hc2
  have hv := list_valid (n := 8) ho
  have hn := list_len l 8
  have t8 : Int.toNat 8 = 8 := rfl
  rw [t8] at hn
  have hlM : (listF l 8).length ≤ 1000000 := by omega
  have mo := make_ok q1 q2 hlM hv
  have mr := make_range q1 q2 hlM hv
  have ml := make_len 1 2 (listF l 8)
  have wa : IntKind.i64.wrap a = a := wrap_i64' (by omega) (by omega)
  have wb : IntKind.i64.wrap b = b := wrap_i64' (by omega) (by omega)
  have wc : IntKind.u64.wrap c = c := wrap_u64n ⟨by omega, by omega⟩
  have hyv := made_ok hy
  generalize hM : listF l 8 = M at *
  obtain ⟨L, hL⟩ : ∃ L, makeF 1 2 M = L := ⟨_, rfl⟩
  have hL0 : (0 : Int) < L.length := by rw [← hL, ml]; omega
  obtain ⟨n0, hnn⟩ := Int.eq_ofNat_of_zero_le (Int.tmod_nonneg (L.length : Int) ha1)
  have hn1 := Int.tmod_lt_of_pos a hL0
  rw [hL] at ml mo mr
  obtain ⟨n, hn0⟩ : ∃ n, n0 + 1 = n := ⟨_, rfl⟩
  have hnw : IntKind.i64.wrap (1 + (n0 : Int)) = (n : Int) := by rw [wrap_i64' (by omega) (by omega)]; omega
  have hln : n ≤ L.length := by omega
  have hnp : (0 : Int) < n := by omega
  obtain ⟨k, hkk⟩ := Int.eq_ofNat_of_zero_le (Int.tmod_nonneg (n : Int) hb1)
  have hk1 := Int.tmod_lt_of_pos b hnp
  have n3 : ((3 : Nat) : Int) = 3 := rfl
  have yr : cRaw.enc y = .agg [.int .u8 y.x0, .int .u8 y.x1, .int .u8 y.x2, .int .u8 y.x3, .int .u8 y.x4, .int .u8 y.x5] := rfl
  have yd : cRaw.dec (.agg [.int .u8 y.x0, .int .u8 y.x1, .int .u8 y.x2, .int .u8 y.x3, .int .u8 y.x4, .int .u8 y.x5]) = some y := cRaw.de y
  simp (config := { maxSteps := 4000000 }) only [hTrue19, det0_eq, c3_enc, yr, cRaws_enc, cRaws_dec, cMsgs_dec, hList, hMake, hM, hL, wa, hnn, hnw, n3, Int.reduceLT, Int.reduceLE, f50a, f50b, f50c, f50d, f50e, eBs, cBs, F.fBs, Nat.reduceSub, Nat.reduceAdd, Nat.reduceLT, Nat.reduceEqDiff, Nat.reduceLeDiff, Nat.reduceMul, Nat.reduceBEq, Int.reduceToNat, Op.operands, if_true, if_false, reduceCtorEq, if_pos, forall_const, implies_true, eq_self, ne_eq]
  refine ⟨ho, ⟨q1, q2, by omega, hv⟩, by omega, ?_⟩
  have hbx : boxN (inbAt 1 2 M 0) = [.d (.bool false), .d (.bool false), .d (.int .i64 0), .d (.int .i64 0), .d (.int .u64 0), .d (.int .u64 0), .d (.int .u64 0), .d (.list [])] := rfl
  refine eK_rounds [4, 5, 6, 7, 8, 9, 10] (fun i : Nat => i ≤ n) (fun i => [(11, .d (.int .i64 i))]) (fun i => [(2, boxN (inbAt 1 2 M i))]) (fun _ => []) (fun i => n - i) 0 (Nat.zero_le _) ?_ ?_
  · simp [le_eq, St.head, keepT, setAll, leV, leB, leR, leR0, idsR, idsL, idsA, idsB, hbx]
  intro i hi
  have hwi : IntKind.i64.wrap ((i : Int) + 1) = ((i + 1 : Nat) : Int) := by rw [wrap_i64' (by omega) (by omega)]; rfl
  have hok : okI (inbAt 1 2 M i) := inbAt_ok q1 q2 hlM hv i (by omega)
  rcases Nat.lt_or_ge i n with hlt | hge
  · have h3 : ((i : Int) < n) = True := eq_true (by omega)
    have hx : L[i]? = some L[i] := List.getElem?_eq_getElem (by omega)
    have hxr := mr _ (List.getElem_mem (show i < L.length by omega))
    have hst := take_step (i := i) (x := L[i]) q1 q2 hlM hv (by rw [hL]; exact hx)
    generalize L[i] = x at hx hxr hst
    have heg := @eGn Rec Rec.enc L i x hx
    obtain ⟨I, hI⟩ : ∃ I, inbAt 1 2 M i = I := ⟨_, rfl⟩
    obtain ⟨J, hJ⟩ : ∃ J, inbAt 1 2 M (i + 1) = J := ⟨_, rfl⟩
    rw [hI] at hok
    rw [hI, hJ] at hst
    have n0 : (¬ (0 : Int) = 0) = False := eq_false (fun h => h rfl)
    simp (config := { maxSteps := 4000000 }) only [le_eq, h3, hI, boxN_eq, Rec.em, h19Take, cInb_dec, cRec_dec, Inb.eta, Rec.eta, hst, tknE, hwi, n0, f50a, f50b, f50c, f50d, f50e, eBs, cBs, F.fBs, Nat.reduceSub, Nat.reduceAdd, Nat.reduceLT, Nat.reduceEqDiff, Nat.reduceLeDiff, Nat.reduceMul, Nat.reduceBEq, Int.reduceToNat, Op.operands, if_true, if_false, reduceCtorEq, if_pos, forall_const, implies_true, eq_self, ne_eq, heg]
    refine ⟨⟨by omega, by omega⟩, ⟨hok, hxr⟩, ⟨⟨⟨by omega, by omega⟩, el_of hx ⟨rfl, rfl⟩⟩, hok, hxr⟩, i + 1, by omega, by omega, rfl, ?_⟩
    rw [hJ]
    exact ⟨rfl, rfl, rfl, rfl, rfl, rfl, rfl, rfl⟩
  · have : i = n := by omega
    subst this
    have h3 : ((i : Int) < i) = False := eq_false (by omega)
    have hki : k < i := by omega
    have hkL : k < L.length := by omega
    have hx : L[k]? = some L[k] := List.getElem?_eq_getElem hkL
    have hxo := mo _ (List.getElem_mem hkL)
    have hxr := mr _ (List.getElem_mem hkL)
    have hmx : (makeF 1 2 M)[k]? = some L[k] := by rw [hL]; exact hx
    have hin : i ≤ M.length + 2 := by omega
    have hag := again_same q1 q2 hlM hv hmx hki hin
    have hkd := make_kind hmx
    have hsame := hag (IntKind.u64.wrap ((L[k]).check + c))
    generalize L[k] = x at hx hxo hxr hmx hag hkd hsame
    have heg := @eGn Rec Rec.enc L k x hx
    obtain ⟨I, hI⟩ : ∃ I, inbAt 1 2 M i = I := ⟨_, rfl⟩
    rw [hI] at hok hag hsame
    obtain ⟨m, hm⟩ : ∃ m, madeF y = m := ⟨_, rfl⟩
    rw [hm] at hyv
    have hs1 : takeF I ⟨x.kind, x.seq, x.count, x.src, x.dst, ⟨x.msg.kind, x.msg.key, x.msg.value, x.msg.lo, x.msg.hi, x.msg.fr, x.msg.to, x.msg.n⟩, IntKind.u64.wrap (x.check + c)⟩ = (I, 0) := hsame
    have hrc : rangeR ⟨x.kind, x.seq, x.count, x.src, x.dst, ⟨x.msg.kind, x.msg.key, x.msg.value, x.msg.lo, x.msg.hi, x.msg.fr, x.msg.to, x.msg.n⟩, IntKind.u64.wrap (x.check + c)⟩ := okRw x _ hxr ⟨by rw [IntKind.wrap_u64]; omega, by rw [IntKind.wrap_u64]; omega⟩
    have n0 : (¬ (0 : Int) = 0) = False := eq_false (fun h => h rfl)
    have b1 : (0 : Int) ≤ k ∧ (k : Int) < (L.length : Int) := ⟨by omega, by omega⟩
    have bn : ¬ ((i : Int) = 0) := by omega
    have d1 : (0 : Int) ≤ 1 ∧ (1 : Int) < ((3 : Nat) : Int) := ⟨by decide, by decide⟩
    have d2 : (0 : Int) ≤ 2 ∧ (2 : Int) < ((3 : Nat) : Int) := ⟨by decide, by decide⟩
    have b4 : (0 : Int) ≤ b := hb1
    rcases hkd with ⟨hk', hk0⟩ | ⟨hk', hk2, hk3⟩ | ⟨hk', hk2⟩
    · have g1 : (x.kind = 1) = True := eq_true hk'
      have hmx0 : (makeF 1 2 M)[0]? = some x := by rw [← hk0]; exact hmx
      have hd2 : x.dst = 2 := by obtain ⟨_, _, _, _, hh0, _⟩ := make_facts q1 q2 hlM hv hmx0; rw [hh0 rfl]; rfl
      have hh := again_head q1 q2 hlM hv hmx0 (show 0 < i by omega) hin (x.dst + c)
      rw [hI] at hh
      have hdw : IntKind.u64.wrap (x.dst + c) = x.dst + c := wrap_u64n ⟨by omega, by omega⟩
      have hrd : rangeR ⟨x.kind, x.seq, x.count, x.src, x.dst + c, ⟨x.msg.kind, x.msg.key, x.msg.value, x.msg.lo, x.msg.hi, x.msg.fr, x.msg.to, x.msg.n⟩, x.check⟩ := ⟨hxr.1, ⟨by show 0 ≤ x.dst + c; omega, by show x.dst + c < 18446744073709551616; omega⟩, hxr.2.2⟩
      by_cases hc0 : c = 0
      · have g3 : (0 < c) = False := eq_false (by omega)
        have hs2 : takeF I ⟨x.kind, x.seq, x.count, x.src, x.dst + c, ⟨x.msg.kind, x.msg.key, x.msg.value, x.msg.lo, x.msg.hi, x.msg.fr, x.msg.to, x.msg.n⟩, x.check⟩ = (I, 0) := by rw [if_pos (by omega)] at hh; exact hh
        simp (config := { maxSteps := 4000000 }) only [le_eq, h3, hI, boxN_eq, wb, wc, hkk, g1, g3, gt_iff_lt, Rec.em, Inb.em, Msg.enc, h19Take, hMade, hm, yd, cInb_dec, cRec_dec, Inb.eta, Rec.eta, hs1, hdw, hs2, tknE, hSameT, cTkn_dec, Int.toNat_natCast, decide_true, decide_false, f50a, f50b, f50c, f50d, f50e, eBs, cBs, F.fBs, Nat.reduceSub, Nat.reduceAdd, Nat.reduceLT, Nat.reduceEqDiff, Nat.reduceLeDiff, Nat.reduceMul, Nat.reduceBEq, Int.reduceToNat, Op.operands, if_true, if_false, reduceCtorEq, if_pos, forall_const, implies_true, eq_self, ne_eq, heg]
        clear hs hl heg hag
        exact ⟨d1, bn, b1, b1, ⟨b1, el_of hx ⟨rfl, rfl⟩⟩, ⟨b1, el_of hx ⟨rfl, rfl⟩⟩, ⟨b1, el_of hx ⟨rfl, rfl⟩⟩, d2, ⟨hok, hrc⟩, d2, d2, ⟨hok, hrd⟩, hK⟩
      · have g3 : (0 < c) = True := eq_true (by omega)
        have hs2 : takeF I ⟨x.kind, x.seq, x.count, x.src, x.dst + c, ⟨x.msg.kind, x.msg.key, x.msg.value, x.msg.lo, x.msg.hi, x.msg.fr, x.msg.to, x.msg.n⟩, x.check⟩ = (I, 192) := by rw [if_neg (by omega)] at hh; exact hh
        simp (config := { maxSteps := 4000000 }) only [le_eq, h3, hI, boxN_eq, wb, wc, hkk, g1, g3, gt_iff_lt, Rec.em, Inb.em, Msg.enc, h19Take, hMade, hm, yd, cInb_dec, cRec_dec, Inb.eta, Rec.eta, hs1, hdw, hs2, tknE, hSameT, cTkn_dec, Int.toNat_natCast, decide_true, decide_false, f50a, f50b, f50c, f50d, f50e, eBs, cBs, F.fBs, Nat.reduceSub, Nat.reduceAdd, Nat.reduceLT, Nat.reduceEqDiff, Nat.reduceLeDiff, Nat.reduceMul, Nat.reduceBEq, Int.reduceToNat, Op.operands, if_true, if_false, reduceCtorEq, if_pos, forall_const, implies_true, eq_self, ne_eq, heg]
        clear hs hl heg hag
        exact ⟨d1, bn, b1, b1, ⟨b1, el_of hx ⟨rfl, rfl⟩⟩, ⟨b1, el_of hx ⟨rfl, rfl⟩⟩, ⟨b1, el_of hx ⟨rfl, rfl⟩⟩, d2, ⟨hok, hrc⟩, d2, d2, ⟨hok, hrd⟩, hK⟩
    · have g1 : (x.kind = 1) = False := eq_false (by omega)
      have g2 : (x.kind = 2) = True := eq_true hk'
      have hh := again_body q1 q2 hlM hv hmx hki hin hk2 hk3 hyv
      rw [hI] at hh
      have hrm : rangeR ⟨x.kind, x.seq, x.count, x.src, x.dst, ⟨m.kind, m.key, m.value, m.lo, m.hi, m.fr, m.to, m.n⟩, x.check⟩ := hxr
      by_cases hmm : m = x.msg
      · have g3 : (m = x.msg) = True := eq_true hmm
        have hs2 : takeF I ⟨x.kind, x.seq, x.count, x.src, x.dst, ⟨m.kind, m.key, m.value, m.lo, m.hi, m.fr, m.to, m.n⟩, x.check⟩ = (I, 0) := by rw [if_pos hmm] at hh; exact hh
        simp (config := { maxSteps := 4000000 }) only [le_eq, h3, hI, boxN_eq, wb, wc, hkk, g1, g2, Rec.em, Inb.em, Msg.enc, h19Take, hMade, hm, yd, cInb_dec, cRec_dec, Inb.eta, Rec.eta, hs1, Msg.eqB, g3, hs2, tknE, hSameT, cTkn_dec, Int.toNat_natCast, decide_true, decide_false, f50a, f50b, f50c, f50d, f50e, eBs, cBs, F.fBs, Nat.reduceSub, Nat.reduceAdd, Nat.reduceLT, Nat.reduceEqDiff, Nat.reduceLeDiff, Nat.reduceMul, Nat.reduceBEq, Int.reduceToNat, Op.operands, if_true, if_false, reduceCtorEq, if_pos, forall_const, implies_true, eq_self, ne_eq, heg]
        clear hs hl heg hag
        exact ⟨d1, bn, b1, b1, ⟨b1, el_of hx ⟨rfl, rfl⟩⟩, ⟨b1, el_of hx ⟨rfl, rfl⟩⟩, ⟨b1, el_of hx ⟨rfl, rfl⟩⟩, d2, ⟨hok, hrc⟩, hy, b1, ⟨hok, hrm⟩, hK⟩
      · have g3 : (m = x.msg) = False := eq_false hmm
        have hs2 : takeF I ⟨x.kind, x.seq, x.count, x.src, x.dst, ⟨m.kind, m.key, m.value, m.lo, m.hi, m.fr, m.to, m.n⟩, x.check⟩ = (I, 192) := by rw [if_neg hmm] at hh; exact hh
        simp (config := { maxSteps := 4000000 }) only [le_eq, h3, hI, boxN_eq, wb, wc, hkk, g1, g2, Rec.em, Inb.em, Msg.enc, h19Take, hMade, hm, yd, cInb_dec, cRec_dec, Inb.eta, Rec.eta, hs1, Msg.eqB, g3, hs2, tknE, hSameT, cTkn_dec, Int.toNat_natCast, decide_true, decide_false, f50a, f50b, f50c, f50d, f50e, eBs, cBs, F.fBs, Nat.reduceSub, Nat.reduceAdd, Nat.reduceLT, Nat.reduceEqDiff, Nat.reduceLeDiff, Nat.reduceMul, Nat.reduceBEq, Int.reduceToNat, Op.operands, if_true, if_false, reduceCtorEq, if_pos, forall_const, implies_true, eq_self, ne_eq, heg]
        clear hs hl heg hag
        exact ⟨d1, bn, b1, b1, ⟨b1, el_of hx ⟨rfl, rfl⟩⟩, ⟨b1, el_of hx ⟨rfl, rfl⟩⟩, ⟨b1, el_of hx ⟨rfl, rfl⟩⟩, d2, ⟨hok, hrc⟩, hy, b1, ⟨hok, hrm⟩, hK⟩
    · have g1 : (x.kind = 1) = False := eq_false (by omega)
      have g2 : (x.kind = 2) = False := eq_false (by omega)
      have hs2 := hag x.check
      have hs3 : takeF I x = (I, 0) := hs2
      simp (config := { maxSteps := 4000000 }) only [le_eq, h3, hI, boxN_eq, wb, wc, hkk, g1, g2, Rec.em, Inb.em, Msg.enc, h19Take, hMade, hm, yd, cInb_dec, cRec_dec, Inb.eta, Rec.eta, hs1, hs3, tknE, hSameT, cTkn_dec, Int.toNat_natCast, decide_true, decide_false, f50a, f50b, f50c, f50d, f50e, eBs, cBs, F.fBs, Nat.reduceSub, Nat.reduceAdd, Nat.reduceLT, Nat.reduceEqDiff, Nat.reduceLeDiff, Nat.reduceMul, Nat.reduceBEq, Int.reduceToNat, Op.operands, if_true, if_false, reduceCtorEq, if_pos, forall_const, implies_true, eq_self, ne_eq, heg]
      clear hs hl heg hag
      exact ⟨d1, bn, b1, b1, ⟨b1, el_of hx ⟨rfl, rfl⟩⟩, ⟨b1, el_of hx ⟨rfl, rfl⟩⟩, ⟨b1, el_of hx ⟨rfl, rfl⟩⟩, d2, ⟨hok, hrc⟩, ⟨hok, hxr⟩, hK⟩
end Go.PE
