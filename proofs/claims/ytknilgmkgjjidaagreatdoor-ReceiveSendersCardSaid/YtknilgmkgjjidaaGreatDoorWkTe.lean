/- WkTe: what the laws need of it. -/
import Derived.Test.YtknilgmkgjjidaaGreatDoorWkTd
set_option linter.unusedVariables false
set_option linter.defProp false
set_option linter.all false
set_option linter.unusedSimpArgs false
set_option maxRecDepth 100000
set_option maxHeartbeats 4000000
namespace Go.PE
open Go Go.Proofs

def takeA (q : Inb × Int) : AV := .tup [.d (.agg q.1.enc), .d (.int .i64 q.2)]
def hRTake : Det := det2 cInb cRec (fun x r => okI x ∧ rangeR r) fun x r => takeA (takeF x r)
theorem f_recvTake : FPure Tryz.prog 20 hRTake.spec := by
  refine FPure.runL [(40, .det hRValid), (41, .mem hLike), (42, .mem hChecks), (43, .det hClipD)] (fun i => if i = 14 then [(0, (false, [])), (1, (false, [])), (2, (false, [])), (3, (false, [])), (4, (false, [])), (5, (false, [])), (6, (false, [])), (7, (false, [])), (8, (false, [])), (9, (false, [])), (10, (false, [])), (11, (false, [])), (12, (false, [])), (13, (true, [1, 2, 3, 4, 5, 6, 7, 8, 9, 10, 11])), (14, (false, [])), (15, (false, [])), (16, (false, [])), (17, (true, [2, 3, 6, 7, 8, 9, 14, 15])), (18, (false, [])), (19, (false, [])), (20, (false, [])), (21, (true, [3, 8, 9, 18, 19])), (22, (false, [])), (23, (true, [])), (24, (false, [])), (25, (true, []))] else if i = 16 then [(0, (false, [])), (1, (false, [])), (2, (false, [])), (3, (false, [])), (4, (false, [])), (5, (false, [])), (6, (false, [])), (7, (false, [])), (8, (false, [])), (9, (true, [0, 1, 2, 3, 4, 5, 6, 7])), (10, (true, [0, 1, 2, 3, 4, 5, 7])), (11, (false, [])), (12, (true, [])), (13, (false, [])), (14, (true, []))] else []) (by
    intro p hp
    simp only [List.mem_cons, List.not_mem_nil, or_false] at hp
    rcases hp with rfl | rfl | rfl | rfl
    · exact f_recvValid
    · exact f_recvLike
    · exact f_recvChecks
    · exact f_clipD) F.mixed Tryz.func20 (by kernel_rfl) rfl (by kernel_rfl) 101 Tryz.ntmps20 [.cell 4 31, .tmp 5] Tryz.results20 ?_
  intro ds K hl hs
  obtain ⟨x, r, rfl, ⟨hx, hr⟩, hK⟩ := det2_elim hs
  have c7 := cInb_dec
  obtain ⟨k, sq, ct, f, t, ⟨m1, m2, m3, m4, m5, m6, m7, m8⟩, ch⟩ := r
  cases hv : validR ⟨k, sq, ct, f, t, ⟨m1, m2, m3, m4, m5, m6, m7, m8⟩, ch⟩ with
  | false =>
    unfold takeF at hK
    rw [if_pos hv] at hK
    simp (config := { maxSteps := 4000000 }) only [cInb_enc, cRec_enc, hRValid, cRec_dec, hv, takeA, Inb.em, eBs, cBs, F.fBs, Nat.reduceSub, Nat.reduceAdd, Nat.reduceLT, Nat.reduceEqDiff, Nat.reduceLeDiff, Nat.reduceMul, Nat.reduceBEq, Int.reduceToNat, Op.operands, if_true, if_false, reduceCtorEq, if_pos, forall_const, implies_true, eq_self, ne_eq, iff_self] at hK ⊢
    exact ⟨hr, hK⟩
  | true =>
    have ho1 : okR1 ⟨k, sq, ct, f, t, ⟨m1, m2, m3, m4, m5, m6, m7, m8⟩, ch⟩ := ⟨hv, hr⟩
    have hcs := validR_cases hv
    have h31 : i31P sq := seq31 hv
    have hsq0 := h31.1
    have hsq1 := h31.2
    simp only at hcs
    unfold takeF at hK
    rw [if_neg (by rw [hv]; decide)] at hK
    by_cases hop : x.op = false
    · obtain rfl := hx.zero hop
      rw [if_pos hop] at hK
      have hlt : (sq < 0) = False := eq_false (by omega)
      have h00 : ((0 : Int) < 0) = False := eq_false (by omega)
      by_cases h0 : sq = 0
      · subst h0
        rw [if_neg (by simp)] at hK
        by_cases hc : ch = (nextN 0 ⟨k, 0, ct, f, t, ⟨m1, m2, m3, m4, m5, m6, m7, m8⟩, ch⟩ : Nat)
        · rw [if_neg (fun h => h hc)] at hK
          have hck : errA (checksF ⟨false, false, 0, 0, 0, 0, 0, []⟩ ⟨k, 0, ct, f, t, ⟨m1, m2, m3, m4, m5, m6, m7, m8⟩, ch⟩) = .d .nilI := by
            unfold checksF
            rw [if_neg (by simp), if_neg (by simp), if_pos (by exact hc)]
            rfl
          have hk1 : k = 1 := by
            rcases hcs with ⟨e, -⟩ | ⟨-, e, -⟩ | ⟨-, e, -⟩
            · exact e
            · omega
            · omega
          subst hk1
          have w1 : IntKind.i64.wrap (0 + 1) = 1 := by decide
          simp (config := { maxSteps := 4000000 }) only [zeroInb, h00, List.map_nil, w1, cInb_enc, cRec_enc, hRValid, cRec_dec, hv, hLike, hChecks, hSes_eq, sesU_eq, sesU_eq0, Inb.eta, hck, hClipD, cMsgs_dec, takeA, Inb.em, eBs, cBs, F.fBs, Nat.reduceSub, Nat.reduceAdd, Nat.reduceLT, Nat.reduceEqDiff, Nat.reduceLeDiff, Nat.reduceMul, Nat.reduceBEq, Int.reduceToNat, Op.operands, if_true, if_false, reduceCtorEq, if_pos, forall_const, implies_true, eq_self, ne_eq, iff_self] at hK ⊢
          exact ⟨hr, ⟨ho1, u64z⟩, hK⟩
        · rw [if_pos hc] at hK
          have hck : errA (checksF ⟨false, false, 0, 0, 0, 0, 0, []⟩ ⟨k, 0, ct, f, t, ⟨m1, m2, m3, m4, m5, m6, m7, m8⟩, ch⟩) = .d (.iface 39 (.int .i64 192)) := by
            unfold checksF
            rw [if_neg (by simp), if_neg (by simp), if_neg (by exact hc)]
            rfl
          simp (config := { maxSteps := 4000000 }) only [zeroInb, h00, List.map_nil, cInb_enc, cRec_enc, hRValid, cRec_dec, hv, hLike, hChecks, hSes_eq, sesU_eq, sesU_eq0, Inb.eta, hck, hClipD, cMsgs_dec, takeA, Inb.em, eBs, cBs, F.fBs, Nat.reduceSub, Nat.reduceAdd, Nat.reduceLT, Nat.reduceEqDiff, Nat.reduceLeDiff, Nat.reduceMul, Nat.reduceBEq, Int.reduceToNat, Op.operands, if_true, if_false, reduceCtorEq, if_pos, forall_const, implies_true, eq_self, ne_eq, iff_self] at hK ⊢
          exact ⟨hr, ⟨ho1, u64z⟩, hK⟩
      · rw [if_pos h0] at hK
        have hck : errA (checksF ⟨false, false, 0, 0, 0, 0, 0, []⟩ ⟨k, sq, ct, f, t, ⟨m1, m2, m3, m4, m5, m6, m7, m8⟩, ch⟩) = .d (.iface 39 (.int .i64 190)) := by
          unfold checksF
          rw [if_pos (by simp; omega)]
          rfl
        simp (config := { maxSteps := 4000000 }) only [zeroInb, hlt, List.map_nil, cInb_enc, cRec_enc, hRValid, cRec_dec, hv, hLike, hChecks, hSes_eq, sesU_eq, sesU_eq0, Inb.eta, hck, hClipD, cMsgs_dec, takeA, Inb.em, eBs, cBs, F.fBs, Nat.reduceSub, Nat.reduceAdd, Nat.reduceLT, Nat.reduceEqDiff, Nat.reduceLeDiff, Nat.reduceMul, Nat.reduceBEq, Int.reduceToNat, Op.operands, if_true, if_false, reduceCtorEq, if_pos, forall_const, implies_true, eq_self, ne_eq, iff_self] at hK ⊢
        exact ⟨hr, ⟨ho1, u64z⟩, hK⟩
    · rw [if_neg hop] at hK
      have hop : x.op = true := by simpa using hop
      obtain ⟨hct, hn1, hn2, hdn, hml⟩ := hx.open_ hop
      have hct1 := hct.2
      have hcx : u64P x.check := hx.nums.2.2
      by_cases hlt : sq < x.next
      · rw [if_pos hlt] at hK
        have hlt' := eq_true hlt
        have hck := True.intro
        cases hlk : likeF x ⟨k, sq, ct, f, t, ⟨m1, m2, m3, m4, m5, m6, m7, m8⟩, ch⟩ with
        | true =>
          rw [hlk, if_pos rfl] at hK
          simp (config := { maxSteps := 4000000 }) only [hlt', hlk, cInb_enc, cRec_enc, hRValid, cRec_dec, hv, hLike, hChecks, hSes_eq, sesU_eq, sesU_eq0, Inb.eta, hck, hClipD, cMsgs_dec, takeA, Inb.em, eBs, cBs, F.fBs, Nat.reduceSub, Nat.reduceAdd, Nat.reduceLT, Nat.reduceEqDiff, Nat.reduceLeDiff, Nat.reduceMul, Nat.reduceBEq, Int.reduceToNat, Op.operands, if_true, if_false, reduceCtorEq, if_pos, forall_const, implies_true, eq_self, ne_eq, iff_self] at hK ⊢
          exact ⟨hr, ⟨hx, hop, h31⟩, hK⟩
        | false =>
          rw [hlk, if_neg (by decide)] at hK
          simp (config := { maxSteps := 4000000 }) only [hlt', hlk, cInb_enc, cRec_enc, hRValid, cRec_dec, hv, hLike, hChecks, hSes_eq, sesU_eq, sesU_eq0, Inb.eta, hck, hClipD, cMsgs_dec, takeA, Inb.em, eBs, cBs, F.fBs, Nat.reduceSub, Nat.reduceAdd, Nat.reduceLT, Nat.reduceEqDiff, Nat.reduceLeDiff, Nat.reduceMul, Nat.reduceBEq, Int.reduceToNat, Op.operands, if_true, if_false, reduceCtorEq, if_pos, forall_const, implies_true, eq_self, ne_eq, iff_self] at hK ⊢
          exact ⟨hr, ⟨hx, hop, h31⟩, hK⟩
      have hlt' := eq_false hlt
      rw [if_neg hlt] at hK
      by_cases hod : x.next < sq ∨ x.done = true
      · rw [if_pos hod] at hK
        have hck : errA (checksF x ⟨k, sq, ct, f, t, ⟨m1, m2, m3, m4, m5, m6, m7, m8⟩, ch⟩) = .d (.iface 39 (.int .i64 190)) := by
          unfold checksF
          rw [if_pos (by
            rcases hod with h | h
            · rw [decide_eq_false (show ¬ sq ≤ x.next by omega)]
              rfl
            · rw [h]
              simp)]
          rfl
        simp (config := { maxSteps := 4000000 }) only [hlt', cInb_enc, cRec_enc, hRValid, cRec_dec, hv, hLike, hChecks, hSes_eq, sesU_eq, sesU_eq0, Inb.eta, hck, hClipD, cMsgs_dec, takeA, Inb.em, eBs, cBs, F.fBs, Nat.reduceSub, Nat.reduceAdd, Nat.reduceLT, Nat.reduceEqDiff, Nat.reduceLeDiff, Nat.reduceMul, Nat.reduceBEq, Int.reduceToNat, Op.operands, if_true, if_false, reduceCtorEq, if_pos, forall_const, implies_true, eq_self, ne_eq, iff_self] at hK ⊢
        exact ⟨hr, ⟨ho1, hcx⟩, hK⟩
      rw [if_neg hod] at hK
      have hdf : x.done = false := by
        cases hd : x.done with
        | false => rfl
        | true => exact absurd (.inr hd) hod
      have hle : sq ≤ x.next := by
        refine Classical.byContradiction fun h => hod (.inl ?_)
        omega
      have hgo : (decide (sq ≤ x.next) && !x.done) = true := by rw [decide_eq_true hle, hdf]; rfl
      have hwn : IntKind.i64.wrap (x.next + 1) = x.next + 1 := wrap_i64' (by omega) (by omega)
      by_cases hfc : fitsF x ⟨k, sq, ct, f, t, ⟨m1, m2, m3, m4, m5, m6, m7, m8⟩, ch⟩ = true ∧ ch = (nextN x.check.toNat ⟨k, sq, ct, f, t, ⟨m1, m2, m3, m4, m5, m6, m7, m8⟩, ch⟩ : Nat)
      · rw [if_pos hfc] at hK
        have hck : errA (checksF x ⟨k, sq, ct, f, t, ⟨m1, m2, m3, m4, m5, m6, m7, m8⟩, ch⟩) = .d .nilI := by
          unfold checksF
          rw [if_neg (by rw [show (decide (sq ≤ x.next) && !x.done) = true from hgo]; decide), if_neg (by rw [hfc.1]; simp), if_pos hfc.2]
          rfl
        have hft := hfc.1
        unfold fitsF at hft
        by_cases hb : sq ≤ x.count
        · rw [if_pos hb] at hK hft
          have hk2 : k = 2 := by simpa using hft
          subst hk2
          have hM : [[D.int .i64 m1, D.str m2, D.str m3, D.str m4, D.str m5, D.str m6, D.str m7, D.int .i64 m8]] = [⟨m1, m2, m3, m4, m5, m6, m7, m8⟩].map Msg.enc := rfl
          simp (config := { maxSteps := 4000000 }) only [hlt', hwn, hM, Int.reduceEq, cInb_enc, cRec_enc, hRValid, cRec_dec, hv, hLike, hChecks, hSes_eq, sesU_eq, sesU_eq0, Inb.eta, hck, hClipD, cMsgs_dec, takeA, Inb.em, eBs, cBs, F.fBs, Nat.reduceSub, Nat.reduceAdd, Nat.reduceLT, Nat.reduceEqDiff, Nat.reduceLeDiff, Nat.reduceMul, Nat.reduceBEq, Int.reduceToNat, Op.operands, if_true, if_false, reduceCtorEq, if_pos, forall_const, implies_true, eq_self, ne_eq, iff_self] at hK ⊢
          rw [List.map_append, List.map_cons, List.map_nil] at hK
          exact ⟨hr, ⟨ho1, hcx⟩, ⟨fun _ _ => rfl, by omega⟩, hK⟩
        · rw [if_neg hb] at hK hft
          have hk3 : k = 3 := by
            simp only [Bool.and_eq_true, decide_eq_true_eq] at hft
            exact hft.1
          subst hk3
          simp (config := { maxSteps := 4000000 }) only [hlt', hwn, Int.reduceEq, cInb_enc, cRec_enc, hRValid, cRec_dec, hv, hLike, hChecks, hSes_eq, sesU_eq, sesU_eq0, Inb.eta, hck, hClipD, cMsgs_dec, takeA, Inb.em, eBs, cBs, F.fBs, Nat.reduceSub, Nat.reduceAdd, Nat.reduceLT, Nat.reduceEqDiff, Nat.reduceLeDiff, Nat.reduceMul, Nat.reduceBEq, Int.reduceToNat, Op.operands, if_true, if_false, reduceCtorEq, if_pos, forall_const, implies_true, eq_self, ne_eq, iff_self] at hK ⊢
          exact ⟨hr, ⟨ho1, hcx⟩, hK⟩
      · rw [if_neg hfc] at hK
        have hck : errA (checksF x ⟨k, sq, ct, f, t, ⟨m1, m2, m3, m4, m5, m6, m7, m8⟩, ch⟩) = .d (.iface 39 (.int .i64 192)) := by
          unfold checksF
          rw [if_neg (by rw [show (decide (sq ≤ x.next) && !x.done) = true from hgo]; decide)]
          split
          · rfl
          · rename_i hf2
            rw [if_neg (fun h => hfc ⟨?_, h⟩)]
            · rfl
            · rw [hop] at hf2
              simpa using hf2
        simp (config := { maxSteps := 4000000 }) only [hlt', cInb_enc, cRec_enc, hRValid, cRec_dec, hv, hLike, hChecks, hSes_eq, sesU_eq, sesU_eq0, Inb.eta, hck, hClipD, cMsgs_dec, takeA, Inb.em, eBs, cBs, F.fBs, Nat.reduceSub, Nat.reduceAdd, Nat.reduceLT, Nat.reduceEqDiff, Nat.reduceLeDiff, Nat.reduceMul, Nat.reduceBEq, Int.reduceToNat, Op.operands, if_true, if_false, reduceCtorEq, if_pos, forall_const, implies_true, eq_self, ne_eq, iff_self] at hK ⊢
        exact ⟨hr, ⟨ho1, hcx⟩, hK⟩
end Go.PE
