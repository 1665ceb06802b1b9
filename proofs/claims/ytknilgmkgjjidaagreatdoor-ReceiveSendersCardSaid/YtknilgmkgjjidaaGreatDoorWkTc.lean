/- WkTc: what the laws need of it. -/
import Derived.Test.YtknilgmkgjjidaaGreatDoorWkTe
import Derived.Test.YtknilgmkgjjidaaGreatDoorWkZa
set_option linter.unusedVariables false
set_option linter.defProp false
set_option linter.all false
set_option linter.unusedSimpArgs false
set_option maxRecDepth 100000
set_option maxHeartbeats 4000000
namespace Go.PE
open Go Go.Proofs

def hSameMs : Det := det2 cMsgs cMsgs (fun _ _ => True) fun a b => .d (.bool (decide (a = b)))
theorem f_05SameMsgs : FPure Tryz.prog 10 hSameMs.spec := by
  refine FPure.runL [] (fun i => if i = 6 then [(0, (false, [])), (1, (false, [])), (2, (false, [])), (3, (false, [])), (4, (false, [])), (5, (false, [])), (6, (false, [])), (7, (false, [])), (8, (false, []))] else []) (by simp) F.mixed Tryz.func10 (by kernel_rfl) rfl (by kernel_rfl) 26 Tryz.ntmps10 [.tmp 4] Tryz.results10 ?_
  intro ds K hl hs
  obtain ⟨a, b, rfl, -, hK⟩ := det2_elim hs
  obtain ⟨la, hl⟩ := lensOk_cons_list _ _ hl
  simp only [List.length_map] at la
  simp only [cMsgs_enc, eBs, cBs, F.fBs, Nat.reduceSub, Nat.reduceAdd, Nat.reduceLT, Nat.reduceEqDiff, Nat.reduceLeDiff, Nat.reduceMul, Nat.reduceBEq, Int.reduceToNat, Op.operands, if_true, if_false, reduceCtorEq, if_pos, forall_const, implies_true, eq_self, ne_eq, iff_self]
  refine ⟨fun h => ?_, fun h => ?_⟩
  · have : a ≠ b := fun e => by subst e; simp at h
    simpa [this] using hK
  have hlen : a.length = b.length := by omega
  refine eK_rounds [0, 1, 4] (fun i => i ≤ a.length ∧ ∀ j, j < i → a[j]? = b[j]?) (fun i => [(5, .d (.int .i64 i))]) (fun _ => []) (fun _ => []) (fun i => a.length - i) 0 ⟨Nat.zero_le _, fun j hj => absurd hj (Nat.not_lt_zero _)⟩ ?_ ?_
  · simp [le_eq, St.head, keepT, setAll, leV, leB, leR, leR0, idsR, idsL, idsA, idsB]
  intro i hi
  simp only [le_eq, eBs, cBs, F.fBs, Nat.reduceSub, Nat.reduceAdd, Nat.reduceLT, Nat.reduceEqDiff, Nat.reduceLeDiff, Nat.reduceMul, Nat.reduceBEq, Int.reduceToNat, Op.operands, if_true, if_false, reduceCtorEq, if_pos, forall_const, implies_true, eq_self, ne_eq, iff_self]
  refine ⟨fun h1 => ⟨by omega, ?_⟩, fun h1 => ?_⟩
  · refine eG_map _ _ _ _ _ _ ⟨fun _ => rfl, ?_⟩
    simp only [le_eq, Msg.enc, eBs, cBs, F.fBs, Nat.reduceSub, Nat.reduceAdd, Nat.reduceLT, Nat.reduceEqDiff, Nat.reduceLeDiff, Nat.reduceMul, Nat.reduceBEq, Int.reduceToNat, Op.operands, if_true, if_false, reduceCtorEq, if_pos, forall_const, implies_true, eq_self, ne_eq, iff_self]
    refine ⟨by omega, ?_⟩
    refine eG_map _ _ _ _ _ _ ⟨fun _ => rfl, ?_⟩
    simp only [le_eq, Msg.enc, Msg.eqB, eBs, cBs, F.fBs, Nat.reduceSub, Nat.reduceAdd, Nat.reduceLT, Nat.reduceEqDiff, Nat.reduceLeDiff, Nat.reduceMul, Nat.reduceBEq, Int.reduceToNat, Op.operands, if_true, if_false, reduceCtorEq, if_pos, forall_const, implies_true, eq_self, ne_eq, iff_self]
    have ha : a[i]? = some (a.getD i default) := by simp [List.getD, show i < a.length by omega]
    have hb : b[i]? = some (b.getD i default) := by simp [List.getD, show i < b.length by omega]
    refine ⟨fun h => ?_, fun h => ⟨i + 1, ⟨by omega, fun j hj => ?_⟩, by omega, ?_⟩⟩
    · have : a ≠ b := fun e => by subst e; exact h rfl
      simpa [this] using hK
    · rcases Nat.lt_or_ge j i with h2 | h2
      · exact hi.2 j h2
      · have : j = i := by omega
        subst this
        rw [ha, hb, h]
    · rw [wrap_i64' (by omega) (by omega)]; rfl
  · have : a = b := by
      apply List.ext_getElem?
      intro j
      rcases Nat.lt_or_ge j i with h2 | h2
      · exact hi.2 j h2
      · rw [List.getElem?_eq_none (by omega), List.getElem?_eq_none (by omega)]
    simpa [this] using hK

theorem Inb.eqB (a b : Inb) : (decide (a.op = b.op) && (decide (a.done = b.done) && (decide (a.count = b.count) && (decide (a.next = b.next) && (decide (a.src = b.src) && (decide (a.dst = b.dst) && (decide (a.check = b.check) && decide (a.msgs = b.msgs)))))))) = decide (a = b) := by
  cases a; cases b
  simp only [Inb.mk.injEq]
  simp [Bool.decide_and]
def h19Same : Det := det2 cInb cInb (fun _ _ => True) fun a b => .d (.bool (decide (a = b)))
theorem f_19Same : FPure Tryz.prog 11 h19Same.spec := by
  refine FPure.runL [(10, .det hSameMs)] (fun _ => []) (by
    intro p hp
    simp only [List.mem_cons, List.not_mem_nil, or_false] at hp
    subst hp
    exact f_05SameMsgs) F.mixed Tryz.func11 (by kernel_rfl) rfl (by kernel_rfl) 59 Tryz.ntmps11 [.tmp 4] Tryz.results11 ?_
  intro ds K hl hs
  obtain ⟨a, b, rfl, -, hK⟩ := det2_elim hs
  rw [← Inb.eqB] at hK
  obtain ⟨o, e, c, n, f, t, h, l⟩ := a
  obtain ⟨o', e', c', n', f', t', h', l'⟩ := b
  have hb : ∀ a b : Bool, (a == b) = decide (a = b) := by decide
  simp (config := { maxSteps := 4000000 }) only [cInb_enc, hSameMs, cMsgs_dec, eBs, cBs, F.fBs, Nat.reduceSub, Nat.reduceAdd, Nat.reduceLT, Nat.reduceEqDiff, Nat.reduceLeDiff, Nat.reduceMul, Nat.reduceBEq, Int.reduceToNat, Op.operands, if_true, if_false, reduceCtorEq, if_pos, forall_const, implies_true, eq_self, ne_eq, iff_self] at hK ⊢
  simp only [hb]
  exact hK
/-- An inbox with an error. -/
def tknE (q : Inb × Int) : List D := [.bool q.1.op, .bool q.1.done, .int .i64 q.1.count, .int .i64 q.1.next, .int .u64 q.1.src, .int .u64 q.1.dst, .int .u64 q.1.check, .list (q.1.msgs.map Msg.enc), .int .i64 q.2]
def tknD : List D → Option (Inb × Int)
  | [.bool o, .bool e, .int .i64 c, .int .i64 n, .int .u64 f, .int .u64 t, .int .u64 h, .list es, .int .i64 er] => (decL Msg.dec es).map fun l => (⟨o, e, c, n, f, t, h, l⟩, er)
  | _ => none
def cTkn : Cod (Inb × Int) := cAgg tknE tknD (fun q => by simp only [tknE, tknD, decL_map (dec := Msg.dec) (enc := Msg.enc) (fun _ => rfl)]; rfl) (fun e x h => by
  unfold tknD at h
  split at h
  · simp only [Option.map_eq_some_iff] at h
    obtain ⟨l, hl, rfl⟩ := h
    simp only [tknE, decL_inv Msg.dec_ed hl]
  · cases h)
theorem cTkn_enc (q : Inb × Int) : cTkn.enc q = .agg [.bool q.1.op, .bool q.1.done, .int .i64 q.1.count, .int .i64 q.1.next, .int .u64 q.1.src, .int .u64 q.1.dst, .int .u64 q.1.check, .list (q.1.msgs.map Msg.enc), .int .i64 q.2] := rfl
def h19Take : Det := det2 cInb cRec (fun x r => okI x ∧ rangeR r) fun x r => .d (.agg (tknE (takeF x r)))
theorem f_law19take : FPure Tryz.prog 8 h19Take.spec := by
  refine FPure.runL [(20, .det hRTake)] (fun _ => []) (by
    intro p hp
    simp only [List.mem_cons, List.not_mem_nil, or_false] at hp
    subst hp
    exact f_recvTake) F.mixed Tryz.func8 (by kernel_rfl) rfl (by kernel_rfl) 16 Tryz.ntmps8 [.cell 4 41] Tryz.results8 ?_
  intro ds K hl hs
  obtain ⟨x, r, rfl, ho, hK⟩ := det2_elim hs
  simp (config := { maxSteps := 4000000 }) only [cInb_enc, cRec_enc, hRTake, takeA, Inb.em, tknE, cInb_dec, cRec_dec, Inb.eta, Rec.eta, eBs, cBs, F.fBs, Nat.reduceSub, Nat.reduceAdd, Nat.reduceLT, Nat.reduceEqDiff, Nat.reduceLeDiff, Nat.reduceMul, Nat.reduceBEq, Int.reduceToNat, Op.operands, if_true, if_false, reduceCtorEq, if_pos, forall_const, implies_true, eq_self, ne_eq, iff_self] at hK ⊢
  exact ⟨ho, hK⟩
def hSameT : Det := det2 cTkn cTkn (fun _ _ => True) fun a b => .d (.bool (decide (a = b)))
theorem f_law19same : FPure Tryz.prog 12 hSameT.spec := by
  refine FPure.runL [(11, .det h19Same)] (fun _ => []) (by
    intro p hp
    simp only [List.mem_cons, List.not_mem_nil, or_false] at hp
    subst hp
    exact f_19Same) F.mixed Tryz.func12 (by kernel_rfl) rfl (by kernel_rfl) 17 Tryz.ntmps12 [.tmp 4] Tryz.results12 ?_
  intro ds K hl hs
  obtain ⟨⟨⟨o, e, c, n, f, t, h, l⟩, er⟩, ⟨⟨o', e', c', n', f', t', h', l'⟩, er'⟩, rfl, -, hK⟩ := det2_elim hs
  simp only [Prod.mk.injEq, Bool.decide_and] at hK
  simp (config := { maxSteps := 4000000 }) only [cTkn_enc, h19Same, cInb_dec, eBs, cBs, F.fBs, Nat.reduceSub, Nat.reduceAdd, Nat.reduceLT, Nat.reduceEqDiff, Nat.reduceLeDiff, Nat.reduceMul, Nat.reduceBEq, Int.reduceToNat, Op.operands, if_true, if_false, reduceCtorEq, if_pos, forall_const, implies_true, eq_self, ne_eq, iff_self]
  exact hK
end Go.PE
