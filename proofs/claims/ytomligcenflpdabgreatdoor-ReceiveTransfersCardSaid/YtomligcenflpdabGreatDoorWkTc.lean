/- WkTc: what the laws need of it. -/
import Derived.Test.YtomligcenflpdabGreatDoorWkTe
import Derived.Test.YtomligcenflpdabGreatDoorWkZa
set_option linter.unusedVariables false
set_option linter.defProp false
set_option linter.all false
set_option linter.unusedSimpArgs false
set_option maxRecDepth 100000
set_option maxHeartbeats 4000000
namespace Go.PE
open Go Go.Proofs

def hSameMs : Det := det2 cMsgs cMsgs (fun _ _ => True) fun a b => .d (.bool (decide (a = b)))
theorem f_05SameMsgs : FPure Tryz.prog 16 hSameMs.spec := by
  refine FPure.runL [] (fun i => if i = 6 then [(0, (false, [])), (1, (false, [])), (2, (false, [])), (3, (false, [])), (4, (false, [])), (5, (false, [])), (6, (false, [])), (7, (false, [])), (8, (false, []))] else []) (by simp) F.mixed Tryz.func16 (by kernel_rfl) rfl (by kernel_rfl) 26 Tryz.ntmps16 [.tmp 4] Tryz.results16 ?_
  intro ds K hl hs
  obtain ⟨a, b, rfl, -, hK⟩ := det2_elim hs
  obtain ⟨la, hl⟩ := lensOk_cons_list _ _ hl
  simp only [List.length_map] at la
  simp only [cMsgs_enc, eBs, cBs, F.fBs, Nat.reduceSub, Nat.reduceAdd, Nat.reduceLT, Nat.reduceEqDiff, Nat.reduceLeDiff, Nat.reduceMul, Nat.reduceBEq, Int.reduceToNat, Op.operands, if_true, if_false, reduceCtorEq, if_pos, forall_const, implies_true, eq_self, ne_eq]
  refine ⟨fun h => ?_, fun h => ?_⟩
  · have : a ≠ b := fun e => by subst e; simp at h
    simpa [this] using hK
  have hlen : a.length = b.length := by omega
  refine eK_rounds [0, 1, 4] (fun i => i ≤ a.length ∧ ∀ j, j < i → a[j]? = b[j]?) (fun i => [(5, .d (.int .i64 i))]) (fun _ => []) (fun _ => []) (fun i => a.length - i) 0 ⟨Nat.zero_le _, fun j hj => absurd hj (Nat.not_lt_zero _)⟩ ?_ ?_
  · simp [le_eq, St.head, keepT, setAll, leV, leB, leR, leR0, idsR, idsL, idsA, idsB]
  intro i hi
  simp only [le_eq, eBs, cBs, F.fBs, Nat.reduceSub, Nat.reduceAdd, Nat.reduceLT, Nat.reduceEqDiff, Nat.reduceLeDiff, Nat.reduceMul, Nat.reduceBEq, Int.reduceToNat, Op.operands, if_true, if_false, reduceCtorEq, if_pos, forall_const, implies_true, eq_self, ne_eq]
  refine ⟨fun h1 => ⟨by omega, ?_⟩, fun h1 => ?_⟩
  · refine eG_map _ _ _ _ _ _ ⟨fun _ => rfl, ?_⟩
    simp only [le_eq, Msg.enc, eBs, cBs, F.fBs, Nat.reduceSub, Nat.reduceAdd, Nat.reduceLT, Nat.reduceEqDiff, Nat.reduceLeDiff, Nat.reduceMul, Nat.reduceBEq, Int.reduceToNat, Op.operands, if_true, if_false, reduceCtorEq, if_pos, forall_const, implies_true, eq_self, ne_eq]
    refine ⟨by omega, ?_⟩
    refine eG_map _ _ _ _ _ _ ⟨fun _ => rfl, ?_⟩
    simp only [le_eq, Msg.enc, Msg.eqB, eBs, cBs, F.fBs, Nat.reduceSub, Nat.reduceAdd, Nat.reduceLT, Nat.reduceEqDiff, Nat.reduceLeDiff, Nat.reduceMul, Nat.reduceBEq, Int.reduceToNat, Op.operands, if_true, if_false, reduceCtorEq, if_pos, forall_const, implies_true, eq_self, ne_eq]
    have ha : a[i]? = some (a.getD i default) := by simp [List.getD, show i < a.length by omega]
    have hb : b[i]? = some (b.getD i default) := by simp [List.getD, show i < b.length by omega]
    refine ⟨fun h => ?_, fun h => ⟨i + 1, ⟨by omega, fun j hj => ?_⟩, by omega, ?_⟩⟩
    · have : a ≠ b := fun e => by subst e; exact h rfl
      simpa [this] using hK
    · rcases Nat.lt_or_ge j i with h2 | h2
      · exact hi.2 j h2
      · have : j = i := by omega
        subst this
        rw [ha, hb, h]
    · rw [wrap_i64' (by omega) (by omega)]; rfl
  · have : a = b := by
      apply List.ext_getElem?
      intro j
      rcases Nat.lt_or_ge j i with h2 | h2
      · exact hi.2 j h2
      · rw [List.getElem?_eq_none (by omega), List.getElem?_eq_none (by omega)]
    simpa [this] using hK

theorem Inb.eqB (a b : Inb) : (decide (a.op = b.op) && (decide (a.done = b.done) && (decide (a.count = b.count) && (decide (a.next = b.next) && (decide (a.src = b.src) && (decide (a.dst = b.dst) && (decide (a.check = b.check) && decide (a.msgs = b.msgs)))))))) = decide (a = b) := by
  cases a; cases b
  simp only [Inb.mk.injEq]
  simp [Bool.decide_and]
def h19Same : Det := det2 cInb cInb (fun _ _ => True) fun a b => .d (.bool (decide (a = b)))
theorem f_19Same : FPure Tryz.prog 19 h19Same.spec := by
  refine FPure.runL [(16, .det hSameMs)] (fun _ => []) (by
    intro p hp
    simp only [List.mem_cons, List.not_mem_nil, or_false] at hp
    subst hp
    exact f_05SameMsgs) F.mixed Tryz.func19 (by kernel_rfl) rfl (by kernel_rfl) 59 Tryz.ntmps19 [.tmp 4] Tryz.results19 ?_
  intro ds K hl hs
  obtain ⟨a, b, rfl, -, hK⟩ := det2_elim hs
  rw [← Inb.eqB] at hK
  obtain ⟨o, e, c, n, f, t, h, l⟩ := a
  obtain ⟨o', e', c', n', f', t', h', l'⟩ := b
  have hb : ∀ a b : Bool, (a == b) = decide (a = b) := by decide
  simp (config := { maxSteps := 4000000 }) only [cInb_enc, hSameMs, cMsgs_dec, eBs, cBs, F.fBs, Nat.reduceSub, Nat.reduceAdd, Nat.reduceLT, Nat.reduceEqDiff, Nat.reduceLeDiff, Nat.reduceMul, Nat.reduceBEq, Int.reduceToNat, Op.operands, if_true, if_false, reduceCtorEq, if_pos, forall_const, implies_true, eq_self, ne_eq] at hK ⊢
  simp only [hb]
  exact hK
def h19Like : Det := det2 cInb cRec (fun x r => okI x ∧ x.op = true ∧ i31P r.seq ∧ r.seq < x.next) fun x r => .d (.bool (likeF x r))
theorem f_19Like : FPure Tryz.prog 50 h19Like.spec := by
  refine FPure.runL [] (fun i => if i = 4 then [(0, (true, [])), (1, (true, [])), (2, (false, [])), (3, (false, [])), (4, (false, [])), (5, (false, [])), (6, (false, [])), (7, (false, [])), (8, (false, [])), (9, (false, [])), (10, (false, [])), (11, (false, [])), (12, (false, [])), (13, (false, [])), (14, (false, [])), (15, (true, []))] else []) (by simp) F.mixed Tryz.func50 (by kernel_rfl) rfl (by kernel_rfl) 57 Tryz.ntmps50 [.tmp 4] Tryz.results50 ?_
  intro ds K hl hs
  obtain ⟨x, y, rfl, ⟨hx, hop, hsq, hlt⟩, hK⟩ := det2_elim hs
  obtain ⟨hc, hn1, hn2, hdn, hml⟩ := hx.open_ hop
  have hs0 := hsq.1
  unfold likeF at hK
  by_cases h0 : y.seq = 0
  · have h0' := eq_true h0
    rw [if_pos h0] at hK
    simp (config := { maxSteps := 4000000 }) only [cInb_enc, cRec_enc, h0', eBs, cBs, F.fBs, Nat.reduceSub, Nat.reduceAdd, Nat.reduceLT, Nat.reduceEqDiff, Nat.reduceLeDiff, Nat.reduceMul, Nat.reduceBEq, Int.reduceToNat, Op.operands, if_true, if_false, reduceCtorEq, if_pos, forall_const, implies_true, eq_self, ne_eq]
    exact hK
  have h0' := eq_false h0
  rw [if_neg h0] at hK
  by_cases h1 : y.seq ≤ x.count
  · have h1' := eq_true h1
    rw [if_pos h1] at hK
    have hw : IntKind.i64.wrap (y.seq - 1) = ((y.seq - 1).toNat : Nat) := by rw [wrap_i64' (by have := hsq.2; omega) (by have := hsq.2; omega)]; omega
    have hlt2 : (y.seq - 1).toNat < x.msgs.length := by omega
    generalize hm : x.msgs.getD (y.seq - 1).toNat default = m at hK
    generalize (y.seq - 1).toNat = j at hw hlt2 hm
    rw [← Msg.eqB] at hK
    simp (config := { maxSteps := 4000000 }) only [cInb_enc, cRec_enc, h0', h1', hw, eBs, cBs, F.fBs, Nat.reduceSub, Nat.reduceAdd, Nat.reduceLT, Nat.reduceEqDiff, Nat.reduceLeDiff, Nat.reduceMul, Nat.reduceBEq, Int.reduceToNat, Op.operands, if_true, if_false, reduceCtorEq, if_pos, forall_const, implies_true, eq_self, ne_eq]
    refine ⟨fun h => ⟨h, by omega, by omega⟩, ?_⟩
    refine eG_map _ _ _ _ _ _ ⟨fun _ => rfl, ?_⟩
    simp (config := { maxSteps := 4000000 }) only [hm, Msg.enc, eBs, cBs, F.fBs, Nat.reduceSub, Nat.reduceAdd, Nat.reduceLT, Nat.reduceEqDiff, Nat.reduceLeDiff, Nat.reduceMul, Nat.reduceBEq, Int.reduceToNat, Op.operands, if_true, if_false, reduceCtorEq, if_pos, forall_const, implies_true, eq_self, ne_eq]
    exact hK
  · have h1' := eq_false h1
    rw [if_neg h1] at hK
    simp (config := { maxSteps := 4000000 }) only [cInb_enc, cRec_enc, h0', h1', eBs, cBs, F.fBs, Nat.reduceSub, Nat.reduceAdd, Nat.reduceLT, Nat.reduceEqDiff, Nat.reduceLeDiff, Nat.reduceMul, Nat.reduceBEq, Int.reduceToNat, Op.operands, if_true, if_false, reduceCtorEq, if_pos, forall_const, implies_true, eq_self, ne_eq]
    exact hK


/-- An inbox with an error. -/
def tknE (q : Inb × Int) : List D := [.bool q.1.op, .bool q.1.done, .int .i64 q.1.count, .int .i64 q.1.next, .int .u64 q.1.src, .int .u64 q.1.dst, .int .u64 q.1.check, .list (q.1.msgs.map Msg.enc), .int .i64 q.2]
def tknD : List D → Option (Inb × Int)
  | [.bool o, .bool e, .int .i64 c, .int .i64 n, .int .u64 f, .int .u64 t, .int .u64 h, .list es, .int .i64 er] => (decL Msg.dec es).map fun l => (⟨o, e, c, n, f, t, h, l⟩, er)
  | _ => none
def cTkn : Cod (Inb × Int) := cAgg tknE tknD (fun q => by simp only [tknE, tknD, decL_map (dec := Msg.dec) (enc := Msg.enc) (fun _ => rfl)]; rfl) (fun e x h => by
  unfold tknD at h
  split at h
  · simp only [Option.map_eq_some_iff] at h
    obtain ⟨l, hl, rfl⟩ := h
    simp only [tknE, decL_inv Msg.dec_ed hl]
  · cases h)
theorem cTkn_enc (q : Inb × Int) : cTkn.enc q = .agg [.bool q.1.op, .bool q.1.done, .int .i64 q.1.count, .int .i64 q.1.next, .int .u64 q.1.src, .int .u64 q.1.dst, .int .u64 q.1.check, .list (q.1.msgs.map Msg.enc), .int .i64 q.2] := rfl
theorem cTkn_dec (o e : Bool) (c n f t h : Int) (l : List Msg) (er : Int) : cTkn.dec (.agg [.bool o, .bool e, .int .i64 c, .int .i64 n, .int .u64 f, .int .u64 t, .int .u64 h, .list (l.map Msg.enc), .int .i64 er]) = some (⟨o, e, c, n, f, t, h, l⟩, er) := cTkn.de (⟨o, e, c, n, f, t, h, l⟩, er)
def h19Take : Det := det2 cInb cRec (fun x r => okI x ∧ rangeR r) fun x r => .d (.agg (tknE (takeF x r)))
theorem f_19Take : FPure Tryz.prog 23 h19Take.spec := by
  refine FPure.runL [(29, .det hValidR), (15, .det hNext), (50, .det h19Like)] (fun i => if i = 6 then [(0, (false, [])), (1, (false, [])), (2, (false, [])), (3, (true, [0, 1])), (4, (false, []))] else if i = 17 then [(0, (true, [])), (1, (true, [])), (2, (false, [])), (3, (false, [])), (4, (false, [])), (5, (false, [])), (6, (false, [])), (7, (false, [])), (8, (true, [3, 4, 5])), (9, (false, [])), (10, (false, []))] else []) (by
    intro p hp
    simp only [List.mem_cons, List.not_mem_nil, or_false] at hp
    rcases hp with rfl | rfl | rfl
    · exact f_18Valid
    · exact f_18Next
    · exact f_19Like) F.mixed Tryz.func23 (by kernel_rfl) rfl (by kernel_rfl) 123 Tryz.ntmps23 [.cell 4 41] Tryz.results23 ?_
  intro ds K hl hs
  obtain ⟨x, r, rfl, ⟨hx, hr⟩, hK⟩ := det2_elim hs
  obtain ⟨k, sq, ct, f, t, ⟨m1, m2, m3, m4, m5, m6, m7, m8⟩, ch⟩ := r
  cases hv : validR ⟨k, sq, ct, f, t, ⟨m1, m2, m3, m4, m5, m6, m7, m8⟩, ch⟩ with
  | false =>
    unfold takeF at hK
    rw [if_pos hv] at hK
    simp (config := { maxSteps := 4000000 }) only [cInb_enc, cRec_enc, hValidR, h19Like, cInb_dec, cRec_dec, hv, hNext, Inb.eta, tknE, Bool.not_true, Bool.not_false, decide_not, eBs, cBs, F.fBs, Nat.reduceSub, Nat.reduceAdd, Nat.reduceLT, Nat.reduceEqDiff, Nat.reduceLeDiff, Nat.reduceMul, Nat.reduceBEq, Int.reduceToNat, Op.operands, if_true, if_false, reduceCtorEq, if_pos, forall_const, implies_true, eq_self, ne_eq] at hK ⊢
    exact hK
  | true =>
    have ho1 : okR1 ⟨k, sq, ct, f, t, ⟨m1, m2, m3, m4, m5, m6, m7, m8⟩, ch⟩ := ⟨hv, hr⟩
    have hcs := validR_cases hv
    have h31 : i31P sq := seq31 hv
    have hsq0 := h31.1
    have hsq1 := h31.2
    simp only at hcs
    unfold takeF at hK
    rw [if_neg (by rw [hv]; decide)] at hK
    by_cases hop : x.op = false
    · obtain rfl := hx.zero hop
      rw [if_pos hop] at hK
      by_cases h0 : sq = 0
      · subst h0
        rw [if_neg (by simp)] at hK
        by_cases hc : ch = (nextN 0 ⟨k, 0, ct, f, t, ⟨m1, m2, m3, m4, m5, m6, m7, m8⟩, ch⟩ : Nat)
        · rw [if_neg (fun h => h hc)] at hK
          have hc' := eq_true hc
          have t0 : Int.toNat 0 = 0 := rfl
          simp (config := { maxSteps := 4000000 }) only [zeroInb, List.map_nil, cInb_enc, cRec_enc, hValidR, h19Like, cInb_dec, cRec_dec, hv, hNext, Inb.eta, tknE, Bool.not_true, Bool.not_false, decide_not, t0, hc', eBs, cBs, F.fBs, Nat.reduceSub, Nat.reduceAdd, Nat.reduceLT, Nat.reduceEqDiff, Nat.reduceLeDiff, Nat.reduceMul, Nat.reduceBEq, Int.reduceToNat, Op.operands, if_true, if_false, reduceCtorEq, if_pos, forall_const, implies_true, eq_self, ne_eq] at hK ⊢
          exact ⟨⟨u64z, ho1⟩, hK⟩
        · rw [if_pos hc] at hK
          have hc' := eq_false hc
          have t0 : Int.toNat 0 = 0 := rfl
          simp (config := { maxSteps := 4000000 }) only [zeroInb, List.map_nil, cInb_enc, cRec_enc, hValidR, h19Like, cInb_dec, cRec_dec, hv, hNext, Inb.eta, tknE, Bool.not_true, Bool.not_false, decide_not, t0, hc', eBs, cBs, F.fBs, Nat.reduceSub, Nat.reduceAdd, Nat.reduceLT, Nat.reduceEqDiff, Nat.reduceLeDiff, Nat.reduceMul, Nat.reduceBEq, Int.reduceToNat, Op.operands, if_true, if_false, reduceCtorEq, if_pos, forall_const, implies_true, eq_self, ne_eq] at hK ⊢
          exact ⟨⟨u64z, ho1⟩, hK⟩
      · rw [if_pos h0] at hK
        have h0' := eq_false h0
        simp (config := { maxSteps := 4000000 }) only [zeroInb, List.map_nil, cInb_enc, cRec_enc, hValidR, h19Like, cInb_dec, cRec_dec, hv, hNext, Inb.eta, tknE, Bool.not_true, Bool.not_false, decide_not, h0', eBs, cBs, F.fBs, Nat.reduceSub, Nat.reduceAdd, Nat.reduceLT, Nat.reduceEqDiff, Nat.reduceLeDiff, Nat.reduceMul, Nat.reduceBEq, Int.reduceToNat, Op.operands, if_true, if_false, reduceCtorEq, if_pos, forall_const, implies_true, eq_self, ne_eq] at hK ⊢
        exact hK
    · rw [if_neg hop] at hK
      have hop : x.op = true := by simpa using hop
      obtain ⟨hct, hn1, hn2, hdn, hml⟩ := hx.open_ hop
      have hct1 := hct.2
      have hcx : u64P x.check := hx.nums.2.2
      obtain ⟨o, e, c, n, fr, to, h, l⟩ := x
      simp only at hop hn1 hn2 hdn hml hct1 hcx hct
      subst hop
      by_cases hlt : sq < n
      · rw [if_pos hlt] at hK
        have hlt' := eq_true hlt
        cases hlk : likeF ⟨true, e, c, n, fr, to, h, l⟩ ⟨k, sq, ct, f, t, ⟨m1, m2, m3, m4, m5, m6, m7, m8⟩, ch⟩ with
        | true =>
          rw [hlk, if_pos rfl] at hK
          simp (config := { maxSteps := 4000000 }) only [hlt', hlk, cInb_enc, cRec_enc, hValidR, h19Like, cInb_dec, cRec_dec, hv, hNext, Inb.eta, tknE, Bool.not_true, Bool.not_false, decide_not, eBs, cBs, F.fBs, Nat.reduceSub, Nat.reduceAdd, Nat.reduceLT, Nat.reduceEqDiff, Nat.reduceLeDiff, Nat.reduceMul, Nat.reduceBEq, Int.reduceToNat, Op.operands, if_true, if_false, reduceCtorEq, if_pos, forall_const, implies_true, eq_self, ne_eq] at hK ⊢
          exact ⟨⟨hx, h31⟩, hK⟩
        | false =>
          rw [hlk, if_neg (by decide)] at hK
          simp (config := { maxSteps := 4000000 }) only [hlt', hlk, cInb_enc, cRec_enc, hValidR, h19Like, cInb_dec, cRec_dec, hv, hNext, Inb.eta, tknE, Bool.not_true, Bool.not_false, decide_not, eBs, cBs, F.fBs, Nat.reduceSub, Nat.reduceAdd, Nat.reduceLT, Nat.reduceEqDiff, Nat.reduceLeDiff, Nat.reduceMul, Nat.reduceBEq, Int.reduceToNat, Op.operands, if_true, if_false, reduceCtorEq, if_pos, forall_const, implies_true, eq_self, ne_eq] at hK ⊢
          exact ⟨⟨hx, h31⟩, hK⟩
      have hlt' := eq_false hlt
      rw [if_neg hlt] at hK
      have hwn : IntKind.i64.wrap (n + 1) = n + 1 := wrap_i64' (by omega) (by omega)
      by_cases hgt : n < sq
      · have hgt' := eq_true hgt
        rw [if_pos (.inl hgt)] at hK
        simp (config := { maxSteps := 4000000 }) only [hlt', hgt', cInb_enc, cRec_enc, hValidR, h19Like, cInb_dec, cRec_dec, hv, hNext, Inb.eta, tknE, Bool.not_true, Bool.not_false, decide_not, eBs, cBs, F.fBs, Nat.reduceSub, Nat.reduceAdd, Nat.reduceLT, Nat.reduceEqDiff, Nat.reduceLeDiff, Nat.reduceMul, Nat.reduceBEq, Int.reduceToNat, Op.operands, if_true, if_false, reduceCtorEq, if_pos, forall_const, implies_true, eq_self, ne_eq] at hK ⊢
        exact hK
      have hgt' := eq_false hgt
      cases e with
      | true =>
        rw [if_pos (.inr rfl)] at hK
        simp (config := { maxSteps := 4000000 }) only [hlt', hgt', cInb_enc, cRec_enc, hValidR, h19Like, cInb_dec, cRec_dec, hv, hNext, Inb.eta, tknE, Bool.not_true, Bool.not_false, decide_not, eBs, cBs, F.fBs, Nat.reduceSub, Nat.reduceAdd, Nat.reduceLT, Nat.reduceEqDiff, Nat.reduceLeDiff, Nat.reduceMul, Nat.reduceBEq, Int.reduceToNat, Op.operands, if_true, if_false, reduceCtorEq, if_pos, forall_const, implies_true, eq_self, ne_eq] at hK ⊢
        exact hK
      | false =>
        rw [if_neg (by rintro (h | h); exact hgt h; cases h)] at hK
        by_cases hb : sq ≤ c
        · have hb' := eq_true hb
          by_cases hk : k = 2
          · subst hk
            have hM : [[D.int .i64 m1, D.str m2, D.str m3, D.str m4, D.str m5, D.str m6, D.str m7, D.int .i64 m8]] = [⟨m1, m2, m3, m4, m5, m6, m7, m8⟩].map Msg.enc := rfl
            by_cases hc : ch = (nextN h.toNat ⟨2, sq, ct, f, t, ⟨m1, m2, m3, m4, m5, m6, m7, m8⟩, ch⟩ : Nat)
            · have hc' := eq_true hc
              rw [if_pos ⟨by unfold fitsF; rw [if_pos hb]; rfl, hc⟩, if_pos hb] at hK
              simp (config := { maxSteps := 4000000 }) only [hM, hc', cInb_enc, cRec_enc, hValidR, h19Like, cInb_dec, cRec_dec, hv, hNext, Inb.eta, tknE, Bool.not_true, Bool.not_false, decide_not, hlt', hgt', hb', hwn, Int.reduceEq, eBs, cBs, F.fBs, Nat.reduceSub, Nat.reduceAdd, Nat.reduceLT, Nat.reduceEqDiff, Nat.reduceLeDiff, Nat.reduceMul, Nat.reduceBEq, Int.reduceToNat, Op.operands, if_true, if_false, reduceCtorEq, if_pos, forall_const, implies_true, eq_self, ne_eq] at hK ⊢
              rw [List.map_append, List.map_cons, List.map_nil] at hK
              exact ⟨⟨hcx, ho1⟩, ⟨fun _ _ => rfl, by omega⟩, by omega, hK⟩
            · have hc' := eq_false hc
              rw [if_neg (fun hh => hc hh.2)] at hK
              simp (config := { maxSteps := 4000000 }) only [hM, hc', cInb_enc, cRec_enc, hValidR, h19Like, cInb_dec, cRec_dec, hv, hNext, Inb.eta, tknE, Bool.not_true, Bool.not_false, decide_not, hlt', hgt', hb', hwn, Int.reduceEq, eBs, cBs, F.fBs, Nat.reduceSub, Nat.reduceAdd, Nat.reduceLT, Nat.reduceEqDiff, Nat.reduceLeDiff, Nat.reduceMul, Nat.reduceBEq, Int.reduceToNat, Op.operands, if_true, if_false, reduceCtorEq, if_pos, forall_const, implies_true, eq_self, ne_eq] at hK ⊢
              exact ⟨⟨hcx, ho1⟩, hK⟩
          · have hk' := eq_false hk
            rw [if_neg (fun hh => hk (by have := hh.1; unfold fitsF at this; rw [if_pos hb] at this; simpa using this))] at hK
            simp (config := { maxSteps := 4000000 }) only [hk', cInb_enc, cRec_enc, hValidR, h19Like, cInb_dec, cRec_dec, hv, hNext, Inb.eta, tknE, Bool.not_true, Bool.not_false, decide_not, hlt', hgt', hb', hwn, Int.reduceEq, eBs, cBs, F.fBs, Nat.reduceSub, Nat.reduceAdd, Nat.reduceLT, Nat.reduceEqDiff, Nat.reduceLeDiff, Nat.reduceMul, Nat.reduceBEq, Int.reduceToNat, Op.operands, if_true, if_false, reduceCtorEq, if_pos, forall_const, implies_true, eq_self, ne_eq] at hK ⊢
            exact hK
        · have hb' := eq_false hb
          by_cases hk : k = 3
          · subst hk
            by_cases hq : ct = c
            · have hq' := eq_true hq
              by_cases hc : ch = (nextN h.toNat ⟨3, sq, ct, f, t, ⟨m1, m2, m3, m4, m5, m6, m7, m8⟩, ch⟩ : Nat)
              · have hc' := eq_true hc
                rw [if_pos ⟨by unfold fitsF; rw [if_neg hb]; simp [hq], hc⟩, if_neg hb] at hK
                simp (config := { maxSteps := 4000000 }) only [hq', hc', cInb_enc, cRec_enc, hValidR, h19Like, cInb_dec, cRec_dec, hv, hNext, Inb.eta, tknE, Bool.not_true, Bool.not_false, decide_not, hlt', hgt', hb', hwn, Int.reduceEq, eBs, cBs, F.fBs, Nat.reduceSub, Nat.reduceAdd, Nat.reduceLT, Nat.reduceEqDiff, Nat.reduceLeDiff, Nat.reduceMul, Nat.reduceBEq, Int.reduceToNat, Op.operands, if_true, if_false, reduceCtorEq, if_pos, forall_const, implies_true, eq_self, ne_eq] at hK ⊢
                exact ⟨⟨hcx, ho1⟩, hK⟩
              · have hc' := eq_false hc
                rw [if_neg (fun hh => hc hh.2)] at hK
                simp (config := { maxSteps := 4000000 }) only [hq', hc', cInb_enc, cRec_enc, hValidR, h19Like, cInb_dec, cRec_dec, hv, hNext, Inb.eta, tknE, Bool.not_true, Bool.not_false, decide_not, hlt', hgt', hb', hwn, Int.reduceEq, eBs, cBs, F.fBs, Nat.reduceSub, Nat.reduceAdd, Nat.reduceLT, Nat.reduceEqDiff, Nat.reduceLeDiff, Nat.reduceMul, Nat.reduceBEq, Int.reduceToNat, Op.operands, if_true, if_false, reduceCtorEq, if_pos, forall_const, implies_true, eq_self, ne_eq] at hK ⊢
                exact ⟨⟨hcx, ho1⟩, hK⟩
            · have hq' := eq_false hq
              rw [if_neg (fun hh => hq (by have := hh.1; unfold fitsF at this; rw [if_neg hb] at this; simpa using this))] at hK
              simp (config := { maxSteps := 4000000 }) only [hq', cInb_enc, cRec_enc, hValidR, h19Like, cInb_dec, cRec_dec, hv, hNext, Inb.eta, tknE, Bool.not_true, Bool.not_false, decide_not, hlt', hgt', hb', hwn, Int.reduceEq, eBs, cBs, F.fBs, Nat.reduceSub, Nat.reduceAdd, Nat.reduceLT, Nat.reduceEqDiff, Nat.reduceLeDiff, Nat.reduceMul, Nat.reduceBEq, Int.reduceToNat, Op.operands, if_true, if_false, reduceCtorEq, if_pos, forall_const, implies_true, eq_self, ne_eq] at hK ⊢
              exact hK
          · have hk' := eq_false hk
            rw [if_neg (fun hh => hk (by have := hh.1; unfold fitsF at this; rw [if_neg hb] at this; simp at this; exact this.1))] at hK
            simp (config := { maxSteps := 4000000 }) only [hk', cInb_enc, cRec_enc, hValidR, h19Like, cInb_dec, cRec_dec, hv, hNext, Inb.eta, tknE, Bool.not_true, Bool.not_false, decide_not, hlt', hgt', hb', hwn, Int.reduceEq, eBs, cBs, F.fBs, Nat.reduceSub, Nat.reduceAdd, Nat.reduceLT, Nat.reduceEqDiff, Nat.reduceLeDiff, Nat.reduceMul, Nat.reduceBEq, Int.reduceToNat, Op.operands, if_true, if_false, reduceCtorEq, if_pos, forall_const, implies_true, eq_self, ne_eq] at hK ⊢
            exact hK

theorem f_law19take : FPure Tryz.prog 10 h19Take.spec := by
  refine FPure.runL [(24, .det hRTake)] (fun _ => []) (by
    intro p hp
    simp only [List.mem_cons, List.not_mem_nil, or_false] at hp
    subst hp
    exact f_recvTake) F.mixed Tryz.func10 (by kernel_rfl) rfl (by kernel_rfl) 16 Tryz.ntmps10 [.cell 4 41] Tryz.results10 ?_
  intro ds K hl hs
  obtain ⟨x, r, rfl, ho, hK⟩ := det2_elim hs
  simp (config := { maxSteps := 4000000 }) only [cInb_enc, cRec_enc, hRTake, takeA, Inb.em, tknE, cInb_dec, cRec_dec, Inb.eta, Rec.eta, eBs, cBs, F.fBs, Nat.reduceSub, Nat.reduceAdd, Nat.reduceLT, Nat.reduceEqDiff, Nat.reduceLeDiff, Nat.reduceMul, Nat.reduceBEq, Int.reduceToNat, Op.operands, if_true, if_false, reduceCtorEq, if_pos, forall_const, implies_true, eq_self, ne_eq] at hK ⊢
  exact ⟨ho, hK⟩
def hSameT : Det := det2 cTkn cTkn (fun _ _ => True) fun a b => .d (.bool (decide (a = b)))
theorem f_law19same : FPure Tryz.prog 11 hSameT.spec := by
  refine FPure.runL [(19, .det h19Same)] (fun _ => []) (by
    intro p hp
    simp only [List.mem_cons, List.not_mem_nil, or_false] at hp
    subst hp
    exact f_19Same) F.mixed Tryz.func11 (by kernel_rfl) rfl (by kernel_rfl) 17 Tryz.ntmps11 [.tmp 4] Tryz.results11 ?_
  intro ds K hl hs
  obtain ⟨⟨⟨o, e, c, n, f, t, h, l⟩, er⟩, ⟨⟨o', e', c', n', f', t', h', l'⟩, er'⟩, rfl, -, hK⟩ := det2_elim hs
  simp only [Prod.mk.injEq, Bool.decide_and] at hK
  simp (config := { maxSteps := 4000000 }) only [cTkn_enc, h19Same, cInb_dec, eBs, cBs, F.fBs, Nat.reduceSub, Nat.reduceAdd, Nat.reduceLT, Nat.reduceEqDiff, Nat.reduceLeDiff, Nat.reduceMul, Nat.reduceBEq, Int.reduceToNat, Op.operands, if_true, if_false, reduceCtorEq, if_pos, forall_const, implies_true, eq_self, ne_eq]
  exact hK
end Go.PE
