/- Streams: compared, sound. -/
import Derived.Test.YtkgkpmdbcjelfaaGreatWkSc
set_option linter.unusedVariables false
set_option linter.defProp false
set_option linter.all false
set_option linter.unusedSimpArgs false
set_option maxRecDepth 10000
set_option maxHeartbeats 4000000
namespace Go.PE
open Go Go.Proofs

def hSameR : Det := det2 cRecs cRecs (fun _ _ => True) fun a b => .d (.bool (decide (a = b)))
theorem f_18Same : FPure Tryz.prog 8 hSameR.spec := by
  refine FPure.runL [] (fun i => if i = 6 then [(0, (false, [])), (1, (false, [])), (2, (false, [])), (3, (false, [])), (4, (false, [])), (5, (false, [])), (6, (false, [])), (7, (false, [])), (8, (false, []))] else []) (by simp) F.mixed Tryz.func8 (by kernel_rfl) rfl (by kernel_rfl) 26 Tryz.ntmps8 [.tmp 4] Tryz.results8 ?_
  intro ds K hl hs
  obtain ⟨a, b, rfl, -, hK⟩ := det2_elim hs
  have la := map_len_le hl
  simp only [cRecs_enc, eBs, cBs, F.fBs, Nat.reduceSub, Nat.reduceAdd, Nat.reduceLT, Nat.reduceEqDiff, Nat.reduceLeDiff, Nat.reduceMul, Nat.reduceBEq, Int.reduceToNat, Op.operands, if_true, if_false, reduceCtorEq, if_pos, forall_const, implies_true, eq_self, ne_eq]
  refine ⟨fun h => ?_, fun h => ?_⟩
  · have : a ≠ b := fun e => by subst e; simp at h
    simpa [this] using hK
  have hlen : a.length = b.length := by omega
  refine eK_rounds [0, 1] (fun i => i ≤ a.length ∧ ∀ j, j < i → a[j]? = b[j]?) (fun i => [(5, .d (.int .i64 i))]) (fun _ => []) (fun _ => []) (fun i => a.length - i) 0 ⟨Nat.zero_le _, fun j hj => absurd hj (Nat.not_lt_zero _)⟩ ?_ ?_
  · simp [le_eq, St.head, keepT, setAll, leV, leB, leR, idsL, idsA, idsB]
  rintro i ⟨hi, hp⟩
  rcases Nat.lt_or_ge i a.length with hlt | hge
  · have h1 : ((i : Int) < a.length) = True := eq_true (by omega)
    have ha : a[i]? = some a[i] := List.getElem?_eq_getElem hlt
    have hb : b[i]? = some b[i] := List.getElem?_eq_getElem (by omega)
    generalize a[i] = x at ha
    generalize b[i] = y at hb
    simp (config := { maxSteps := 4000000 }) only [le_eq, h1, eBs, cBs, F.fBs, Nat.reduceSub, Nat.reduceAdd, Nat.reduceLT, Nat.reduceEqDiff, Nat.reduceLeDiff, Nat.reduceMul, Nat.reduceBEq, Int.reduceToNat, Op.operands, if_true, if_false, reduceCtorEq, if_pos, forall_const, implies_true, eq_self, ne_eq]
    refine ⟨by omega, ?_⟩
    refine eG_map _ _ _ _ _ _ ⟨fun _ => rfl, ?_⟩
    have gx : a.getD i default = x := by simp [List.getD, ha]
    have gy : b.getD i default = y := by simp [List.getD, hb]
    simp (config := { maxSteps := 4000000 }) only [gx, gy, Rec.em, eBs, cBs, F.fBs, Nat.reduceSub, Nat.reduceAdd, Nat.reduceLT, Nat.reduceEqDiff, Nat.reduceLeDiff, Nat.reduceMul, Nat.reduceBEq, Int.reduceToNat, Op.operands, if_true, if_false, reduceCtorEq, if_pos, forall_const, implies_true, eq_self, ne_eq]
    refine ⟨⟨by omega, by omega⟩, ?_⟩
    refine eG_map _ _ _ _ _ _ ⟨fun _ => rfl, ?_⟩
    simp (config := { maxSteps := 4000000 }) only [le_eq, gx, gy, Rec.em, Rec.eqB, eBs, cBs, F.fBs, Nat.reduceSub, Nat.reduceAdd, Nat.reduceLT, Nat.reduceEqDiff, Nat.reduceLeDiff, Nat.reduceMul, Nat.reduceBEq, Int.reduceToNat, Op.operands, if_true, if_false, reduceCtorEq, if_pos, forall_const, implies_true, eq_self, ne_eq]
    refine ⟨fun hxy => ?_, fun hxy => ⟨i + 1, ⟨by omega, fun j hj => ?_⟩, by omega, ?_⟩⟩
    · have : a ≠ b := fun e => by
        subst e
        rw [ha] at hb
        injection hb with hb
        exact hxy hb
      simpa [this] using hK
    · rcases Nat.lt_or_ge j i with h2 | h2
      · exact hp j h2
      · have : j = i := by omega
        subst this
        rw [ha, hb, hxy]
    · rw [wrap_i64' (by omega) (by omega)]; rfl
  · have h1 : ((i : Int) < a.length) = False := eq_false (by omega)
    simp only [le_eq, h1, eBs, cBs, F.fBs, Nat.reduceSub, Nat.reduceAdd, Nat.reduceLT, Nat.reduceEqDiff, Nat.reduceLeDiff, Nat.reduceMul, Nat.reduceBEq, Int.reduceToNat, Op.operands, if_true, if_false, reduceCtorEq, if_pos, forall_const, implies_true, eq_self, ne_eq]
    have : a = b := by
      apply List.ext_getElem?
      intro j
      rcases Nat.lt_or_ge j i with h2 | h2
      · exact hp j h2
      · rw [List.getElem?_eq_none (by omega), List.getElem?_eq_none (by omega)]
    simpa [this] using hK
def kindAt (last i : Nat) : Int := if i = 0 then 1 else if i = last then 3 else 2
def goodR (last i c : Nat) (r : Rec) : Bool := validR r && (decide (r.kind = kindAt last i) && (decide (r.seq = i) && decide (r.check = (nextN c r : Nat))))
def soundI (last : Nat) : Nat → Nat → List Rec → Bool
  | _, _, [] => true
  | i, c, r :: l => goodR last i c r && soundI last (i + 1) r.check.toNat l
def soundF (l : List Rec) : Bool := decide (2 ≤ l.length) && (decide ((l.getD 0 default).kind = 1) && (decide ((l.getD 0 default).count = (l.length : Int) - 2) &&
  (soundI (l.length - 1) 0 0 l && decide ((l.getD (l.length - 1) default).count = (l.length : Int) - 2))))
def rangeR (r : Rec) : Prop := u64P r.src ∧ u64P r.dst ∧ u64P r.check
theorem sound_drop {last c : Nat} {l : List Rec} {i : Nat} {x : Rec} (hx : l[i]? = some x) : soundI last i c (l.drop i) = (goodR last i c x && soundI last (i + 1) x.check.toNat (l.drop (i + 1))) := by
  obtain ⟨h, e⟩ := List.getElem?_eq_some_iff.1 hx
  rw [List.drop_eq_getElem_cons h, e, soundI]
theorem cond_good (v : Bool) (p q r : Prop) [Decidable p] [Decidable q] [Decidable r] : (!v || decide ¬p || decide ¬q || decide ¬r) = !(v && (decide p && (decide q && decide r))) := by
  by_cases hp : p <;> by_cases hq : q <;> by_cases hr : r <;> cases v <;> simp [hp, hq, hr]
def hSound : Det := det1 cRecs (fun l => l.length ≤ 1000000 ∧ ∀ x ∈ l, rangeR x) fun l => .d (.bool (soundF l))
theorem f_streamSound : FPure Tryz.prog 17 hSound.spec := by
  refine FPure.runL [(35, .det hValidR), (15, .det hNext)] (fun i => if i = 14 then [(0, (true, [])), (1, (true, [])), (2, (false, [])), (3, (false, [])), (4, (false, [])), (5, (false, [])), (6, (false, [])), (7, (false, [])), (8, (false, [])), (9, (false, [])), (10, (false, [])), (11, (false, [])), (12, (false, [])), (13, (false, [])), (14, (false, [])), (15, (false, [])), (16, (false, [])), (17, (false, [])), (18, (false, [])), (19, (false, [])), (20, (true, [2, 3, 4, 5, 6, 7, 8, 9, 10, 11, 12, 13, 14, 16, 17])), (21, (false, [])), (22, (false, []))] else []) (by
    intro p hp
    simp only [List.mem_cons, List.not_mem_nil, or_false] at hp
    rcases hp with rfl | rfl
    · exact f_streamValid
    · exact f_streamNext) F.mixed Tryz.func17 (by kernel_rfl) rfl (by kernel_rfl) 78 Tryz.ntmps17 [.tmp 2] Tryz.results17 ?_
  intro ds K hl hs
  obtain ⟨l, rfl, ⟨hlen, ho⟩, hK⟩ := det1_elim hs
  have nf : (¬ False) = True := not_false_eq_true
  have nt : (¬ True) = False := not_true_eq_false
  have dt : decide True = true := rfl
  have df : decide False = false := rfl
  by_cases h2 : l.length < 2
  · have h0 : ((l.length : Int) < 2) = True := eq_true (by omega)
    have e : soundF l = false := by
      unfold soundF
      rw [decide_eq_false (by omega)]
      rfl
    rw [e] at hK
    simp (config := { maxSteps := 4000000 }) only [cRecs_enc, h0, nt, dt, df, Bool.not_true, Bool.true_or, eBs, cBs, F.fBs, Nat.reduceSub, Nat.reduceAdd, Nat.reduceLT, Nat.reduceEqDiff, Nat.reduceLeDiff, Nat.reduceMul, Nat.reduceBEq, Int.reduceToNat, Op.operands, if_true, if_false, reduceCtorEq, if_pos, forall_const, implies_true, eq_self, ne_eq]
    refine eG_map _ _ _ _ _ _ ⟨fun _ => rfl, ?_⟩
    simp (config := { maxSteps := 4000000 }) only [cRecs_enc, Rec.em, h0, nt, dt, df, Bool.not_true, Bool.true_or, eBs, cBs, F.fBs, Nat.reduceSub, Nat.reduceAdd, Nat.reduceLT, Nat.reduceEqDiff, Nat.reduceLeDiff, Nat.reduceMul, Nat.reduceBEq, Int.reduceToNat, Op.operands, if_true, if_false, reduceCtorEq, if_pos, forall_const, implies_true, eq_self, ne_eq]
    refine eG_map _ _ _ _ _ _ ⟨fun _ => rfl, ?_⟩
    simp (config := { maxSteps := 4000000 }) only [cRecs_enc, Rec.em, h0, nt, dt, df, Bool.not_true, Bool.true_or, eBs, cBs, F.fBs, Nat.reduceSub, Nat.reduceAdd, Nat.reduceLT, Nat.reduceEqDiff, Nat.reduceLeDiff, Nat.reduceMul, Nat.reduceBEq, Int.reduceToNat, Op.operands, if_true, if_false, reduceCtorEq, if_pos, forall_const, implies_true, eq_self, ne_eq]
    exact hK
  have h0 : ((l.length : Int) < 2) = False := eq_false (by omega)
  have w2 : IntKind.i64.wrap ((l.length : Int) - 2) = (l.length : Int) - 2 := wrap_i64' (by omega) (by omega)
  have w1 : IntKind.i64.wrap ((l.length : Int) - 1) = ((l.length - 1 : Nat) : Int) := by rw [wrap_i64' (by omega) (by omega)]; omega
  have w3 : IntKind.i64.wrap (((l.length - 1 : Nat) : Int) - 1) = (l.length : Int) - 2 := by rw [wrap_i64' (by omega) (by omega)]; omega
  simp (config := { maxSteps := 4000000 }) only [cRecs_enc, h0, nf, dt, df, Bool.not_false, Bool.false_or, w1, w2, eBs, cBs, F.fBs, Nat.reduceSub, Nat.reduceAdd, Nat.reduceLT, Nat.reduceEqDiff, Nat.reduceLeDiff, Nat.reduceMul, Nat.reduceBEq, Int.reduceToNat, Op.operands, if_true, if_false, reduceCtorEq, if_pos, forall_const, implies_true, eq_self, ne_eq]
  refine ⟨by omega, ?_⟩
  refine eG_map _ _ _ _ _ _ ⟨fun _ => rfl, ?_⟩
  simp (config := { maxSteps := 4000000 }) only [cRecs_enc, Rec.em, h0, nf, dt, df, Bool.not_false, Bool.false_or, w1, w2, eBs, cBs, F.fBs, Nat.reduceSub, Nat.reduceAdd, Nat.reduceLT, Nat.reduceEqDiff, Nat.reduceLeDiff, Nat.reduceMul, Nat.reduceBEq, Int.reduceToNat, Op.operands, if_true, if_false, reduceCtorEq, if_pos, forall_const, implies_true, eq_self, ne_eq]
  refine ⟨?_, ?_⟩
  · exact fun h => ⟨h, by omega, by omega⟩
  refine eG_map _ _ _ _ _ _ ⟨fun _ => rfl, ?_⟩
  simp (config := { maxSteps := 4000000 }) only [cRecs_enc, Rec.em, h0, nf, dt, df, Bool.not_false, Bool.false_or, w1, w2, eBs, cBs, F.fBs, Nat.reduceSub, Nat.reduceAdd, Nat.reduceLT, Nat.reduceEqDiff, Nat.reduceLeDiff, Nat.reduceMul, Nat.reduceBEq, Int.reduceToNat, Op.operands, if_true, if_false, reduceCtorEq, if_pos, forall_const, implies_true, eq_self, ne_eq]
  unfold soundF at hK
  rw [decide_eq_true (show 2 ≤ l.length by omega), Bool.true_and] at hK
  generalize hx0 : l.getD 0 default = x0 at hK ⊢
  refine ⟨fun h => ?_, fun h => ?_⟩
  · have e : (decide (x0.kind = 1) && (decide (x0.count = (l.length : Int) - 2) && (soundI (l.length - 1) 0 0 l && decide ((l.getD (l.length - 1) default).count = (l.length : Int) - 2)))) = false := by
      rw [Bool.eq_false_iff]
      intro e
      simp only [Bool.and_eq_true, decide_eq_true_eq] at e
      simp [e.1, e.2.1] at h
    rw [e] at hK
    exact hK
  simp only [Bool.or_eq_false_iff, decide_eq_false_iff_not, Classical.not_not] at h
  rw [decide_eq_true h.1, decide_eq_true h.2, Bool.true_and, Bool.true_and] at hK
  refine eK_rounds [0, 3, 31, 32] (fun p : Nat × Nat => p.1 ≤ l.length ∧ p.2 < 18446744073709551616 ∧ soundI (l.length - 1) 0 0 l = soundI (l.length - 1) p.1 p.2 (l.drop p.1)) (fun p => [(4, .d (.int .u64 p.2)), (33, .d (.int .i64 p.1))]) (fun _ => []) (fun _ => []) (fun p => l.length - p.1) (0, 0) ⟨Nat.zero_le _, by decide, by simp⟩ ?_ ?_
  · simp [le_eq, St.head, keepT, setAll, leV, leB, leR, idsL, idsA, idsB]
  rintro ⟨i, c⟩ ⟨hi, hc, hsd⟩
  simp only at hi hc hsd
  rcases Nat.lt_or_ge i l.length with hlt | hge
  · have h3 : ((i : Int) < l.length) = True := eq_true (by omega)
    have hx : l[i]? = some l[i] := List.getElem?_eq_getElem hlt
    have hox := ho _ (List.getElem_mem hlt)
    generalize l[i] = x at hx hox
    rw [sound_drop hx] at hsd
    have hkk : (i = 0 ∧ kindAt (l.length - 1) i = 1) ∨ (i ≠ 0 ∧ i = l.length - 1 ∧ kindAt (l.length - 1) i = 3) ∨ (i ≠ 0 ∧ i ≠ l.length - 1 ∧ kindAt (l.length - 1) i = 2) := by
      unfold kindAt
      by_cases e0 : i = 0
      · exact .inl ⟨e0, by rw [if_pos e0]⟩
      by_cases e1 : i = l.length - 1
      · exact .inr (.inl ⟨e0, e1, by rw [if_neg e0, if_pos e1]⟩)
      · exact .inr (.inr ⟨e0, e1, by rw [if_neg e0, if_neg e1]⟩)
    have stop : (goodR (l.length - 1) i c x = false) → K (.ret (.d (.bool false))) := by
      intro hg
      rw [hg, Bool.false_and] at hsd
      rw [hsd, Bool.false_and] at hK
      exact hK
    rcases hkk with ⟨e0, ek⟩ | ⟨e0, e1, ek⟩ | ⟨e0, e1, ek⟩
    · have g0 : ((i : Int) = 0) = True := eq_true (by omega)
      unfold goodR at hsd stop
      rw [ek] at hsd stop
      simp (config := { maxSteps := 4000000 }) only [le_eq, h3, g0, Rec.em, hValidR, hNext, cRec_dec, Rec.eta, Int.toNat_natCast, eBs, cBs, F.fBs, Nat.reduceSub, Nat.reduceAdd, Nat.reduceLT, Nat.reduceEqDiff, Nat.reduceLeDiff, Nat.reduceMul, Nat.reduceBEq, Int.reduceToNat, Op.operands, if_true, if_false, reduceCtorEq, if_pos, forall_const, implies_true, eq_self, ne_eq]
      refine ⟨by omega, fun y hy => ?_⟩
      rw [hx] at hy
      injection hy with hy
      subst hy
      rw [cond_good]
      refine ⟨fun hb => ⟨hb, ⟨by omega, by omega⟩, ?_, hox⟩, fun hb => stop ?_, fun hb => ⟨(i + 1, x.check.toNat), ⟨by simp only; omega, ?_, ?_⟩, by simp only; omega, ?_, by rw [wrap_i64' (by omega) (by omega)]; rfl⟩⟩
      · simp only [Bool.or_eq_false_iff, Bool.not_eq_false'] at hb
        exact hb.1.1
      · rw [Bool.not_eq_true'] at hb
        exact hb
      · have := hox.2.2
        unfold u64P at this
        simp only
        omega
      · rw [hsd]
        have : (validR x && (decide (x.kind = 1) && (decide (x.seq = i) && decide (x.check = (nextN c x : Nat))))) = true := by simpa using hb
        rw [this, Bool.true_and]
      · have := hox.2.2
        unfold u64P at this
        simp only
        congr 2
        omega
    · have g0 : ((i : Int) = 0) = False := eq_false (by omega)
      have g1 : ((i : Int) = ((l.length - 1 : Nat) : Int)) = True := eq_true (by omega)
      unfold goodR at hsd stop
      rw [ek] at hsd stop
      simp (config := { maxSteps := 4000000 }) only [le_eq, h3, g0, g1, Rec.em, hValidR, hNext, cRec_dec, Rec.eta, Int.toNat_natCast, eBs, cBs, F.fBs, Nat.reduceSub, Nat.reduceAdd, Nat.reduceLT, Nat.reduceEqDiff, Nat.reduceLeDiff, Nat.reduceMul, Nat.reduceBEq, Int.reduceToNat, Op.operands, if_true, if_false, reduceCtorEq, if_pos, forall_const, implies_true, eq_self, ne_eq]
      refine ⟨by omega, fun y hy => ?_⟩
      rw [hx] at hy
      injection hy with hy
      subst hy
      rw [cond_good]
      refine ⟨fun hb => ⟨hb, ⟨by omega, by omega⟩, ?_, hox⟩, fun hb => stop ?_, fun hb => ⟨(i + 1, x.check.toNat), ⟨by simp only; omega, ?_, ?_⟩, by simp only; omega, ?_, by rw [wrap_i64' (by omega) (by omega)]; rfl⟩⟩
      · simp only [Bool.or_eq_false_iff, Bool.not_eq_false'] at hb
        exact hb.1.1
      · rw [Bool.not_eq_true'] at hb
        exact hb
      · have := hox.2.2
        unfold u64P at this
        simp only
        omega
      · rw [hsd]
        have : (validR x && (decide (x.kind = 3) && (decide (x.seq = i) && decide (x.check = (nextN c x : Nat))))) = true := by simpa using hb
        rw [this, Bool.true_and]
      · have := hox.2.2
        unfold u64P at this
        simp only
        congr 2
        omega
    · have g0 : ((i : Int) = 0) = False := eq_false (by omega)
      have g1 : ((i : Int) = ((l.length - 1 : Nat) : Int)) = False := eq_false (by omega)
      unfold goodR at hsd stop
      rw [ek] at hsd stop
      simp (config := { maxSteps := 4000000 }) only [le_eq, h3, g0, g1, Rec.em, hValidR, hNext, cRec_dec, Rec.eta, Int.toNat_natCast, eBs, cBs, F.fBs, Nat.reduceSub, Nat.reduceAdd, Nat.reduceLT, Nat.reduceEqDiff, Nat.reduceLeDiff, Nat.reduceMul, Nat.reduceBEq, Int.reduceToNat, Op.operands, if_true, if_false, reduceCtorEq, if_pos, forall_const, implies_true, eq_self, ne_eq]
      refine ⟨by omega, fun y hy => ?_⟩
      rw [hx] at hy
      injection hy with hy
      subst hy
      rw [cond_good]
      refine ⟨fun hb => ⟨hb, ⟨by omega, by omega⟩, ?_, hox⟩, fun hb => stop ?_, fun hb => ⟨(i + 1, x.check.toNat), ⟨by simp only; omega, ?_, ?_⟩, by simp only; omega, ?_, by rw [wrap_i64' (by omega) (by omega)]; rfl⟩⟩
      · simp only [Bool.or_eq_false_iff, Bool.not_eq_false'] at hb
        exact hb.1.1
      · rw [Bool.not_eq_true'] at hb
        exact hb
      · have := hox.2.2
        unfold u64P at this
        simp only
        omega
      · rw [hsd]
        have : (validR x && (decide (x.kind = 2) && (decide (x.seq = i) && decide (x.check = (nextN c x : Nat))))) = true := by simpa using hb
        rw [this, Bool.true_and]
      · have := hox.2.2
        unfold u64P at this
        simp only
        congr 2
        omega
  · have : i = l.length := by omega
    subst this
    have h3 : ((l.length : Int) < l.length) = False := eq_false (by omega)
    rw [List.drop_of_length_le (Nat.le_refl _)] at hsd
    rw [hsd, soundI, Bool.true_and] at hK
    simp (config := { maxSteps := 4000000 }) only [le_eq, h3, Rec.em, w3, eBs, cBs, F.fBs, Nat.reduceSub, Nat.reduceAdd, Nat.reduceLT, Nat.reduceEqDiff, Nat.reduceLeDiff, Nat.reduceMul, Nat.reduceBEq, Int.reduceToNat, Op.operands, if_true, if_false, reduceCtorEq, if_pos, forall_const, implies_true, eq_self, ne_eq]
    refine ⟨⟨by omega, by omega⟩, fun y hy => ?_⟩
    have : l.getD (l.length - 1) default = y := by simp [List.getD, hy]
    rw [this] at hK
    exact hK
end Go.PE
