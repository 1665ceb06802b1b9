/- Law 24: limits of frames. -/
import Derived.Test.YtkgkpmdbcjelfaaWkN
set_option linter.unusedVariables false
set_option linter.defProp false
set_option linter.all false
set_option linter.unusedSimpArgs false
set_option maxRecDepth 10000
set_option maxHeartbeats 4000000
namespace Go.PE
open Go Go.Proofs

def cPair (k : IntKind) : Cod (Int × Int) := cAgg (fun p => [.int k p.1, .int k p.2]) (fun e => match e with
  | [.int k1 a, .int k2 b] => if k1 = k ∧ k2 = k then some (a, b) else none
  | _ => none) (fun p => by simp) (fun e p h => by
    split at h
    · split at h
      · rename_i hk
        injection h with h
        subst h
        rw [hk.1, hk.2]
      · cases h
    · cases h)
theorem cPair_enc (k : IntKind) (p : Int × Int) : (cPair k).enc p = .agg [.int k p.1, .int k p.2] := rfl
def limM (i : Nat) : Msg := ⟨1, [107, 101, 121], [UInt8.ofNat i], [], [], [], [], i⟩
def limL (k : Nat) : List Msg := (List.range k).map limM
theorem limL_snoc (k : Nat) : limL (k + 1) = limL k ++ [limM k] := by simp [limL, List.range_succ]
theorem limL_len (k : Nat) : (limL k).length = k := by simp [limL]
theorem limL_get {k q : Nat} (h : q < k) : (limL k)[q]? = some (limM q) := by simp [limL, h]
def badL (k q : Nat) : List Msg := (limL k).set q { limM q with kind := 7 }
theorem badL_len (k q : Nat) : (badL k q).length = k := by simp [badL, limL]
theorem lim_set {k q : Nat} (h : q < k) : ((limL k).map Msg.enc).set q (.int .i64 7 :: List.drop 1 (((limL k).map Msg.enc).getD q [])) = (badL k q).map Msg.enc := by
  have e : ((limL k).map Msg.enc).getD q [] = (limM q).enc := by
    rw [List.getD_eq_getElem?_getD, List.getElem?_map, limL_get h]
    rfl
  rw [e, badL, List.map_set]
  rfl
theorem byte_one (i : Nat) (h : i ≤ 255) : bytesD [[D.int .u8 (IntKind.u8.wrap i)]] = some [UInt8.ofNat i] := by
  have := kindB i (by omega) (by omega)
  rw [this]
  exact bytesD_map [UInt8.ofNat i]
theorem lim_valid (i : Nat) (h : i ≤ 70) : validB (limM i) = true := by
  simp [validB, limM, zeroMsg, inB]
  exact decide_eq_true (by omega)
theorem lim_bytes : ∀ k, k ≤ 70 → ((limL k).flatMap bytesM).length = 13 * k
  | 0, _ => rfl
  | k + 1, h => by
    rw [limL_snoc, List.flatMap_append, List.length_append, lim_bytes k (by omega)]
    have : (bytesM (limM k)).length = 13 := by
      rw [bytesM, if_pos (lim_valid k (by omega))]
      simp [fieldsB, limM, textB_len, beN_len]
    simp [this]
    omega
theorem lim_group (k : Nat) (h : k ≤ 70) : groupB (limL k) = (decide (1 ≤ (k : Int)) && decide ((k : Int) ≤ 64)) := by
  unfold groupB
  have : (limL k).all validB = true := by
    rw [List.all_eq_true]
    intro m hm
    obtain ⟨j, hj, rfl⟩ := List.mem_map.1 hm
    exact lim_valid j (by have := List.mem_range.1 hj; omega)
  rw [this, limL_len, Bool.true_and]
theorem lim_ok {k : Nat} {g s : Int} (h : 1 ≤ k ∧ k ≤ 64) (hg : 0 ≤ g ∧ g ≤ 2147483647) (hs : 0 ≤ s ∧ s ≤ 2147483647) : (frameF g s (limL k)).2 = 0 := by
  unfold frameF
  rw [if_pos (by rw [lim_group k (by omega), Bool.and_eq_true, Bool.and_eq_true, n31_iff, n31_iff]; simp; omega), if_pos (by rw [lim_bytes k (by omega)]; omega)]
theorem lim_no {k : Nat} {g s : Int} (hk : k ≤ 70) (h : ¬ (1 ≤ k ∧ k ≤ 64 ∧ 0 ≤ g ∧ 0 ≤ s)) : (frameF g s (limL k)).2 = 1 := by
  unfold frameF
  rw [if_neg]
  rw [lim_group k hk, Bool.and_eq_true, Bool.and_eq_true, n31_iff, n31_iff]
  simp
  omega
theorem lim_bad {k q : Nat} {g s : Int} (h : q < k) : (frameF g s (badL k q)).2 = 1 := by
  unfold frameF
  have hn : groupB (badL k q) = false := group_no (i := q) (m := { limM q with kind := 7 }) (by simp [badL, limL, h]) (by simp [validB])
  rw [hn]
  simp
theorem lim_g (s : Int) (l : List Msg) : (frameF 2147483648 s l).2 = 1 := by
  unfold frameF
  have hn : n31B 2147483648 = false := by decide
  rw [hn]
  simp
theorem lim_s (g : Int) (l : List Msg) : (frameF g 2147483648 l).2 = 1 := by
  unfold frameF
  have hn : n31B 2147483648 = false := by decide
  rw [hn]
  simp
def hLimits : Det := det3 (cI .u8) (cPair .i32) (cI .u8) (fun n p b => (0 ≤ n ∧ n < 256) ∧ (0 ≤ b ∧ b < 256) ∧ (-2147483648 ≤ p.1 ∧ p.1 ≤ 2147483647) ∧ (-2147483648 ≤ p.2 ∧ p.2 ≤ 2147483647)) fun _ _ _ => .d (.bool true)
theorem f_WalLimits : FPure Try.prog 9 hLimits.spec := by
  refine FPure.runL [(17, .det hTrue), (20, .det hFrame)] (fun _ => []) (by
    intro p hp
    simp only [List.mem_cons, List.not_mem_nil, or_false] at hp
    rcases hp with rfl | rfl
    · exact f_24sanity
    · exact f_walFrame) F.mixed Try.func9 (by kernel_rfl) rfl (by kernel_rfl) 110 Try.ntmps9 [.tmp 6] Try.results9 ?_
  intro ds K hl hs
  obtain ⟨n, p, b, rfl, ⟨hn, hb, hp1, hp2⟩, hK⟩ := det3_elim hs
  simp only [hTrue, det0_eq, cPair_enc, eBs, cBs, F.fBs, Nat.reduceSub, Nat.reduceAdd, Nat.reduceLT, Nat.reduceEqDiff, Nat.reduceLeDiff, Nat.reduceMul, Nat.reduceBEq, Int.reduceToNat, Op.operands, if_true, if_false, reduceCtorEq, if_pos, forall_const, implies_true, eq_self, ne_eq]
  have hk : IntKind.i64.wrap (n.tmod 71) = ((n.toNat % 71 : Nat) : Int) := by
    have e : n.tmod 71 = ((n.toNat % 71 : Nat) : Int) := by
      obtain ⟨m, rfl⟩ := Int.eq_ofNat_of_zero_le hn.1
      exact (Int.ofNat_tmod m 71).symm
    rw [e]
    exact wrap_i64' (by omega) (by omega)
  rw [hk]
  have hkl : n.toNat % 71 ≤ 70 := by omega
  generalize n.toNat % 71 = k at hkl ⊢
  refine ⟨by decide, ?_⟩
  refine eK_rounds [0, 1, 2, 4, 6, 7, 8] (fun i : Nat => i ≤ k) (fun i => [(9, .arr 0 i), (10, .d (.int .i64 i))]) (fun _ => []) (fun i => [(0, ⟨8, 61, (limL i).map Msg.enc, false⟩)]) (fun i => k - i) 0 (Nat.zero_le _) ?_ ?_
  · simp [le_eq, St.head, keepT, setAll, leV, leB, leR, idsL, idsA, idsB, limL]
  intro i hi
  rcases Nat.lt_or_ge i k with h | h
  · have h1 : ((i : Int) < k) = True := eq_true (by omega)
    simp only [le_eq, h1, byte_one i (by omega), limL_len, eBs, cBs, F.fBs, Nat.reduceSub, Nat.reduceAdd, Nat.reduceLT, Nat.reduceEqDiff, Nat.reduceLeDiff, Nat.reduceMul, Nat.reduceBEq, Int.reduceToNat, Op.operands, if_true, if_false, reduceCtorEq, if_pos, forall_const, implies_true, eq_self, ne_eq]
    refine ⟨by omega, i + 1, by omega, by omega, ⟨?_, ?_⟩, ?_⟩
    · simp [limL_len]
    · rw [wrap_i64' (by omega) (by omega)]; rfl
    · rw [limL_snoc, List.map_append]; rfl
  · obtain rfl : i = k := by omega
    have h1 : ((i : Int) < i) = False := eq_false (by omega)
    have w1 : IntKind.i64.wrap p.1 = p.1 := wrap_i64' (by omega) (by omega)
    have w2 : IntKind.i64.wrap p.2 = p.2 := wrap_i64' (by omega) (by omega)
    have w3 : IntKind.i64.wrap b = b := wrap_i64' (by omega) (by omega)
    have hq : 0 < i → (b.tmod i).toNat < i ∧ 0 ≤ b.tmod i ∧ b.tmod i < i := fun h0 => by
      have := Int.tmod_lt_of_pos b (show (0 : Int) < i by omega)
      have := Int.tmod_nonneg (i : Int) hb.1
      omega
    by_cases hbad : 0 < i ∧ b.tmod 4 = 0
    · have h2 : (0 < (i : Int)) = True := eq_true (by omega)
      have h3 : (b.tmod 4 = 0) = True := eq_true hbad.2
      obtain ⟨q1, q2, q3⟩ := hq hbad.1
      simp only [le_eq, h1, h2, h3, w1, w2, w3, limL_len, lim_set q1, badL_len, hFrame, frameA, lim_bad q1, lim_g, lim_s, decide_true, Bool.and_true, eBs, cBs, F.fBs, Nat.reduceSub, Nat.reduceAdd, Nat.reduceLT, Nat.reduceEqDiff, Nat.reduceLeDiff, Nat.reduceMul, Nat.reduceBEq, Int.reduceToNat, Op.operands, if_true, if_false, reduceCtorEq, if_pos, forall_const, implies_true, eq_self, ne_eq]
      have h4 : K (Out.ret (AV.d (D.bool (decide ¬(1 : Int) = 0)))) := hK
      repeat' (first | exact h4 | omega | with_reducible apply And.intro | (intro _; omega))
    · have h23 : (decide (0 < (i : Int)) && decide (b.tmod 4 = 0)) = false := by
        rw [Bool.and_eq_false_iff]
        by_cases h0 : 0 < i
        · exact Or.inr (decide_eq_false fun e => hbad ⟨h0, e⟩)
        · exact Or.inl (decide_eq_false (by omega))
      by_cases hfit : 1 ≤ i ∧ i ≤ 64 ∧ 0 ≤ p.1 ∧ 0 ≤ p.2
      · obtain ⟨f1, f2, f3, f4⟩ := hfit
        have e1 : (1 ≤ (i : Int)) = True := eq_true (by omega)
        have e2 : ((i : Int) ≤ 64) = True := eq_true (by omega)
        have e3 : (0 ≤ p.1) = True := eq_true f3
        have e4 : (0 ≤ p.2) = True := eq_true f4
        have e5 := lim_ok ⟨f1, f2⟩ ⟨f3, hp1.2⟩ ⟨f4, hp2.2⟩
        simp only [le_eq, h1, h23, e1, e2, e3, e4, w1, w2, w3, limL_len, hFrame, frameA, e5, lim_g, lim_s, decide_true, Bool.and_true, eBs, cBs, F.fBs, Nat.reduceSub, Nat.reduceAdd, Nat.reduceLT, Nat.reduceEqDiff, Nat.reduceLeDiff, Nat.reduceMul, Nat.reduceBEq, Int.reduceToNat, Op.operands, if_true, if_false, reduceCtorEq, if_pos, forall_const, implies_true, eq_self, ne_eq]
        repeat' (first | exact hK | omega | with_reducible apply And.intro | (intro _; omega))
      · have e5 := lim_no (g := p.1) (s := p.2) (k := i) hkl hfit
        have e6 : (decide (1 ≤ (i : Int)) && (decide ((i : Int) ≤ 64) && (decide (0 ≤ p.1) && decide (0 ≤ p.2)))) = false := by
          rw [Bool.eq_false_iff]
          simp
          omega
        simp only [le_eq, h1, h23, e6, w1, w2, w3, limL_len, hFrame, frameA, e5, lim_g, lim_s, decide_true, Bool.and_true, eBs, cBs, F.fBs, Nat.reduceSub, Nat.reduceAdd, Nat.reduceLT, Nat.reduceEqDiff, Nat.reduceLeDiff, Nat.reduceMul, Nat.reduceBEq, Int.reduceToNat, Op.operands, if_true, if_false, reduceCtorEq, if_pos, forall_const, implies_true, eq_self, ne_eq]
        have h4 : K (Out.ret (AV.d (D.bool (decide ¬(1 : Int) = 0)))) := hK
        repeat' (first | exact h4 | omega | with_reducible apply And.intro | (intro _; omega))
end Go.PE
