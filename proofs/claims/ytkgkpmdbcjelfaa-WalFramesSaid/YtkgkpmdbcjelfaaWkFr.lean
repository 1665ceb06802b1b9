/- Law 24: WalFrames. -/
import Derived.Test.YtkgkpmdbcjelfaaWkZ
import Derived.Test.YtkgkpmdbcjelfaaWkX
set_option linter.unusedVariables false
set_option linter.defProp false
set_option linter.all false
set_option linter.unusedSimpArgs false
set_option maxRecDepth 10000
set_option maxHeartbeats 4000000
namespace Go.PE
open Go Go.Proofs

def hFrames : Det := det3 cRaws2 (c4 .u32) cBytes (fun l p _ => ((∀ x ∈ l.1, x.ok) ∧ ∀ x ∈ l.2, x.ok) ∧ range4 .u32 p) fun _ _ _ => .d (.bool true)
theorem f_WalFrames : FPure Try.prog 4 hFrames.spec := by
  refine FPure.runL [(17, .det hTrue), (28, .det hList), (20, .det hFrame), (23, .det h24parsed), (22, .det h24same), (29, .det hSame)] (fun i => if i = 10 then [(0, (true, [])), (1, (true, [])), (2, (false, [])), (3, (false, [])), (4, (false, [])), (5, (false, [])), (6, (false, [])), (7, (false, [])), (9, (false, [])), (10, (false, [])), (11, (false, [])), (12, (false, [])), (13, (false, [])), (14, (false, [])), (8, (true, [2, 3, 4, 5, 9, 10, 11, 12, 13, 14])), (15, (true, [2, 3, 4, 5, 9, 10, 11, 12, 13])), (16, (false, [])), (17, (false, [])), (18, (false, [])), (19, (false, [])), (20, (false, [])), (21, (false, [])), (22, (false, [])), (23, (false, [])), (24, (false, [])), (25, (false, [])), (26, (false, [])), (27, (false, [])), (28, (false, [])), (29, (false, [])), (30, (false, [])), (31, (false, [])), (32, (false, [])), (33, (false, [])), (34, (false, [])), (35, (false, [])), (36, (false, [])), (37, (false, [])), (38, (false, [])), (39, (true, [2, 3, 4, 5, 9, 10, 11, 12, 13, 16, 17, 18, 19, 20, 21, 22, 23, 24, 25, 26, 27, 28, 29, 30, 31, 32, 33, 34, 35])), (40, (false, [])), (41, (false, [])), (42, (false, []))] else []) (by
    intro p hp
    simp only [List.mem_cons, List.not_mem_nil, or_false] at hp
    rcases hp with rfl | rfl | rfl | rfl | rfl | rfl
    · exact f_24sanity
    · exact f_05List
    · exact f_walFrame
    · exact f_24parsed
    · exact f_24same
    · exact f_Same) F.mixed Try.func4 (by kernel_rfl) rfl (by kernel_rfl) 152 Try.ntmps4 [.tmp 6] Try.results4 ?_
  intro ds K hl hs
  obtain ⟨l, p, c, rfl, ⟨⟨ho1, ho2⟩, ⟨hp1, hp2⟩, ⟨hp3, hp4⟩, ⟨hp5, hp6⟩, ⟨hp7, hp8⟩⟩, hK⟩ := det3_elim hs
  obtain ⟨l1, l2⟩ := l
  obtain ⟨p1, p2, p3, p4⟩ := p
  simp only at ho1 ho2 hp1 hp2 hp3 hp4 hp5 hp6 hp7 hp8
  have half : ∀ {n : Int}, 0 ≤ n → n ≤ 4294967295 → ∃ q : Int, IntKind.i64.wrap (n.fdiv (2 ^ min 1 IntKind.u32.bits)) = q ∧ 0 ≤ q ∧ q ≤ 2147483647 := by
    intro n h0 h1
    have e : n.fdiv (2 ^ min 1 IntKind.u32.bits) = n / 2 := by
      rw [Int.fdiv_eq_ediv_of_nonneg _ (Int.pow_nonneg (by omega))]
      rfl
    rw [e]
    exact ⟨_, wrap_i64' (by omega) (by omega), by omega, by omega⟩
  obtain ⟨q1, w1, a1, b1⟩ := half hp1 hp2
  obtain ⟨q2, w2, a2, b2⟩ := half hp3 hp4
  obtain ⟨q3, w3, a3, b3⟩ := half hp5 hp6
  obtain ⟨q4, w4, a4, b4⟩ := half hp7 hp8
  have c00 : (0 ≤ (0 : Int)) = True := eq_true (by decide)
  have c20 : (0 ≤ (2 : Int)) = True := eq_true (by decide)
  have c30 : (0 ≤ (3 : Int)) = True := eq_true (by decide)
  have c01 : ((0 : Int) < ((2 : Nat) : Int)) = True := eq_true (by decide)
  have c12 : ((1 : Int) < ((2 : Nat) : Int)) = True := eq_true (by decide)
  have c04 : ((0 : Int) < ((4 : Nat) : Int)) = True := eq_true (by decide)
  have c14 : ((1 : Int) < ((4 : Nat) : Int)) = True := eq_true (by decide)
  have c24 : ((2 : Int) < ((4 : Nat) : Int)) = True := eq_true (by decide)
  have c34 : ((3 : Int) < ((4 : Nat) : Int)) = True := eq_true (by decide)
  have c1 : (0 ≤ (1 : Int)) = True := eq_true (by decide)
  have m1 : (∀ x ∈ l1, x.ok) = True := eq_true ho1
  have m2 : (∀ x ∈ l2, x.ok) = True := eq_true ho2
  have c12' : (0 ≤ (12 : Int) ∧ (12 : Int) ≤ 1000) = True := eq_true (by decide)
  by_cases hc : (decide (((listF l1 12).length : Int) = 0) || decide (((listF l2 12).length : Int) = 0) || decide (100 < (c.length : Int))) = true
  · simp (config := { maxSteps := 4000000 }) only [hTrue, det0_eq, c4_enc, cRaws2_enc, cRaws_dec, hList, c00, c20, c30, c1, c01, c12, m1, m2, c12', and_true, true_and, hc, eBs, cBs, F.fBs, Nat.reduceSub, Nat.reduceAdd, Nat.reduceLT, Nat.reduceEqDiff, Nat.reduceLeDiff, Nat.reduceMul, Nat.reduceBEq, Int.reduceToNat, Op.operands, if_true, if_false, reduceCtorEq, if_pos, forall_const, implies_true, eq_self, ne_eq]
    exact hK
  · rw [Bool.not_eq_true] at hc
    have hc' := hc
    simp only [Bool.or_eq_false_iff, decide_eq_false_iff_not] at hc'
    obtain ⟨⟨n1, n2⟩, n3⟩ := hc'
    have f1 := frame_made (g := q1) (s := q3) ho1 (by decide : (12 : Int) ≤ 64) (fun e => n1 (by rw [e]; rfl)) ⟨a1, b1⟩ ⟨a3, b3⟩
    have f2 := frame_made (g := q2) (s := q4) ho2 (by decide : (12 : Int) ≤ 64) (fun e => n2 (by rw [e]; rfl)) ⟨a2, b2⟩ ⟨a4, b4⟩
    have g1 := walP_ok f1
    have inj := fun e => frame_inj f1 f2 e
    generalize hA : listF l1 12 = A at *
    generalize hB : listF l2 12 = B at *
    have hee : decide ((frameF q1 q3 A).1 = (frameF q2 q4 B).1) = (decide (q1 = q2) && (decide (q3 = q4) && decide (A = B))) := by
      by_cases e : (frameF q1 q3 A).1 = (frameF q2 q4 B).1
      · obtain ⟨e1, e2, e3⟩ := inj e
        simp [e, e1, e2, e3]
      · rw [decide_eq_false e]
        symm
        rw [Bool.eq_false_iff]
        intro h
        simp only [Bool.and_eq_true, decide_eq_true_eq] at h
        obtain ⟨e1, e2, e3⟩ := h
        exact e (by rw [e1, e2, e3])
    have hcc : ∃ p, walP c = p ∧ ((p.e = 0 ∧ frameF p.gen p.seq p.l = (c, 0)) ∨ p = ⟨0, 0, [], 240⟩) := by
      refine ⟨_, rfl, ?_⟩
      unfold walP
      cases h : walF c with
      | none => exact .inr rfl
      | some r =>
        obtain ⟨g, s, l⟩ := r
        exact .inl ⟨rfl, walF_inv h⟩
    obtain ⟨P, hP, hcc⟩ := hcc
    simp (config := { maxSteps := 4000000 }) only [hTrue, det0_eq, c4_enc, cRaws2_enc, cRaws_dec, hList, c00, c20, c30, c01, c12, c04, c14, c24, c34, c1, hA, hB, m1, m2, c12', and_true, true_and, hc, hFrame, frameA, h24parsed, h24same, hSame, Parsed.enc, cParsed_dec, cParsed_dec0, w1, w2, w3, w4, f1, f2, g1, hP, decide_true, decide_false, not_true_eq_false, Bool.not_true, Bool.or_false, Bool.false_or, hee, eBs, cBs, F.fBs, Nat.reduceSub, Nat.reduceAdd, Nat.reduceLT, Nat.reduceEqDiff, Nat.reduceLeDiff, Nat.reduceMul, Nat.reduceBEq, Int.reduceToNat, Op.operands, if_true, if_false, reduceCtorEq, if_pos, forall_const, implies_true, eq_self, ne_eq]
    refine ⟨fun h => absurd h (by rw [beq_self_eq_true]; decide), fun _ => ⟨fun h => ?_, fun h => ?_⟩⟩
    · rcases hcc with ⟨h1, -⟩ | rfl
      · exact absurd h1 h
      · simpa using hK
    · rcases hcc with ⟨h1, h2⟩ | rfl
      · rw [h2]
        simpa using hK
      · exact absurd (fun e => absurd e (by decide)) h
end Go.PE
