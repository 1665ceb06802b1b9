/- Law 18: StreamParses. -/
import Derived.Test.YtkgkpmdbcjelfaaWkSh
set_option linter.unusedVariables false
set_option linter.defProp false
set_option linter.all false
set_option linter.unusedSimpArgs false
set_option maxRecDepth 10000
set_option maxHeartbeats 4000000
namespace Go.PE
open Go Go.Proofs

def hParses : Det := det2 (cI .u8) cBytes (fun k _ => rangeP .u8 k) fun _ _ => .d (.bool true)
theorem parP_cases {b : List UInt8} : (∃ r n, parP b = ⟨r, n, 0⟩ ∧ validR r = true ∧ rangeR r ∧ (0 : Int) ≤ n ∧ n ≤ b.length ∧ bytesR r = b.take n.toNat) ∨ parP b = ⟨zeroRec, 0, 180⟩ := by
  unfold parP
  cases h : parseR b with
  | none => exact .inr rfl
  | some q =>
    obtain ⟨r, n⟩ := q
    obtain ⟨h1, h2, h3, h4⟩ := parseR_inv h
    exact .inl ⟨r, n, rfl, h1, h2, by omega, by omega, by simpa using h4⟩
theorem f_StreamParses : FPure Try.prog 12 hParses.spec := by
  refine FPure.runL [(30, .det hTrue18), (35, .det h18parsed), (36, .det hValidR), (34, .det hBytesR)] (fun i => if i = 8 then [(0, (true, [])), (1, (true, [])), (2, (false, [])), (3, (false, [])), (4, (true, [2])), (5, (false, [])), (6, (false, [])), (7, (false, [])), (8, (false, [])), (9, (false, [])), (10, (false, [])), (11, (false, [])), (12, (false, [])), (13, (false, [])), (14, (false, [])), (15, (false, [])), (18, (false, [])), (19, (false, [])), (20, (false, [])), (21, (false, [])), (22, (false, [])), (16, (true, [2, 5, 6, 7, 8, 9, 10, 11, 12, 14, 18, 19, 20, 21, 22])), (17, (true, [2, 5, 6, 7, 8, 9, 10, 11, 12, 14, 18, 19, 20, 21, 22])), (23, (false, [])), (24, (false, [])), (25, (true, []))] else []) (by
    intro p hp
    simp only [List.mem_cons, List.not_mem_nil, or_false] at hp
    rcases hp with rfl | rfl | rfl | rfl
    · exact f_18sanity
    · exact f_18parsed
    · exact f_18Valid
    · exact f_streamBytes) F.mixed Try.func12 (by kernel_rfl) rfl (by kernel_rfl) 54 Try.ntmps12 [.tmp 4] Try.results12 ?_
  intro ds K hl hs
  obtain ⟨k, c, rfl, ⟨hk1, hk2⟩, hK⟩ := det2_elim hs
  by_cases h100 : 100 < c.length
  · have e1 : (100 < (c.length : Int)) = True := eq_true (by omega)
    simp (config := { maxSteps := 4000000 }) only [hTrue18, det0_eq, e1, eBs, cBs, F.fBs, Nat.reduceSub, Nat.reduceAdd, Nat.reduceLT, Nat.reduceEqDiff, Nat.reduceLeDiff, Nat.reduceMul, Nat.reduceBEq, Int.reduceToNat, Op.operands, if_true, if_false, reduceCtorEq, if_pos, forall_const, implies_true, eq_self, ne_eq]
    exact hK
  have e1 : (100 < (c.length : Int)) = False := eq_false (by omega)
  have kb : ∀ l : List UInt8, ([D.int .u8 (k.tmod 5)] :: l.map byteCell) = (UInt8.ofNat (k.tmod 5).toNat :: l).map byteCell := by
    intro l
    have h0 := Int.tmod_nonneg 5 hk1
    have h1 := Int.tmod_lt_of_pos k (show (0 : Int) < 5 by decide)
    have := kindB (k.tmod 5) h0 (by omega)
    rw [wrap_u8' h0 (by omega)] at this
    rw [List.map_cons, this]
  have bl : (UInt8.ofNat (k.tmod 5).toNat :: c).length ≤ 101 := by simp; omega
  generalize hB : UInt8.ofNat (k.tmod 5).toNat :: c = B at *
  have hc : c.length + 1 = B.length := by rw [← hB]; rfl
  have hkb := kb c
  rw [hB] at hkb
  have pc := parP_cases (b := B)
  generalize hP : parP B = P at pc
  have n0 : (¬ (0 : Int) = 0) = False := eq_false (fun h => h rfl)
  have n5 : (¬ (180 : Int) = 0) = True := eq_true (by decide)
  have nf : (¬ False) = True := not_false_eq_true
  rcases pc with ⟨r, n, rfl, h1, h2, h3, h4, h5⟩ | rfl
  · have ok : okR1 r := ⟨h1, h2⟩
    simp (config := { maxSteps := 4000000 }) only [hTrue18, det0_eq, e1, hkb, h18parsed, hP, ParsedR.enc, Rec.em, n0, nf, hValidR, hBytesR, cRec_dec, Rec.eta, h1, eBs, cBs, F.fBs, Nat.reduceSub, Nat.reduceAdd, Nat.reduceLT, Nat.reduceEqDiff, Nat.reduceLeDiff, Nat.reduceMul, Nat.reduceBEq, Int.reduceToNat, Op.operands, if_true, if_false, reduceCtorEq, if_pos, forall_const, implies_true, eq_self, ne_eq]
    have h6 : (decide (n ≤ (B.length : Int)) && decide (bytesR r = B.take n.toNat)) = true := by
      rw [decide_eq_true h4, decide_eq_true h5]
      rfl
    rw [h6]
    exact ⟨by decide, by omega, by omega, fun h => ⟨h, by decide, h3, h⟩, fun h => ⟨h, ok⟩, fun h => ⟨h, by decide, h3, h⟩, fun h => ⟨h, by decide, h3, h⟩, hK⟩
  · simp (config := { maxSteps := 4000000 }) only [hTrue18, det0_eq, e1, hkb, h18parsed, hP, ParsedR.enc, Rec.em, n5, zeroRec, zeroMsg, eBs, cBs, F.fBs, Nat.reduceSub, Nat.reduceAdd, Nat.reduceLT, Nat.reduceEqDiff, Nat.reduceLeDiff, Nat.reduceMul, Nat.reduceBEq, Int.reduceToNat, Op.operands, if_true, if_false, reduceCtorEq, if_pos, forall_const, implies_true, eq_self, ne_eq]
    exact ⟨by decide, by omega, by omega, hK⟩
end Go.PE
