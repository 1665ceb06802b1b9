/- Law 24: WalDamage. -/
import Derived.Test.YtkgkpmdbcjelfaaWkW
import Derived.Test.YtkgkpmdbcjelfaaWkX
set_option linter.unusedVariables false
set_option linter.defProp false
set_option linter.all false
set_option linter.unusedSimpArgs false
set_option maxRecDepth 10000
set_option maxHeartbeats 4000000
namespace Go.PE
open Go Go.Proofs

theorem xor_u8 (x : UInt8) {y : Int} (h0 : 0 ≤ y) (h1 : y < 256) : bitsI .xor .u8 x.toNat y = ((x ^^^ UInt8.ofNat y.toNat).toNat : Int) := by
  obtain ⟨n, rfl⟩ := Int.eq_ofNat_of_zero_le h0
  have hx := x.toNat_lt
  show IntKind.u8.wrap ((BitVec.ofInt 8 (x.toNat : Int) ^^^ BitVec.ofInt 8 (n : Int)).toNat : Int) = _
  rw [BitVec.ofInt_natCast, BitVec.ofInt_natCast, BitVec.toNat_xor, BitVec.toNat_ofNat, BitVec.toNat_ofNat, Nat.mod_eq_of_lt (by omega), Nat.mod_eq_of_lt (by omega), UInt8.toNat_xor, Int.toNat_natCast, UInt8.toNat_ofNat', Nat.mod_eq_of_lt (by omega)]
  have := Nat.xor_lt_two_pow (n := 8) (show x.toNat < 2 ^ 8 by omega) (show n < 2 ^ 8 by omega)
  exact wrap_u8' (by omega) (by omega)
theorem xor_ne (x : UInt8) {y : Int} (h0 : 0 ≤ y) (h1 : y < 256) (hy : y ≠ 0) : x ≠ x ^^^ UInt8.ofNat y.toNat := by
  intro e
  have e2 := congrArg (fun z => x ^^^ z) e
  simp only [← UInt8.xor_assoc, UInt8.xor_self, UInt8.zero_xor] at e2
  have e3 := congrArg UInt8.toNat e2
  rw [UInt8.toNat_ofNat', Nat.mod_eq_of_lt (by omega)] at e3
  have : (0 : UInt8).toNat = 0 := rfl
  omega
def hDamage : Det := det3 cRaws cPair16 (cI .u8) (fun l p by' => (∀ x ∈ l, x.ok) ∧ pairP p ∧ byteP by') fun _ _ _ => .d (.bool true)
theorem f_WalDamage : FPure Try.prog 5 hDamage.spec := by
  refine FPure.runL [(17, .det hTrue), (28, .det hList), (20, .det hFrame), (23, .det h24parsed), (22, .det h24same)] (fun _ => []) (by
    intro p hp
    simp only [List.mem_cons, List.not_mem_nil, or_false] at hp
    rcases hp with rfl | rfl | rfl | rfl | rfl
    · exact f_24sanity
    · exact f_05List
    · exact f_walFrame
    · exact f_24parsed
    · exact f_24same) F.mixed Try.func5 (by kernel_rfl) rfl (by kernel_rfl) 61 Try.ntmps5 [.tmp 6] Try.results5 ?_
  intro ds K hl hs
  obtain ⟨l, p, y, rfl, ⟨ho, ⟨hp1, hp2⟩, hy⟩, hK⟩ := det3_elim hs
  have w1 : IntKind.i64.wrap p.1 = p.1 := wrap_i64' (by omega) (by omega)
  have w2 : IntKind.i64.wrap p.2 = p.2 := wrap_i64' (by omega) (by omega)
  simp only [hTrue, det0_eq, cPair16_enc, cRaws_enc, cRaws_dec, hList, hFrame, frameA, w1, w2, eBs, cBs, F.fBs, Nat.reduceSub, Nat.reduceAdd, Nat.reduceLT, Nat.reduceEqDiff, Nat.reduceLeDiff, Nat.reduceMul, Nat.reduceBEq, Int.reduceToNat, Op.operands, if_true, if_false, reduceCtorEq, if_pos, forall_const, implies_true, eq_self, ne_eq]
  refine ⟨⟨ho, by decide, by decide⟩, fun _ => hK, fun h => ⟨⟨by decide, by decide⟩, ⟨by decide, by decide⟩, ?_⟩⟩
  have hne : listF l 6 ≠ [] := by
    intro e
    rw [e] at h
    simp at h
  have hy0 : y ≠ 0 := by
    intro e
    rw [e] at h
    simp at h
  have hf := frame_made (g := p.1) (s := p.2) ho (by decide : (6 : Int) ≤ 64) hne (by omega) (by omega)
  have hw := frame_ok hf
  refine ⟨fun h => absurd hf h, fun _ => ?_⟩
  generalize hB : (frameF p.1 p.2 (listF l 6)).1 = B at hw ⊢
  generalize (frameF p.1 p.2 (listF l 6)).2 = e
  have bB : B.length ≤ 65536 := by
    by_cases h1 : B.length ≤ 65536
    · exact h1
    · rw [walF, if_pos (Or.inr (by omega))] at hw
      cases hw
  refine eK_rounds [2, 7, 9] (fun i : Nat => i ≤ B.length) (fun i => [(11, .d (.int .i64 i))]) (fun _ => []) (fun _ => []) (fun i => B.length - i) 0 (Nat.zero_le _) ?_ ?_
  · simp [le_eq, St.head, keepT, setAll, leV, leB, leR, leR0, idsR, idsL, idsA, idsB]
  intro i hi
  rcases Nat.lt_or_ge i B.length with hlt | hge
  · have hx : B[i]? = some B[i] := List.getElem?_eq_getElem hlt
    generalize B[i] = x at hx
    have hg : (B.map byteCell).getD i [] = [D.int .u8 x.toNat] := by
      rw [List.getD_eq_getElem?_getD, List.getElem?_map, hx]
      rfl
    have h1 : ((i : Int) < B.length) = True := eq_true (by omega)
    have hxo := xor_u8 x hy.1 hy.2
    have hset : (B.map byteCell).set i [D.int .u8 ((x ^^^ UInt8.ofNat y.toNat).toNat : Int)] = (B.set i (x ^^^ UInt8.ofNat y.toNat)).map byteCell := by
      rw [List.map_set]
      rfl
    have hno : walF (B.set i (x ^^^ UInt8.ofNat y.toNat)) = none := by
      refine walF_one hw hlt ?_
      rw [hx]
      intro e
      injection e with e
      exact xor_ne x hy.1 hy.2 hy0 e
    simp only [le_eq, h1, hg, hxo, hset, List.length_set, cParsed_dec, cParsed_dec0, h24parsed, h24same, Parsed.enc, eBs, cBs, F.fBs, Nat.reduceSub, Nat.reduceAdd, Nat.reduceLT, Nat.reduceEqDiff, Nat.reduceLeDiff, Nat.reduceMul, Nat.reduceBEq, Int.reduceToNat, Op.operands, if_true, if_false, reduceCtorEq, if_pos, forall_const, implies_true, eq_self, ne_eq]
    have hp : walP (B.set i (x ^^^ UInt8.ofNat y.toNat)) = ⟨0, 0, [], 240⟩ := by rw [walP, hno]
    refine ⟨by omega, by omega, by omega, by omega, by omega, fun h => absurd ?_ h, fun _ => ⟨i + 1, by omega, by omega, by rw [wrap_i64' (by omega) (by omega)]; rfl⟩⟩
    rw [hp]
  · have : i = B.length := by omega
    subst this
    have h1 : ((B.length : Int) < B.length) = False := eq_false (by omega)
    simp only [le_eq, h1, h24parsed, h24same, Parsed.enc, eBs, cBs, F.fBs, Nat.reduceSub, Nat.reduceAdd, Nat.reduceLT, Nat.reduceEqDiff, Nat.reduceLeDiff, Nat.reduceMul, Nat.reduceBEq, Int.reduceToNat, Op.operands, if_true, if_false, reduceCtorEq, if_pos, forall_const, implies_true, eq_self, ne_eq]
    exact hK
end Go.PE
