/- Law 24: WalCuts. -/
import Derived.Test.YtkgkpmdbcjelfaaWkU
set_option linter.unusedVariables false
set_option linter.defProp false
set_option linter.all false
set_option linter.unusedSimpArgs false
set_option maxRecDepth 10000
set_option maxHeartbeats 4000000
namespace Go.PE
open Go Go.Proofs

def cPair16 : Cod (Int × Int) := cAgg (fun p => [.int .u16 p.1, .int .u16 p.2]) (fun e => match e with
  | [.int .u16 a, .int .u16 b] => some (a, b)
  | _ => none) (fun _ => rfl) (fun e p h => by
    split at h
    · injection h with h
      subst h
      rfl
    · cases h)
theorem cPair16_enc (p : Int × Int) : cPair16.enc p = .agg [.int .u16 p.1, .int .u16 p.2] := rfl
def pairP (p : Int × Int) : Prop := (0 ≤ p.1 ∧ p.1 ≤ 65535) ∧ (0 ≤ p.2 ∧ p.2 ≤ 65535)
theorem cRaws_dec (l : List Raw6) : cRaws.dec (.list (l.map Raw6.enc)) = some l := cRaws.de l
def hCuts : Det := det3 cRaws cPair16 cBytes (fun l p m => (∀ x ∈ l, x.ok) ∧ pairP p) fun _ _ _ => .d (.bool true)
theorem f_WalCuts : FPure Try.prog 6 hCuts.spec := by
  refine FPure.runL [(17, .det hTrue), (28, .det hList), (20, .det hFrame), (23, .det h24parsed)] (fun _ => []) (by
    intro p hp
    simp only [List.mem_cons, List.not_mem_nil, or_false] at hp
    rcases hp with rfl | rfl | rfl | rfl
    · exact f_24sanity
    · exact f_05List
    · exact f_walFrame
    · exact f_24parsed) F.mixed Try.func6 (by kernel_rfl) rfl (by kernel_rfl) 67 Try.ntmps6 [.tmp 6] Try.results6 ?_
  intro ds K hl hs
  obtain ⟨l, p, m, rfl, ⟨ho, hp1, hp2⟩, hK⟩ := det3_elim hs
  have w1 : IntKind.i64.wrap p.1 = p.1 := wrap_i64' (by omega) (by omega)
  have w2 : IntKind.i64.wrap p.2 = p.2 := wrap_i64' (by omega) (by omega)
  simp only [hTrue, det0_eq, cPair16_enc, cRaws_enc, cRaws_dec, hList, hFrame, frameA, w1, w2, eBs, cBs, F.fBs, Nat.reduceSub, Nat.reduceAdd, Nat.reduceLT, Nat.reduceEqDiff, Nat.reduceLeDiff, Nat.reduceMul, Nat.reduceBEq, Int.reduceToNat, Op.operands, if_true, if_false, reduceCtorEq, if_pos, forall_const, implies_true, eq_self, ne_eq]
  refine ⟨⟨ho, by decide, by decide⟩, fun _ => hK, fun h => ⟨⟨by decide, by decide⟩, ⟨by decide, by decide⟩, ?_⟩⟩
  have hne : listF l 6 ≠ [] := by
    intro e
    rw [e] at h
    simp at h
  have hf := frame_made (g := p.1) (s := p.2) ho (by decide : (6 : Int) ≤ 64) hne (by omega) (by omega)
  have hw := frame_ok hf
  refine ⟨fun h => absurd hf h, fun _ => ?_⟩
  generalize hB : (frameF p.1 p.2 (listF l 6)).1 = B at hw ⊢
  generalize (frameF p.1 p.2 (listF l 6)).2 = e
  have bB : B.length ≤ 65536 := by
    by_cases h1 : B.length ≤ 65536
    · exact h1
    · rw [walF, if_pos (Or.inr (by omega))] at hw
      cases hw
  refine eK_rounds [2, 7, 9] (fun i : Nat => i ≤ B.length) (fun i => [(11, .d (.int .i64 i))]) (fun _ => []) (fun _ => []) (fun i => B.length - i) 0 (Nat.zero_le _) ?_ ?_
  · simp [le_eq, St.head, keepT, setAll, leV, leB, leR, leR0, idsR, idsL, idsA, idsB]
  intro i hi
  simp only [le_eq, h24parsed, Parsed.enc, eBs, cBs, F.fBs, Nat.reduceSub, Nat.reduceAdd, Nat.reduceLT, Nat.reduceEqDiff, Nat.reduceLeDiff, Nat.reduceMul, Nat.reduceBEq, Int.reduceToNat, Op.operands, if_true, if_false, reduceCtorEq, if_pos, forall_const, implies_true, eq_self, ne_eq]
  have hm : m.length ≤ 60 := by
    rw [Bool.or_eq_false_iff, decide_eq_false_iff_not, decide_eq_false_iff_not] at h
    omega
  refine ⟨fun h1 => ⟨by omega, rfl, fun h2 => ?_, fun _ => ⟨i + 1, by omega, by omega, by rw [wrap_i64' (by omega) (by omega)]; rfl⟩⟩, fun _ => ⟨by omega, by omega, rfl, ?_⟩⟩
  · refine absurd ?_ h2
    rw [walP, walF_cut hw (by omega)]
  · have hfin : (decide ((walP (B ++ m)).e = 240) == decide (0 < (m.length : Int))) = true := by
      cases m with
      | nil =>
        rw [List.append_nil, walP, hw]
        rfl
      | cons c m =>
        rw [walP, walF_more hw (by simp)]
        simp
    rw [hfin]
    exact hK
end Go.PE
