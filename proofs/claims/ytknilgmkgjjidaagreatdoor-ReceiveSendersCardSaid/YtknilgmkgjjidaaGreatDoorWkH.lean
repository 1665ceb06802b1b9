/- WkH: what the laws need of it. -/
import Derived.Test.YtknilgmkgjjidaaGreatDoorWkG
set_option linter.unusedVariables false
set_option linter.defProp false
set_option linter.all false
set_option linter.unusedSimpArgs false
set_option maxRecDepth 100000
set_option maxHeartbeats 4000000
namespace Go.PE
open Go Go.Proofs

theorem Rd.eta (x : Rd) : (⟨x.l, x.s⟩ : Rd) = x := rfl
/-- A message read, before it is asked whether it is valid. -/
def rdMsg (x : Rd) : Msg × Rd :=
  let k := rdNum 1 x
  if k.1 = 1 then ({ zeroMsg with kind := k.1, key := (rdText k.2).1, value := (rdText (rdText k.2).2).1, n := (rdNum 4 (rdText (rdText k.2).2).2).1 }, (rdNum 4 (rdText (rdText k.2).2).2).2)
  else if k.1 = 2 then ({ zeroMsg with kind := k.1, key := (rdText k.2).1 }, (rdText k.2).2)
  else if k.1 = 3 then ({ zeroMsg with kind := k.1, lo := (rdText k.2).1, hi := (rdText (rdText k.2).2).1 }, (rdText (rdText k.2).2).2)
  else if k.1 = 4 ∨ k.1 = 5 then ({ zeroMsg with kind := k.1, fr := (rdText k.2).1, to := (rdText (rdText k.2).2).1 }, (rdText (rdText k.2).2).2)
  else if k.1 = 6 then ({ zeroMsg with kind := k.1, lo := (rdText k.2).1, hi := (rdText (rdText k.2).2).1, n := (rdNum 4 (rdText (rdText k.2).2).2).1 }, (rdNum 4 (rdText (rdText k.2).2).2).2)
  else ({ zeroMsg with kind := k.1 }, k.2)
def parse1 (b : List UInt8) : Option (Msg × Nat) :=
  if (rdMsg ⟨b, false⟩).2.s || !validB (rdMsg ⟨b, false⟩).1 then none else some ((rdMsg ⟨b, false⟩).1, b.length - (rdMsg ⟨b, false⟩).2.l.length)
def parseA (o : Option (Msg × Nat)) : AV := match o with
  | some (m, n) => .tup [.d (.agg m.enc), .d (.int .i64 n), .d (.int .i64 0)]
  | none => .tup [.d (.agg zeroMsg.enc), .d (.int .i64 0), .d (.int .i64 3)]
theorem rdTake_le (n : Nat) (x : Rd) : (rdTake n x).2.l.length ≤ x.l.length := by
  unfold rdTake
  split <;> simp
theorem rdNum_le (n : Nat) (x : Rd) : (rdNum n x).2.l.length ≤ x.l.length := rdTake_le n x
theorem rdText_le (x : Rd) : (rdText x).2.l.length ≤ x.l.length := Nat.le_trans (rdTake_le _ _) (rdNum_le _ _)
theorem rdMsg_le (x : Rd) : (rdMsg x).2.l.length ≤ x.l.length := by
  have h1 := rdNum_le 1 x
  have h2 := rdText_le (rdNum 1 x).2
  have h3 := rdText_le (rdText (rdNum 1 x).2).2
  have h4 := rdNum_le 4 (rdText (rdText (rdNum 1 x).2).2).2
  unfold rdMsg
  dsimp only
  repeat' split
  all_goals (dsimp only; omega)
theorem parse_fin {K : Out → Prop} {c : Bool} {m : Msg} {L x : Nat} (hx : x ≤ L) (hL : L ≤ 9223372036854775807) (hK : K (.ret (parseA (if c = true then none else some (m, L - x))))) :
    (c = true → K (.ret (.tup [.d (.agg [.int .i64 0, .str [], .str [], .str [], .str [], .str [], .str [], .int .i64 0]), .d (.int .i64 0), .d (.int .i64 3)]))) ∧
    (c = false → K (.ret (.tup [.d (.agg [.int .i64 m.kind, .str m.key, .str m.value, .str m.lo, .str m.hi, .str m.fr, .str m.to, .int .i64 m.n]), .d (.int .i64 (IntKind.i64.wrap ((L : Int) - x))), .d (.int .i64 0)]))) := by
  have hw : IntKind.i64.wrap ((L : Int) - x) = ((L - x : Nat) : Int) := by
    rw [wrap_i64' (by omega) (by omega)]
    omega
  refine ⟨fun h => ?_, fun h => ?_⟩
  · rw [if_pos h] at hK
    exact hK
  · rw [if_neg (by rw [h]; decide)] at hK
    rw [hw]
    exact hK
def hParse : Det := det1 cBytes (fun _ => True) fun b => parseA (parse1 b)
theorem f_msgParse : FPure Tryz.prog 126 hParse.spec := by
  refine FPure.runL [(176, .mem hNum), (177, .mem hText), (63, .det hValid)] (fun i => if i = 23 then [(0, (false, [])), (1, (false, [])), (2, (false, [])), (3, (false, [])), (4, (false, [])), (5, (false, [])), (6, (false, [])), (7, (false, [])), (8, (false, [])), (9, (true, [1, 2, 3, 4, 5, 6, 7, 8])), (10, (true, [])), (11, (true, []))] else []) (by
    intro p hp
    simp only [List.mem_cons, List.not_mem_nil, or_false] at hp
    rcases hp with rfl | rfl | rfl
    · exact f_msgNum
    · exact f_msgText
    · exact f_msgValid) F.mixed Tryz.func126 (by kernel_rfl) rfl (by kernel_rfl) 82 Tryz.ntmps126 [.cell 2 36, .tmp 3, .tmp 4] Tryz.results126 ?_
  intro ds K hl hs
  obtain ⟨b, rfl, -, hK⟩ := det1_elim hs
  have la := map_len_le hl
  have hle := rdMsg_le ⟨b, false⟩
  have e1 : Int.toNat 1 = 1 := rfl
  have e4 : Int.toNat 4 = 4 := rfl
  unfold parse1 at hK
  simp only at hle
  simp only [hNum, hText, hValid, Rd.dec_eq, Rd.cells, Rd.eta, e1, e4, cMsg_dec', eBs, cBs, F.fBs, Nat.reduceSub, Nat.reduceAdd, Nat.reduceLT, Nat.reduceEqDiff, Nat.reduceLeDiff, Nat.reduceMul, Nat.reduceBEq, Int.reduceToNat, Op.operands, if_true, if_false, reduceCtorEq, if_pos, forall_const, implies_true, eq_self, ne_eq, iff_self]
  unfold rdMsg at hK hle
  generalize rdNum 1 ⟨b, false⟩ = z at hK hle ⊢
  have hk : z.1 = 1 ∨ z.1 = 2 ∨ z.1 = 3 ∨ z.1 = 4 ∨ z.1 = 5 ∨ z.1 = 6 ∨ (z.1 ≠ 1 ∧ z.1 ≠ 2 ∧ z.1 ≠ 3 ∧ z.1 ≠ 4 ∧ z.1 ≠ 5 ∧ z.1 ≠ 6) := by omega
  refine ⟨⟨by omega, by omega⟩, ?_⟩
  rcases hk with hk | hk | hk | hk | hk | hk | ⟨h1, h2, h3, h4, h5, h6⟩
  case inr.inr.inr.inr.inr.inr =>
    simp only [h1, h2, h3, h4, h5, h6, if_false, or_false, zeroMsg] at hK hle
    repeat' (first | (with_reducible exact parse_fin hle la hK) | (with_reducible apply And.intro) | (intro h; exfalso; omega) | intro h)
  all_goals
    have hki : (z.1 : Int) = z.1 := rfl
    simp only [hk, Nat.reduceEqDiff, if_true, if_false, or_false, false_or, zeroMsg] at hK hle
    rw [← hk] at hK
    repeat' (first | (with_reducible exact parse_fin hle la hK) | omega | (with_reducible apply And.intro) | (intro h; exfalso; omega) | intro h)
end Go.PE
