/- WkZb, WkZc, joined. -/
import Derived.Test.YtomligcenflpdabGreatDoorWkZa
set_option linter.unusedVariables false
set_option linter.defProp false
set_option linter.all false
set_option linter.unusedSimpArgs false
set_option maxRecDepth 100000
set_option maxHeartbeats 4000000
namespace Go.PE
open Go Go.Proofs

/-- The records after i rounds of checks. -/
def updI (l : List Rec) (i : Nat) : List Rec := (chainF 0 l).take i ++ l.drop i
theorem upd_len {l : List Rec} {i : Nat} : (updI l i).length = l.length := by simp [updI, chain_len]; omega
theorem upd_get {l : List Rec} {i : Nat} (h : i ≤ l.length) : (updI l i)[i]? = l[i]? := by
  unfold updI
  have ht : ((chainF 0 l).take i).length = i := by simp [chain_len]; omega
  rw [List.getElem?_append_right (by omega), ht, Nat.sub_self, List.getElem?_drop, Nat.add_zero]
theorem upd_set {l : List Rec} {i : Nat} {x : Rec} (h : l[i]? = some x) : (updI l i).set i (withC x (nextN (chk 0 l i) x)) = updI l (i + 1) := by
  have hi : i < l.length := (List.getElem?_eq_some_iff.1 h).1
  have hx : (chainF 0 l)[i]? = some (withC x (nextN (chk 0 l i) x)) := by rw [chain_get, h]; rfl
  have ht : ((chainF 0 l).take i).length = i := by simp [chain_len]; omega
  unfold updI
  rw [List.set_append_right _ _ (by omega), ht, Nat.sub_self]
  obtain ⟨h1, e⟩ := List.getElem?_eq_some_iff.1 h
  rw [List.drop_eq_getElem_cons h1, List.set_cons_zero, List.take_add_one, hx]
  simp
theorem upd_all (l : List Rec) : updI l l.length = chainF 0 l := by
  unfold updI
  rw [List.take_of_length_le (by rw [chain_len]; exact Nat.le_refl _)]
  simp
theorem f_18Make : FPure Tryz.prog 7 hMake.spec := by
  refine FPure.runL [(15, .det hNext)] (fun _ => []) (by
    intro p hp
    simp only [List.mem_cons, List.not_mem_nil, or_false] at hp
    subst hp
    exact f_18Next) F.mixed Tryz.func7 (by kernel_rfl) rfl (by kernel_rfl) 60 Tryz.ntmps7 [.tmp 6] Tryz.results7 ?_
  intro ds K hl hs
  obtain ⟨src, dst, l, rfl, ⟨h1, h2, hlen, hv⟩, hK⟩ := det3_elim hs
  simp (config := { maxSteps := 4000000 }) only [eBs, cBs, F.fBs, Nat.reduceSub, Nat.reduceAdd, Nat.reduceLT, Nat.reduceEqDiff, Nat.reduceLeDiff, Nat.reduceMul, Nat.reduceBEq, Int.reduceToNat, Op.operands, if_true, if_false, reduceCtorEq, if_pos, forall_const, implies_true, eq_self, ne_eq]
  refine eK_rounds [0, 1, 2, 6] (fun i : Nat => i ≤ l.length) (fun i => [(7, .arr 1 (1 + i)), (8, .d (.int .i64 i))]) (fun _ => []) (fun i => [(1, ⟨14, 38, (headR src dst l.length :: bodyI 0 (l.take i)).map Rec.enc, false⟩)]) (fun i => l.length - i) 0 (Nat.zero_le _) ?_ ?_
  · simp [le_eq, St.head, keepT, setAll, leV, leB, leR, leR0, idsR, idsL, idsA, idsB, Rec.enc, headR, zeroRec, zeroMsg, bodyI]
  intro i hi
  have em : ∀ x : Msg, x.enc = [.int .i64 x.kind, .str x.key, .str x.value, .str x.lo, .str x.hi, .str x.fr, .str x.to, .int .i64 x.n] := fun _ => rfl
  have hbl : (bodyI 0 (l.take i)).length = i := by rw [bodyI_len]; simp; omega
  have ok0 := bare_ok h1 h2 (by omega) hv
  have bl := bare_len src dst l
  rcases Nat.lt_or_ge i l.length with hlt | hge
  · have h3 : ((i : Int) < l.length) = True := eq_true (by omega)
    simp (config := { maxSteps := 4000000 }) only [le_eq, h3, em, hbl, eBs, cBs, F.fBs, Nat.reduceSub, Nat.reduceAdd, Nat.reduceLT, Nat.reduceEqDiff, Nat.reduceLeDiff, Nat.reduceMul, Nat.reduceBEq, Int.reduceToNat, Op.operands, if_true, if_false, reduceCtorEq, if_pos, forall_const, implies_true, eq_self, ne_eq]
    refine ⟨by omega, fun x hx => ?_⟩
    have w : IntKind.i64.wrap ((i : Int) + 1) = ((i + 1 : Nat) : Int) := by rw [wrap_i64' (by omega) (by omega)]; rfl
    rw [w]
    refine ⟨⟨by omega, by omega⟩, i + 1, by omega, by omega, ⟨by simp [hbl]; omega, rfl⟩, ?_⟩
    rw [bodyI_snoc hx]
    simp [bodyR, Rec.enc, zeroRec, zeroMsg]
  · have : i = l.length := by omega
    subst this
    have h3 : ((l.length : Int) < l.length) = False := eq_false (by omega)
    simp (config := { maxSteps := 4000000 }) only [le_eq, h3, em, hbl, eBs, cBs, F.fBs, Nat.reduceSub, Nat.reduceAdd, Nat.reduceLT, Nat.reduceEqDiff, Nat.reduceLeDiff, Nat.reduceMul, Nat.reduceBEq, Int.reduceToNat, Op.operands, if_true, if_false, reduceCtorEq, if_pos, forall_const, implies_true, eq_self, ne_eq]
    have w : IntKind.i64.wrap ((l.length : Int) + 1) = ((l.length + 1 : Nat) : Int) := by rw [wrap_i64' (by omega) (by omega)]; rfl
    have hbl2 : (bodyI 0 l).length = l.length := bodyI_len _ _
    have hes : (headR src dst l.length).enc :: ((bodyI 0 l).map Rec.enc ++ [[D.int IntKind.i64 3, D.int IntKind.i64 ((l.length + 1 : Nat) : Int), D.int IntKind.i64 l.length, D.int IntKind.u64 0, D.int IntKind.u64 0, D.int IntKind.i64 0, D.str [], D.str [], D.str [], D.str [], D.str [], D.str [], D.int IntKind.i64 0, D.int IntKind.u64 0]]) = (bareF src dst l).map Rec.enc := by
      simp [bareF, endR, Rec.enc, zeroRec, zeroMsg]
    rw [w, hes]
    simp only [List.length_append, List.length_map, List.length_cons, List.length_nil, hbl2]
    refine ⟨⟨by omega, by omega⟩, ?_⟩
    unfold makeF at hK
    generalize hB : bareF src dst l = B at *
    have e2 : l.length + (0 + 1) + 1 = B.length := by omega
    rw [e2]
    refine eK_rounds [6] (fun i : Nat => i ≤ B.length) (fun i => [(7, .arr 1 B.length), (9, .d (.int .u64 (chk 0 B i : Nat))), (10, .d (.int .i64 i))]) (fun _ => []) (fun i => [(1, ⟨14, 38, (updI B i).map Rec.enc, false⟩)]) (fun i => B.length - i) 0 (Nat.zero_le _) ?_ ?_
    · simp [le_eq, St.head, keepT, setAll, leV, leB, leR, leR0, idsR, idsL, idsA, idsB, chk, updI]
    intro i hi
    have ul := upd_len (l := B) (i := i)
    rcases Nat.lt_or_ge i B.length with hlt | hge
    · have h4 : ((i : Int) < B.length) = True := eq_true (by omega)
      have hx : B[i]? = some B[i] := List.getElem?_eq_getElem hlt
      have hox := ok0 _ (List.getElem_mem hlt)
      generalize B[i] = x at hx hox
      have hug := upd_get hi
      rw [hx] at hug
      have hg : ((updI B i).map Rec.enc).getD i [] = x.enc := by
        rw [List.getD_eq_getElem?_getD, List.getElem?_map, hug]
        rfl
      simp (config := { maxSteps := 4000000 }) only [le_eq, h4, hg, ul, Rec.em, hNext, cRec_dec, Rec.eta, eBs, cBs, F.fBs, Nat.reduceSub, Nat.reduceAdd, Nat.reduceLT, Nat.reduceEqDiff, Nat.reduceLeDiff, Nat.reduceMul, Nat.reduceBEq, Int.reduceToNat, Op.operands, if_true, if_false, reduceCtorEq, if_pos, forall_const, implies_true, eq_self, ne_eq]
      have hc2 : (0 : Nat) < 18446744073709551616 := by decide
      have hlt2 := chk_lt (l := B) (i := i) hc2
      refine ⟨by omega, hlt, ⟨⟨by omega, by omega⟩, hox⟩, by omega, hlt, i + 1, by omega, by omega, ⟨by rw [chk_succ hx], by rw [wrap_i64' (by omega) (by omega)]; rfl⟩, ?_⟩
      rw [← upd_set hx, List.map_set]
      rfl
    · have : i = B.length := by omega
      subst this
      have h4 : ((B.length : Int) < B.length) = False := eq_false (by omega)
      have hua := upd_all B
      simp (config := { maxSteps := 4000000 }) only [le_eq, h4, ul, hua, chain_len, eBs, cBs, F.fBs, Nat.reduceSub, Nat.reduceAdd, Nat.reduceLT, Nat.reduceEqDiff, Nat.reduceLeDiff, Nat.reduceMul, Nat.reduceBEq, Int.reduceToNat, Op.operands, if_true, if_false, reduceCtorEq, if_pos, forall_const, implies_true, eq_self, ne_eq]
      exact hK
end Go.PE

set_option linter.unusedVariables false
set_option linter.defProp false
set_option linter.all false
set_option linter.unusedSimpArgs false
set_option maxRecDepth 100000
set_option maxHeartbeats 4000000
namespace Go.PE
open Go Go.Proofs

theorem fields1 {r : Rec} {b : List UInt8} (hk : r.kind = 1) (h : 20 ≤ b.length) : fieldsF r b = ({ r with count := readN (b.take 4), src := readN ((b.take 12).drop 4), dst := readN ((b.take 20).drop 12) }, 20, true) := by
  unfold fieldsF
  rw [if_neg (by rw [hk]; decide), if_pos ⟨hk, h⟩]
theorem fields2 {r : Rec} {b : List UInt8} (hk : r.kind = 2) : fieldsF r b = match parse1 b with
    | some (m, n) => ({ r with msg := m }, n, true)
    | none => ({ r with msg := zeroMsg }, 0, false) := by
  unfold fieldsF
  rw [if_pos hk]
  rfl
theorem fields3 {r : Rec} {b : List UInt8} (hk : r.kind = 3) (h : 4 ≤ b.length) : fieldsF r b = ({ r with count := readN (b.take 4) }, 4, true) := by
  unfold fieldsF
  rw [if_neg (by rw [hk]; decide), if_neg (fun e => absurd (hk.symm.trans e.1) (by decide)), if_pos ⟨hk, h⟩]
theorem fields0 {r : Rec} {b : List UInt8} (h2 : r.kind ≠ 2) (h1 : ¬ (r.kind = 1 ∧ 20 ≤ b.length)) (h3 : ¬ (r.kind = 3 ∧ 4 ≤ b.length)) : fieldsF r b = (r, 0, false) := by
  unfold fieldsF
  rw [if_neg h2, if_neg h1, if_neg h3]
theorem par_fin {K : Out → Prop} {b : List UInt8} {k s c f t : Int} {m : Msg} {n : Nat} (hK : K (.ret (.d (.agg (ParsedR.enc (match (if b.length < n + 5 + 8 then none else if validR ⟨k, s, c, f, t, m, (readN ((b.take (n + 5 + 8)).drop (n + 5)) : Nat)⟩ = true then some ((⟨k, s, c, f, t, m, (readN ((b.take (n + 5 + 8)).drop (n + 5)) : Nat)⟩ : Rec), n + 5 + 8) else none) with
      | some (r, n) => (⟨r, n, 0⟩ : ParsedR)
      | none => ⟨zeroRec, 0, 180⟩)))))) :
    (b.length < n + 5 + 8 → K (.ret (.d (.agg [.int .i64 0, .int .i64 0, .int .i64 0, .int .u64 0, .int .u64 0, .int .i64 0, .str [], .str [], .str [], .str [], .str [], .str [], .int .i64 0, .int .u64 0, .int .i64 0, .int .i64 180])))) ∧
    (¬ b.length < n + 5 + 8 → (validR ⟨k, s, c, f, t, m, (readN ((b.take (n + 5 + 8)).drop (n + 5)) : Nat)⟩ = false → K (.ret (.d (.agg [.int .i64 0, .int .i64 0, .int .i64 0, .int .u64 0, .int .u64 0, .int .i64 0, .str [], .str [], .str [], .str [], .str [], .str [], .int .i64 0, .int .u64 0, .int .i64 0, .int .i64 180])))) ∧
      (validR ⟨k, s, c, f, t, m, (readN ((b.take (n + 5 + 8)).drop (n + 5)) : Nat)⟩ = true → K (.ret (.d (.agg [.int .i64 k, .int .i64 s, .int .i64 c, .int .u64 f, .int .u64 t, .int .i64 m.kind, .str m.key, .str m.value, .str m.lo, .str m.hi, .str m.fr, .str m.to, .int .i64 m.n, .int .u64 (readN ((b.take (n + 5 + 8)).drop (n + 5)) : Nat), .int .i64 ((n + 5 + 8 : Nat) : Int), .int .i64 0]))))) := by
  refine ⟨fun h => ?_, fun h => ⟨fun hv => ?_, fun hv => ?_⟩⟩
  · rw [if_pos h] at hK
    exact hK
  · rw [if_neg h, if_neg (by rw [hv]; decide)] at hK
    exact hK
  · rw [if_neg h, if_pos hv] at hK
    exact hK
theorem f_18Parse : FPure Tryz.prog 13 h18parsed.spec := by
  refine FPure.runL [(27, .det h18read), (28, .det hParse2), (29, .det hValidR)] (fun i => if i = 4 then [(0, (false, [])), (1, (false, [])), (2, (false, [])), (3, (false, [])), (4, (false, [])), (5, (false, [])), (6, (false, [])), (7, (false, [])), (8, (false, [])), (9, (true, [0, 1, 2, 3, 4, 5, 6, 7, 8])), (10, (true, []))] else []) (by
    intro p hp
    simp only [List.mem_cons, List.not_mem_nil, or_false] at hp
    rcases hp with rfl | rfl | rfl
    · exact f_18read
    · exact f_05Parse
    · exact f_18Valid) F.mixed Tryz.func13 (by kernel_rfl) rfl (by kernel_rfl) 94 Tryz.ntmps13 [.cell 2 47] Tryz.results13 ?_
  intro ds K hl hs
  obtain ⟨b, rfl, la, hK⟩ := det1_elim hs
  have bcl : ∀ x : UInt8, byteCell x = [D.int .u8 x.toNat] := fun _ => rfl
  by_cases h5 : b.length < 5
  · have e5 : ((b.length : Int) < 5) = True := eq_true (by omega)
    have hp : parP b = ⟨zeroRec, 0, 180⟩ := by simp [parP, parseR, h5]
    rw [hp] at hK
    simp (config := { maxSteps := 4000000 }) only [e5, ParsedR.enc, Rec.em, zeroRec, zeroMsg, eBs, cBs, F.fBs, Nat.reduceSub, Nat.reduceAdd, Nat.reduceLT, Nat.reduceEqDiff, Nat.reduceLeDiff, Nat.reduceMul, Nat.reduceBEq, Int.reduceToNat, Op.operands, if_true, if_false, reduceCtorEq, if_pos, forall_const, implies_true, eq_self, ne_eq] at hK ⊢
    exact hK
  have e5 : ((b.length : Int) < 5) = False := eq_false (by omega)
  obtain ⟨x, hx⟩ : ∃ x, b[0]? = some x := ⟨_, List.getElem?_eq_getElem (show 0 < b.length by omega)⟩
  have hx0 : b.getD 0 0 = x := by simp [List.getD, hx]
  have hx1 := x.toNat_lt
  have wx : IntKind.i64.wrap (x.toNat : Int) = (x.toNat : Int) := wrap_i64' (by omega) (by omega)
  have t5 : ((b.take 5).drop 1).length ≤ 8 := by simp; omega
  have w4 : IntKind.i64.wrap (readN ((b.take 5).drop 1) : Int) = (readN ((b.take 5).drop 1) : Int) := by
    have := readN_lt' ((b.take 5).drop 1) 4 (by simp; omega)
    have h4 : (256 : Nat) ^ 4 = 4294967296 := rfl
    exact wrap_i64' (by omega) (by omega)
  simp (config := { maxSteps := 4000000 }) only [e5, bcl, h18read, w4, eBs, cBs, F.fBs, Nat.reduceSub, Nat.reduceAdd, Nat.reduceLT, Nat.reduceEqDiff, Nat.reduceLeDiff, Nat.reduceMul, Nat.reduceBEq, Int.reduceToNat, Op.operands, if_true, if_false, reduceCtorEq, if_pos, forall_const, implies_true, eq_self, ne_eq]
  refine ⟨⟨by omega, by omega⟩, ?_⟩
  refine eG_map _ _ _ _ _ _ ⟨fun _ => rfl, ?_⟩
  have gx : b.getD 0 default = x := by simp [List.getD, hx]
  have t9 : ((b.take 9).drop 5).length ≤ 8 := by simp; omega
  have t17 : ((b.take 17).drop 9).length ≤ 8 := by simp; omega
  have t25 : ((b.take 25).drop 17).length ≤ 8 := by simp; omega
  have w9 : IntKind.i64.wrap (readN ((b.take 9).drop 5) : Int) = (readN ((b.take 9).drop 5) : Int) := by
    have := readN_lt' ((b.take 9).drop 5) 4 (by simp; omega)
    have h4 : (256 : Nat) ^ 4 = 4294967296 := rfl
    exact wrap_i64' (by omega) (by omega)
  have hpar : parP b = match parse3 b (fieldsF (start x.toNat (readN ((b.take 5).drop 1))) (b.drop 5)) with
      | some (r, n) => ⟨r, n, 0⟩
      | none => ⟨zeroRec, 0, 180⟩ := by
    unfold parP parseR
    rw [if_neg h5, hx0]
    rfl
  have sl : ∀ n m, ((b.drop 5).take n).drop m = (b.take (5 + n)).drop (5 + m) := by
    intro n m
    rw [List.drop_take, List.drop_take, List.drop_drop, Nat.add_sub_add_left]
  have sl0 : ∀ n, (b.drop 5).take n = (b.take (5 + n)).drop 5 := fun n => sl n 0
  have fin : ∀ (k s c f t : Int) (m : Msg) (n : Nat), parse3 b (⟨k, s, c, f, t, m, 0⟩, n, true) = if b.length < n + 5 + 8 then none else if validR ⟨k, s, c, f, t, m, (readN ((b.take (n + 5 + 8)).drop (n + 5)) : Nat)⟩ = true then some (⟨k, s, c, f, t, m, (readN ((b.take (n + 5 + 8)).drop (n + 5)) : Nat)⟩, n + 5 + 8) else none := by
    intro k s c f t m n
    simp only [parse3, Bool.not_true, Bool.false_or, decide_eq_true_eq]
  have hcell : ∀ x_1 : List D, (List.map byteCell b)[0]? = some x_1 → x_1.length = 1 ∧ AV.cptr x_1 = AV.cptr [D.int IntKind.u8 ↑x.toNat] := by
    intro y hy
    rw [List.getElem?_map, hx] at hy
    injection hy with hy
    subst hy
    exact ⟨rfl, rfl⟩
  have r33 : IntKind.i64.wrap (25 + 8) = ((20 + 5 + 8 : Nat) : Int) := rfl
  by_cases k1 : x.toNat = 1
  · have wk : IntKind.i64.wrap (x.toNat : Int) = 1 := by rw [wx, k1]; rfl
    have i10 : ((1 : Int) = 1) = True := eq_true rfl
    by_cases h25 : b.length < 25
    · have e25 : ((b.length : Int) < 25) = True := eq_true (by omega)
      have hp : parP b = ⟨zeroRec, 0, 180⟩ := by
        rw [hpar, k1]
        have : fieldsF (start 1 (readN ((b.take 5).drop 1))) (b.drop 5) = (start 1 (readN ((b.take 5).drop 1)), 0, false) := by
          simp [fieldsF, start]
          omega
        rw [this]
        simp [parse3]
      rw [hp] at hK
      simp (config := { maxSteps := 4000000 }) only [gx, wk, i10, e5, e25, bcl, h18read, w4, w9, hValidR, cRec_dec, Int.toNat_natCast, ParsedR.enc, Rec.em, zeroRec, zeroMsg, eBs, cBs, F.fBs, Nat.reduceSub, Nat.reduceAdd, Nat.reduceLT, Nat.reduceEqDiff, Nat.reduceLeDiff, Nat.reduceMul, Nat.reduceBEq, Int.reduceToNat, Op.operands, if_true, if_false, reduceCtorEq, if_pos, forall_const, implies_true, eq_self, ne_eq] at hK ⊢
      exact ⟨⟨by omega, by omega, by omega⟩, t5, ⟨⟨⟨by omega, by omega⟩, hcell⟩, ⟨by omega, by omega, by omega⟩, t5⟩, hK⟩
    · have e25 : ((b.length : Int) < 25) = False := eq_false (by omega)
      have hfd : fieldsF (start 1 (readN ((b.take 5).drop 1))) (b.drop 5) = (⟨1, (readN ((b.take 5).drop 1) : Nat), (readN ((b.take 9).drop 5) : Nat), (readN ((b.take 17).drop 9) : Nat), (readN ((b.take 25).drop 17) : Nat), ⟨0, [], [], [], [], [], [], 0⟩, 0⟩, 20, true) := by
        have l1 := sl 12 4
        have l2 := sl 20 12
        have l3 := sl0 4
        rw [fields1 rfl (by simp; omega), l1, l2, l3]
        rfl
      rw [hpar, k1, hfd, fin] at hK
      have hlt : ((b.length : Int) < ((20 + 5 + 8 : Nat) : Int)) = (b.length < 20 + 5 + 8) := propext (by omega)
      simp (config := { maxSteps := 4000000 }) only [gx, wk, i10, e5, e25, bcl, h18read, w4, w9, r33, hlt, hValidR, cRec_dec, Int.toNat_natCast, eBs, cBs, F.fBs, Nat.reduceSub, Nat.reduceAdd, Nat.reduceLT, Nat.reduceEqDiff, Nat.reduceLeDiff, Nat.reduceMul, Nat.reduceBEq, Int.reduceToNat, Op.operands, if_true, if_false, reduceCtorEq, if_pos, forall_const, implies_true, eq_self, ne_eq]
      have F := par_fin hK
      have t33 : ((b.take 33).drop 25).length ≤ 8 := by simp; omega
      exact ⟨⟨by omega, by omega, by omega⟩, t5, ⟨⟨⟨by omega, by omega⟩, hcell⟩, ⟨by omega, by omega, by omega⟩, t5⟩, ⟨by omega, by omega, by omega⟩, t9, ⟨by omega, by omega, by omega⟩, t17, ⟨by omega, by omega, by omega⟩, t25, F.1, fun h => ⟨⟨by omega, by omega, by omega⟩, t33, (F.2 h).1, (F.2 h).2⟩⟩
  have n1 : (IntKind.i64.wrap (x.toNat : Int) = 1) = False := eq_false (by rw [wx]; omega)
  have kk : (start x.toNat (readN ((b.take 5).drop 1))).kind = (x.toNat : Int) := rfl
  by_cases k2 : x.toNat = 2
  · have wk : IntKind.i64.wrap (x.toNat : Int) = 2 := by rw [wx, k2]; rfl
    have i21 : ((2 : Int) = 1) = False := eq_false (by decide)
    have i22 : ((2 : Int) = 2) = True := eq_true rfl
    cases hp1 : parse1 (b.drop 5) with
    | none =>
      have hp : parP b = ⟨zeroRec, 0, 180⟩ := by
        rw [hpar, fields2 (by rw [kk, k2]; rfl), hp1]
        simp [parse3]
      rw [hp] at hK
      simp (config := { maxSteps := 4000000 }) only [gx, wk, i21, i22, e5, bcl, h18read, w4, hParse2, parse_same, hp1, parseA, hValidR, cRec_dec, Int.toNat_natCast, ParsedR.enc, Msg.enc, Rec.em, zeroRec, zeroMsg, eBs, cBs, F.fBs, Nat.reduceSub, Nat.reduceAdd, Nat.reduceLT, Nat.reduceEqDiff, Nat.reduceLeDiff, Nat.reduceMul, Nat.reduceBEq, Int.reduceToNat, Op.operands, if_true, if_false, reduceCtorEq, if_pos, forall_const, implies_true, eq_self, ne_eq] at hK ⊢
      exact ⟨⟨by omega, by omega, by omega⟩, t5, ⟨⟨⟨by omega, by omega⟩, hcell⟩, ⟨by omega, by omega, by omega⟩, t5⟩, ⟨by omega, by omega, by omega⟩, fun _ => hK, fun h => absurd (show ¬ (3 : Int) = 0 by decide) h⟩
    | some q =>
      obtain ⟨m, n⟩ := q
      have hn : n ≤ b.length - 5 := by
        have := fieldsF_le (r := start 2 0) (b := b.drop 5)
        rw [fields2 rfl, hp1] at this
        simpa using this
      have hfd : fieldsF (start x.toNat (readN ((b.take 5).drop 1))) (b.drop 5) = (⟨2, (readN ((b.take 5).drop 1) : Nat), 0, 0, 0, m, 0⟩, n, true) := by
        rw [fields2 (by rw [kk, k2]; rfl), hp1, k2]
        rfl
      rw [hpar, hfd, fin] at hK
      have wn : IntKind.i64.wrap (5 + (n : Int)) = ((n + 5 : Nat) : Int) := by rw [wrap_i64' (by omega) (by omega)]; omega
      have wn8 : IntKind.i64.wrap (((n + 5 : Nat) : Int) + 8) = ((n + 5 + 8 : Nat) : Int) := by rw [wrap_i64' (by omega) (by omega)]; rfl
      have hlt : ((b.length : Int) < ((n + 5 + 8 : Nat) : Int)) = (b.length < n + 5 + 8) := propext (by omega)
      obtain ⟨m1, m2, m3, m4, m5, m6, m7, m8⟩ := m
      simp (config := { maxSteps := 4000000 }) only [gx, wk, i21, i22, e5, bcl, h18read, w4, hParse2, parse_same, hp1, parseA, wn, wn8, hlt, hValidR, cRec_dec, Int.toNat_natCast, Msg.enc, eBs, cBs, F.fBs, Nat.reduceSub, Nat.reduceAdd, Nat.reduceLT, Nat.reduceEqDiff, Nat.reduceLeDiff, Nat.reduceMul, Nat.reduceBEq, Int.reduceToNat, Op.operands, if_true, if_false, reduceCtorEq, if_pos, forall_const, implies_true, eq_self, ne_eq]
      have F := par_fin hK
      have tn : ((b.take (n + 5 + 8)).drop (n + 5)).length ≤ 8 := by simp; omega
      exact ⟨⟨by omega, by omega, by omega⟩, t5, ⟨⟨⟨by omega, by omega⟩, hcell⟩, ⟨by omega, by omega, by omega⟩, t5⟩, ⟨by omega, by omega, by omega⟩, F.1, fun h => ⟨⟨by omega, by omega, by omega⟩, tn, (F.2 h).1, (F.2 h).2⟩⟩
  have n2 : (IntKind.i64.wrap (x.toNat : Int) = 2) = False := eq_false (by rw [wx]; omega)
  by_cases k3 : x.toNat = 3
  · have wk : IntKind.i64.wrap (x.toNat : Int) = 3 := by rw [wx, k3]; rfl
    have i31 : ((3 : Int) = 1) = False := eq_false (by decide)
    have i32 : ((3 : Int) = 2) = False := eq_false (by decide)
    have i33 : ((3 : Int) = 3) = True := eq_true rfl
    have r17 : IntKind.i64.wrap (9 + 8) = ((4 + 5 + 8 : Nat) : Int) := rfl
    by_cases h9 : b.length < 9
    · have e9 : ((b.length : Int) < 9) = True := eq_true (by omega)
      have hp : parP b = ⟨zeroRec, 0, 180⟩ := by
        rw [hpar, fields0 (by rw [kk, k3]; decide) (by rw [kk, k3]; exact fun e => absurd e.1 (by decide)) (by simp; omega)]
        simp [parse3]
      rw [hp] at hK
      simp (config := { maxSteps := 4000000 }) only [gx, wk, i31, i32, i33, e5, e9, bcl, h18read, w4, w9, hValidR, cRec_dec, Int.toNat_natCast, ParsedR.enc, Rec.em, zeroRec, zeroMsg, eBs, cBs, F.fBs, Nat.reduceSub, Nat.reduceAdd, Nat.reduceLT, Nat.reduceEqDiff, Nat.reduceLeDiff, Nat.reduceMul, Nat.reduceBEq, Int.reduceToNat, Op.operands, if_true, if_false, reduceCtorEq, if_pos, forall_const, implies_true, eq_self, ne_eq] at hK ⊢
      exact ⟨⟨by omega, by omega, by omega⟩, t5, ⟨⟨⟨by omega, by omega⟩, hcell⟩, ⟨by omega, by omega, by omega⟩, t5⟩, hK⟩
    · have e9 : ((b.length : Int) < 9) = False := eq_false (by omega)
      have hfd : fieldsF (start x.toNat (readN ((b.take 5).drop 1))) (b.drop 5) = (⟨3, (readN ((b.take 5).drop 1) : Nat), (readN ((b.take 9).drop 5) : Nat), 0, 0, ⟨0, [], [], [], [], [], [], 0⟩, 0⟩, 4, true) := by
        have l3 := sl0 4
        rw [fields3 (by rw [kk, k3]; rfl) (by simp; omega), l3, k3]
        rfl
      rw [hpar, hfd, fin] at hK
      have hlt : ((b.length : Int) < ((4 + 5 + 8 : Nat) : Int)) = (b.length < 4 + 5 + 8) := propext (by omega)
      simp (config := { maxSteps := 4000000 }) only [gx, wk, i31, i32, i33, e5, e9, bcl, h18read, w4, w9, r17, hlt, hValidR, cRec_dec, Int.toNat_natCast, eBs, cBs, F.fBs, Nat.reduceSub, Nat.reduceAdd, Nat.reduceLT, Nat.reduceEqDiff, Nat.reduceLeDiff, Nat.reduceMul, Nat.reduceBEq, Int.reduceToNat, Op.operands, if_true, if_false, reduceCtorEq, if_pos, forall_const, implies_true, eq_self, ne_eq]
      have F := par_fin hK
      have t17' : ((b.take 17).drop 9).length ≤ 8 := by simp; omega
      exact ⟨⟨by omega, by omega, by omega⟩, t5, ⟨⟨⟨by omega, by omega⟩, hcell⟩, ⟨by omega, by omega, by omega⟩, t5⟩, ⟨by omega, by omega, by omega⟩, t9, F.1, fun h => ⟨⟨by omega, by omega, by omega⟩, t17', (F.2 h).1, (F.2 h).2⟩⟩
  have n3 : (IntKind.i64.wrap (x.toNat : Int) = 3) = False := eq_false (by rw [wx]; omega)
  have hp : parP b = ⟨zeroRec, 0, 180⟩ := by
    rw [hpar, fields0 (by rw [kk]; omega) (by rw [kk]; omega) (by rw [kk]; omega)]
    simp [parse3]
  have hvx : ∀ c : Int, validR ⟨IntKind.i64.wrap (x.toNat : Int), (readN ((b.take 5).drop 1) : Nat), 0, 0, 0, ⟨0, [], [], [], [], [], [], 0⟩, c⟩ = false := by
    intro c
    rw [Bool.eq_false_iff]
    intro h
    rcases validR_cases h with ⟨h, -⟩ | ⟨h, -⟩ | ⟨h, -⟩ <;> (simp only [wx] at h; omega)
  rw [hp] at hK
  have r13 : IntKind.i64.wrap (5 + 8) = ((13 : Nat) : Int) := rfl
  simp (config := { maxSteps := 4000000 }) only [gx, n1, n2, n3, e5, bcl, h18read, w4, r13, hValidR, hvx, cRec_dec, Int.toNat_natCast, ParsedR.enc, Rec.em, zeroRec, zeroMsg, eBs, cBs, F.fBs, Nat.reduceSub, Nat.reduceAdd, Nat.reduceLT, Nat.reduceEqDiff, Nat.reduceLeDiff, Nat.reduceMul, Nat.reduceBEq, Int.reduceToNat, Op.operands, if_true, if_false, reduceCtorEq, if_pos, forall_const, implies_true, eq_self, ne_eq] at hK ⊢
  have t13 : ((b.take 13).drop 5).length ≤ 8 := by simp; omega
  exact ⟨⟨by omega, by omega, by omega⟩, t5, ⟨⟨⟨by omega, by omega⟩, hcell⟩, ⟨by omega, by omega, by omega⟩, t5⟩, fun _ => hK, fun h => ⟨⟨by omega, by omega, by omega⟩, t13, hK⟩⟩
end Go.PE

