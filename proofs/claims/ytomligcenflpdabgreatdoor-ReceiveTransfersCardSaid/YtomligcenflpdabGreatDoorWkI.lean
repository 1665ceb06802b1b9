/- WkI: what the laws need of it. -/
import Derived.Test.YtomligcenflpdabGreatDoorWkH
set_option linter.unusedVariables false
set_option linter.defProp false
set_option linter.all false
set_option linter.unusedSimpArgs false
set_option maxRecDepth 100000
set_option maxHeartbeats 4000000
namespace Go.PE
open Go Go.Proofs

/-- A text, and what follows; false: there is none. -/
def textF (b : List UInt8) : List UInt8 × List UInt8 × Bool :=
  if b.length < 2 ∨ b.length < 2 + readN (b.take 2) then ([], [], false) else ((b.take (2 + readN (b.take 2))).drop 2, b.drop (2 + readN (b.take 2)), true)
def textA (x : List UInt8 × List UInt8 × Bool) : AV := .tup [.d (.str x.1), .d (.list (x.2.1.map byteCell)), .d (.bool x.2.2)]
def h05text : Det := det1 cBytes (fun _ => True) fun b => textA (textF b)
theorem f_05text : FPure Tryz.prog 91 h05text.spec := by
  refine FPure.runL [] (fun i => if i = 1 then [(0, (true, [])), (1, (true, [])), (2, (false, [])), (3, (false, [])), (4, (false, [])), (5, (false, [])), (6, (false, [])), (7, (false, [])), (8, (false, [])), (9, (false, [])), (10, (false, [])), (11, (false, [])), (12, (false, [])), (13, (false, [])), (14, (false, [])), (15, (false, [])), (16, (false, [])), (17, (false, [])), (18, (false, []))] else if i = 3 then [(0, (false, [])), (1, (false, [])), (2, (false, [])), (3, (false, [])), (4, (false, [])), (5, (false, [])), (6, (false, [])), (7, (false, [])), (8, (false, [])), (9, (false, [])), (10, (false, [])), (11, (true, []))] else if i = 4 then [(0, (false, [])), (1, (false, [])), (2, (false, [])), (3, (false, [])), (4, (false, [])), (5, (false, [])), (6, (false, [])), (7, (true, [4, 5, 6])), (8, (true, [])), (9, (true, []))] else []) (by simp) F.mixed Tryz.func91 (by kernel_rfl) rfl (by kernel_rfl) 43 Tryz.ntmps91 [.tmp 2, .tmp 3, .tmp 4] Tryz.results91 ?_
  intro ds K hl hs
  obtain ⟨b, rfl, -, hK⟩ := det1_elim hs
  have la := map_len_le hl
  have bcl : ∀ x : UInt8, byteCell x = [D.int .u8 x.toNat] := fun _ => rfl
  unfold textF at hK
  simp only [bcl, eBs, cBs, F.fBs, Nat.reduceSub, Nat.reduceAdd, Nat.reduceLT, Nat.reduceEqDiff, Nat.reduceLeDiff, Nat.reduceMul, Nat.reduceBEq, Int.reduceToNat, Op.operands, if_true, if_false, reduceCtorEq, if_pos, forall_const, implies_true, eq_self, ne_eq]
  refine ⟨fun h => ⟨h, by omega, by omega⟩, ?_⟩
  refine eG_map _ _ _ _ _ _ ⟨fun _ => rfl, ?_⟩
  simp only [bcl, eBs, cBs, F.fBs, Nat.reduceSub, Nat.reduceAdd, Nat.reduceLT, Nat.reduceEqDiff, Nat.reduceLeDiff, Nat.reduceMul, Nat.reduceBEq, Int.reduceToNat, Op.operands, if_true, if_false, reduceCtorEq, if_pos, forall_const, implies_true, eq_self, ne_eq]
  refine ⟨fun h => ⟨h, by omega, by omega⟩, ?_⟩
  refine eG_map _ _ _ _ _ _ ⟨fun _ => rfl, ?_⟩
  have e1 : Int.toNat 1 = 1 := rfl
  have hx := (b.getD 0 default).toNat_lt
  have hy := (b.getD 1 default).toNat_lt
  have hw : IntKind.i64.wrap (IntKind.i64.wrap (2 + IntKind.i64.wrap (256 * IntKind.i64.wrap ((b.getD 0 default).toNat : Int))) + IntKind.i64.wrap ((b.getD 1 default).toNat : Int)) = ((2 + (256 * (b.getD 0 default).toNat + (b.getD 1 default).toNat) : Nat) : Int) := by
    rw [wrap_i64' (n := ((b.getD 0 default).toNat : Int)) (by omega) (by omega), wrap_i64' (n := ((b.getD 1 default).toNat : Int)) (by omega) (by omega), wrap_i64' (n := 256 * ((b.getD 0 default).toNat : Int)) (by omega) (by omega), wrap_i64' (n := 2 + 256 * ((b.getD 0 default).toNat : Int)) (by omega) (by omega), wrap_i64' (by omega) (by omega)]
    omega
  have hN : 2 ≤ b.length → readN (b.take 2) = 256 * (b.getD 0 default).toNat + (b.getD 1 default).toNat := by
    intro h
    match b, h with
    | x :: y :: l, _ => simp [readN]
  simp only [bcl, e1, hw, eBs, cBs, F.fBs, Nat.reduceSub, Nat.reduceAdd, Nat.reduceLT, Nat.reduceEqDiff, Nat.reduceLeDiff, Nat.reduceMul, Nat.reduceBEq, Int.reduceToNat, Op.operands, if_true, if_false, reduceCtorEq, if_pos, forall_const, implies_true, eq_self, ne_eq]
  refine ⟨fun h => ?_, fun h => ?_⟩
  · rw [if_pos] at hK
    · exact hK
    · simp only [Bool.or_eq_true, decide_eq_true_eq] at h
      rcases h with h | h
      · exact .inl (by omega)
      · by_cases h2 : b.length < 2
        · exact .inl h2
        · rw [hN (by omega)]
          exact .inr (by omega)
  · simp only [Bool.or_eq_false_iff, decide_eq_false_iff_not] at h
    rw [if_neg, hN (by omega)] at hK
    · refine ⟨by omega, ?_⟩
      refine eG_map _ _ _ _ _ _ ⟨fun _ => rfl, ?_⟩
      simp only [bcl, e1, hw, eBs, cBs, F.fBs, Nat.reduceSub, Nat.reduceAdd, Nat.reduceLT, Nat.reduceEqDiff, Nat.reduceLeDiff, Nat.reduceMul, Nat.reduceBEq, Int.reduceToNat, Op.operands, if_true, if_false, reduceCtorEq, if_pos, forall_const, implies_true, eq_self, ne_eq]
      refine ⟨by omega, ?_⟩
      refine eG_map _ _ _ _ _ _ ⟨fun _ => rfl, ?_⟩
      simp only [bcl, e1, hw, eBs, cBs, F.fBs, Nat.reduceSub, Nat.reduceAdd, Nat.reduceLT, Nat.reduceEqDiff, Nat.reduceLeDiff, Nat.reduceMul, Nat.reduceBEq, Int.reduceToNat, Op.operands, if_true, if_false, reduceCtorEq, if_pos, forall_const, implies_true, eq_self, ne_eq]
      repeat' (first | exact hK | omega | (with_reducible apply And.intro))
    · rw [hN (by omega)]
      omega

/-- What read has after i rounds: two texts, what is left, whether all is well. -/
def readI (b : List UInt8) : Nat → List UInt8 × List UInt8 × List UInt8 × Bool
  | 0 => ([], [], b, true)
  | 1 => ((textF b).1, [], (textF b).2.1, (textF b).2.2)
  | _ => ((textF b).1, (textF (textF b).2.1).1, (textF (textF b).2.1).2.1, (textF (textF b).2.1).2.2)
def readF (n : Nat) (b : List UInt8) : List UInt8 × List UInt8 × List UInt8 × Bool := if n = 1 ∨ (textF b).2.2 = false then readI b 1 else readI b 2
def readA (x : List UInt8 × List UInt8 × List UInt8 × Bool) : AV := .tup [.d (.agg [.str x.1, .str x.2.1]), .d (.list (x.2.2.1.map byteCell)), .d (.bool x.2.2.2)]
def h05read : Det := det2 cBytes (cI .i64) (fun _ n => n = 1 ∨ n = 2) fun b n => readA (readF n.toNat b)
theorem f_05read : FPure Tryz.prog 56 h05read.spec := by
  refine FPure.runL [(91, .det h05text)] (fun _ => []) (by
    intro p hp
    simp only [List.mem_cons, List.not_mem_nil, or_false] at hp
    subst hp
    exact f_05text) F.mixed Tryz.func56 (by kernel_rfl) rfl (by kernel_rfl) 30 Tryz.ntmps56 [.cell 4 109, .tmp 5, .tmp 6] Tryz.results56 ?_
  intro ds K hl hs
  obtain ⟨b, n, rfl, hn, hK⟩ := det2_elim hs
  simp only [eBs, cBs, F.fBs, Nat.reduceSub, Nat.reduceAdd, Nat.reduceLT, Nat.reduceEqDiff, Nat.reduceLeDiff, Nat.reduceMul, Nat.reduceBEq, Int.reduceToNat, Op.operands, if_true, if_false, reduceCtorEq, if_pos, forall_const, implies_true, eq_self, ne_eq]
  refine eK_rounds [1, 4, 7] (fun i : Nat => (i : Int) ≤ n ∧ i ≤ 2 ∧ (i = 2 → (readI b 1).2.2.2 = true)) (fun i => [(0, .d (.list ((readI b i).2.2.1.map byteCell))), (8, .d (.bool (readI b i).2.2.2)), (9, .d (.int .i64 i))]) (fun i => [(1, [.d (.str (readI b i).1), .d (.str (readI b i).2.1)])]) (fun _ => []) (fun i => 2 - i) 0 ⟨by omega, by omega, by omega⟩ ?_ ?_
  · simp [le_eq, St.head, keepT, setAll, leV, leB, leR, leR0, idsR, idsL, idsA, idsB, readI]
  rintro i ⟨hi, h2, h3⟩
  simp only [le_eq, h05text, textA, eBs, cBs, F.fBs, Nat.reduceSub, Nat.reduceAdd, Nat.reduceLT, Nat.reduceEqDiff, Nat.reduceLeDiff, Nat.reduceMul, Nat.reduceBEq, Int.reduceToNat, Op.operands, if_true, if_false, reduceCtorEq, if_pos, forall_const, implies_true, eq_self, ne_eq]
  have hi3 : i = 0 ∨ i = 1 ∨ i = 2 := by omega
  have w1 : IntKind.i64.wrap (((0 : Nat) : Int) + 1) = ((1 : Nat) : Int) := rfl
  have w2 : IntKind.i64.wrap (((1 : Nat) : Int) + 1) = ((2 : Nat) : Int) := rfl
  rcases hi3 with rfl | rfl | rfl
  · refine ⟨fun _ => ⟨⟨by omega, by omega⟩, by omega, 1, ⟨by omega, by omega, fun h => absurd h (by omega)⟩, by omega, ⟨rfl, rfl, by rw [w1]⟩, ?_⟩, fun h => ?_⟩
    · simp [readI, leV]
    · exfalso
      simp only [readI, Bool.and_true, decide_eq_false_iff_not] at h
      omega
  · refine ⟨fun h => ?_, fun h => ?_⟩
    · simp only [Bool.and_eq_true, decide_eq_true_eq] at h
      exact ⟨⟨by omega, by omega⟩, by omega, 2, ⟨by omega, by omega, fun _ => h.2⟩, by omega, ⟨rfl, rfl, by rw [w2]⟩, by simp [readI, leV]⟩
    · have : readF n.toNat b = readI b 1 := by
        unfold readF
        rw [if_pos]
        simp only [Bool.and_eq_false_iff, decide_eq_false_iff_not] at h
        rcases h with h | h
        · exact .inl (by omega)
        · exact .inr h
      rw [this] at hK
      exact hK
  · refine ⟨fun h => ?_, fun h => ?_⟩
    · simp only [Bool.and_eq_true, decide_eq_true_eq] at h
      omega
    · have : readF n.toNat b = readI b 2 := by
        unfold readF
        rw [if_neg]
        have := h3 rfl
        simp only [readI] at this
        rw [this]
        simp
        omega
      rw [this] at hK
      exact hK

/-- A message read by the reference. -/
def num4 (l : List UInt8) (i : Nat) : Nat := readN (l.take i)
def parse2 (b : List UInt8) : Option (Msg × Nat) :=
  match b with
  | [] => none
  | k :: l =>
    let r := readF (if k.toNat = 2 then 1 else 2) l
    if r.2.2.2 = false then none
    else
      let m : Msg := if k.toNat = 1 then { zeroMsg with kind := k.toNat, key := r.1, value := r.2.1 } else if k.toNat = 2 then { zeroMsg with kind := k.toNat, key := r.1 }
        else if k.toNat = 3 ∨ k.toNat = 6 then { zeroMsg with kind := k.toNat, lo := r.1, hi := r.2.1 } else { zeroMsg with kind := k.toNat, fr := r.1, to := r.2.1 }
      if k.toNat = 1 ∨ k.toNat = 6 then
        if r.2.2.1.length < 4 then none
        else if validB { m with n := num4 r.2.2.1 4 } then some ({ m with n := num4 r.2.2.1 4 }, b.length - (r.2.2.1.length - 4)) else none
      else if validB m then some (m, b.length - r.2.2.1.length) else none
theorem textF_le (b : List UInt8) : (textF b).2.1.length ≤ b.length := by
  unfold textF
  split <;> simp
theorem readF_le (b : List UInt8) (n : Nat) : (readF n b).2.2.1.length ≤ b.length := by
  have h1 := textF_le b
  have h2 := textF_le (textF b).2.1
  unfold readF
  split
  · exact h1
  · exact Nat.le_trans h2 h1
theorem parse_fin2 {K : Out → Prop} {m : Msg} {L x : Nat} (hx : x ≤ L) (hL : L ≤ 9223372036854775807) (hK : K (.ret (parseA (if validB m = true then some (m, L - x) else none)))) :
    (validB m = false → K (.ret (.tup [.d (.agg [.int .i64 0, .str [], .str [], .str [], .str [], .str [], .str [], .int .i64 0]), .d (.int .i64 0), .d (.int .i64 3)]))) ∧
    (validB m = true → K (.ret (.tup [.d (.agg [.int .i64 m.kind, .str m.key, .str m.value, .str m.lo, .str m.hi, .str m.fr, .str m.to, .int .i64 m.n]), .d (.int .i64 (IntKind.i64.wrap ((L : Int) - x))), .d (.int .i64 0)]))) := by
  have hw : IntKind.i64.wrap ((L : Int) - x) = ((L - x : Nat) : Int) := by
    rw [wrap_i64' (by omega) (by omega)]
    omega
  refine ⟨fun h => ?_, fun h => ?_⟩
  · rw [if_neg (by rw [h]; decide)] at hK
    exact hK
  · rw [if_pos h] at hK
    rw [hw]
    exact hK
theorem num4_round {l : List UInt8} {i : Nat} {x : UInt8} (hx : l[i]? = some x) (hi : i < 4) : ∃ a' : Nat, a' ≤ 4 ∧ 4 - a' < 4 - i ∧ AV.d (.int .i64 (IntKind.i64.wrap ((i : Int) + 1))) = AV.d (.int .i64 (a' : Int)) ∧
    AV.d (.int .i64 (IntKind.i64.wrap (IntKind.i64.wrap (256 * (num4 l i : Int)) + IntKind.i64.wrap (x.toNat : Int)))) = AV.d (.int .i64 (num4 l a' : Int)) := by
  have hlt := readN_lt' (l.take i) 3 (by simp; omega)
  have hxl : x.toNat < 256 := x.toNat_lt
  have h3 : (256 : Nat) ^ 3 = 16777216 := rfl
  have e : IntKind.i64.wrap (IntKind.i64.wrap (256 * (num4 l i : Int)) + IntKind.i64.wrap (x.toNat : Int)) = (num4 l (i + 1) : Int) := by
    unfold num4
    rw [take_snoc hx, readN_snoc, wrap_i64' (n := 256 * (readN (l.take i) : Int)) (by omega) (by omega), wrap_i64' (n := (x.toNat : Int)) (by omega) (by omega), wrap_i64' (by omega) (by omega)]
    omega
  exact ⟨i + 1, by omega, by omega, by rw [wrap_i64' (by omega) (by omega)]; rfl, by rw [e]⟩
def hParse2 : Det := det1 cBytes (fun _ => True) fun b => parseA (parse2 b)
theorem f_05Parse : FPure Tryz.prog 28 hParse2.spec := by
  refine FPure.runL [(56, .det h05read), (57, .det hValid)] (fun i => if i = 12 then [(0, (false, [])), (1, (false, [])), (2, (false, [])), (3, (false, [])), (4, (false, [])), (5, (true, [2, 3])), (6, (true, [])), (7, (true, []))] else if i = 10 then [(0, (false, [])), (1, (false, [])), (2, (false, [])), (3, (false, [])), (4, (false, [])), (5, (true, [2, 3])), (6, (true, [])), (7, (true, []))] else if i = 24 then [(0, (false, [])), (1, (false, [])), (2, (false, [])), (3, (false, [])), (4, (false, [])), (5, (false, [])), (6, (false, [])), (7, (false, [])), (8, (false, [])), (9, (true, [])), (10, (true, []))] else []) (by
    intro p hp
    simp only [List.mem_cons, List.not_mem_nil, or_false] at hp
    rcases hp with rfl | rfl
    · exact f_05read
    · exact f_05Valid) F.mixed Tryz.func28 (by kernel_rfl) rfl (by kernel_rfl) 102 Tryz.ntmps28 [.cell 2 36, .tmp 3, .tmp 4] Tryz.results28 ?_
  intro ds K hl hs
  obtain ⟨b, rfl, -, hK⟩ := det1_elim hs
  have la := map_len_le hl
  have bcl : ∀ x : UInt8, byteCell x = [D.int .u8 x.toNat] := fun _ => rfl
  simp only [bcl, eBs, cBs, F.fBs, Nat.reduceSub, Nat.reduceAdd, Nat.reduceLT, Nat.reduceEqDiff, Nat.reduceLeDiff, Nat.reduceMul, Nat.reduceBEq, Int.reduceToNat, Op.operands, if_true, if_false, reduceCtorEq, if_pos, forall_const, implies_true, eq_self, ne_eq]
  refine ⟨fun h => ?_, fun h => ⟨⟨by omega, by omega⟩, fun k hk => ?_⟩⟩
  · have : b = [] := List.eq_nil_of_length_eq_zero (by omega)
    subst this
    exact hK
  obtain ⟨l, rfl⟩ : ∃ l, b = k :: l := by
    cases b with
    | nil => simp at hk
    | cons x l => simp at hk; exact ⟨l, by rw [hk]⟩
  have hkl := k.toNat_lt
  have hw : IntKind.i64.wrap (k.toNat : Int) = (k.toNat : Int) := wrap_i64' (by omega) (by omega)
  have e1 : Int.toNat 1 = 1 := rfl
  have e2 : Int.toNat 2 = 2 := rfl
  have hrl : ∀ n, (readF n l).2.2.1.length ≤ l.length := readF_le l
  have hkk : k.toNat = 1 ∨ k.toNat = 2 ∨ k.toNat = 3 ∨ k.toNat = 4 ∨ k.toNat = 5 ∨ k.toNat = 6 ∨ (¬ k.toNat = 1 ∧ ¬ k.toNat = 2 ∧ ¬ k.toNat = 3 ∧ ¬ k.toNat = 4 ∧ ¬ k.toNat = 5 ∧ ¬ k.toNat = 6) := by omega
  rcases hkk with h1 | h1 | h1 | h1 | h1 | h1 | ⟨h1, h2, h3, h4, h5, h6⟩
  case inl =>
    have g1 : (k.toNat : Int) = 1 := by omega
    have w1 : IntKind.i64.wrap 1 = 1 := rfl
    have c1 : ((1 : Nat) : Int) = 1 := rfl
    simp only [parse2, h1, Nat.reduceEqDiff, if_true, if_false, or_true, true_or, or_false, false_or, zeroMsg, List.length_cons, c1] at hK la
    simp (config := { maxSteps := 2000000 }) only [g1, w1, h05read, readA, hValid, cMsg_dec', e1, e2, Int.reduceEq, List.length_map, List.drop_succ_cons, eBs, cBs, F.fBs, Nat.reduceSub, Nat.reduceAdd, Nat.reduceLT, Nat.reduceEqDiff, Nat.reduceLeDiff, Nat.reduceMul, Nat.reduceBEq, Int.reduceToNat, Op.operands, if_true, if_false, reduceCtorEq, if_pos, forall_const, implies_true, eq_self, ne_eq]
    have hrl := hrl 2
    generalize readF 2 l = r at hK hrl ⊢
    refine ⟨by omega, fun hr => ?_, fun hr => ?_⟩
    · rw [if_pos hr] at hK
      exact hK
    rw [if_neg (by rw [hr]; decide)] at hK
    repeat' (first | with_reducible apply And.intro)
    all_goals first | omega | skip
    · intro h4
      rw [if_pos (by omega)] at hK
      exact hK
    intro h4
    rw [if_neg (by omega)] at hK
    refine eK_rounds [0, 2, 5, 8] (fun i : Nat => i ≤ 4) (fun i => [(10, .d (.int .i64 i))]) (fun i => [(1, [.d (.int .i64 1), .d (.str r.1), .d (.str r.2.1), .d (.str []), .d (.str []), .d (.str []), .d (.str []), .d (.int .i64 (num4 r.2.2.1 i : Nat))])]) (fun _ => []) (fun i => 4 - i) 0 (by omega) ?_ ?_
    · simp [le_eq, St.head, keepT, setAll, leV, leB, leR, leR0, idsR, idsL, idsA, idsB, num4, readN]
    intro i hi
    simp (config := { maxSteps := 2000000 }) only [le_eq, bcl, hValid, cMsg_dec', eBs, cBs, F.fBs, Nat.reduceSub, Nat.reduceAdd, Nat.reduceLT, Nat.reduceEqDiff, Nat.reduceLeDiff, Nat.reduceMul, Nat.reduceBEq, Int.reduceToNat, Op.operands, if_true, if_false, reduceCtorEq, if_pos, forall_const, implies_true, eq_self, ne_eq]
    refine ⟨fun hi4 => ⟨⟨by omega, by omega⟩, eG_map _ _ _ _ _ _ ⟨fun _ => rfl, ?_⟩⟩, fun hi4 => ?_⟩
    · have hx : r.2.2.1[i]? = some (r.2.2.1.getD i default) := by simp [List.getD, show i < r.2.2.1.length by omega]
      simp (config := { maxSteps := 2000000 }) only [le_eq, bcl, hValid, cMsg_dec', eBs, cBs, F.fBs, Nat.reduceSub, Nat.reduceAdd, Nat.reduceLT, Nat.reduceEqDiff, Nat.reduceLeDiff, Nat.reduceMul, Nat.reduceBEq, Int.reduceToNat, Op.operands, if_true, if_false, reduceCtorEq, if_pos, forall_const, implies_true, eq_self, ne_eq]
      generalize r.2.2.1.getD i default = x at hx ⊢
      exact num4_round hx (by omega)
    · have : i = 4 := by omega
      subst this
      have e4 : Int.toNat 4 = 4 := rfl
      rw [← List.length_drop] at hK
      try simp only [e4]
      obtain ⟨f1, f2⟩ := parse_fin2 (by simp; omega) la hK
      exact ⟨by omega, f1, f2⟩
  case inr.inl =>
    have g1 : (k.toNat : Int) = 2 := by omega
    have w1 : IntKind.i64.wrap 2 = 2 := rfl
    have c1 : ((2 : Nat) : Int) = 2 := rfl
    simp only [parse2, h1, Nat.reduceEqDiff, if_true, if_false, or_true, true_or, or_false, false_or, zeroMsg, List.length_cons, c1] at hK la
    simp (config := { maxSteps := 2000000 }) only [g1, w1, h05read, readA, hValid, cMsg_dec', e1, e2, Int.reduceEq, List.length_map, List.drop_succ_cons, eBs, cBs, F.fBs, Nat.reduceSub, Nat.reduceAdd, Nat.reduceLT, Nat.reduceEqDiff, Nat.reduceLeDiff, Nat.reduceMul, Nat.reduceBEq, Int.reduceToNat, Op.operands, if_true, if_false, reduceCtorEq, if_pos, forall_const, implies_true, eq_self, ne_eq]
    have hrl := hrl 1
    generalize readF 1 l = r at hK hrl ⊢
    refine ⟨by omega, fun hr => ?_, fun hr => ?_⟩
    · rw [if_pos hr] at hK
      exact hK
    rw [if_neg (by rw [hr]; decide)] at hK
    obtain ⟨f1, f2⟩ := parse_fin2 (by omega) la hK
    repeat' (first | (with_reducible exact f1) | (with_reducible exact f2) | omega | (with_reducible apply And.intro))
  case inr.inr.inl =>
    have g1 : (k.toNat : Int) = 3 := by omega
    have w1 : IntKind.i64.wrap 3 = 3 := rfl
    have c1 : ((3 : Nat) : Int) = 3 := rfl
    simp only [parse2, h1, Nat.reduceEqDiff, if_true, if_false, or_true, true_or, or_false, false_or, zeroMsg, List.length_cons, c1] at hK la
    simp (config := { maxSteps := 2000000 }) only [g1, w1, h05read, readA, hValid, cMsg_dec', e1, e2, Int.reduceEq, List.length_map, List.drop_succ_cons, eBs, cBs, F.fBs, Nat.reduceSub, Nat.reduceAdd, Nat.reduceLT, Nat.reduceEqDiff, Nat.reduceLeDiff, Nat.reduceMul, Nat.reduceBEq, Int.reduceToNat, Op.operands, if_true, if_false, reduceCtorEq, if_pos, forall_const, implies_true, eq_self, ne_eq]
    have hrl := hrl 2
    generalize readF 2 l = r at hK hrl ⊢
    refine ⟨by omega, fun hr => ?_, fun hr => ?_⟩
    · rw [if_pos hr] at hK
      exact hK
    rw [if_neg (by rw [hr]; decide)] at hK
    obtain ⟨f1, f2⟩ := parse_fin2 (by omega) la hK
    repeat' (first | (with_reducible exact f1) | (with_reducible exact f2) | omega | (with_reducible apply And.intro))
  case inr.inr.inr.inl =>
    have g1 : (k.toNat : Int) = 4 := by omega
    have w1 : IntKind.i64.wrap 4 = 4 := rfl
    have c1 : ((4 : Nat) : Int) = 4 := rfl
    simp only [parse2, h1, Nat.reduceEqDiff, if_true, if_false, or_true, true_or, or_false, false_or, zeroMsg, List.length_cons, c1] at hK la
    simp (config := { maxSteps := 2000000 }) only [g1, w1, h05read, readA, hValid, cMsg_dec', e1, e2, Int.reduceEq, List.length_map, List.drop_succ_cons, eBs, cBs, F.fBs, Nat.reduceSub, Nat.reduceAdd, Nat.reduceLT, Nat.reduceEqDiff, Nat.reduceLeDiff, Nat.reduceMul, Nat.reduceBEq, Int.reduceToNat, Op.operands, if_true, if_false, reduceCtorEq, if_pos, forall_const, implies_true, eq_self, ne_eq]
    have hrl := hrl 2
    generalize readF 2 l = r at hK hrl ⊢
    refine ⟨by omega, fun hr => ?_, fun hr => ?_⟩
    · rw [if_pos hr] at hK
      exact hK
    rw [if_neg (by rw [hr]; decide)] at hK
    obtain ⟨f1, f2⟩ := parse_fin2 (by omega) la hK
    repeat' (first | (with_reducible exact f1) | (with_reducible exact f2) | omega | (with_reducible apply And.intro))
  case inr.inr.inr.inr.inl =>
    have g1 : (k.toNat : Int) = 5 := by omega
    have w1 : IntKind.i64.wrap 5 = 5 := rfl
    have c1 : ((5 : Nat) : Int) = 5 := rfl
    simp only [parse2, h1, Nat.reduceEqDiff, if_true, if_false, or_true, true_or, or_false, false_or, zeroMsg, List.length_cons, c1] at hK la
    simp (config := { maxSteps := 2000000 }) only [g1, w1, h05read, readA, hValid, cMsg_dec', e1, e2, Int.reduceEq, List.length_map, List.drop_succ_cons, eBs, cBs, F.fBs, Nat.reduceSub, Nat.reduceAdd, Nat.reduceLT, Nat.reduceEqDiff, Nat.reduceLeDiff, Nat.reduceMul, Nat.reduceBEq, Int.reduceToNat, Op.operands, if_true, if_false, reduceCtorEq, if_pos, forall_const, implies_true, eq_self, ne_eq]
    have hrl := hrl 2
    generalize readF 2 l = r at hK hrl ⊢
    refine ⟨by omega, fun hr => ?_, fun hr => ?_⟩
    · rw [if_pos hr] at hK
      exact hK
    rw [if_neg (by rw [hr]; decide)] at hK
    obtain ⟨f1, f2⟩ := parse_fin2 (by omega) la hK
    repeat' (first | (with_reducible exact f1) | (with_reducible exact f2) | omega | (with_reducible apply And.intro))
  case inr.inr.inr.inr.inr.inl =>
    have g1 : (k.toNat : Int) = 6 := by omega
    have w1 : IntKind.i64.wrap 6 = 6 := rfl
    have c1 : ((6 : Nat) : Int) = 6 := rfl
    simp only [parse2, h1, Nat.reduceEqDiff, if_true, if_false, or_true, true_or, or_false, false_or, zeroMsg, List.length_cons, c1] at hK la
    simp (config := { maxSteps := 2000000 }) only [g1, w1, h05read, readA, hValid, cMsg_dec', e1, e2, Int.reduceEq, List.length_map, List.drop_succ_cons, eBs, cBs, F.fBs, Nat.reduceSub, Nat.reduceAdd, Nat.reduceLT, Nat.reduceEqDiff, Nat.reduceLeDiff, Nat.reduceMul, Nat.reduceBEq, Int.reduceToNat, Op.operands, if_true, if_false, reduceCtorEq, if_pos, forall_const, implies_true, eq_self, ne_eq]
    have hrl := hrl 2
    generalize readF 2 l = r at hK hrl ⊢
    refine ⟨by omega, fun hr => ?_, fun hr => ?_⟩
    · rw [if_pos hr] at hK
      exact hK
    rw [if_neg (by rw [hr]; decide)] at hK
    repeat' (first | with_reducible apply And.intro)
    all_goals first | omega | skip
    · intro h4
      rw [if_pos (by omega)] at hK
      exact hK
    intro h4
    rw [if_neg (by omega)] at hK
    refine eK_rounds [0, 2, 5, 8] (fun i : Nat => i ≤ 4) (fun i => [(10, .d (.int .i64 i))]) (fun i => [(1, [.d (.int .i64 6), .d (.str []), .d (.str []), .d (.str r.1), .d (.str r.2.1), .d (.str []), .d (.str []), .d (.int .i64 (num4 r.2.2.1 i : Nat))])]) (fun _ => []) (fun i => 4 - i) 0 (by omega) ?_ ?_
    · simp [le_eq, St.head, keepT, setAll, leV, leB, leR, leR0, idsR, idsL, idsA, idsB, num4, readN]
    intro i hi
    simp (config := { maxSteps := 2000000 }) only [le_eq, bcl, hValid, cMsg_dec', eBs, cBs, F.fBs, Nat.reduceSub, Nat.reduceAdd, Nat.reduceLT, Nat.reduceEqDiff, Nat.reduceLeDiff, Nat.reduceMul, Nat.reduceBEq, Int.reduceToNat, Op.operands, if_true, if_false, reduceCtorEq, if_pos, forall_const, implies_true, eq_self, ne_eq]
    refine ⟨fun hi4 => ⟨⟨by omega, by omega⟩, eG_map _ _ _ _ _ _ ⟨fun _ => rfl, ?_⟩⟩, fun hi4 => ?_⟩
    · have hx : r.2.2.1[i]? = some (r.2.2.1.getD i default) := by simp [List.getD, show i < r.2.2.1.length by omega]
      simp (config := { maxSteps := 2000000 }) only [le_eq, bcl, hValid, cMsg_dec', eBs, cBs, F.fBs, Nat.reduceSub, Nat.reduceAdd, Nat.reduceLT, Nat.reduceEqDiff, Nat.reduceLeDiff, Nat.reduceMul, Nat.reduceBEq, Int.reduceToNat, Op.operands, if_true, if_false, reduceCtorEq, if_pos, forall_const, implies_true, eq_self, ne_eq]
      generalize r.2.2.1.getD i default = x at hx ⊢
      exact num4_round hx (by omega)
    · have : i = 4 := by omega
      subst this
      have e4 : Int.toNat 4 = 4 := rfl
      rw [← List.length_drop] at hK
      try simp only [e4]
      obtain ⟨f1, f2⟩ := parse_fin2 (by simp; omega) la hK
      exact ⟨by omega, f1, f2⟩
  case inr.inr.inr.inr.inr.inr =>
    have g1 : ((k.toNat : Int) = 1) = False := eq_false (by omega)
    have g2 : ((k.toNat : Int) = 2) = False := eq_false (by omega)
    have g3 : ((k.toNat : Int) = 3) = False := eq_false (by omega)
    have g6 : ((k.toNat : Int) = 6) = False := eq_false (by omega)
    simp only [parse2, h1, h2, h3, h4, h5, h6, Nat.reduceEqDiff, if_true, if_false, or_true, true_or, or_false, false_or, zeroMsg, List.length_cons] at hK la
    simp (config := { maxSteps := 2000000 }) only [hw, g1, g2, g3, g6, h05read, readA, hValid, cMsg_dec', e1, e2, Int.reduceEq, List.length_map, List.drop_succ_cons, eBs, cBs, F.fBs, Nat.reduceSub, Nat.reduceAdd, Nat.reduceLT, Nat.reduceEqDiff, Nat.reduceLeDiff, Nat.reduceMul, Nat.reduceBEq, Int.reduceToNat, Op.operands, if_true, if_false, reduceCtorEq, if_pos, forall_const, implies_true, eq_self, ne_eq]
    have hrl := hrl 2
    generalize readF 2 l = r at hK hrl ⊢
    refine ⟨by omega, fun hr => ?_, fun hr => ?_⟩
    · rw [if_pos hr] at hK
      exact hK
    rw [if_neg (by rw [hr]; decide)] at hK
    obtain ⟨f1, f2⟩ := parse_fin2 (by omega) la hK
    repeat' (first | (with_reducible exact f1) | (with_reducible exact f2) | omega | (with_reducible apply And.intro))
end Go.PE
