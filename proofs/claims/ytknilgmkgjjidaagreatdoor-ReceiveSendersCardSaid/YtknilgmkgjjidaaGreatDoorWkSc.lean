/- WkSc: what the laws need of it. -/
import Derived.Test.YtknilgmkgjjidaaGreatDoorWkSb
set_option linter.unusedVariables false
set_option linter.defProp false
set_option linter.all false
set_option linter.unusedSimpArgs false
set_option maxRecDepth 100000
set_option maxHeartbeats 4000000
namespace Go.PE
open Go Go.Proofs

def hStep : Det := det2 (cI .u64) cRec (fun c r => u64P c ∧ okR1 r) fun c r => .tup [.d (.agg { r with check := (nextN c.toNat r : Nat) }.enc), .d (.int .u64 (nextN c.toNat r : Nat))]
theorem f_makeStep : FPure Tryz.prog 17 hStep.spec := by
  refine FPure.runL [(18, .det hNext)] (fun i => if i = 2 then [(0, (false, [])), (1, (false, [])), (2, (false, [])), (3, (true, [1, 2])), (4, (true, []))] else []) (by
    intro p hp
    simp only [List.mem_cons, List.not_mem_nil, or_false] at hp
    subst hp
    exact f_streamNext) F.mixed Tryz.func17 (by kernel_rfl) rfl (by kernel_rfl) 13 Tryz.ntmps17 [.cell 4 38, .tmp 5] Tryz.results17 ?_
  intro ds K hl hs
  obtain ⟨c, r, rfl, ⟨hc, ho⟩, hK⟩ := det2_elim hs
  simp only [Rec.em] at hK
  simp (config := { maxSteps := 4000000 }) only [cRec_enc, hNext, cRec_dec, Rec.eta, eBs, cBs, F.fBs, Nat.reduceSub, Nat.reduceAdd, Nat.reduceLT, Nat.reduceEqDiff, Nat.reduceLeDiff, Nat.reduceMul, Nat.reduceBEq, Int.reduceToNat, Op.operands, if_true, if_false, reduceCtorEq, if_pos, forall_const, implies_true, eq_self, ne_eq, iff_self]
  exact ⟨⟨hc, ho⟩, hK⟩
/-- The check after i records. -/
def chk (c : Nat) (l : List Rec) (i : Nat) : Nat := (l.take i).foldl nextN c
def withC (r : Rec) (c : Nat) : Rec := { r with check := (c : Nat) }
def chainF (c : Nat) : List Rec → List Rec
  | [] => []
  | r :: l => withC r (nextN c r) :: chainF (nextN c r) l
theorem chain_len : ∀ (l : List Rec) (c : Nat), (chainF c l).length = l.length
  | [], _ => rfl
  | r :: l, c => by simp [chainF, chain_len l]
theorem chain_get : ∀ (l : List Rec) (c i : Nat), (chainF c l)[i]? = (l[i]?).map fun x => withC x (nextN (chk c l i) x)
  | [], _, i => by simp [chainF]
  | r :: l, c, 0 => by simp [chainF, chk]
  | r :: l, c, i + 1 => by
    simp only [chainF, List.getElem?_cons_succ, chain_get l, chk, List.take_succ_cons, List.foldl_cons]
theorem chk_succ {c : Nat} {l : List Rec} {i : Nat} {x : Rec} (h : l[i]? = some x) : chk c l (i + 1) = nextN (chk c l i) x := by
  unfold chk
  have : l.take (i + 1) = l.take i ++ [x] := by rw [List.take_add_one, h]; rfl
  rw [this, foldl_snoc]
theorem chk_lt {c : Nat} {l : List Rec} {i : Nat} (h : c < 18446744073709551616) : chk c l i < 18446744073709551616 := by
  unfold chk
  generalize l.take i = m
  induction m generalizing c with
  | nil => exact h
  | cons x m ih => exact ih (nextN_lt _ _)
/-- What along has after i rounds. -/
def alongI (c : Nat) (l : List Rec) (i : Nat) : List Rec := (chainF c l).take i ++ List.replicate (l.length - i) zeroRec
theorem along_len {c : Nat} {l : List Rec} {i : Nat} (h : i ≤ l.length) : (alongI c l i).length = l.length := by
  simp [alongI, chain_len]
  omega
theorem along_set {c : Nat} {l : List Rec} {i : Nat} {x : Rec} (h : l[i]? = some x) : (alongI c l i).set i (withC x (nextN (chk c l i) x)) = alongI c l (i + 1) := by
  have hi : i < l.length := (List.getElem?_eq_some_iff.1 h).1
  have hx : (chainF c l)[i]? = some (withC x (nextN (chk c l i) x)) := by rw [chain_get, h]; rfl
  have ht : ((chainF c l).take i).length = i := by simp [chain_len]; omega
  unfold alongI
  rw [List.set_append_right _ _ (by omega), ht, Nat.sub_self]
  have : l.length - i = (l.length - (i + 1)) + 1 := by omega
  rw [this, List.replicate_succ, List.set_cons_zero, List.take_add_one, hx]
  simp
def rowRec (A : Arr) : Option (List Rec) := match A with
  | ⟨14, 38, es, false⟩ => decL Rec.dec es
  | _ => none
theorem rowRec_eq (l : List Rec) : rowRec ⟨14, 38, l.map Rec.enc, false⟩ = some l := decL_map (dec := Rec.dec) (enc := Rec.enc) (fun _ => rfl) l
theorem rowRec_inv {A : Arr} {l : List Rec} (h : rowRec A = some l) : A = ⟨14, 38, l.map Rec.enc, false⟩ := by
  unfold rowRec at h
  split at h
  · rw [decL_inv Rec.dec_ed h]
  · cases h
def hAlong : Handler := fun args b r K => match args, b, r with
  | [.arr 0 n, .d (.int .u64 c), .fn (.func 17) [] []], [], [A] => @nK _ (rowRec A) ⟨fun l => ((n = l.length ∧ u64P c) ∧ l.length ≤ 1000000 ∧ ∀ x ∈ l, okR1 x) ∧
      K (.ret (.arr 2 l.length)) [] [⟨14, 38, l.map Rec.enc, false⟩, ⟨14, 38, [], false⟩, ⟨14, 38, (chainF c.toNat l).map Rec.enc, false⟩]⟩
  | _, _, _ => False
theorem drop14 (l : List Rec) (i : Nat) : List.drop 14 ((l.map Rec.enc).getD i []) = [] := by
  rw [List.getD_eq_getElem?_getD, List.getElem?_map]
  cases l[i]? <;> rfl
theorem f_along : HOk Tryz.prog 16 hAlong := by
  refine HOk.runL [(17, .det hStep)] (fun _ => []) (by
    intro p hp
    simp only [List.mem_cons, List.not_mem_nil, or_false] at hp
    subst hp
    exact f_makeStep) F.mixed Tryz.func16 (by kernel_rfl) rfl (by kernel_rfl) 32 Tryz.ntmps16 [.tmp 6] Tryz.results16 (.inr (fun i => by simp)) ?_
  intro args b r K hl hs
  unfold hAlong at hs
  split at hs
  case h_2 => exact hs.elim
  rename_i n c A
  obtain ⟨l, hx, ⟨⟨rfl, hc⟩, hlen, ho⟩, hK⟩ := nK_elim hs
  obtain rfl := rowRec_inv hx
  obtain ⟨c, rfl⟩ := Int.eq_ofNat_of_zero_le hc.1
  have hc2 : c < 18446744073709551616 := by have := hc.2; omega
  simp only [Int.toNat_natCast] at hK
  simp (config := { maxSteps := 4000000 }) only [eBs, cBs, F.fBs, Nat.reduceSub, Nat.reduceAdd, Nat.reduceLT, Nat.reduceEqDiff, Nat.reduceLeDiff, Nat.reduceMul, Nat.reduceBEq, Int.reduceToNat, Op.operands, if_true, if_false, reduceCtorEq, if_pos, forall_const, implies_true, eq_self, ne_eq, iff_self]
  refine ⟨⟨by omega, by omega, by omega⟩, ?_⟩
  have z0 : List.replicate l.length [D.int IntKind.i64 0, D.int IntKind.i64 0, D.int IntKind.i64 0, D.int IntKind.u64 0, D.int IntKind.u64 0, D.int IntKind.i64 0, D.str [], D.str [], D.str [], D.str [], D.str [], D.str [], D.int IntKind.i64 0, D.int IntKind.u64 0] = (alongI c l 0).map Rec.enc := by
    simp [alongI, List.map_replicate, Rec.enc, zeroRec, zeroMsg]
  rw [z0]
  refine eK_rounds [2, 7, 13, 14] (fun i : Nat => i ≤ l.length) (fun i => [(1, .d (.int .u64 (chk c l i : Nat))), (15, .d (.int .i64 i))]) (fun _ => []) (fun i => [(2, ⟨14, 38, (alongI c l i).map Rec.enc, false⟩)]) (fun i => l.length - i) 0 (Nat.zero_le _) ?_ ?_
  · simp [le_eq, St.head, keepT, setAll, leV, leB, leR, leR0, idsR, idsL, idsA, idsB, chk]
  intro i hi
  have al := along_len (c := c) hi
  rcases Nat.lt_or_ge i l.length with hlt | hge
  · have hx : l[i]? = some l[i] := List.getElem?_eq_getElem hlt
    have hox := ho _ (List.getElem_mem hlt)
    generalize l[i] = x at hx hox
    have hg : (l.map Rec.enc).getD i [] = x.enc := by
      rw [List.getD_eq_getElem?_getD, List.getElem?_map, hx]
      rfl
    have h1 : ((i : Int) < l.length) = True := eq_true (by omega)
    simp (config := { maxSteps := 4000000 }) only [le_eq, h1, hg, Rec.em, hStep, cRec_dec, Rec.eta, al, eBs, cBs, F.fBs, Nat.reduceSub, Nat.reduceAdd, Nat.reduceLT, Nat.reduceEqDiff, Nat.reduceLeDiff, Nat.reduceMul, Nat.reduceBEq, Int.reduceToNat, Op.operands, if_true, if_false, reduceCtorEq, if_pos, forall_const, implies_true, eq_self, ne_eq, iff_self]
    refine ⟨by omega, by omega, ⟨⟨by omega, by have := chk_lt (l := l) (i := i) hc2; omega⟩, hox⟩, by omega, by omega, i + 1, by omega, by omega, ⟨by rw [chk_succ hx], by rw [wrap_i64' (by omega) (by omega)]; rfl⟩, ?_⟩
    rw [← along_set hx, List.map_set, drop14]
    rfl
  · have : i = l.length := by omega
    subst this
    have h1 : ((l.length : Int) < l.length) = False := eq_false (by omega)
    simp (config := { maxSteps := 4000000 }) only [le_eq, h1, al, eBs, cBs, F.fBs, Nat.reduceSub, Nat.reduceAdd, Nat.reduceLT, Nat.reduceEqDiff, Nat.reduceLeDiff, Nat.reduceMul, Nat.reduceBEq, Int.reduceToNat, Op.operands, if_true, if_false, reduceCtorEq, if_pos, forall_const, implies_true, eq_self, ne_eq, iff_self]
    refine vK_ret _ _ hK ?_
    have e : alongI c l l.length = chainF c l := by
      unfold alongI
      rw [Nat.sub_self, List.take_of_length_le (by rw [chain_len]; exact Nat.le_refl _)]
      simp
    rw [e]
    simp only [eBs, cBs, F.fBs, Nat.reduceSub, Nat.reduceAdd, Nat.reduceLT, Nat.reduceEqDiff, Nat.reduceLeDiff, Nat.reduceMul, Nat.reduceBEq, Int.reduceToNat, Op.operands, if_true, if_false, reduceCtorEq, if_pos, forall_const, implies_true, eq_self, ne_eq, iff_self] <;> simp

def headR (src dst : Int) (n : Nat) : Rec := { zeroRec with kind := 1, count := n, src := src, dst := dst }
def bodyR (i : Nat) (m : Msg) : Rec := { zeroRec with kind := 2, seq := (i + 1 : Nat), msg := m }
def endR (n : Nat) : Rec := { zeroRec with kind := 3, seq := (n + 1 : Nat), count := n }
def bodyI : Nat → List Msg → List Rec
  | _, [] => []
  | i, m :: l => bodyR i m :: bodyI (i + 1) l
theorem bodyI_len : ∀ (l : List Msg) (i : Nat), (bodyI i l).length = l.length
  | [], _ => rfl
  | m :: l, i => by simp [bodyI, bodyI_len l]
theorem bodyI_append : ∀ (a b : List Msg) (i : Nat), bodyI i (a ++ b) = bodyI i a ++ bodyI (i + a.length) b
  | [], b, i => by simp [bodyI]
  | m :: a, b, i => by
    simp only [List.cons_append, bodyI, bodyI_append a b, List.length_cons]
    congr 3
    omega
theorem bodyI_snoc {l : List Msg} {i : Nat} {x : Msg} (h : l[i]? = some x) : bodyI 0 (l.take (i + 1)) = bodyI 0 (l.take i) ++ [bodyR i x] := by
  have hi : i < l.length := (List.getElem?_eq_some_iff.1 h).1
  rw [take_snoc h, bodyI_append]
  simp only [bodyI, List.length_take, Nat.min_eq_left (Nat.le_of_lt hi), Nat.zero_add]
theorem bodyI_get : ∀ (l : List Msg) (i j : Nat), (bodyI i l)[j]? = (l[j]?).map (bodyR (i + j))
  | [], _, j => by simp [bodyI]
  | m :: l, i, 0 => by simp [bodyI]
  | m :: l, i, j + 1 => by
    simp only [bodyI, List.getElem?_cons_succ, bodyI_get l]
    rw [show i + 1 + j = i + (j + 1) by omega]
/-- A stream without its checks. -/
def bareF (src dst : Int) (l : List Msg) : List Rec := headR src dst l.length :: (bodyI 0 l ++ [endR l.length])
theorem bare_len (src dst : Int) (l : List Msg) : (bareF src dst l).length = l.length + 2 := by simp [bareF, bodyI_len]
theorem u64z : u64P 0 := ⟨by decide, by decide⟩
theorem head_ok {src dst : Int} {n : Nat} (h1 : u64P src) (h2 : u64P dst) (h : n ≤ 1000000) : okR1 (headR src dst n) := by
  refine ⟨?_, h1, h2, u64z⟩
  simp [validR, headR, zeroRec, leastB]
  exact decide_eq_true (by omega)
theorem body_ok {i : Nat} {m : Msg} (h : validB m = true) (hi : i ≤ 1000000) : okR1 (bodyR i m) := by
  refine ⟨?_, u64z, u64z, u64z⟩
  simp [validR, bodyR, zeroRec, leastB, h]
  exact ⟨decide_eq_true (by omega), decide_eq_true (by omega)⟩
theorem end_ok {n : Nat} (hi : n ≤ 1000000) : okR1 (endR n) := by
  refine ⟨?_, u64z, u64z, u64z⟩
  simp [validR, endR, zeroRec, leastB]
  exact ⟨⟨decide_eq_true (by omega), decide_eq_true (by omega)⟩, decide_eq_true (by omega)⟩
theorem bare_ok {src dst : Int} {l : List Msg} (h1 : u64P src) (h2 : u64P dst) (hl : l.length ≤ 1000000) (hv : ∀ m ∈ l, validB m = true) : ∀ x ∈ bareF src dst l, okR1 x := by
  intro x hx
  rcases List.mem_cons.1 hx with rfl | hx
  · exact head_ok h1 h2 hl
  rcases List.mem_append.1 hx with hx | hx
  · obtain ⟨j, hj, e⟩ := List.mem_iff_getElem.1 hx
    have hg : (bodyI 0 l)[j]? = some x := by rw [List.getElem?_eq_getElem hj, e]
    rw [bodyI_get] at hg
    cases hm : l[j]? with
    | none => rw [hm] at hg; cases hg
    | some m =>
      rw [hm] at hg
      injection hg with hg
      subst hg
      have := (List.getElem?_eq_some_iff.1 hm).1
      exact body_ok (hv m (List.mem_of_getElem? hm)) (by omega)
  · simp only [List.mem_singleton] at hx
    subst hx
    exact end_ok hl
def makeF (src dst : Int) (l : List Msg) : List Rec := chainF 0 (bareF src dst l)
def hMake : Det := det3 (cI .u64) (cI .u64) cMsgs (fun src dst l => u64P src ∧ u64P dst ∧ l.length ≤ 1000 ∧ ∀ m ∈ l, validB m = true) fun src dst l => .d (.list ((makeF src dst l).map Rec.enc))
theorem f_streamMake : FPure Tryz.prog 5 hMake.spec := by
  refine FPure.runL [(16, .mem hAlong)] (fun _ => []) (by
    intro p hp
    simp only [List.mem_cons, List.not_mem_nil, or_false] at hp
    subst hp
    exact f_along) F.mixed Tryz.func5 (by kernel_rfl) rfl (by kernel_rfl) 42 Tryz.ntmps5 [.tmp 6] Tryz.results5 ?_
  intro ds K hl hs
  obtain ⟨src, dst, l, rfl, ⟨h1, h2, hlen, hv⟩, hK⟩ := det3_elim hs
  simp (config := { maxSteps := 4000000 }) only [eBs, cBs, F.fBs, Nat.reduceSub, Nat.reduceAdd, Nat.reduceLT, Nat.reduceEqDiff, Nat.reduceLeDiff, Nat.reduceMul, Nat.reduceBEq, Int.reduceToNat, Op.operands, if_true, if_false, reduceCtorEq, if_pos, forall_const, implies_true, eq_self, ne_eq, iff_self]
  refine eK_rounds [0, 1, 2, 16, 17] (fun i : Nat => i ≤ l.length) (fun i => [(7, .arr 1 (1 + i)), (18, .d (.int .i64 i))]) (fun _ => []) (fun i => [(1, ⟨14, 38, (headR src dst l.length :: bodyI 0 (l.take i)).map Rec.enc, false⟩)]) (fun i => l.length - i) 0 (Nat.zero_le _) ?_ ?_
  · simp [le_eq, St.head, keepT, setAll, leV, leB, leR, leR0, idsR, idsL, idsA, idsB, bodyI, headR, Rec.enc, zeroRec, zeroMsg]
  intro i hi
  have em : ∀ x : Msg, x.enc = [.int .i64 x.kind, .str x.key, .str x.value, .str x.lo, .str x.hi, .str x.fr, .str x.to, .int .i64 x.n] := fun _ => rfl
  have hbl : (bodyI 0 (l.take i)).length = i := by rw [bodyI_len]; simp; omega
  have ok0 := bare_ok h1 h2 (by omega) hv
  have bl := bare_len src dst l
  rcases Nat.lt_or_ge i l.length with hlt | hge
  · have h3 : ((i : Int) < l.length) = True := eq_true (by omega)
    simp (config := { maxSteps := 4000000 }) only [le_eq, h3, em, hbl, eBs, cBs, F.fBs, Nat.reduceSub, Nat.reduceAdd, Nat.reduceLT, Nat.reduceEqDiff, Nat.reduceLeDiff, Nat.reduceMul, Nat.reduceBEq, Int.reduceToNat, Op.operands, if_true, if_false, reduceCtorEq, if_pos, forall_const, implies_true, eq_self, ne_eq, iff_self]
    refine ⟨by omega, fun x hx => ?_⟩
    have w : IntKind.i64.wrap ((i : Int) + 1) = ((i + 1 : Nat) : Int) := by rw [wrap_i64' (by omega) (by omega)]; rfl
    rw [w]
    refine ⟨⟨by omega, by omega⟩, i + 1, by omega, by omega, ⟨by simp [hbl]; omega, rfl⟩, ?_⟩
    rw [bodyI_snoc hx]
    simp [bodyR, Rec.enc, zeroRec, zeroMsg]
  · have : i = l.length := by omega
    subst this
    have h3 : ((l.length : Int) < l.length) = False := eq_false (by omega)
    simp (config := { maxSteps := 4000000 }) only [le_eq, h3, em, hbl, eBs, cBs, F.fBs, Nat.reduceSub, Nat.reduceAdd, Nat.reduceLT, Nat.reduceEqDiff, Nat.reduceLeDiff, Nat.reduceMul, Nat.reduceBEq, Int.reduceToNat, Op.operands, if_true, if_false, reduceCtorEq, if_pos, forall_const, implies_true, eq_self, ne_eq, iff_self]
    have w : IntKind.i64.wrap ((l.length : Int) + 1) = ((l.length + 1 : Nat) : Int) := by rw [wrap_i64' (by omega) (by omega)]; rfl
    have hbl2 : (bodyI 0 l).length = l.length := bodyI_len _ _
    have hes : (headR src dst l.length).enc :: ((bodyI 0 l).map Rec.enc ++ [[D.int IntKind.i64 3, D.int IntKind.i64 ((l.length + 1 : Nat) : Int), D.int IntKind.i64 l.length, D.int IntKind.u64 0, D.int IntKind.u64 0, D.int IntKind.i64 0, D.str [], D.str [], D.str [], D.str [], D.str [], D.str [], D.int IntKind.i64 0, D.int IntKind.u64 0]]) = (bareF src dst l).map Rec.enc := by
      simp [bareF, endR, Rec.enc, zeroRec, zeroMsg]
    rw [w, hes]
    simp only [List.length_append, List.length_map, List.length_cons, List.length_nil, hbl2]
    refine ⟨⟨by omega, by omega⟩, ?_⟩
    unfold makeF at hK
    simp (config := { maxSteps := 4000000 }) only [hAlong, rowRec_eq, chain_len, bl, eBs, cBs, F.fBs, Nat.reduceSub, Nat.reduceAdd, Nat.reduceLT, Nat.reduceEqDiff, Nat.reduceLeDiff, Nat.reduceMul, Nat.reduceBEq, Int.reduceToNat, Op.operands, if_true, if_false, reduceCtorEq, if_pos, forall_const, implies_true, eq_self, ne_eq, iff_self]
    exact ⟨⟨u64z, by omega, ok0⟩, hK⟩
end Go.PE
