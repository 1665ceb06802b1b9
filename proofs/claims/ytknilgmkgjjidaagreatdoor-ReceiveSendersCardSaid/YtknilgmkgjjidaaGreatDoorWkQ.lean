/- WkQ: what the laws need of it. -/
import Derived.Test.YtknilgmkgjjidaaGreatDoorWkP
set_option linter.unusedVariables false
set_option linter.defProp false
set_option linter.all false
set_option linter.unusedSimpArgs false
set_option maxRecDepth 100000
set_option maxHeartbeats 4000000
namespace Go.PE
open Go Go.Proofs

/-- Six raw bytes. -/
structure Raw6 where
  x0 : Int
  x1 : Int
  x2 : Int
  x3 : Int
  x4 : Int
  x5 : Int
def Raw6.enc (x : Raw6) : List D := [.int .u8 x.x0, .int .u8 x.x1, .int .u8 x.x2, .int .u8 x.x3, .int .u8 x.x4, .int .u8 x.x5]
def Raw6.dec : List D → Option Raw6
  | [.int .u8 a, .int .u8 b, .int .u8 c, .int .u8 d, .int .u8 e, .int .u8 f] => some ⟨a, b, c, d, e, f⟩
  | _ => none
def Raw6.ok (x : Raw6) : Prop := byteP x.x0 ∧ byteP x.x1 ∧ byteP x.x2 ∧ byteP x.x3 ∧ byteP x.x4 ∧ byteP x.x5
theorem Raw6.dec_ed (e : List D) (x : Raw6) (h : Raw6.dec e = some x) : e = x.enc := by
  unfold Raw6.dec at h
  split at h
  · injection h with h
    subst h
    rfl
  · cases h
def cRaw : Cod Raw6 := cAgg Raw6.enc Raw6.dec (fun _ => rfl) Raw6.dec_ed
theorem cRaw_enc (x : Raw6) : cRaw.enc x = .agg [.int .u8 x.x0, .int .u8 x.x1, .int .u8 x.x2, .int .u8 x.x3, .int .u8 x.x4, .int .u8 x.x5] := rfl
theorem keyF_len (n : Int) : (keyF n).length ≤ 7 := by
  have h1 := path_len ((n.toNat % 4 : Nat) : Int)
  have h2 := key_len (n.toNat / 4 % 5) (Nat.mod_lt _ (by decide))
  unfold keyF
  rw [List.length_append]
  omega
def minS (a b : List UInt8) : List UInt8 := if (Op.bytesLess a b || decide (a = b)) = true then a else b
def maxS (a b : List UInt8) : List UInt8 := if Op.bytesLess a b = true then b else a
def spanR (x : Raw6) : List UInt8 × List UInt8 :=
  if x.x4.tmod 4 = 0 then prefixF (pathF x.x1)
  else if x.x4.tmod 16 = 1 then (keyF x.x1, [])
  else if x.x4.tmod 16 = 5 then ([], [])
  else if keyF x.x1 = keyF x.x3 then (keyF x.x1, keyF x.x1 ++ [0])
  else (minS (keyF x.x1) (keyF x.x3), maxS (keyF x.x1) (keyF x.x3))
def toR (x : Raw6) : List UInt8 :=
  if (beginsB (pathF x.x3) (pathF x.x1) || beginsB (pathF x.x1) (pathF x.x3)) = true then (if pathF x.x1 = [100, 47] then [99, 47] else [100, 47]) else pathF x.x3
def madeF (x : Raw6) : Msg :=
  let n : Int := IntKind.i64.wrap (x.x5.tmod 8)
  if x.x0.tmod 6 = 0 then { zeroMsg with kind := 1, key := keyF x.x1, value := valueF x.x2, n := n }
  else if x.x0.tmod 6 = 1 then { zeroMsg with kind := 2, key := keyF x.x1 }
  else if x.x0.tmod 6 = 2 then { zeroMsg with kind := 3, lo := (spanR x).1, hi := (spanR x).2 }
  else if x.x0.tmod 6 = 3 then { zeroMsg with kind := 4, fr := pathF x.x1, to := toR x }
  else if x.x0.tmod 6 = 4 then { zeroMsg with kind := 5, fr := pathF x.x1, to := toR x }
  else { zeroMsg with kind := 6, lo := (spanR x).1, hi := (spanR x).2, n := n }
def hMade : Det := det1 cRaw Raw6.ok fun x => .d (.agg (madeF x).enc)
theorem f_05Made : FPure Tryz.prog 19 hMade.spec := by
  refine FPure.runL [(36, .det hPath), (34, .det hKey), (39, .det hValue5), (35, .det hPrefix), (37, .det h02One), (38, .det hBegins)] (fun i => if i = 1 then [(0, (false, [])), (1, (false, [])), (3, (false, [])), (4, (false, [])), (2, (true, [0, 3, 4])), (5, (true, [0, 3])), (6, (true, [3])), (7, (true, []))] else if i = 11 then [(0, (false, [])), (1, (false, [])), (3, (false, [])), (4, (false, [])), (2, (true, [0, 3, 4])), (5, (true, [0, 3])), (6, (true, [3])), (7, (true, []))] else []) (by
    intro p hp
    simp only [List.mem_cons, List.not_mem_nil, or_false] at hp
    rcases hp with rfl | rfl | rfl | rfl | rfl | rfl
    · exact f_05Path
    · exact f_05Key
    · exact f_05Value
    · exact f_02Prefix
    · exact f_02One
    · exact f_02Begins) F.mixed Tryz.func19 (by kernel_rfl) rfl (by kernel_rfl) 102 Tryz.ntmps19 [.cell 2 36] Tryz.results19 ?_
  intro ds K hl hs
  obtain ⟨x, rfl, ⟨b0, b1, b2, b3, b4, b5⟩, hK⟩ := det1_elim hs
  simp (config := { maxSteps := 2000000 }) only [cRaw_enc, hPath, hKey, hValue5, hPrefix, h02One, hBegins, eBs, cBs, F.fBs, Nat.reduceSub, Nat.reduceAdd, Nat.reduceLT, Nat.reduceEqDiff, Nat.reduceLeDiff, Nat.reduceMul, Nat.reduceBEq, Int.reduceToNat, Op.operands, if_true, if_false, reduceCtorEq, if_pos, forall_const, implies_true, eq_self, ne_eq, iff_self]
  have fin : ∀ l, (madeF x).enc = l → K (Out.ret (AV.d (D.agg l))) := fun l e => e ▸ hK
  have p1 := path_len x.x1
  have p3 := path_len x.x3
  have k1 := keyF_len x.x1
  have k3 := keyF_len x.x3
  clear hs hl hK
  repeat' first
    | with_reducible apply And.intro
    | (refine fin _ ?_; simp [madeF, spanR, toR, minS, maxS, Msg.enc, zeroMsg, *]; done)
    | (refine fin _ ?_; clear fin; simp_all [madeF, spanR, toR, minS, maxS, Msg.enc, zeroMsg]; done)
    | intro h
    | assumption
    | omega
    | decide
def cRaws : Cod (List Raw6) := cList Raw6.enc Raw6.dec (fun _ => rfl) Raw6.dec_ed
theorem cRaws_enc (l : List Raw6) : cRaws.enc l = .list (l.map Raw6.enc) := rfl
theorem cRaw_dec (a b c d e f : Int) : cRaw.dec (.agg [.int .u8 a, .int .u8 b, .int .u8 c, .int .u8 d, .int .u8 e, .int .u8 f]) = some ⟨a, b, c, d, e, f⟩ := rfl
theorem Raw6.eta (x : Raw6) : (⟨x.x0, x.x1, x.x2, x.x3, x.x4, x.x5⟩ : Raw6) = x := rfl
def listF (l : List Raw6) (n : Int) : List Msg := (l.take n.toNat).map madeF
def hList : Det := det2 cRaws (cI .i64) (fun l n => (∀ x ∈ l, x.ok) ∧ 0 ≤ n ∧ n ≤ 1000) fun l n => .d (.list ((listF l n).map Msg.enc))
theorem f_05List : FPure Tryz.prog 6 hList.spec := by
  refine FPure.runL [(19, .det hMade)] (fun _ => []) (by
    intro p hp
    simp only [List.mem_cons, List.not_mem_nil, or_false] at hp
    subst hp
    exact f_05Made) F.mixed Tryz.func6 (by kernel_rfl) rfl (by kernel_rfl) 28 Tryz.ntmps6 [.tmp 4] Tryz.results6 ?_
  intro ds K hl hs
  obtain ⟨l, n, rfl, ⟨ho, hn, hn2⟩, hK⟩ := det2_elim hs
  have la := map_len_le hl
  simp only [cRaws_enc, eBs, cBs, F.fBs, Nat.reduceSub, Nat.reduceAdd, Nat.reduceLT, Nat.reduceEqDiff, Nat.reduceLeDiff, Nat.reduceMul, Nat.reduceBEq, Int.reduceToNat, Op.operands, if_true, if_false, reduceCtorEq, if_pos, forall_const, implies_true, eq_self, ne_eq, iff_self]
  refine eK_rounds [0, 1] (fun i : Nat => i ≤ l.length ∧ i ≤ n.toNat) (fun i => [(5, .arr 1 i), (6, .d (.int .i64 i))]) (fun _ => []) (fun i => [(1, ⟨8, 36, ((l.take i).map madeF).map Msg.enc, false⟩)]) (fun i => l.length - i) 0 ⟨Nat.zero_le _, Nat.zero_le _⟩ ?_ ?_
  · simp [le_eq, St.head, keepT, setAll, leV, leB, leR, leR0, idsR, idsL, idsA, idsB]
  rintro i ⟨hi, hin⟩
  have em : ∀ x : Raw6, x.enc = [.int .u8 x.x0, .int .u8 x.x1, .int .u8 x.x2, .int .u8 x.x3, .int .u8 x.x4, .int .u8 x.x5] := fun _ => rfl
  simp only [le_eq, em, hMade, cRaw_dec, Raw6.eta, eBs, cBs, F.fBs, Nat.reduceSub, Nat.reduceAdd, Nat.reduceLT, Nat.reduceEqDiff, Nat.reduceLeDiff, Nat.reduceMul, Nat.reduceBEq, Int.reduceToNat, Op.operands, if_true, if_false, reduceCtorEq, if_pos, forall_const, implies_true, eq_self, ne_eq, iff_self]
  have ml : (l.take i).length = i := List.length_take_of_le hi
  refine ⟨fun h => ⟨by simp at h; omega, fun x hx => ?_⟩, fun h => ?_⟩
  · simp only [Bool.and_eq_true, decide_eq_true_eq] at h
    have mo : x.ok := ho x (List.mem_of_getElem? hx)
    have e8 : (decide ((madeF x).enc.length = 8) && (madeF x).enc.all oneD) = true := rfl
    refine ⟨mo, e8, ⟨ml.symm, by rw [ml]; omega⟩, i + 1, ⟨by omega, by omega⟩, by omega, ⟨by simp; omega, by rw [wrap_i64' (by omega) (by omega)]; rfl⟩, by simp [take_snoc hx]⟩
  · rw [if_pos ml.symm]
    have e : listF l n = (l.take i).map madeF := by
      unfold listF
      simp only [Bool.and_eq_false_iff, decide_eq_false_iff_not] at h
      rcases Nat.lt_or_ge i n.toNat with h1 | h1
      · rw [List.take_of_length_le (show l.length ≤ n.toNat by omega), List.take_of_length_le (show l.length ≤ i by omega)]
      · rw [show i = n.toNat by omega]
    rw [e] at hK
    exact hK
end Go.PE
