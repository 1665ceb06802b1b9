/- WkTf, WkTn, LawReceiveChecks, joined. -/
import Derived.Test.YtomligcenflpdabGreatDoorWkTc
import Derived.Test.YtomligcenflpdabGreatDoorWkZ
import Derived.Test.YtomligcenflpdabGreatDoorWkTikl
import Derived.Test.YtomligcenflpdabGreatDoorWkSh
import Derived.Test.YtomligcenflpdabGreatDoorWkSi
import Derived.Test.YtomligcenflpdabGreatDoorWkZbc
import Derived.Test.YtomligcenflpdabGreatDoorWkY
import Derived.Test.YtomligcenflpdabGreatDoorPeRow
import Derived.Test.YtomligcenflpdabGreatDoorRows
import Derived.Test.YtomligcenflpdabGreatDoorCards
import Derived.Test.YtomligcenflpdabGreatDoorTie
import Derived.WalkKit
import Derived.ProofKit
import Derived.OpenShut
import Derived.LaidMore
import Derived.Lay
import Derived.SevenTiedAt
set_option linter.unusedVariables false
set_option linter.defProp false
set_option linter.all false
set_option linter.unusedSimpArgs false
set_option maxRecDepth 100000
set_option maxHeartbeats 4000000
namespace Go.PE
open Go Go.Proofs

/-- What the box has after i rounds. -/
def wholeC (l : List Rec) (i : Nat) : List AV := if i = 0 then [.d (.bool false), .d (.bool false), .d (.int .i64 0), .d (.int .i64 0), .d (.int .u64 0), .d (.int .u64 0), .d (.int .u64 0), .nilS] else (wholeF (l.take i)).enc.map .d
theorem whole_snoc {l : List Rec} {i : Nat} {y : Rec} (h : l[i]? = some y) : wholeF (l.take (i + 1)) = (takeF (wholeF (l.take i)) y).1 := by
  unfold wholeF
  rw [List.take_add_one, h]
  simp [List.foldl_append]
def hWhole : Det := det1 cRecs (fun l => l.length ≤ 1000000 ∧ ∀ x ∈ l, rangeR x) fun l => .d (.agg (wholeF l).enc)
theorem f_19Whole : FPure Tryz.prog 9 hWhole.spec := by
  refine FPure.runL [(23, .det h19Take)] (fun i => if i = 5 then [(0, (false, [])), (1, (false, [])), (2, (false, [])), (3, (false, [])), (4, (false, [])), (5, (true, [1, 2, 3])), (6, (false, [])), (7, (true, []))] else []) (by
    intro p hp
    simp only [List.mem_cons, List.not_mem_nil, or_false] at hp
    subst hp
    exact f_19Take) F.mixed Tryz.func9 (by kernel_rfl) rfl (by kernel_rfl) 20 Tryz.ntmps9 [.cell 2 31] Tryz.results9 ?_
  intro ds K hl hs
  obtain ⟨l, rfl, ⟨hn, hr⟩, hK⟩ := det1_elim hs
  simp (config := { maxSteps := 4000000 }) only [cRecs_enc, eBs, cBs, F.fBs, Nat.reduceSub, Nat.reduceAdd, Nat.reduceLT, Nat.reduceEqDiff, Nat.reduceLeDiff, Nat.reduceMul, Nat.reduceBEq, Int.reduceToNat, Op.operands, if_true, if_false, reduceCtorEq, if_pos, forall_const, implies_true, eq_self, ne_eq]
  refine eK_rounds [0, 2, 3] (fun i : Nat => i ≤ l.length) (fun i => [(4, .d (.int .i64 i))]) (fun i => [(1, wholeC l i)]) (fun _ => []) (fun i => l.length - i) 0 (Nat.zero_le _) ?_ ?_
  · simp [le_eq, St.head, keepT, setAll, leV, leB, leR, leR0, idsR, idsL, idsA, idsB, wholeC]
  intro i hi
  have hok : okI (wholeF (l.take i)) := whole_ok (l.take i) zeroInb zero_ok fun r h => hr r (List.mem_of_mem_take h)
  have hwi : IntKind.i64.wrap ((i : Int) + 1) = ((i + 1 : Nat) : Int) := by rw [wrap_i64' (by omega) (by omega)]; rfl
  rcases Nat.lt_or_ge i l.length with hlt | hge
  · have h3 : ((i : Int) < l.length) = True := eq_true (by omega)
    have hx : l[i]? = some l[i] := List.getElem?_eq_getElem hlt
    have hrx := hr _ (List.getElem_mem hlt)
    generalize l[i] = y at hx hrx
    have gx : l.getD i default = y := getD_of hx
    have hstep := whole_snoc hx
    have cs : wholeC l (i + 1) = (takeF (wholeF (l.take i)) y).1.enc.map .d := by
      unfold wholeC
      rw [if_neg (by omega), hstep]
    have ge : ∀ z : List D, (List.map Rec.enc l)[i]? = some z → z.length = 14 ∧ AV.cptr z = AV.cptr y.enc := by
      intro z hz
      rw [List.getElem?_map, hx] at hz
      simp only [Option.map_some, Option.some.injEq] at hz
      subst hz
      exact ⟨rfl, rfl⟩
    rcases Nat.eq_zero_or_pos i with e | e
    · subst e
      have w0 : wholeF (l.take 0) = zeroInb := rfl
      rw [w0] at hok cs
      have c0 : wholeC l 0 = [.d (.bool false), .d (.bool false), .d (.int .i64 0), .d (.int .i64 0), .d (.int .u64 0), .d (.int .u64 0), .d (.int .u64 0), .nilS] := rfl
      have c1 : wholeC l 1 = (wholeF (l.take 1)).enc.map .d := rfl
      unfold zeroInb at hok cs
      simp (config := { maxSteps := 4000000 }) only [le_eq, h3, gx, c0, Rec.em, h19Take, cInb_dec0, cRec_dec, Rec.eta, tknE, eBs, cBs, F.fBs, Nat.reduceSub, Nat.reduceAdd, Nat.reduceLT, Nat.reduceEqDiff, Nat.reduceLeDiff, Nat.reduceMul, Nat.reduceBEq, Int.reduceToNat, Op.operands, if_true, if_false, reduceCtorEq, if_pos, forall_const, implies_true, eq_self, ne_eq]
      refine ⟨by omega, ?_⟩
      refine eG_map _ _ _ _ _ _ ⟨fun _ => rfl, ?_⟩
      simp (config := { maxSteps := 4000000 }) only [le_eq, h3, gx, c0, hwi, Rec.em, h19Take, cInb_dec0, cRec_dec, Rec.eta, tknE, eBs, cBs, F.fBs, Nat.reduceSub, Nat.reduceAdd, Nat.reduceLT, Nat.reduceEqDiff, Nat.reduceLeDiff, Nat.reduceMul, Nat.reduceBEq, Int.reduceToNat, Op.operands, if_true, if_false, reduceCtorEq, if_pos, forall_const, implies_true, eq_self, ne_eq]
      refine ⟨⟨hok, hrx⟩, ⟨by omega, ge⟩, rfl, 1, by omega, by omega, rfl, ?_⟩
      rw [show wholeC l 1 = _ from cs]
      simp [leV, idsL, idsA, Inb.em]
    · have ce : wholeC l i = (wholeF (l.take i)).enc.map .d := by unfold wholeC; rw [if_neg (by omega)]
      simp (config := { maxSteps := 4000000 }) only [le_eq, h3, gx, ce, Inb.em, Rec.em, h19Take, cInb_dec, cRec_dec, Inb.eta, Rec.eta, tknE, eBs, cBs, F.fBs, Nat.reduceSub, Nat.reduceAdd, Nat.reduceLT, Nat.reduceEqDiff, Nat.reduceLeDiff, Nat.reduceMul, Nat.reduceBEq, Int.reduceToNat, Op.operands, if_true, if_false, reduceCtorEq, if_pos, forall_const, implies_true, eq_self, ne_eq]
      refine ⟨by omega, ?_⟩
      refine eG_map _ _ _ _ _ _ ⟨fun _ => rfl, ?_⟩
      simp (config := { maxSteps := 4000000 }) only [le_eq, h3, gx, ce, hwi, Inb.em, Rec.em, h19Take, cInb_dec, cRec_dec, Inb.eta, Rec.eta, tknE, eBs, cBs, F.fBs, Nat.reduceSub, Nat.reduceAdd, Nat.reduceLT, Nat.reduceEqDiff, Nat.reduceLeDiff, Nat.reduceMul, Nat.reduceBEq, Int.reduceToNat, Op.operands, if_true, if_false, reduceCtorEq, if_pos, forall_const, implies_true, eq_self, ne_eq]
      refine ⟨⟨hok, hrx⟩, ⟨by omega, ge⟩, rfl, i + 1, by omega, by omega, rfl, ?_⟩
      rw [cs]
      simp [leV, idsL, idsA, Inb.em]
  · have : i = l.length := by omega
    subst this
    have h3 : ((l.length : Int) < l.length) = False := eq_false (by omega)
    rw [List.take_length] at hok
    rcases Nat.eq_zero_or_pos l.length with e | e
    · have hl0 : l = [] := List.eq_nil_of_length_eq_zero e
      subst hl0
      have c0 : wholeC [] 0 = [.d (.bool false), .d (.bool false), .d (.int .i64 0), .d (.int .i64 0), .d (.int .u64 0), .d (.int .u64 0), .d (.int .u64 0), .nilS] := rfl
      have w0 : wholeF [] = ⟨false, false, 0, 0, 0, 0, 0, []⟩ := rfl
      rw [w0] at hK
      simp (config := { maxSteps := 4000000 }) only [le_eq, h3, c0, Inb.em, eBs, cBs, F.fBs, Nat.reduceSub, Nat.reduceAdd, Nat.reduceLT, Nat.reduceEqDiff, Nat.reduceLeDiff, Nat.reduceMul, Nat.reduceBEq, Int.reduceToNat, Op.operands, if_true, if_false, reduceCtorEq, if_pos, forall_const, implies_true, eq_self, ne_eq] at hK ⊢
      exact ⟨fun h => absurd h (by simp), fun _ => hK⟩
    · have ce : wholeC l l.length = (wholeF l).enc.map .d := by unfold wholeC; rw [if_neg (by omega), List.take_length]
      simp (config := { maxSteps := 4000000 }) only [le_eq, h3, ce, Inb.em, eBs, cBs, F.fBs, Nat.reduceSub, Nat.reduceAdd, Nat.reduceLT, Nat.reduceEqDiff, Nat.reduceLeDiff, Nat.reduceMul, Nat.reduceBEq, Int.reduceToNat, Op.operands, if_true, if_false, reduceCtorEq, if_pos, forall_const, implies_true, eq_self, ne_eq] at hK ⊢
      exact hK

end Go.PE

set_option linter.unusedVariables false
set_option linter.defProp false
set_option linter.all false
set_option linter.unusedSimpArgs false
set_option maxRecDepth 10000
set_option maxHeartbeats 4000000
namespace Go.PE
open Go Go.Proofs

theorem q1 : u64P 1 := ⟨by decide, by decide⟩
theorem q2 : u64P 2 := ⟨by decide, by decide⟩
theorem el_of {α : Type} {enc : α → List D} {l : List α} {k : Nat} {x : α} (hx : l[k]? = some x) {P : List D → Prop} (h : P (enc x)) : ∀ z, (l.map enc)[k]? = some z → P z := by
  intro z hz
  rw [List.getElem?_map, hx] at hz
  injection hz with hz
  subst hz
  exact h
theorem eLn {α : Type} {enc : α → List D} {l : List α} {k : Nat} {x : α} (hx : l[k]? = some x) (n : Nat) (F : Kt (List D → Prop)) : @eL (l.map enc) k n F = ((enc x).length = n ∧ F.v (enc x)) := by
  rw [eL_map]
  exact propext ⟨fun h => h x hx, fun h z hz => by rw [hx] at hz; injection hz with hz; subst hz; exact h⟩
theorem eGn {α : Type} {enc : α → List D} {l : List α} {k : Nat} {x : α} (hx : l[k]? = some x) (g : Bool) (n : Nat) (F : Kt (List D → Prop)) : @eG g (l.map enc) k n F = ((g = true → (enc x).length = n) ∧ F.v (enc x)) := by
  have hm : (l.map enc)[k]? = some (enc x) := by rw [List.getElem?_map, hx]; rfl
  show elemG g (l.map enc) k n F.v = _
  unfold elemG
  refine propext ⟨fun ⟨z, h1, h2, h3⟩ => ?_, fun ⟨h1, h2⟩ => ⟨enc x, fun z hz => by rw [hm] at hz; injection hz, h1, h2⟩⟩
  have := h1 _ hm
  subst this
  exact ⟨h2, h3⟩
def hChecks19 : Det := det3 cRaws (c4 .u8) (cI .u64) (fun l p c => (∀ x ∈ l, x.ok) ∧ range4 .u8 p ∧ rangeP .u64 c) fun _ _ _ => .d (.bool true)
theorem f_ReceiveChecks : FPure Tryz.prog 3 hChecks19.spec := by
  refine FPure.runL [(6, .det hTrue19), (8, .det hList), (7, .det hMake), (9, .det hWhole), (10, .det h19Take), (11, .det hSameT), (12, .det hBytesR), (13, .det h18parsed)] (fun i => if i = 8 then [(0, (false, [])), (1, (false, [])), (2, (false, [])), (3, (false, [])), (4, (false, [])), (5, (false, [])), (6, (false, [])), (7, (false, [])), (8, (false, [])), (9, (false, [])), (10, (false, [])), (11, (false, [])), (12, (false, [])), (13, (false, [])), (14, (false, [])), (15, (false, [])), (16, (false, [])), (17, (false, [])), (18, (false, [])), (19, (true, [0, 1, 2, 3, 4, 5, 6, 7, 8, 9, 10, 11, 12, 13, 14, 17])), (20, (false, [])), (21, (false, [])), (22, (false, []))] else if i = 11 then [(0, (false, [])), (1, (false, [])), (2, (false, [])), (3, (false, [])), (4, (false, [])), (5, (false, [])), (6, (false, [])), (7, (false, [])), (8, (false, [])), (9, (false, [])), (10, (false, [])), (11, (false, [])), (12, (false, [])), (13, (true, []))] else if i = 13 then [(0, (true, [])), (1, (true, [])), (2, (false, [])), (3, (false, [])), (4, (false, [])), (5, (false, [])), (6, (false, [])), (7, (false, [])), (8, (false, [])), (9, (false, [])), (10, (false, [])), (11, (false, [])), (12, (false, [])), (13, (false, [])), (14, (false, [])), (15, (false, [])), (16, (false, [])), (17, (false, [])), (18, (false, [])), (19, (false, [])), (20, (false, [])), (21, (false, [])), (22, (false, [])), (23, (false, [])), (24, (false, [])), (25, (false, []))] else []) (by
    intro p hp
    simp only [List.mem_cons, List.not_mem_nil, or_false] at hp
    rcases hp with rfl | rfl | rfl | rfl | rfl | rfl | rfl | rfl
    · exact f_19sanity
    · exact f_05List
    · exact f_18Make
    · exact f_19Whole
    · exact f_law19take
    · exact f_law19same
    · exact f_18Bytes
    · exact f_18Parse) F.mixed Tryz.func3 (by kernel_rfl) rfl (by kernel_rfl) 119 Tryz.ntmps3 [.tmp 6] Tryz.results3 ?_
  intro ds K hl hs
  obtain ⟨l, ⟨a, b, v, v4⟩, c, rfl, ⟨ho, ⟨⟨ha1, ha2⟩, ⟨hb1, hb2⟩, ⟨hv1, hv2⟩, ⟨hw1, hw2⟩⟩, ⟨hc1, hc2⟩⟩, hK⟩ := det3_elim hs
  simp only at ha1 ha2 hb1 hb2 hv1 hv2
  have hv := list_valid (n := 8) ho
  have hn := list_len l 8
  have t8 : Int.toNat 8 = 8 := rfl
  rw [t8] at hn
  have hlM : (listF l 8).length ≤ 1000000 := by omega
  have mo := make_ok q1 q2 hlM hv
  have mr := make_range q1 q2 hlM hv
  have ml := make_len 1 2 (listF l 8)
  have wa : IntKind.i64.wrap a = a := wrap_i64' (by omega) (by omega)
  have wb : IntKind.i64.wrap b = b := wrap_i64' (by omega) (by omega)
  have pc0 : u64P c := ⟨hc1, by omega⟩
  generalize hM : listF l 8 = M at *
  obtain ⟨L, hL⟩ : ∃ L, makeF 1 2 M = L := ⟨_, rfl⟩
  have hL0 : (0 : Int) < L.length := by rw [← hL, ml]; omega
  obtain ⟨n, hnn⟩ := Int.eq_ofNat_of_zero_le (Int.tmod_nonneg (L.length : Int) ha1)
  have hn1 := Int.tmod_lt_of_pos a hL0
  rw [hL] at ml mo mr
  have hln : n < L.length := by omega
  have n4 : ((4 : Nat) : Int) = 4 := rfl
  have hwh := whole_take (src := 1) (dst := 2) q1 q2 hlM hv n (by omega)
  have hok : okI (inbAt 1 2 M n) := inbAt_ok q1 q2 hlM hv n (by omega)
  have hok1 : okI (inbAt 1 2 M (n + 1)) := inbAt_ok q1 q2 hlM hv (n + 1) (by omega)
  have hx : L[n]? = some L[n] := List.getElem?_eq_getElem hln
  have hxo := mo _ (List.getElem_mem hln)
  have hmx : (makeF 1 2 M)[n]? = some L[n] := by rw [hL]; exact hx
  have hst := take_step q1 q2 hlM hv hmx
  have hne := fun h => take_next_check q1 q2 hlM hv hmx c h
  have hdm := fun y k w h1 h2 h3 h4 h5 => take_damaged (y := y) (k := k) (v := w) q1 q2 hlM hv hmx h1 h2 h3 h4 h5
  have hseq := (make_seq hmx).1
  clear hmx
  rw [hL] at hwh
  generalize L[n] = x at hx hxo hst hne hdm hseq
  have hel := @eLn Rec Rec.enc L n x hx
  have heg := @eGn Rec Rec.enc L n x hx
  obtain ⟨I, hI⟩ : ∃ I, inbAt 1 2 M n = I := ⟨_, rfl⟩
  obtain ⟨J, hJ⟩ : ∃ J, inbAt 1 2 M (n + 1) = J := ⟨_, rfl⟩
  rw [hI] at hwh hok hne hdm
  rw [hI, hJ] at hst
  rw [hJ] at hok1
  have mt : ∀ r ∈ L.take n, rangeR r := fun r h => mr r (List.mem_of_mem_take h)
  have ce : (cI .u64).enc c = .int .u64 c := rfl
  have e2 : (if c = x.check then (J, (0 : Int)) else (I, 192)) = takeF I ⟨x.kind, x.seq, x.count, x.src, x.dst, ⟨x.msg.kind, x.msg.key, x.msg.value, x.msg.lo, x.msg.hi, x.msg.fr, x.msg.to, x.msg.n⟩, c⟩ := by
    by_cases h : c = x.check
    · rw [if_pos h]
      subst h
      exact hst.symm
    · rw [if_neg h]
      exact (hne h).symm
  have hb0 : 13 ≤ (bytesR x).length ∧ (bytesR x).length ≤ 1000000000 := ⟨(bytesR_pos hxo).1, by have := (bytesR_pos hxo).2; omega⟩
  obtain ⟨bp1, bp2⟩ := hb0
  have hbn : ((bytesR x).length : Int) ≠ 0 := by omega
  have hk0 := Int.tmod_nonneg ((bytesR x).length : Int) hb1
  have hk1 := Int.tmod_lt_of_pos b (show (0 : Int) < (bytesR x).length by omega)
  obtain ⟨k, hk⟩ := Int.eq_ofNat_of_zero_le hk0
  have hkl : k < (bytesR x).length := by omega
  have hc : (bytesR x)[k]? = some (bytesR x)[k] := List.getElem?_eq_getElem hkl
  generalize (bytesR x)[k] = ch at hc
  have hg : ((bytesR x).map byteCell).getD k [] = [D.int .u8 ch.toNat] := by
    rw [List.getD_eq_getElem?_getD, List.getElem?_map, hc]
    rfl
  have hxo8 := xor_u8 ch hv1 (show v < 256 by omega)
  have hset : ((bytesR x).map byteCell).set k [D.int .u8 ((ch ^^^ UInt8.ofNat v.toNat).toNat : Int)] = ((bytesR x).set k (ch ^^^ UInt8.ofNat v.toNat)).map byteCell := by
    rw [List.map_set]
    rfl
  have hvne : v ≠ 0 → (bytesR x)[k]? ≠ some (ch ^^^ UInt8.ofNat v.toNat) := by
    intro hv0
    rw [hc]
    intro e
    injection e with e
    exact xor_ne ch hv1 (by omega) hv0 e
  have hbl : ((bytesR x).set k (ch ^^^ UInt8.ofNat v.toNat)).length = (bytesR x).length := List.length_set
  have hdm2 := fun y h1 h2 hv0 h5 => hdm y k (ch ^^^ UInt8.ofNat v.toNat) h1 h2 hkl (hvne hv0) h5
  have pc := parP_cases (b := (bytesR x).set k (ch ^^^ UInt8.ofNat v.toNat))
  generalize (bytesR x).set k (ch ^^^ UInt8.ofNat v.toNat) = B at *
  obtain ⟨P, hP⟩ : ∃ P, parP B = P := ⟨_, rfl⟩
  rw [hP] at pc
  have x0 : (¬ (192 : Int) = 0) = True := eq_true (by decide)
  have z0 : (¬ (0 : Int) = 0) = False := eq_false (fun h => h rfl)
  have z5 : (¬ (180 : Int) = 0) = True := eq_true (by decide)
  have b1 : (0 : Int) ≤ n ∧ (n : Int) < (L.length : Int) := ⟨by omega, by omega⟩
  have b2 : ¬ ((L.length : Int) = 0) := by omega
  have b3 : (0 : Int) ≤ n ∧ (n : Int) ≤ (L.length : Int) := ⟨by omega, by omega⟩
  have b4 : (L.take n).length ≤ 1000000 ∧ ∀ r ∈ L.take n, rangeR r := ⟨by rw [List.length_take]; omega, mt⟩
  have bk : (0 : Int) ≤ k ∧ (k : Int) < ((bytesR x).length : Int) := ⟨by omega, by omega⟩
  have b6 : (bytesR x).length ≤ 100000000 := by have := (bytesR_pos hxo).2; omega
  have b5 : (bytesR x).length * 1 ≤ 140737488355328 := by omega
  have hrc : rangeR ⟨x.kind, x.seq, x.count, x.src, x.dst, ⟨x.msg.kind, x.msg.key, x.msg.value, x.msg.lo, x.msg.hi, x.msg.fr, x.msg.to, x.msg.n⟩, c⟩ := ⟨hxo.2.1, hxo.2.2.1, pc0⟩
  by_cases hcx : c = x.check
  · rw [if_pos hcx] at e2
    have hcx' := eq_true hcx
    have e2' := e2.symm
    rcases pc with ⟨r', n', rfl, q1', q2', q3', q4', q5'⟩ | rfl
    · have r0 : u64P r'.check := q2'.2.2
      by_cases hn' : n' = ((bytesR x).length : Int)
      · have f1 : (¬ n' = ((bytesR x).length : Int)) = False := eq_false (fun h => h hn')
        by_cases hsq : r'.seq = x.seq
        · have f2 : (¬ r'.seq = x.seq) = False := eq_false (fun h => h hsq)
          by_cases hv0 : v = 0
          · have f3 : (v = 0) = True := eq_true hv0
            simp (config := { maxSteps := 4000000 }) only [hTrue19, det0_eq, c4_enc, ce, cRaws_enc, cRaws_dec, cMsgs_dec, hList, hMake, hM, hL, wa, wb, hnn, n4, hcx', x0, Int.reduceLT, Int.reduceLE, Rec.em, Inb.em, h19Take, cInb_dec, cRec_dec, Inb.eta, Rec.eta, e2', tknE, hSameT, cTkn_dec, hWhole, cRecs_dec, hwh, hBytesR, Int.toNat_natCast, hk, hg, hxo8, hset, hbl, h18parsed, hP, ParsedR.enc, Rec.em, z0, f1, f2, f3, decide_true, decide_false, eBs, cBs, F.fBs, Nat.reduceSub, Nat.reduceAdd, Nat.reduceLT, Nat.reduceEqDiff, Nat.reduceLeDiff, Nat.reduceMul, Nat.reduceBEq, Int.reduceToNat, Op.operands, if_true, if_false, reduceCtorEq, if_pos, forall_const, implies_true, eq_self, ne_eq, hel, heg, ← List.map_take]
            clear hs hl hel heg hdm hdm2 hne
            exact ⟨ho, ⟨q1, q2, by omega, hv⟩, b2, b3, b4, b1, ⟨hok, hrc⟩, b1, ⟨b1, el_of hx ⟨rfl, rfl⟩⟩, b1, hxo, b5, hbn, bk, hkl, bk, hkl, b6, b1, hK⟩
          · have f3 : (v = 0) = False := eq_false hv0
            have f4 := hdm2 r' q1' (hsq.trans hseq) hv0 (by rw [q5', List.take_of_length_le (by omega)])
            simp (config := { maxSteps := 4000000 }) only [hTrue19, det0_eq, c4_enc, ce, cRaws_enc, cRaws_dec, cMsgs_dec, hList, hMake, hM, hL, wa, wb, hnn, n4, hcx', x0, Int.reduceLT, Int.reduceLE, Rec.em, Inb.em, h19Take, cInb_dec, cRec_dec, Inb.eta, Rec.eta, e2', tknE, hSameT, cTkn_dec, hWhole, cRecs_dec, hwh, hBytesR, Int.toNat_natCast, hk, hg, hxo8, hset, hbl, h18parsed, hP, ParsedR.enc, Rec.em, z0, f1, f2, f3, f4, decide_true, decide_false, eBs, cBs, F.fBs, Nat.reduceSub, Nat.reduceAdd, Nat.reduceLT, Nat.reduceEqDiff, Nat.reduceLeDiff, Nat.reduceMul, Nat.reduceBEq, Int.reduceToNat, Op.operands, if_true, if_false, reduceCtorEq, if_pos, forall_const, implies_true, eq_self, ne_eq, hel, heg, ← List.map_take]
            clear hs hl hel heg hdm hdm2 hne
            exact ⟨ho, ⟨q1, q2, by omega, hv⟩, b2, b3, b4, b1, ⟨hok, hrc⟩, b1, ⟨b1, el_of hx ⟨rfl, rfl⟩⟩, b1, hxo, b5, hbn, bk, hkl, bk, hkl, b6, b1, ⟨hok, q2'⟩, rfl, hK⟩
        · have f2 : (¬ r'.seq = x.seq) = True := eq_true hsq
          simp (config := { maxSteps := 4000000 }) only [hTrue19, det0_eq, c4_enc, ce, cRaws_enc, cRaws_dec, cMsgs_dec, hList, hMake, hM, hL, wa, wb, hnn, n4, hcx', x0, Int.reduceLT, Int.reduceLE, Rec.em, Inb.em, h19Take, cInb_dec, cRec_dec, Inb.eta, Rec.eta, e2', tknE, hSameT, cTkn_dec, hWhole, cRecs_dec, hwh, hBytesR, Int.toNat_natCast, hk, hg, hxo8, hset, hbl, h18parsed, hP, ParsedR.enc, Rec.em, z0, f1, f2, decide_true, decide_false, eBs, cBs, F.fBs, Nat.reduceSub, Nat.reduceAdd, Nat.reduceLT, Nat.reduceEqDiff, Nat.reduceLeDiff, Nat.reduceMul, Nat.reduceBEq, Int.reduceToNat, Op.operands, if_true, if_false, reduceCtorEq, if_pos, forall_const, implies_true, eq_self, ne_eq, hel, heg, ← List.map_take]
          clear hs hl hel heg hdm hdm2 hne
          exact ⟨ho, ⟨q1, q2, by omega, hv⟩, b2, b3, b4, b1, ⟨hok, hrc⟩, b1, ⟨b1, el_of hx ⟨rfl, rfl⟩⟩, b1, hxo, b5, hbn, bk, hkl, bk, hkl, b6, b1, hK⟩
      · have f1 : (¬ n' = ((bytesR x).length : Int)) = True := eq_true hn'
        simp (config := { maxSteps := 4000000 }) only [hTrue19, det0_eq, c4_enc, ce, cRaws_enc, cRaws_dec, cMsgs_dec, hList, hMake, hM, hL, wa, wb, hnn, n4, hcx', x0, Int.reduceLT, Int.reduceLE, Rec.em, Inb.em, h19Take, cInb_dec, cRec_dec, Inb.eta, Rec.eta, e2', tknE, hSameT, cTkn_dec, hWhole, cRecs_dec, hwh, hBytesR, Int.toNat_natCast, hk, hg, hxo8, hset, hbl, h18parsed, hP, ParsedR.enc, Rec.em, z0, f1, decide_true, decide_false, eBs, cBs, F.fBs, Nat.reduceSub, Nat.reduceAdd, Nat.reduceLT, Nat.reduceEqDiff, Nat.reduceLeDiff, Nat.reduceMul, Nat.reduceBEq, Int.reduceToNat, Op.operands, if_true, if_false, reduceCtorEq, if_pos, forall_const, implies_true, eq_self, ne_eq, hel, heg, ← List.map_take]
        clear hs hl hel heg hdm hdm2 hne
        exact ⟨ho, ⟨q1, q2, by omega, hv⟩, b2, b3, b4, b1, ⟨hok, hrc⟩, b1, ⟨b1, el_of hx ⟨rfl, rfl⟩⟩, b1, hxo, b5, hbn, bk, hkl, bk, hkl, b6, hK⟩
    · simp (config := { maxSteps := 4000000 }) only [hTrue19, det0_eq, c4_enc, ce, cRaws_enc, cRaws_dec, cMsgs_dec, hList, hMake, hM, hL, wa, wb, hnn, n4, hcx', x0, Int.reduceLT, Int.reduceLE, Rec.em, Inb.em, h19Take, cInb_dec, cRec_dec, Inb.eta, Rec.eta, e2', tknE, hSameT, cTkn_dec, hWhole, cRecs_dec, hwh, hBytesR, Int.toNat_natCast, hk, hg, hxo8, hset, hbl, h18parsed, hP, ParsedR.enc, zeroRec, zeroMsg, z5, decide_true, decide_false, eBs, cBs, F.fBs, Nat.reduceSub, Nat.reduceAdd, Nat.reduceLT, Nat.reduceEqDiff, Nat.reduceLeDiff, Nat.reduceMul, Nat.reduceBEq, Int.reduceToNat, Op.operands, if_true, if_false, reduceCtorEq, if_pos, forall_const, implies_true, eq_self, ne_eq, hel, heg, ← List.map_take]
      clear hs hl hel heg hdm hdm2 hne
      exact ⟨ho, ⟨q1, q2, by omega, hv⟩, b2, b3, b4, b1, ⟨hok, hrc⟩, b1, ⟨b1, el_of hx ⟨rfl, rfl⟩⟩, b1, hxo, b5, hbn, bk, hkl, bk, hkl, b6, hK⟩
  · rw [if_neg hcx] at e2
    have hcx' := eq_false hcx
    have e2' := e2.symm
    rcases pc with ⟨r', n', rfl, q1', q2', q3', q4', q5'⟩ | rfl
    · have r0 : u64P r'.check := q2'.2.2
      by_cases hn' : n' = ((bytesR x).length : Int)
      · have f1 : (¬ n' = ((bytesR x).length : Int)) = False := eq_false (fun h => h hn')
        by_cases hsq : r'.seq = x.seq
        · have f2 : (¬ r'.seq = x.seq) = False := eq_false (fun h => h hsq)
          by_cases hv0 : v = 0
          · have f3 : (v = 0) = True := eq_true hv0
            simp (config := { maxSteps := 4000000 }) only [hTrue19, det0_eq, c4_enc, ce, cRaws_enc, cRaws_dec, cMsgs_dec, hList, hMake, hM, hL, wa, wb, hnn, n4, hcx', x0, Int.reduceLT, Int.reduceLE, Rec.em, Inb.em, h19Take, cInb_dec, cRec_dec, Inb.eta, Rec.eta, e2', tknE, hSameT, cTkn_dec, hWhole, cRecs_dec, hwh, hBytesR, Int.toNat_natCast, hk, hg, hxo8, hset, hbl, h18parsed, hP, ParsedR.enc, Rec.em, z0, f1, f2, f3, decide_true, decide_false, eBs, cBs, F.fBs, Nat.reduceSub, Nat.reduceAdd, Nat.reduceLT, Nat.reduceEqDiff, Nat.reduceLeDiff, Nat.reduceMul, Nat.reduceBEq, Int.reduceToNat, Op.operands, if_true, if_false, reduceCtorEq, if_pos, forall_const, implies_true, eq_self, ne_eq, hel, heg, ← List.map_take]
            clear hs hl hel heg hdm hdm2 hne
            exact ⟨ho, ⟨q1, q2, by omega, hv⟩, b2, b3, b4, b1, ⟨hok, hrc⟩, b1, ⟨b1, el_of hx ⟨rfl, rfl⟩⟩, (fun h => absurd h (by decide)), b1, hxo, b5, hbn, bk, hkl, bk, hkl, b6, b1, hK⟩
          · have f3 : (v = 0) = False := eq_false hv0
            have f4 := hdm2 r' q1' (hsq.trans hseq) hv0 (by rw [q5', List.take_of_length_le (by omega)])
            simp (config := { maxSteps := 4000000 }) only [hTrue19, det0_eq, c4_enc, ce, cRaws_enc, cRaws_dec, cMsgs_dec, hList, hMake, hM, hL, wa, wb, hnn, n4, hcx', x0, Int.reduceLT, Int.reduceLE, Rec.em, Inb.em, h19Take, cInb_dec, cRec_dec, Inb.eta, Rec.eta, e2', tknE, hSameT, cTkn_dec, hWhole, cRecs_dec, hwh, hBytesR, Int.toNat_natCast, hk, hg, hxo8, hset, hbl, h18parsed, hP, ParsedR.enc, Rec.em, z0, f1, f2, f3, f4, decide_true, decide_false, eBs, cBs, F.fBs, Nat.reduceSub, Nat.reduceAdd, Nat.reduceLT, Nat.reduceEqDiff, Nat.reduceLeDiff, Nat.reduceMul, Nat.reduceBEq, Int.reduceToNat, Op.operands, if_true, if_false, reduceCtorEq, if_pos, forall_const, implies_true, eq_self, ne_eq, hel, heg, ← List.map_take]
            clear hs hl hel heg hdm hdm2 hne
            exact ⟨ho, ⟨q1, q2, by omega, hv⟩, b2, b3, b4, b1, ⟨hok, hrc⟩, b1, ⟨b1, el_of hx ⟨rfl, rfl⟩⟩, (fun h => absurd h (by decide)), b1, hxo, b5, hbn, bk, hkl, bk, hkl, b6, b1, ⟨hok, q2'⟩, rfl, hK⟩
        · have f2 : (¬ r'.seq = x.seq) = True := eq_true hsq
          simp (config := { maxSteps := 4000000 }) only [hTrue19, det0_eq, c4_enc, ce, cRaws_enc, cRaws_dec, cMsgs_dec, hList, hMake, hM, hL, wa, wb, hnn, n4, hcx', x0, Int.reduceLT, Int.reduceLE, Rec.em, Inb.em, h19Take, cInb_dec, cRec_dec, Inb.eta, Rec.eta, e2', tknE, hSameT, cTkn_dec, hWhole, cRecs_dec, hwh, hBytesR, Int.toNat_natCast, hk, hg, hxo8, hset, hbl, h18parsed, hP, ParsedR.enc, Rec.em, z0, f1, f2, decide_true, decide_false, eBs, cBs, F.fBs, Nat.reduceSub, Nat.reduceAdd, Nat.reduceLT, Nat.reduceEqDiff, Nat.reduceLeDiff, Nat.reduceMul, Nat.reduceBEq, Int.reduceToNat, Op.operands, if_true, if_false, reduceCtorEq, if_pos, forall_const, implies_true, eq_self, ne_eq, hel, heg, ← List.map_take]
          clear hs hl hel heg hdm hdm2 hne
          exact ⟨ho, ⟨q1, q2, by omega, hv⟩, b2, b3, b4, b1, ⟨hok, hrc⟩, b1, ⟨b1, el_of hx ⟨rfl, rfl⟩⟩, (fun h => absurd h (by decide)), b1, hxo, b5, hbn, bk, hkl, bk, hkl, b6, b1, hK⟩
      · have f1 : (¬ n' = ((bytesR x).length : Int)) = True := eq_true hn'
        simp (config := { maxSteps := 4000000 }) only [hTrue19, det0_eq, c4_enc, ce, cRaws_enc, cRaws_dec, cMsgs_dec, hList, hMake, hM, hL, wa, wb, hnn, n4, hcx', x0, Int.reduceLT, Int.reduceLE, Rec.em, Inb.em, h19Take, cInb_dec, cRec_dec, Inb.eta, Rec.eta, e2', tknE, hSameT, cTkn_dec, hWhole, cRecs_dec, hwh, hBytesR, Int.toNat_natCast, hk, hg, hxo8, hset, hbl, h18parsed, hP, ParsedR.enc, Rec.em, z0, f1, decide_true, decide_false, eBs, cBs, F.fBs, Nat.reduceSub, Nat.reduceAdd, Nat.reduceLT, Nat.reduceEqDiff, Nat.reduceLeDiff, Nat.reduceMul, Nat.reduceBEq, Int.reduceToNat, Op.operands, if_true, if_false, reduceCtorEq, if_pos, forall_const, implies_true, eq_self, ne_eq, hel, heg, ← List.map_take]
        clear hs hl hel heg hdm hdm2 hne
        exact ⟨ho, ⟨q1, q2, by omega, hv⟩, b2, b3, b4, b1, ⟨hok, hrc⟩, b1, ⟨b1, el_of hx ⟨rfl, rfl⟩⟩, (fun h => absurd h (by decide)), b1, hxo, b5, hbn, bk, hkl, bk, hkl, b6, hK⟩
    · simp (config := { maxSteps := 4000000 }) only [hTrue19, det0_eq, c4_enc, ce, cRaws_enc, cRaws_dec, cMsgs_dec, hList, hMake, hM, hL, wa, wb, hnn, n4, hcx', x0, Int.reduceLT, Int.reduceLE, Rec.em, Inb.em, h19Take, cInb_dec, cRec_dec, Inb.eta, Rec.eta, e2', tknE, hSameT, cTkn_dec, hWhole, cRecs_dec, hwh, hBytesR, Int.toNat_natCast, hk, hg, hxo8, hset, hbl, h18parsed, hP, ParsedR.enc, zeroRec, zeroMsg, z5, decide_true, decide_false, eBs, cBs, F.fBs, Nat.reduceSub, Nat.reduceAdd, Nat.reduceLT, Nat.reduceEqDiff, Nat.reduceLeDiff, Nat.reduceMul, Nat.reduceBEq, Int.reduceToNat, Op.operands, if_true, if_false, reduceCtorEq, if_pos, forall_const, implies_true, eq_self, ne_eq, hel, heg, ← List.map_take]
      clear hs hl hel heg hdm hdm2 hne
      exact ⟨ho, ⟨q1, q2, by omega, hv⟩, b2, b3, b4, b1, ⟨hok, hrc⟩, b1, ⟨b1, el_of hx ⟨rfl, rfl⟩⟩, (fun h => absurd h (by decide)), b1, hxo, b5, hbn, bk, hkl, bk, hkl, b6, hK⟩
end Go.PE

set_option linter.unusedVariables false
set_option linter.defProp false
set_option linter.all false
set_option linter.unusedSimpArgs false
set_option maxRecDepth 100000
set_option maxHeartbeats 100000000
namespace Go.Proofs.YtomligcenflpdabGreatDoor.receiveChecks
open Go.ChangeShapes Go.WideShapes Go.ChangeAt Go.RowKit Go.PE

theorem own : ownKnob Tryz.prog.godebug = none := by kernel_rfl
theorem fits (ds : List D) (h : FitsA [.slice (.agg [.int .u8, .int .u8, .int .u8, .int .u8, .int .u8, .int .u8]), .agg [.int .u8, .int .u8, .int .u8, .int .u8], .int .u64] ds) : hChecks19.spec ds fun o => o = .ret (.d (.bool true)) := by
  obtain ⟨x1, xs1, rfl, hx1, x2, xs2, rfl, hx2, x3, xs3, rfl, hx3, rfl⟩ := h
  obtain ⟨a1, rfl, h1⟩ := fit_raws hx1
  obtain ⟨a2, rfl, h2⟩ := fit_u8x4 hx2
  obtain ⟨a3, rfl, h3⟩ := fit_u64 hx3
  unfold Det.spec hChecks19 det3
  simp only [cRaws.de, (c4 .u8).de, (cI .u64).de, optD]
  exact ⟨⟨h1, h2, h3⟩, trivial⟩
theorem lifted (os : Os) (started : os.Started) (H : Type) (enc : TypeId × Value → H) :
    ReturnsInHanded {} Tryz.checked os 3 .any (fun w args => (Rows.receiveChecksSpec.pre enc Tryz.prog Tryz.f3 Rows.receiveChecksRow.domain false w args ∧ laidMetH Tryz.prog Rows.receiveChecksRow.laid w) ∧ sizedMet enc Tryz.prog Tryz.f3 (OpenSpec.ofChange Rows.receiveChecksSpec) false w args) (Rows.receiveChecksSpec.post enc Tryz.prog Tryz.f3 false true false false) := by
  refine returnsInHanded_of_change_and (C := Tryz.checked) (X := fun w _ => laidMetH Tryz.prog Rows.receiveChecksRow.laid w) (fun _ _ _ hh h => h.of_heap hh) own started (by kernel_rfl) Tryz.func3
    (ChangeSpec.witness_shaped (enc := enc) (C := Tryz.checked) (os := os) (X := fun w _ => laidMetH Tryz.prog Rows.receiveChecksRow.laid w) false (World.laidAll Tryz.prog os Rows.receiveChecksRow.laid) #[.slice none 0 0, .agg #[.int .u8 0, .int .u8 0, .int .u8 0, .int .u8 0], .int .u64 0] 12 (World.laidAll_os _ _ _)
      (World.shaped_of_ZipB (by kernel_rfl) (by kernel_rfl)) (by kernel_rfl) (by kernel_rfl) (by kernel_rfl)
      (by rw [MakeChecks.laidMetH_plain _ _ _ (by kernel_rfl)]; exact laidMet_laidAll _ (by kernel_rfl) (by kernel_rfl))) ?_
  intro W base args ds gs before hval hW _ _ _ _
  exact law_calls (tb := 4) f_ReceiveChecks (by kernel_rfl) fits (by kernel_rfl) (by kernel_rfl) (by kernel_rfl) (by kernel_rfl) (by kernel_rfl) (by kernel_rfl) rfl (fun ds h => by
    match ds, h with
    | [a1, a2, a3], _ => exact ⟨rfl, rfl, rfl⟩) hval hW
theorem and_tt {a b : Bool} (h : a = true) (k : b = true) : (a && b) = true := by rw [h, k]; rfl
theorem facts : joinedFacts Tryz.prog 3 Tryz.f3 Rows.receiveChecksSpec Rows.receiveChecksRow = true := by
  unfold joinedFacts
  repeat' (with_reducible refine and_tt ?_ ?_)
  all_goals as_aux_lemma => kernel_rfl
theorem named : Tryz.prog.funcNamed "downspout/downspoutlaw19.ReceiveChecks" = some 3 := by kernel_rfl
theorem inst : decide (Tryz.f3.isInstance Tryz.prog Rows.receiveChecksRow.origin Rows.receiveChecksRow.targs) = true := by kernel_rfl
theorem wrap : Tryz.f3.isWrapper Tryz.prog Rows.receiveChecksRow.wrapper Rows.receiveChecksRow.mainSum := by
  unfold Func.isWrapper
  first | (rw [if_pos (by decide +kernel)]; kernel_rfl) | (rw [if_neg (by decide +kernel)]; exact ⟨rfl, rfl⟩)
theorem holds : Rows.ReceiveChecksSaid :=
  OpenClaim.holds_of_wide 3 Tryz.f3 rfl rfl rfl rfl rfl rfl rfl ⟨rfl, rfl, rfl, rfl, rfl⟩ rfl rfl rfl rfl rfl named Tryz.func3 facts
    (of_decide_eq_true inst) wrap
    (fun os started H enc _ => lifted os started H enc)
theorem byText : Rows.receiveChecksRow.wfByText (OpenSpec.ofChange Rows.receiveChecksSpec) = true := by kernel_rfl
theorem mainIs : Tryz.pinned.checked.prog.mainIs = some (Rows.receiveChecksCard.stood.harness.1, Rows.receiveChecksCard.stood.harness.2.toList) := by kernel_rfl
theorem looks : true = Tryz.pinned.checked.prog.looks [] := by kernel_rfl
theorem goes_none {P : Program} (h : (P.funcs.toList.all fun fn => !fn.goes) = true) (f : FuncId) : P.goes f = false := by
  have h1 : ∀ fn ∈ P.funcs.toList, fn.goes = false := fun fn hm => by simpa using List.all_eq_true.1 h fn hm
  unfold Program.goes
  rw [Bool.or_eq_false_iff]
  constructor
  · rw [List.any_eq_false]
    intro g _
    cases hg : P.funcs[g]? with
    | none => simp
    | some fn =>
      have hm : fn ∈ P.funcs.toList := Array.mem_toList_iff.2 (Array.mem_of_getElem? hg)
      simp [h1 fn hm]
  · have : P.funcs.any Func.goes = false := by
      rw [← Array.any_toList, List.any_eq_false]
      intro fn hm
      simp [h1 fn hm]
    rw [this, Bool.and_false]
theorem goes_all : (Tryz.prog.funcs.toList.all fun fn => !fn.goes) = true := by kernel_rfl
theorem goesBy : false = Rows.receiveChecksRow.goesBy Tryz.pinned.checked.prog := by
  show false = ((Tryz.prog.funcNamed "downspout/downspoutlaw19.ReceiveChecks").any Tryz.prog.goes || false)
  rw [named, Option.any_some, goes_none goes_all, Bool.or_false]
theorem proved : Rows.ReceiveChecksCardSaid :=
  Claim7.holds_tied_plain_at .later [] [.data, .pinned] true Rows.receiveChecksCard.stood.harness true holds (fun _ h => by cases h) byText (fun _ h => by cases h) receiveChecks_row_tie rfl ⟨rfl, rfl⟩ mainIs rfl
    (fun f fn hf hfn => by
      obtain rfl : f = 3 := Option.some.inj (named.symm.trans hf) |>.symm
      obtain rfl : fn = Tryz.f3 := (Option.some.inj (Tryz.func3.symm.trans hfn)).symm
      exact ⟨looks, fun j t ht => by
        have hm : t ∈ Tryz.f3.params.toList := Array.mem_toList_iff.2 (Array.mem_of_getElem? ht)
        have hall : (Tryz.f3.params.toList.all fun u => !Tryz.prog.wantsStandIn u) = true := by kernel_rfl
        exact (show Tryz.prog.wantsStandIn t = false by simpa using List.all_eq_true.1 hall t hm)⟩)
    goesBy
#print axioms proved
end Go.Proofs.YtomligcenflpdabGreatDoor.receiveChecks

