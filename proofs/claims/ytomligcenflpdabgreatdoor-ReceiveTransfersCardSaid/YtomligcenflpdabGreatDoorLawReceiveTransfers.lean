/- WkTf, WkTn, WkTp, LawReceiveTransfers, joined. -/
import Derived.Test.YtomligcenflpdabGreatDoorWkTc
import Derived.Test.YtomligcenflpdabGreatDoorWkZ
import Derived.Test.YtomligcenflpdabGreatDoorWkTikl
import Derived.Test.YtomligcenflpdabGreatDoorWkSh
import Derived.Test.YtomligcenflpdabGreatDoorWkSi
import Derived.Test.YtomligcenflpdabGreatDoorWkZbc
import Derived.Test.YtomligcenflpdabGreatDoorWkY
import Derived.Test.YtomligcenflpdabGreatDoorWkSe
import Derived.Test.YtomligcenflpdabGreatDoorWkSc
import Derived.Test.YtomligcenflpdabGreatDoorWkSp
import Derived.Test.YtomligcenflpdabGreatDoorPeRow
import Derived.Test.YtomligcenflpdabGreatDoorRows
import Derived.Test.YtomligcenflpdabGreatDoorCards
import Derived.Test.YtomligcenflpdabGreatDoorTie
import Derived.WalkKit
import Derived.ProofKit
import Derived.OpenShut
import Derived.LaidMore
import Derived.Lay
import Derived.SevenTiedAt
set_option linter.unusedVariables false
set_option linter.defProp false
set_option linter.all false
set_option linter.unusedSimpArgs false
set_option maxRecDepth 100000
set_option maxHeartbeats 4000000
namespace Go.PE
open Go Go.Proofs

/-- What the box has after i rounds. -/
def wholeC (l : List Rec) (i : Nat) : List AV := if i = 0 then [.d (.bool false), .d (.bool false), .d (.int .i64 0), .d (.int .i64 0), .d (.int .u64 0), .d (.int .u64 0), .d (.int .u64 0), .nilS] else (wholeF (l.take i)).enc.map .d
theorem whole_snoc {l : List Rec} {i : Nat} {y : Rec} (h : l[i]? = some y) : wholeF (l.take (i + 1)) = (takeF (wholeF (l.take i)) y).1 := by
  unfold wholeF
  rw [List.take_add_one, h]
  simp [List.foldl_append]
def hWhole : Det := det1 cRecs (fun l => l.length ≤ 1000000 ∧ ∀ x ∈ l, rangeR x) fun l => .d (.agg (wholeF l).enc)
theorem f_19Whole : FPure Tryz.prog 9 hWhole.spec := by
  refine FPure.runL [(23, .det h19Take)] (fun i => if i = 5 then [(0, (false, [])), (1, (false, [])), (2, (false, [])), (3, (false, [])), (4, (false, [])), (5, (true, [1, 2, 3])), (6, (false, [])), (7, (true, []))] else []) (by
    intro p hp
    simp only [List.mem_cons, List.not_mem_nil, or_false] at hp
    subst hp
    exact f_19Take) F.mixed Tryz.func9 (by kernel_rfl) rfl (by kernel_rfl) 20 Tryz.ntmps9 [.cell 2 31] Tryz.results9 ?_
  intro ds K hl hs
  obtain ⟨l, rfl, ⟨hn, hr⟩, hK⟩ := det1_elim hs
  simp (config := { maxSteps := 4000000 }) only [cRecs_enc, eBs, cBs, F.fBs, Nat.reduceSub, Nat.reduceAdd, Nat.reduceLT, Nat.reduceEqDiff, Nat.reduceLeDiff, Nat.reduceMul, Nat.reduceBEq, Int.reduceToNat, Op.operands, if_true, if_false, reduceCtorEq, if_pos, forall_const, implies_true, eq_self, ne_eq]
  refine eK_rounds [0, 2, 3] (fun i : Nat => i ≤ l.length) (fun i => [(4, .d (.int .i64 i))]) (fun i => [(1, wholeC l i)]) (fun _ => []) (fun i => l.length - i) 0 (Nat.zero_le _) ?_ ?_
  · simp [le_eq, St.head, keepT, setAll, leV, leB, leR, leR0, idsR, idsL, idsA, idsB, wholeC]
  intro i hi
  have hok : okI (wholeF (l.take i)) := whole_ok (l.take i) zeroInb zero_ok fun r h => hr r (List.mem_of_mem_take h)
  have hwi : IntKind.i64.wrap ((i : Int) + 1) = ((i + 1 : Nat) : Int) := by rw [wrap_i64' (by omega) (by omega)]; rfl
  rcases Nat.lt_or_ge i l.length with hlt | hge
  · have h3 : ((i : Int) < l.length) = True := eq_true (by omega)
    have hx : l[i]? = some l[i] := List.getElem?_eq_getElem hlt
    have hrx := hr _ (List.getElem_mem hlt)
    generalize l[i] = y at hx hrx
    have gx : l.getD i default = y := getD_of hx
    have hstep := whole_snoc hx
    have cs : wholeC l (i + 1) = (takeF (wholeF (l.take i)) y).1.enc.map .d := by
      unfold wholeC
      rw [if_neg (by omega), hstep]
    have ge : ∀ z : List D, (List.map Rec.enc l)[i]? = some z → z.length = 14 ∧ AV.cptr z = AV.cptr y.enc := by
      intro z hz
      rw [List.getElem?_map, hx] at hz
      simp only [Option.map_some, Option.some.injEq] at hz
      subst hz
      exact ⟨rfl, rfl⟩
    rcases Nat.eq_zero_or_pos i with e | e
    · subst e
      have w0 : wholeF (l.take 0) = zeroInb := rfl
      rw [w0] at hok cs
      have c0 : wholeC l 0 = [.d (.bool false), .d (.bool false), .d (.int .i64 0), .d (.int .i64 0), .d (.int .u64 0), .d (.int .u64 0), .d (.int .u64 0), .nilS] := rfl
      have c1 : wholeC l 1 = (wholeF (l.take 1)).enc.map .d := rfl
      unfold zeroInb at hok cs
      simp (config := { maxSteps := 4000000 }) only [le_eq, h3, gx, c0, Rec.em, h19Take, cInb_dec0, cRec_dec, Rec.eta, tknE, eBs, cBs, F.fBs, Nat.reduceSub, Nat.reduceAdd, Nat.reduceLT, Nat.reduceEqDiff, Nat.reduceLeDiff, Nat.reduceMul, Nat.reduceBEq, Int.reduceToNat, Op.operands, if_true, if_false, reduceCtorEq, if_pos, forall_const, implies_true, eq_self, ne_eq]
      refine ⟨by omega, ?_⟩
      refine eG_map _ _ _ _ _ _ ⟨fun _ => rfl, ?_⟩
      simp (config := { maxSteps := 4000000 }) only [le_eq, h3, gx, c0, hwi, Rec.em, h19Take, cInb_dec0, cRec_dec, Rec.eta, tknE, eBs, cBs, F.fBs, Nat.reduceSub, Nat.reduceAdd, Nat.reduceLT, Nat.reduceEqDiff, Nat.reduceLeDiff, Nat.reduceMul, Nat.reduceBEq, Int.reduceToNat, Op.operands, if_true, if_false, reduceCtorEq, if_pos, forall_const, implies_true, eq_self, ne_eq]
      refine ⟨⟨hok, hrx⟩, ⟨by omega, ge⟩, rfl, 1, by omega, by omega, rfl, ?_⟩
      rw [show wholeC l 1 = _ from cs]
      simp [leV, idsL, idsA, Inb.em]
    · have ce : wholeC l i = (wholeF (l.take i)).enc.map .d := by unfold wholeC; rw [if_neg (by omega)]
      simp (config := { maxSteps := 4000000 }) only [le_eq, h3, gx, ce, Inb.em, Rec.em, h19Take, cInb_dec, cRec_dec, Inb.eta, Rec.eta, tknE, eBs, cBs, F.fBs, Nat.reduceSub, Nat.reduceAdd, Nat.reduceLT, Nat.reduceEqDiff, Nat.reduceLeDiff, Nat.reduceMul, Nat.reduceBEq, Int.reduceToNat, Op.operands, if_true, if_false, reduceCtorEq, if_pos, forall_const, implies_true, eq_self, ne_eq]
      refine ⟨by omega, ?_⟩
      refine eG_map _ _ _ _ _ _ ⟨fun _ => rfl, ?_⟩
      simp (config := { maxSteps := 4000000 }) only [le_eq, h3, gx, ce, hwi, Inb.em, Rec.em, h19Take, cInb_dec, cRec_dec, Inb.eta, Rec.eta, tknE, eBs, cBs, F.fBs, Nat.reduceSub, Nat.reduceAdd, Nat.reduceLT, Nat.reduceEqDiff, Nat.reduceLeDiff, Nat.reduceMul, Nat.reduceBEq, Int.reduceToNat, Op.operands, if_true, if_false, reduceCtorEq, if_pos, forall_const, implies_true, eq_self, ne_eq]
      refine ⟨⟨hok, hrx⟩, ⟨by omega, ge⟩, rfl, i + 1, by omega, by omega, rfl, ?_⟩
      rw [cs]
      simp [leV, idsL, idsA, Inb.em]
  · have : i = l.length := by omega
    subst this
    have h3 : ((l.length : Int) < l.length) = False := eq_false (by omega)
    rw [List.take_length] at hok
    rcases Nat.eq_zero_or_pos l.length with e | e
    · have hl0 : l = [] := List.eq_nil_of_length_eq_zero e
      subst hl0
      have c0 : wholeC [] 0 = [.d (.bool false), .d (.bool false), .d (.int .i64 0), .d (.int .i64 0), .d (.int .u64 0), .d (.int .u64 0), .d (.int .u64 0), .nilS] := rfl
      have w0 : wholeF [] = ⟨false, false, 0, 0, 0, 0, 0, []⟩ := rfl
      rw [w0] at hK
      simp (config := { maxSteps := 4000000 }) only [le_eq, h3, c0, Inb.em, eBs, cBs, F.fBs, Nat.reduceSub, Nat.reduceAdd, Nat.reduceLT, Nat.reduceEqDiff, Nat.reduceLeDiff, Nat.reduceMul, Nat.reduceBEq, Int.reduceToNat, Op.operands, if_true, if_false, reduceCtorEq, if_pos, forall_const, implies_true, eq_self, ne_eq] at hK ⊢
      exact ⟨fun h => absurd h (by simp), fun _ => hK⟩
    · have ce : wholeC l l.length = (wholeF l).enc.map .d := by unfold wholeC; rw [if_neg (by omega), List.take_length]
      simp (config := { maxSteps := 4000000 }) only [le_eq, h3, ce, Inb.em, eBs, cBs, F.fBs, Nat.reduceSub, Nat.reduceAdd, Nat.reduceLT, Nat.reduceEqDiff, Nat.reduceLeDiff, Nat.reduceMul, Nat.reduceBEq, Int.reduceToNat, Op.operands, if_true, if_false, reduceCtorEq, if_pos, forall_const, implies_true, eq_self, ne_eq] at hK ⊢
      exact hK

end Go.PE

set_option linter.unusedVariables false
set_option linter.defProp false
set_option linter.all false
set_option linter.unusedSimpArgs false
set_option maxRecDepth 10000
set_option maxHeartbeats 4000000
namespace Go.PE
open Go Go.Proofs

theorem q1 : u64P 1 := ⟨by decide, by decide⟩
theorem q2 : u64P 2 := ⟨by decide, by decide⟩
theorem el_of {α : Type} {enc : α → List D} {l : List α} {k : Nat} {x : α} (hx : l[k]? = some x) {P : List D → Prop} (h : P (enc x)) : ∀ z, (l.map enc)[k]? = some z → P z := by
  intro z hz
  rw [List.getElem?_map, hx] at hz
  injection hz with hz
  subst hz
  exact h
theorem eLn {α : Type} {enc : α → List D} {l : List α} {k : Nat} {x : α} (hx : l[k]? = some x) (n : Nat) (F : Kt (List D → Prop)) : @eL (l.map enc) k n F = ((enc x).length = n ∧ F.v (enc x)) := by
  rw [eL_map]
  exact propext ⟨fun h => h x hx, fun h z hz => by rw [hx] at hz; injection hz with hz; subst hz; exact h⟩
theorem eGn {α : Type} {enc : α → List D} {l : List α} {k : Nat} {x : α} (hx : l[k]? = some x) (g : Bool) (n : Nat) (F : Kt (List D → Prop)) : @eG g (l.map enc) k n F = ((g = true → (enc x).length = n) ∧ F.v (enc x)) := by
  have hm : (l.map enc)[k]? = some (enc x) := by rw [List.getElem?_map, hx]; rfl
  show elemG g (l.map enc) k n F.v = _
  unfold elemG
  refine propext ⟨fun ⟨z, h1, h2, h3⟩ => ?_, fun ⟨h1, h2⟩ => ⟨enc x, fun z hz => by rw [hm] at hz; injection hz, h1, h2⟩⟩
  have := h1 _ hm
  subst this
  exact ⟨h2, h3⟩
end Go.PE

set_option linter.unusedVariables false
set_option linter.defProp false
set_option linter.all false
set_option linter.unusedSimpArgs false
set_option maxRecDepth 10000
set_option maxHeartbeats 4000000
namespace Go.PE
open Go Go.Proofs

def boxN (x : Inb) : List AV := x.enc.map .d
theorem boxN_eq (x : Inb) : boxN x = [.d (.bool x.op), .d (.bool x.done), .d (.int .i64 x.count), .d (.int .i64 x.next), .d (.int .u64 x.src), .d (.int .u64 x.dst), .d (.int .u64 x.check), .d (.list (x.msgs.map Msg.enc))] := rfl
def hTransfers : Det := det3 cRaws (c2 .u64) cBytes (fun l p _ => (∀ x ∈ l, x.ok) ∧ range2 .u64 p) fun _ _ _ => .d (.bool true)
theorem f_ReceiveTransfers : FPure Tryz.prog 5 hTransfers.spec := by
  refine FPure.runL [(6, .det hTrue19), (8, .det hList), (14, .det hMake), (18, .det hRest), (17, .det hMissing), (10, .det h19Take), (16, .det hSameMs)] (fun i => if i = 18 then [(0, (false, [])), (1, (false, [])), (2, (false, [])), (3, (false, [])), (4, (false, [])), (5, (false, [])), (6, (true, [0, 1, 2, 3, 4, 5])), (7, (true, []))] else []) (by
    intro p hp
    simp only [List.mem_cons, List.not_mem_nil, or_false] at hp
    rcases hp with rfl | rfl | rfl | rfl | rfl | rfl | rfl
    · exact f_19sanity
    · exact f_05List
    · exact f_streamMake
    · exact f_streamRest
    · exact f_recvMissing
    · exact f_law19take
    · exact f_05SameMsgs) F.mixed Tryz.func5 (by kernel_rfl) rfl (by kernel_rfl) 115 Tryz.ntmps5 [.tmp 6] Tryz.results5 ?_
  intro ds K hl hs
  obtain ⟨l, ⟨s, d⟩, cs, rfl, ⟨ho, ⟨⟨hs1, hs2⟩, ⟨hd1, hd2⟩⟩⟩, hK⟩ := det3_elim hs
  simp only at hs1 hs2 hd1 hd2
  have ps : u64P s := ⟨by omega, by omega⟩
  have pd : u64P d := ⟨by omega, by omega⟩
  have hlc : (cs.map byteCell).length = cs.length := List.length_map _
  have hv := list_valid (n := 10) ho
  have hn := list_len l 10
  have t10 : Int.toNat 10 = 10 := rfl
  rw [t10] at hn
  have hlM : (listF l 10).length ≤ 1000000 := by omega
  have mr := make_range ps pd hlM hv
  have ml := make_len s d (listF l 10)
  have hrest := fun n => rest_make n s d (listF l 10)
  generalize hM : listF l 10 = M at *
  obtain ⟨L, hL⟩ : ∃ L, makeF s d M = L := ⟨_, rfl⟩
  rw [hL] at ml mr
  have hrest : ∀ n, restF n L = L.drop n.toNat := by rw [← hL]; exact hrest
  have n2 : ((2 : Nat) : Int) = 2 := rfl
  have hw2 : IntKind.i64.wrap ((M.length : Int) + 2) = (L.length : Int) := by rw [wrap_i64' (by omega) (by omega)]; omega
  have nL : (¬ (L.length : Int) = L.length) = False := eq_false (fun h => h rfl)
  simp (config := { maxSteps := 4000000 }) only [hTrue19, det0_eq, c2_enc, cRaws_enc, cRaws_dec, cMsgs_dec, hList, hMake, hM, hL, n2, hw2, nL, Int.reduceLT, Int.reduceLE, eBs, cBs, F.fBs, Nat.reduceSub, Nat.reduceAdd, Nat.reduceLT, Nat.reduceEqDiff, Nat.reduceLeDiff, Nat.reduceMul, Nat.reduceBEq, Int.reduceToNat, Op.operands, if_true, if_false, reduceCtorEq, if_pos, forall_const, implies_true, eq_self, ne_eq]
  refine ⟨ho, ⟨ps, pd, by omega, hv⟩, ?_⟩
  have hbx : boxN (inbAt s d M 0) = [.d (.bool false), .d (.bool false), .d (.int .i64 0), .d (.int .i64 0), .d (.int .u64 0), .d (.int .u64 0), .d (.int .u64 0), .d (.list [])] := rfl
  have hwh := inbAt_pos s d M (i := L.length) (by omega)
  have hdz : decide (L.length = M.length + 2) = true := decide_eq_true ml
  rw [hdz, List.take_of_length_le (by omega)] at hwh
  generalize (chk 0 (bareF s d M) L.length : Nat) = cz at hwh
  have fin : ∀ i : Nat, True := fun _ => trivial
  refine eK_rounds [2, 4, 7, 8, 9, 10] (fun p : Nat × Nat => p.1 ≤ 13 ∧ p.2 ≤ L.length ∧ (p.1 = 13 → p.2 = L.length)) (fun p => [(11, .d (.int .i64 p.1))]) (fun p => [(1, boxN (inbAt s d M p.2))]) (fun _ => []) (fun p => 13 - p.1) (0, 0) ⟨by omega, by omega, by omega⟩ ?_ ?_
  · simp [le_eq, St.head, keepT, setAll, leV, leB, leR, leR0, idsR, idsL, idsA, idsB, hbx]
  rintro ⟨i, j⟩ ⟨hi, hj, hij⟩
  simp only at hi hj hij
  have hwi : IntKind.i64.wrap ((i : Int) + 1) = ((i + 1 : Nat) : Int) := by rw [wrap_i64' (by omega) (by omega)]; rfl
  by_cases hjl : j = L.length
  · have hfin := hwh
    by_cases hi13 : i < 13
    · have h3 : ((i : Int) < 13) = True := eq_true (by omega)
      simp (config := { maxSteps := 4000000 }) only [le_eq, h3, hjl, hwh, boxN_eq, hMissing, cInb_dec, hSameMs, cMsgs_dec, Inb.em, Int.reduceLT, Int.reduceEq, Int.reduceNeg, decide_true, if_true, eBs, cBs, F.fBs, Nat.reduceSub, Nat.reduceAdd, Nat.reduceLT, Nat.reduceEqDiff, Nat.reduceLeDiff, Nat.reduceMul, Nat.reduceBEq, Int.reduceToNat, Op.operands, if_true, if_false, reduceCtorEq, if_pos, forall_const, implies_true, eq_self, ne_eq]
      clear hs hl hwh hfin
      exact ⟨⟨by decide, by decide⟩, ⟨by decide, by decide⟩, hK⟩
    · have h3 : ((i : Int) < 13) = False := eq_false (by omega)
      simp (config := { maxSteps := 4000000 }) only [le_eq, h3, hjl, hwh, boxN_eq, hMissing, cInb_dec, hSameMs, cMsgs_dec, Inb.em, Int.reduceLT, Int.reduceEq, Int.reduceNeg, decide_true, if_true, eBs, cBs, F.fBs, Nat.reduceSub, Nat.reduceAdd, Nat.reduceLT, Nat.reduceEqDiff, Nat.reduceLeDiff, Nat.reduceMul, Nat.reduceBEq, Int.reduceToNat, Op.operands, if_true, if_false, reduceCtorEq, if_pos, forall_const, implies_true, eq_self, ne_eq]
      clear hs hl hwh hfin
      exact ⟨⟨by decide, by decide⟩, ⟨by decide, by decide⟩, hK⟩
  have hi13 : i < 13 := by rcases Nat.lt_or_ge i 13 with h | h; exact h; exact absurd (hij (by omega)) hjl
  have h3 : ((i : Int) < 13) = True := eq_true (by omega)
  obtain ⟨I, hI⟩ : ∃ I, inbAt s d M j = I := ⟨_, rfl⟩
  have hnd : I.done = false := by rw [← hI, inbAt_done]; exact decide_eq_false (by omega)
  have hnx : I.next = j := by rw [← hI]; exact inbAt_next s d M j
  have hj0 : ((j : Int) < 0) = False := eq_false (by omega)
  obtain ⟨R, hR⟩ : ∃ R, L.drop j = R := ⟨_, rfl⟩
  have hrj : restF (j : Int) L = R := by rw [hrest, Int.toNat_natCast]; exact hR
  have hRl : R.length = L.length - j := by rw [← hR]; exact List.length_drop
  have hmis : (if I.done = true then (-1 : Int) else I.next) = (j : Int) := by rw [hnd, hnx]; rfl
  have hrl : R.length ≤ 1000000 := by omega
  have hLl : L.length ≤ 1000000 := by omega
  have n0 : (¬ (0 : Int) = 0) = False := eq_false (fun h => h rfl)
  clear hrest
  by_cases hci : i < cs.length ∧ i < 12
  · have g1 : ((i : Int) < (cs.length : Int)) = True := eq_true (by omega)
    have g2 : ((i : Int) < 12) = True := eq_true (by omega)
    have hcb : cs[i]? = some (cs[i]'hci.1) := List.getElem?_eq_getElem hci.1
    generalize cs[i]'hci.1 = ch at hcb
    have wch : IntKind.i64.wrap (ch.toNat : Int) = (ch.toNat : Int) := wrap_i64' (by omega) (by have := ch.toNat_lt; omega)
    obtain ⟨q, hq⟩ := Int.eq_ofNat_of_zero_le (Int.tmod_nonneg (13 : Int) (show (0 : Int) ≤ (ch.toNat : Int) by omega))
    obtain ⟨c, hc0⟩ : ∃ c, min R.length q = c := ⟨_, rfl⟩
    have hmin : min (R.length : Int) (q : Int) = (c : Int) := by omega
    have hcl : c ≤ R.length := by omega
    have hcf : i = 12 → c = R.length := fun h => by omega
    simp (config := { maxSteps := 4000000 }) only [le_eq, h3, hI, boxN_eq, hMissing, cInb_dec, Inb.eta, hmis, hj0, hRest, cRecs_dec, hrj, hlc, Int.reduceLT, if_false, Bool.false_eq_true, g1, g2, eBs, cBs, F.fBs, Nat.reduceSub, Nat.reduceAdd, Nat.reduceLT, Nat.reduceEqDiff, Nat.reduceLeDiff, Nat.reduceMul, Nat.reduceBEq, Int.reduceToNat, Op.operands, if_true, if_false, reduceCtorEq, if_pos, forall_const, implies_true, eq_self, ne_eq]
    refine ⟨hLl, by omega, fun z hz => ?_⟩
    rw [hcb] at hz
    injection hz with hz
    subst hz
    have bt : List.take 1 (byteCell ch) = [D.int .u8 ch.toNat] := rfl
    simp (config := { maxSteps := 4000000 }) only [le_eq, bt, wch, hq, hmin, Int.toNat_natCast, eBs, cBs, F.fBs, Nat.reduceSub, Nat.reduceAdd, Nat.reduceLT, Nat.reduceEqDiff, Nat.reduceLeDiff, Nat.reduceMul, Nat.reduceBEq, Int.reduceToNat, Op.operands, if_true, if_false, reduceCtorEq, if_pos, forall_const, implies_true, eq_self, ne_eq]
    refine ⟨by decide, ?_⟩
    refine eK_rounds [2, 4, 7, 8, 9, 10, 11, 13, 14] (fun k : Nat => k ≤ c) (fun k => [(15, .d (.int .i64 k))]) (fun k => [(1, boxN (inbAt s d M (j + k)))]) (fun _ => []) (fun k => c - k) 0 (Nat.zero_le _) ?_ ?_
    · simp [le_eq, St.head, keepT, setAll, leV, leB, leR, leR0, idsR, idsL, idsA, idsB, hI, boxN_eq]
    intro k hk
    have hwk : IntKind.i64.wrap ((k : Int) + 1) = ((k + 1 : Nat) : Int) := by rw [wrap_i64' (by omega) (by omega)]; rfl
    have hok : okI (inbAt s d M (j + k)) := inbAt_ok ps pd hlM hv (j + k) (by omega)
    rcases Nat.lt_or_ge k c with hlt | hge
    · have h4 : ((k : Int) < c) = True := eq_true (by omega)
      have hxR : R[k]? = some R[k] := List.getElem?_eq_getElem (by omega)
      have hxL : L[j + k]? = some R[k] := by rw [← hxR, ← hR, List.getElem?_drop]
      have hxr := mr _ (List.mem_of_getElem? hxL)
      have hst := take_step (i := j + k) (x := R[k]) ps pd hlM hv (by rw [hL]; exact hxL)
      generalize R[k] = x at hxR hxL hxr hst
      have heg := @eGn Rec Rec.enc R k x hxR
      obtain ⟨I', hI'⟩ : ∃ I', inbAt s d M (j + k) = I' := ⟨_, rfl⟩
      obtain ⟨J, hJ⟩ : ∃ J, inbAt s d M (j + k + 1) = J := ⟨_, rfl⟩
      rw [hI'] at hok
      rw [hI', hJ] at hst
      simp (config := { maxSteps := 4000000 }) only [le_eq, h4, hI', boxN_eq, Rec.em, h19Take, cInb_dec, cRec_dec, Inb.eta, Rec.eta, hst, tknE, hwk, n0, eBs, cBs, F.fBs, Nat.reduceSub, Nat.reduceAdd, Nat.reduceLT, Nat.reduceEqDiff, Nat.reduceLeDiff, Nat.reduceMul, Nat.reduceBEq, Int.reduceToNat, Op.operands, if_true, if_false, reduceCtorEq, if_pos, forall_const, implies_true, eq_self, ne_eq, heg]
      refine ⟨⟨by omega, by omega⟩, ⟨hok, hxr⟩, ⟨⟨⟨by omega, by omega⟩, el_of hxR ⟨rfl, rfl⟩⟩, hok, hxr⟩, k + 1, by omega, by omega, rfl, ?_⟩
      rw [show j + (k + 1) = j + k + 1 from rfl, hJ]
      exact ⟨rfl, rfl, rfl, rfl, rfl, rfl, rfl, rfl⟩
    · have : k = c := by omega
      subst this
      have h4 : ((k : Int) < k) = False := eq_false (by omega)
      simp (config := { maxSteps := 4000000 }) only [le_eq, h4, hwi, eBs, cBs, F.fBs, Nat.reduceSub, Nat.reduceAdd, Nat.reduceLT, Nat.reduceEqDiff, Nat.reduceLeDiff, Nat.reduceMul, Nat.reduceBEq, Int.reduceToNat, Op.operands, if_true, if_false, reduceCtorEq, if_pos, forall_const, implies_true, eq_self, ne_eq]
      refine ⟨(i + 1, j + k), ⟨by simp only; omega, by simp only; omega, fun h => ?_⟩, by simp only; omega, rfl, by simp [boxN_eq, leV], by simp [boxN_eq, idsL, idsA]⟩
      simp only at h ⊢
      have := hcf (by omega)
      omega
  have c : True := trivial
  obtain ⟨c, hc0⟩ : ∃ c, R.length = c := ⟨_, rfl⟩
  have hcl : c ≤ R.length := by omega
  have hcf : i = 12 → c = R.length := fun h => by omega
  by_cases hcc : i < cs.length
  · have g1 : ((i : Int) < (cs.length : Int)) = True := eq_true (by omega)
    have g2 : ((i : Int) < 12) = False := eq_false (by omega)
    simp (config := { maxSteps := 4000000 }) only [le_eq, h3, hI, boxN_eq, hMissing, cInb_dec, Inb.eta, hmis, hj0, hRest, cRecs_dec, hrj, hlc, Int.reduceLT, if_false, Bool.false_eq_true, g1, g2, hc0, eBs, cBs, F.fBs, Nat.reduceSub, Nat.reduceAdd, Nat.reduceLT, Nat.reduceEqDiff, Nat.reduceLeDiff, Nat.reduceMul, Nat.reduceBEq, Int.reduceToNat, Op.operands, if_true, if_false, reduceCtorEq, if_pos, forall_const, implies_true, eq_self, ne_eq]
    refine ⟨hLl, ?_⟩
    refine eK_rounds [2, 4, 7, 8, 9, 10, 11, 13, 14] (fun k : Nat => k ≤ c) (fun k => [(15, .d (.int .i64 k))]) (fun k => [(1, boxN (inbAt s d M (j + k)))]) (fun _ => []) (fun k => c - k) 0 (Nat.zero_le _) ?_ ?_
    · simp [le_eq, St.head, keepT, setAll, leV, leB, leR, leR0, idsR, idsL, idsA, idsB, hI, boxN_eq]
    intro k hk
    have hwk : IntKind.i64.wrap ((k : Int) + 1) = ((k + 1 : Nat) : Int) := by rw [wrap_i64' (by omega) (by omega)]; rfl
    have hok : okI (inbAt s d M (j + k)) := inbAt_ok ps pd hlM hv (j + k) (by omega)
    rcases Nat.lt_or_ge k c with hlt | hge
    · have h4 : ((k : Int) < c) = True := eq_true (by omega)
      have hxR : R[k]? = some R[k] := List.getElem?_eq_getElem (by omega)
      have hxL : L[j + k]? = some R[k] := by rw [← hxR, ← hR, List.getElem?_drop]
      have hxr := mr _ (List.mem_of_getElem? hxL)
      have hst := take_step (i := j + k) (x := R[k]) ps pd hlM hv (by rw [hL]; exact hxL)
      generalize R[k] = x at hxR hxL hxr hst
      have heg := @eGn Rec Rec.enc R k x hxR
      obtain ⟨I', hI'⟩ : ∃ I', inbAt s d M (j + k) = I' := ⟨_, rfl⟩
      obtain ⟨J, hJ⟩ : ∃ J, inbAt s d M (j + k + 1) = J := ⟨_, rfl⟩
      rw [hI'] at hok
      rw [hI', hJ] at hst
      simp (config := { maxSteps := 4000000 }) only [le_eq, h4, hI', boxN_eq, Rec.em, h19Take, cInb_dec, cRec_dec, Inb.eta, Rec.eta, hst, tknE, hwk, n0, eBs, cBs, F.fBs, Nat.reduceSub, Nat.reduceAdd, Nat.reduceLT, Nat.reduceEqDiff, Nat.reduceLeDiff, Nat.reduceMul, Nat.reduceBEq, Int.reduceToNat, Op.operands, if_true, if_false, reduceCtorEq, if_pos, forall_const, implies_true, eq_self, ne_eq, heg]
      refine ⟨⟨by omega, by omega⟩, ⟨hok, hxr⟩, ⟨⟨⟨by omega, by omega⟩, el_of hxR ⟨rfl, rfl⟩⟩, hok, hxr⟩, k + 1, by omega, by omega, rfl, ?_⟩
      rw [show j + (k + 1) = j + k + 1 from rfl, hJ]
      exact ⟨rfl, rfl, rfl, rfl, rfl, rfl, rfl, rfl⟩
    · have : k = c := by omega
      subst this
      have h4 : ((k : Int) < k) = False := eq_false (by omega)
      simp (config := { maxSteps := 4000000 }) only [le_eq, h4, hwi, eBs, cBs, F.fBs, Nat.reduceSub, Nat.reduceAdd, Nat.reduceLT, Nat.reduceEqDiff, Nat.reduceLeDiff, Nat.reduceMul, Nat.reduceBEq, Int.reduceToNat, Op.operands, if_true, if_false, reduceCtorEq, if_pos, forall_const, implies_true, eq_self, ne_eq]
      refine ⟨(i + 1, j + k), ⟨by simp only; omega, by simp only; omega, fun h => ?_⟩, by simp only; omega, rfl, by simp [boxN_eq, leV], by simp [boxN_eq, idsL, idsA]⟩
      simp only at h ⊢
      have := hcf (by omega)
      omega
  · have g1 : ((i : Int) < (cs.length : Int)) = False := eq_false (by omega)
    simp (config := { maxSteps := 4000000 }) only [le_eq, h3, hI, boxN_eq, hMissing, cInb_dec, Inb.eta, hmis, hj0, hRest, cRecs_dec, hrj, hlc, Int.reduceLT, if_false, Bool.false_eq_true, g1, hc0, eBs, cBs, F.fBs, Nat.reduceSub, Nat.reduceAdd, Nat.reduceLT, Nat.reduceEqDiff, Nat.reduceLeDiff, Nat.reduceMul, Nat.reduceBEq, Int.reduceToNat, Op.operands, if_true, if_false, reduceCtorEq, if_pos, forall_const, implies_true, eq_self, ne_eq]
    refine ⟨hLl, ?_⟩
    refine eK_rounds [2, 4, 7, 8, 9, 10, 11, 13, 14] (fun k : Nat => k ≤ c) (fun k => [(15, .d (.int .i64 k))]) (fun k => [(1, boxN (inbAt s d M (j + k)))]) (fun _ => []) (fun k => c - k) 0 (Nat.zero_le _) ?_ ?_
    · simp [le_eq, St.head, keepT, setAll, leV, leB, leR, leR0, idsR, idsL, idsA, idsB, hI, boxN_eq]
    intro k hk
    have hwk : IntKind.i64.wrap ((k : Int) + 1) = ((k + 1 : Nat) : Int) := by rw [wrap_i64' (by omega) (by omega)]; rfl
    have hok : okI (inbAt s d M (j + k)) := inbAt_ok ps pd hlM hv (j + k) (by omega)
    rcases Nat.lt_or_ge k c with hlt | hge
    · have h4 : ((k : Int) < c) = True := eq_true (by omega)
      have hxR : R[k]? = some R[k] := List.getElem?_eq_getElem (by omega)
      have hxL : L[j + k]? = some R[k] := by rw [← hxR, ← hR, List.getElem?_drop]
      have hxr := mr _ (List.mem_of_getElem? hxL)
      have hst := take_step (i := j + k) (x := R[k]) ps pd hlM hv (by rw [hL]; exact hxL)
      generalize R[k] = x at hxR hxL hxr hst
      have heg := @eGn Rec Rec.enc R k x hxR
      obtain ⟨I', hI'⟩ : ∃ I', inbAt s d M (j + k) = I' := ⟨_, rfl⟩
      obtain ⟨J, hJ⟩ : ∃ J, inbAt s d M (j + k + 1) = J := ⟨_, rfl⟩
      rw [hI'] at hok
      rw [hI', hJ] at hst
      simp (config := { maxSteps := 4000000 }) only [le_eq, h4, hI', boxN_eq, Rec.em, h19Take, cInb_dec, cRec_dec, Inb.eta, Rec.eta, hst, tknE, hwk, n0, eBs, cBs, F.fBs, Nat.reduceSub, Nat.reduceAdd, Nat.reduceLT, Nat.reduceEqDiff, Nat.reduceLeDiff, Nat.reduceMul, Nat.reduceBEq, Int.reduceToNat, Op.operands, if_true, if_false, reduceCtorEq, if_pos, forall_const, implies_true, eq_self, ne_eq, heg]
      refine ⟨⟨by omega, by omega⟩, ⟨hok, hxr⟩, ⟨⟨⟨by omega, by omega⟩, el_of hxR ⟨rfl, rfl⟩⟩, hok, hxr⟩, k + 1, by omega, by omega, rfl, ?_⟩
      rw [show j + (k + 1) = j + k + 1 from rfl, hJ]
      exact ⟨rfl, rfl, rfl, rfl, rfl, rfl, rfl, rfl⟩
    · have : k = c := by omega
      subst this
      have h4 : ((k : Int) < k) = False := eq_false (by omega)
      simp (config := { maxSteps := 4000000 }) only [le_eq, h4, hwi, eBs, cBs, F.fBs, Nat.reduceSub, Nat.reduceAdd, Nat.reduceLT, Nat.reduceEqDiff, Nat.reduceLeDiff, Nat.reduceMul, Nat.reduceBEq, Int.reduceToNat, Op.operands, if_true, if_false, reduceCtorEq, if_pos, forall_const, implies_true, eq_self, ne_eq]
      refine ⟨(i + 1, j + k), ⟨by simp only; omega, by simp only; omega, fun h => ?_⟩, by simp only; omega, rfl, by simp [boxN_eq, leV], by simp [boxN_eq, idsL, idsA]⟩
      simp only at h ⊢
      have := hcf (by omega)
      omega
end Go.PE

set_option linter.unusedVariables false
set_option linter.defProp false
set_option linter.all false
set_option linter.unusedSimpArgs false
set_option maxRecDepth 100000
set_option maxHeartbeats 100000000
namespace Go.Proofs.YtomligcenflpdabGreatDoor.receiveTransfers
open Go.ChangeShapes Go.WideShapes Go.ChangeAt Go.RowKit Go.PE

theorem own : ownKnob Tryz.prog.godebug = none := by kernel_rfl
theorem fits (ds : List D) (h : FitsA [.slice (.agg [.int .u8, .int .u8, .int .u8, .int .u8, .int .u8, .int .u8]), .agg [.int .u64, .int .u64], .slice (.int .u8)] ds) : hTransfers.spec ds fun o => o = .ret (.d (.bool true)) := by
  obtain ⟨x1, xs1, rfl, hx1, x2, xs2, rfl, hx2, x3, xs3, rfl, hx3, rfl⟩ := h
  obtain ⟨a1, rfl, h1⟩ := fit_raws hx1
  obtain ⟨a2, rfl, h2⟩ := fit_u64x2 hx2
  obtain ⟨a3, rfl⟩ := fit_bytes hx3
  unfold Det.spec hTransfers det3
  simp only [cRaws.de, (c2 .u64).de, cBytes.de, optD]
  exact ⟨⟨h1, h2⟩, trivial⟩
theorem lifted (os : Os) (started : os.Started) (H : Type) (enc : TypeId × Value → H) :
    ReturnsInHanded {} Tryz.checked os 5 .any (fun w args => (Rows.receiveTransfersSpec.pre enc Tryz.prog Tryz.f5 Rows.receiveTransfersRow.domain false w args ∧ laidMetH Tryz.prog Rows.receiveTransfersRow.laid w) ∧ sizedMet enc Tryz.prog Tryz.f5 (OpenSpec.ofChange Rows.receiveTransfersSpec) false w args) (Rows.receiveTransfersSpec.post enc Tryz.prog Tryz.f5 false true false false) := by
  refine returnsInHanded_of_change_and (C := Tryz.checked) (X := fun w _ => laidMetH Tryz.prog Rows.receiveTransfersRow.laid w) (fun _ _ _ hh h => h.of_heap hh) own started (by kernel_rfl) Tryz.func5
    (ChangeSpec.witness_shaped (enc := enc) (C := Tryz.checked) (os := os) (X := fun w _ => laidMetH Tryz.prog Rows.receiveTransfersRow.laid w) false (World.laidAll Tryz.prog os Rows.receiveTransfersRow.laid) #[.slice none 0 0, .agg #[.int .u64 0, .int .u64 0], .slice none 0 0] 12 (World.laidAll_os _ _ _)
      (World.shaped_of_ZipB (by kernel_rfl) (by kernel_rfl)) (by kernel_rfl) (by kernel_rfl) (by kernel_rfl)
      (by rw [MakeChecks.laidMetH_plain _ _ _ (by kernel_rfl)]; exact laidMet_laidAll _ (by kernel_rfl) (by kernel_rfl))) ?_
  intro W base args ds gs before hval hW _ _ _ _
  exact law_calls (tb := 4) f_ReceiveTransfers (by kernel_rfl) fits (by kernel_rfl) (by kernel_rfl) (by kernel_rfl) (by kernel_rfl) (by kernel_rfl) (by kernel_rfl) rfl (fun ds h => by
    match ds, h with
    | [a1, a2, a3], _ => exact ⟨rfl, rfl, rfl⟩) hval hW
theorem and_tt {a b : Bool} (h : a = true) (k : b = true) : (a && b) = true := by rw [h, k]; rfl
theorem facts : joinedFacts Tryz.prog 5 Tryz.f5 Rows.receiveTransfersSpec Rows.receiveTransfersRow = true := by
  unfold joinedFacts
  repeat' (with_reducible refine and_tt ?_ ?_)
  all_goals as_aux_lemma => kernel_rfl
theorem named : Tryz.prog.funcNamed "downspout/downspoutlaw19.ReceiveTransfers" = some 5 := by kernel_rfl
theorem inst : decide (Tryz.f5.isInstance Tryz.prog Rows.receiveTransfersRow.origin Rows.receiveTransfersRow.targs) = true := by kernel_rfl
theorem wrap : Tryz.f5.isWrapper Tryz.prog Rows.receiveTransfersRow.wrapper Rows.receiveTransfersRow.mainSum := by
  unfold Func.isWrapper
  first | (rw [if_pos (by decide +kernel)]; kernel_rfl) | (rw [if_neg (by decide +kernel)]; exact ⟨rfl, rfl⟩)
theorem holds : Rows.ReceiveTransfersSaid :=
  OpenClaim.holds_of_wide 5 Tryz.f5 rfl rfl rfl rfl rfl rfl rfl ⟨rfl, rfl, rfl, rfl, rfl⟩ rfl rfl rfl rfl rfl named Tryz.func5 facts
    (of_decide_eq_true inst) wrap
    (fun os started H enc _ => lifted os started H enc)
theorem byText : Rows.receiveTransfersRow.wfByText (OpenSpec.ofChange Rows.receiveTransfersSpec) = true := by kernel_rfl
theorem mainIs : Tryz.pinned.checked.prog.mainIs = some (Rows.receiveTransfersCard.stood.harness.1, Rows.receiveTransfersCard.stood.harness.2.toList) := by kernel_rfl
theorem looks : true = Tryz.pinned.checked.prog.looks [] := by kernel_rfl
theorem goes_none {P : Program} (h : (P.funcs.toList.all fun fn => !fn.goes) = true) (f : FuncId) : P.goes f = false := by
  have h1 : ∀ fn ∈ P.funcs.toList, fn.goes = false := fun fn hm => by simpa using List.all_eq_true.1 h fn hm
  unfold Program.goes
  rw [Bool.or_eq_false_iff]
  constructor
  · rw [List.any_eq_false]
    intro g _
    cases hg : P.funcs[g]? with
    | none => simp
    | some fn =>
      have hm : fn ∈ P.funcs.toList := Array.mem_toList_iff.2 (Array.mem_of_getElem? hg)
      simp [h1 fn hm]
  · have : P.funcs.any Func.goes = false := by
      rw [← Array.any_toList, List.any_eq_false]
      intro fn hm
      simp [h1 fn hm]
    rw [this, Bool.and_false]
theorem goes_all : (Tryz.prog.funcs.toList.all fun fn => !fn.goes) = true := by kernel_rfl
theorem goesBy : false = Rows.receiveTransfersRow.goesBy Tryz.pinned.checked.prog := by
  show false = ((Tryz.prog.funcNamed "downspout/downspoutlaw19.ReceiveTransfers").any Tryz.prog.goes || false)
  rw [named, Option.any_some, goes_none goes_all, Bool.or_false]
theorem proved : Rows.ReceiveTransfersCardSaid :=
  Claim7.holds_tied_plain_at .later [] [.data, .pinned] true Rows.receiveTransfersCard.stood.harness true holds (fun _ h => by cases h) byText (fun _ h => by cases h) receiveTransfers_row_tie rfl ⟨rfl, rfl⟩ mainIs rfl
    (fun f fn hf hfn => by
      obtain rfl : f = 5 := Option.some.inj (named.symm.trans hf) |>.symm
      obtain rfl : fn = Tryz.f5 := (Option.some.inj (Tryz.func5.symm.trans hfn)).symm
      exact ⟨looks, fun j t ht => by
        have hm : t ∈ Tryz.f5.params.toList := Array.mem_toList_iff.2 (Array.mem_of_getElem? ht)
        have hall : (Tryz.f5.params.toList.all fun u => !Tryz.prog.wantsStandIn u) = true := by kernel_rfl
        exact (show Tryz.prog.wantsStandIn t = false by simpa using List.all_eq_true.1 hall t hm)⟩)
    goesBy
#print axioms proved
end Go.Proofs.YtomligcenflpdabGreatDoor.receiveTransfers

