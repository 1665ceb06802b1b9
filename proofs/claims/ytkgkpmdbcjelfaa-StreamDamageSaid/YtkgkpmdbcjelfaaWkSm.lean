/- Law 18: StreamDamage. -/
import Derived.Test.YtkgkpmdbcjelfaaWkSl
import Derived.Test.YtkgkpmdbcjelfaaWkSk
import Derived.Test.YtkgkpmdbcjelfaaWkSi
import Derived.Test.YtkgkpmdbcjelfaaWkY
set_option linter.unusedVariables false
set_option linter.defProp false
set_option linter.all false
set_option linter.unusedSimpArgs false
set_option maxRecDepth 10000
set_option maxHeartbeats 4000000
namespace Go.PE
open Go Go.Proofs

def chkL (c : Nat) : List Rec → Nat
  | [] => c
  | r :: l => chkL r.check.toNat l
theorem sound_mid {last : Nat} : ∀ {l1 l2 : List Rec} {x : Rec} {i c : Nat}, soundI last i c (l1 ++ x :: l2) = true → goodR last (i + l1.length) (chkL c l1) x = true
  | [], l2, x, i, c, h => by
    simp only [List.nil_append, soundI, Bool.and_eq_true] at h
    exact h.1
  | r :: l1, l2, x, i, c, h => by
    simp only [List.cons_append, soundI, Bool.and_eq_true] at h
    have := sound_mid h.2
    rw [List.length_cons, show i + (l1.length + 1) = i + 1 + l1.length by omega]
    exact this
theorem soundF_chain {l : List Rec} (h : soundF l = true) : soundI (l.length - 1) 0 0 l = true := by
  simp only [soundF, Bool.and_eq_true] at h
  exact h.2.2.2.1
theorem good_check {last i c : Nat} {x : Rec} (h : goodR last i c x = true) : x.check = (nextN c x : Nat) := by
  simp only [goodR, Bool.and_eq_true, decide_eq_true_eq] at h
  exact h.2.2.2
theorem be_check {n m : Nat} (hn : n < 18446744073709551616) (hm : m < 18446744073709551616) (h : beN n 8 8 = beN m 8 8) : n = m := by
  have := congrArg readN h
  rwa [readN_beN (by simpa using hn), readN_beN (by simpa using hm)] at this
theorem good_two {last i c : Nat} {x y : Rec} (hx : goodR last i c x = true) (hy : goodR last i c y = true) {k : Nat} {v : UInt8} (hk : k < (bytesR x).length) (hv : (bytesR x)[k]? ≠ some v) (e : bytesR y = (bytesR x).set k v) : False := by
  have ex := good_check hx
  have ey := good_check hy
  have lx := nextN_lt c x
  have ly := nextN_lt c y
  have hc := congrArg List.length e
  rw [List.length_set] at hc
  unfold bytesR at e hc hv hk
  simp only [List.length_append, beN_len] at hc hk
  have hlen : (plainR y).length = (plainR x).length := by omega
  rcases Nat.lt_or_ge k (plainR x).length with h | h
  · rw [List.set_append_left _ _ h] at e
    obtain ⟨e1, e2⟩ := List.append_inj e (by rw [List.length_set]; exact hlen)
    rw [ex, ey, Int.toNat_natCast, Int.toNat_natCast] at e2
    have e3 := be_check ly lx e2
    unfold nextN at e3
    rw [e1] at e3
    obtain ⟨a, d, p, h1, h2, h3⟩ := set_split h v
    rw [h3, h2, ← List.append_assoc, ← List.append_assoc] at e3
    have e4 := fnv_one e3
    rw [List.getElem?_append_left h, h1, ← e4] at hv
    exact hv rfl
  · have e0 := e
    rw [List.set_append_right _ _ h] at e
    obtain ⟨e1, e2⟩ := List.append_inj e hlen
    have e3 : nextN c y = nextN c x := by
      unfold nextN
      rw [e1]
    have e4 : y.check = x.check := by rw [ex, ey, e3]
    rw [e1, e4] at e0
    rw [e0, List.getElem?_set_self (by simp only [List.length_append, beN_len]; omega)] at hv
    exact hv rfl
theorem mid_split {α : Type} {l : List α} {i : Nat} {x : α} (hx : l[i]? = some x) (y : α) : l = l.take i ++ x :: l.drop (i + 1) ∧ l.set i y = l.take i ++ y :: l.drop (i + 1) := by
  obtain ⟨h, e⟩ := List.getElem?_eq_some_iff.1 hx
  refine ⟨?_, List.set_eq_take_append_cons_drop.trans (if_pos h)⟩
  rw [← e, ← List.drop_eq_getElem_cons h, List.take_append_drop]
theorem damage_no {l : List Rec} (hs : soundF l = true) {i : Nat} {x y : Rec} (hx : l[i]? = some x) {k : Nat} {v : UInt8} (hk : k < (bytesR x).length) (hv : (bytesR x)[k]? ≠ some v) (e : bytesR y = (bytesR x).set k v) : soundF (l.set i y) = false ∧ y ≠ x := by
  constructor
  · rw [Bool.eq_false_iff]
    intro h
    obtain ⟨e1, e2⟩ := mid_split hx y
    have s1 := soundF_chain hs
    have s2 := soundF_chain h
    rw [List.length_set] at s2
    generalize l.length - 1 = last at s1 s2
    rw [e1] at s1
    rw [e2] at s2
    exact good_two (sound_mid s1) (sound_mid s2) hk hv e
  · intro h
    subst h
    rw [e, List.getElem?_set_self (by rw [e] at hk; simpa using hk)] at hv
    exact hv rfl
def hDamage18 : Det := det3 cRaws (c2 .u64) (c2 .u8) (fun l p q => (∀ x ∈ l, x.ok) ∧ range2 .u64 p ∧ range2 .u8 q) fun _ _ _ => .d (.bool true)
theorem f_StreamDamage : FPure Try.prog 14 hDamage18.spec := by
  refine FPure.runL [(30, .det hTrue18), (28, .det hList), (31, .det hMake), (32, .det hSound), (34, .det hBytesR), (35, .det h18parsed)] (fun i => if i = 2 then [(0, (false, [])), (1, (false, [])), (2, (false, [])), (3, (false, [])), (4, (false, [])), (5, (true, [0, 1, 2, 3])), (6, (true, [0, 2])), (7, (true, []))] else if i = 11 then [(0, (false, [])), (1, (false, [])), (2, (false, [])), (3, (false, [])), (4, (false, [])), (5, (false, [])), (6, (false, [])), (7, (false, [])), (8, (false, [])), (9, (false, [])), (10, (false, [])), (11, (false, [])), (12, (false, [])), (13, (true, []))] else if i = 16 then [(0, (false, [])), (1, (false, [])), (2, (false, [])), (3, (false, [])), (4, (false, [])), (5, (false, [])), (6, (false, [])), (7, (false, [])), (8, (false, [])), (9, (true, [0, 1, 2, 3, 4, 5, 6])), (10, (false, []))] else []) (by
    intro p hp
    simp only [List.mem_cons, List.not_mem_nil, or_false] at hp
    rcases hp with rfl | rfl | rfl | rfl | rfl | rfl
    · exact f_18sanity
    · exact f_05List
    · exact f_streamMake
    · exact f_streamSound
    · exact f_streamBytes
    · exact f_18parsed) F.mixed Try.func14 (by kernel_rfl) rfl (by kernel_rfl) 90 Try.ntmps14 [.tmp 6] Try.results14 ?_
  intro ds K hl hs
  obtain ⟨l, ⟨s, d⟩, ⟨a, v⟩, rfl, ⟨ho, ⟨⟨hs1, hs2⟩, ⟨hd1, hd2⟩⟩, ⟨⟨ha1, ha2⟩, ⟨hv1, hv2⟩⟩⟩, hK⟩ := det3_elim hs
  simp only at hs1 hs2 hd1 hd2 ha1 ha2 hv1 hv2
  have ps : u64P s := ⟨by omega, by omega⟩
  have pd : u64P d := ⟨by omega, by omega⟩
  have hv := list_valid (n := 10) ho
  have hn := list_len l 10
  have t10 : Int.toNat 10 = 10 := rfl
  rw [t10] at hn
  have wa : IntKind.i64.wrap a = a := wrap_i64' (by omega) (by omega)
  have mo := make_ok ps pd (show (listF l 10).length ≤ 1000000 by omega) hv
  have mr := make_range ps pd (show (listF l 10).length ≤ 1000000 by omega) hv
  have ms := make_sound ps pd (show (listF l 10).length ≤ 1000000 by omega) hv
  have ml := make_len s d (listF l 10)
  generalize hM : listF l 10 = M at *
  generalize hL : makeF s d M = L at *
  by_cases hv0 : v = 0
  · subst hv0
    simp (config := { maxSteps := 4000000 }) only [hTrue18, det0_eq, c2_enc, cRaws_enc, cRaws_dec, cMsgs_dec, cRecs_dec, hList, hMake, hSound, hM, hL, ms, Int.reduceEq, eBs, cBs, F.fBs, Nat.reduceSub, Nat.reduceAdd, Nat.reduceLT, Nat.reduceEqDiff, Nat.reduceLeDiff, Nat.reduceMul, Nat.reduceBEq, Int.reduceToNat, Op.operands, if_true, if_false, reduceCtorEq, if_pos, forall_const, implies_true, eq_self, ne_eq]
    exact ⟨⟨by decide, by decide⟩, ⟨by decide, by decide⟩, ⟨ho, by decide, by decide⟩, ⟨⟨by decide, by decide⟩, by decide, by decide⟩, ⟨ps, pd, by omega, hv⟩, ⟨⟨by decide, by decide⟩, by decide, by decide⟩, ⟨by decide, by decide⟩, ⟨by omega, mr⟩, hK⟩
  have e0 : (v = 0) = False := eq_false hv0
  simp (config := { maxSteps := 4000000 }) only [hTrue18, det0_eq, c2_enc, cRaws_enc, cRaws_dec, cMsgs_dec, cRecs_dec, hList, hMake, hSound, hM, hL, ms, e0, eBs, cBs, F.fBs, Nat.reduceSub, Nat.reduceAdd, Nat.reduceLT, Nat.reduceEqDiff, Nat.reduceLeDiff, Nat.reduceMul, Nat.reduceBEq, Int.reduceToNat, Op.operands, if_true, if_false, reduceCtorEq, if_pos, forall_const, implies_true, eq_self, ne_eq]
  refine ⟨⟨by decide, by decide⟩, ⟨by decide, by decide⟩, ⟨ho, by decide, by decide⟩, ⟨⟨by decide, by decide⟩, by decide, by decide⟩, ⟨ps, pd, by omega, hv⟩, ⟨⟨by decide, by decide⟩, by decide, by decide⟩, ⟨by decide, by decide⟩, ?_⟩
  refine eK_rounds [5, 7, 8] (fun i : Nat => i ≤ L.length) (fun i => [(9, .d (.int .i64 i))]) (fun _ => []) (fun _ => []) (fun i => L.length - i) 0 (Nat.zero_le _) ?_ ?_
  · simp [le_eq, St.head, keepT, setAll, leV, leB, leR, idsL, idsA, idsB]
  intro i hi
  rcases Nat.lt_or_ge i L.length with hlt | hge
  · have h3 : ((i : Int) < L.length) = True := eq_true (by omega)
    have hx : L[i]? = some L[i] := List.getElem?_eq_getElem hlt
    have hox := mo _ (List.getElem_mem hlt)
    generalize L[i] = x at hx hox
    have gx : L.getD i default = x := getD_of hx
    obtain ⟨b1, b2⟩ := bytesR_pos hox
    simp (config := { maxSteps := 4000000 }) only [le_eq, h3, gx, Rec.em, hBytesR, cRec_dec, Rec.eta, eBs, cBs, F.fBs, Nat.reduceSub, Nat.reduceAdd, Nat.reduceLT, Nat.reduceEqDiff, Nat.reduceLeDiff, Nat.reduceMul, Nat.reduceBEq, Int.reduceToNat, Op.operands, if_true, if_false, reduceCtorEq, if_pos, forall_const, implies_true, eq_self, ne_eq]
    refine ⟨by omega, fun z hz => ?_⟩
    rw [hx] at hz
    injection hz with hz
    subst hz
    have hb0 : ((bytesR x).length : Int) ≠ 0 := by omega
    have hk0 := Int.tmod_nonneg ((bytesR x).length : Int) ha1
    have hk1 := Int.tmod_lt_of_pos a (show (0 : Int) < (bytesR x).length by omega)
    obtain ⟨k, hk⟩ := Int.eq_ofNat_of_zero_le hk0
    have hkl : k < (bytesR x).length := by omega
    have hc : (bytesR x)[k]? = some (bytesR x)[k] := List.getElem?_eq_getElem hkl
    generalize (bytesR x)[k] = c at hc
    have hg : ((bytesR x).map byteCell).getD k [] = [D.int .u8 c.toNat] := by
      rw [List.getD_eq_getElem?_getD, List.getElem?_map, hc]
      rfl
    have hxo := xor_u8 c hv1 (show v < 256 by omega)
    have hset : ((bytesR x).map byteCell).set k [D.int .u8 ((c ^^^ UInt8.ofNat v.toNat).toNat : Int)] = ((bytesR x).set k (c ^^^ UInt8.ofNat v.toNat)).map byteCell := by
      rw [List.map_set]
      rfl
    have hvne : (bytesR x)[k]? ≠ some (c ^^^ UInt8.ofNat v.toNat) := by
      rw [hc]
      intro e
      injection e with e
      exact xor_ne c hv1 (by omega) hv0 e
    have hbl : ((bytesR x).set k (c ^^^ UInt8.ofNat v.toNat)).length = (bytesR x).length := List.length_set
    have hdam := fun y => damage_no ms hx (y := y) hkl hvne
    have pc := parP_cases (b := (bytesR x).set k (c ^^^ UInt8.ofNat v.toNat))
    generalize (bytesR x).set k (c ^^^ UInt8.ofNat v.toNat) = B at *
    generalize hP : parP B = P at pc
    refine ⟨hox, by omega, fun h => absurd h hb0, fun _ => ⟨⟨by decide, by decide⟩, hb0, ?_⟩⟩
    have n0 : (¬ (0 : Int) = 0) = False := eq_false (fun h => h rfl)
    have n5 : (¬ (180 : Int) = 0) = True := eq_true (by decide)
    rcases pc with ⟨r', n, rfl, q1, q2, q3, q4, q5⟩ | rfl
    · have hnB : (¬ n = ((bytesR x).length : Int)) = (¬ n = ((bytesR x).length : Int)) := rfl
      simp (config := { maxSteps := 4000000 }) only [le_eq, wa, hk, hg, hxo, hset, hbl, h18parsed, hP, ParsedR.enc, Rec.em, Int.toNat_natCast, n0, decide_false, Bool.false_or, eBs, cBs, F.fBs, Nat.reduceSub, Nat.reduceAdd, Nat.reduceLT, Nat.reduceEqDiff, Nat.reduceLeDiff, Nat.reduceMul, Nat.reduceBEq, Int.reduceToNat, Op.operands, if_true, if_false, reduceCtorEq, if_pos, forall_const, implies_true, eq_self, ne_eq]
      have step : ∃ a', a' ≤ L.length ∧ L.length - a' < L.length - i ∧ AV.d (D.int IntKind.i64 (IntKind.i64.wrap ((i : Int) + 1))) = AV.d (D.int IntKind.i64 (a' : Nat)) := ⟨i + 1, by omega, by omega, by rw [wrap_i64' (by omega) (by omega)]; rfl⟩
      refine ⟨⟨by omega, by omega⟩, hkl, ⟨by decide, by decide⟩, ⟨by omega, by omega⟩, hkl, by omega, fun _ => step, fun hn2 => ⟨by omega, ⟨by omega, by omega⟩, hlt, ⟨by omega, by omega⟩, ?_⟩⟩
      have hn3 : n = ((bytesR x).length : Int) := Classical.not_not.1 hn2
      have hq : bytesR r' = B := by
        rw [q5, List.take_of_length_le (by omega)]
      obtain ⟨d1, d2⟩ := hdam r' hq
      have hset2 : (L.map Rec.enc).set i r'.enc = (L.set i r').map Rec.enc := by rw [List.map_set]
      have d3 : (r' = x) = False := eq_false d2
      have m3 : ∀ z ∈ L.set i r', rangeR z := by
        intro z hz
        rcases List.mem_or_eq_of_mem_set hz with h | h
        · exact mr z h
        · exact h ▸ q2
      have l3 : (L.set i r').length ≤ 1000000 := by rw [List.length_set]; omega
      refine eG_map _ _ _ _ _ _ ⟨fun _ => rfl, ?_⟩
      simp (config := { maxSteps := 4000000 }) only [gx, Rec.em, Rec.eqB, d3, decide_false, drop14, eBs, cBs, F.fBs, Nat.reduceSub, Nat.reduceAdd, Nat.reduceLT, Nat.reduceEqDiff, Nat.reduceLeDiff, Nat.reduceMul, Nat.reduceBEq, Int.reduceToNat, Op.operands, if_true, if_false, reduceCtorEq, if_pos, forall_const, implies_true, eq_self, ne_eq]
      simp (config := { maxSteps := 4000000 }) only [drop14, enc_fold, ← List.map_set, List.length_map, List.length_set]
      simp (config := { maxSteps := 4000000 }) only [le_eq, hSound, cRecs_dec, d1, eBs, cBs, F.fBs, Nat.reduceSub, Nat.reduceAdd, Nat.reduceLT, Nat.reduceEqDiff, Nat.reduceLeDiff, Nat.reduceMul, Nat.reduceBEq, Int.reduceToNat, Op.operands, if_true, if_false, reduceCtorEq, if_pos, forall_const, implies_true, eq_self, ne_eq]
      have ge : ∀ z : List D, (List.map Rec.enc L)[i]? = some z → z.length = 14 ∧ AV.cptr z = AV.cptr x.enc := by
        intro z hz
        rw [List.getElem?_map, hx] at hz
        simp only [Option.map_some, Option.some.injEq] at hz
        subst hz
        exact ⟨rfl, rfl⟩
      refine ⟨⟨l3, m3⟩, ⟨⟨⟨by omega, by omega⟩, ge⟩, by rw [Rec.eqB]; simp [d2]⟩, i + 1, by omega, by omega, ?_⟩
      rw [wrap_i64' (by omega) (by omega)]
      rfl
    · simp (config := { maxSteps := 4000000 }) only [le_eq, wa, hk, hg, hxo, hset, hbl, h18parsed, hP, ParsedR.enc, Rec.em, Int.toNat_natCast, n5, zeroRec, zeroMsg, decide_true, Bool.true_or, eBs, cBs, F.fBs, Nat.reduceSub, Nat.reduceAdd, Nat.reduceLT, Nat.reduceEqDiff, Nat.reduceLeDiff, Nat.reduceMul, Nat.reduceBEq, Int.reduceToNat, Op.operands, if_true, if_false, reduceCtorEq, if_pos, forall_const, implies_true, eq_self, ne_eq]
      exact ⟨⟨by omega, by omega⟩, hkl, ⟨by decide, by decide⟩, ⟨by omega, by omega⟩, hkl, by omega, i + 1, by omega, by omega, by rw [wrap_i64' (by omega) (by omega)]; rfl⟩
  · have : i = L.length := by omega
    subst this
    have h3 : ((L.length : Int) < L.length) = False := eq_false (by omega)
    simp (config := { maxSteps := 4000000 }) only [le_eq, h3, eBs, cBs, F.fBs, Nat.reduceSub, Nat.reduceAdd, Nat.reduceLT, Nat.reduceEqDiff, Nat.reduceLeDiff, Nat.reduceMul, Nat.reduceBEq, Int.reduceToNat, Op.operands, if_true, if_false, reduceCtorEq, if_pos, forall_const, implies_true, eq_self, ne_eq]
    exact hK
end Go.PE
