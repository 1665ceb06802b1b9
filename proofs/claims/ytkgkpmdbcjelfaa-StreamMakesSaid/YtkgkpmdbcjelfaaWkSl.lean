/- Law 18: StreamOrders. -/
import Derived.Test.YtkgkpmdbcjelfaaWkSh
set_option linter.unusedVariables false
set_option linter.defProp false
set_option linter.all false
set_option linter.unusedSimpArgs false
set_option maxRecDepth 10000
set_option maxHeartbeats 4000000
namespace Go.PE
open Go Go.Proofs

/-- What a stream has at each place. -/
theorem sound_at {last : Nat} : ∀ {l : List Rec} {i c j : Nat} {x : Rec}, soundI last i c l = true → l[j]? = some x → x.seq = ((i + j : Nat) : Int)
  | [], i, c, j, x, _, h => by simp at h
  | r :: l, i, c, 0, x, h, hx => by
    simp only [List.getElem?_cons_zero, Option.some.injEq] at hx
    subst hx
    simp only [soundI, goodR, Bool.and_eq_true, decide_eq_true_eq] at h
    exact h.1.2.2.1
  | r :: l, i, c, j + 1, x, h, hx => by
    simp only [soundI, Bool.and_eq_true] at h
    have := sound_at h.2 (by simpa using hx)
    rw [this]
    congr 1
    omega
theorem soundF_seq {l : List Rec} (h : soundF l = true) {j : Nat} {x : Rec} (hx : l[j]? = some x) : x.seq = (j : Nat) := by
  simp only [soundF, Bool.and_eq_true] at h
  have := sound_at h.2.2.2.1 hx
  rwa [Nat.zero_add] at this
theorem soundF_count {l : List Rec} (h : soundF l = true) {x : Rec} (hx : l[0]? = some x) : x.count = (l.length : Int) - 2 := by
  simp only [soundF, Bool.and_eq_true, decide_eq_true_eq, getD_of hx] at h
  exact h.2.2.1
theorem soundF_kind {l : List Rec} (h : soundF l = true) {x : Rec} (hx : l[0]? = some x) : x.kind = 1 := by
  simp only [soundF, Bool.and_eq_true, decide_eq_true_eq, getD_of hx] at h
  exact h.2.1
theorem soundF_len {l : List Rec} (h : soundF l = true) : 2 ≤ l.length := by
  simp only [soundF, Bool.and_eq_true, decide_eq_true_eq] at h
  exact h.1
theorem out_no {s d : Int} {M : List Msg} {i : Nat} (hi : i < (makeF s d M).length) : soundF ((makeF s d M).take i ++ (makeF s d M).drop (i + 1)) = false := by
  rw [Bool.eq_false_iff]
  intro h
  have ml := make_len s d M
  have hl : ((makeF s d M).take i ++ (makeF s d M).drop (i + 1)).length = (makeF s d M).length - 1 := by simp; omega
  have h2 := soundF_len h
  cases i with
  | zero =>
    have hx : (makeF s d M)[1]? = some ((makeF s d M)[1]'(by omega)) := List.getElem?_eq_getElem _
    have h0 : ((makeF s d M).take 0 ++ (makeF s d M).drop (0 + 1))[0]? = some ((makeF s d M)[1]'(by omega)) := by simpa using hx
    have e1 := soundF_seq h h0
    have e2 := (make_seq hx).1
    omega
  | succ i =>
    have h0 : ((makeF s d M).take (i + 1) ++ (makeF s d M).drop (i + 1 + 1))[0]? = (makeF s d M)[0]? := by
      rw [List.getElem?_append_left (by simp; omega), List.getElem?_take, if_pos (by omega)]
    rw [make_head] at h0
    have := soundF_count h h0
    simp only [withC, headR] at this
    omega
theorem twice_no {s d : Int} {M : List Msg} {i : Nat} (hi : i < (makeF s d M).length) : soundF ((makeF s d M).take (i + 1) ++ (makeF s d M).drop i) = false := by
  rw [Bool.eq_false_iff]
  intro h
  have ml := make_len s d M
  have hl : ((makeF s d M).take (i + 1) ++ (makeF s d M).drop i).length = (makeF s d M).length + 1 := by simp; omega
  have h0 : ((makeF s d M).take (i + 1) ++ (makeF s d M).drop i)[0]? = (makeF s d M)[0]? := by
    rw [List.getElem?_append_left (by simp; omega), List.getElem?_take, if_pos (by omega)]
  rw [make_head] at h0
  have := soundF_count h h0
  simp only [withC, headR] at this
  omega
theorem turned_no {s d : Int} {M : List Msg} {i k : Nat} {x y : Rec} (hx : (makeF s d M)[i]? = some x) (hy : (makeF s d M)[k]? = some y) (hne : i ≠ k) : soundF (((makeF s d M).set i y).set k x) = false := by
  rw [Bool.eq_false_iff]
  intro h
  have hi := (List.getElem?_eq_some_iff.1 hx).1
  have h0 : (((makeF s d M).set i y).set k x)[i]? = some y := by
    rw [List.getElem?_set_ne (by omega), List.getElem?_set_self hi]
  have e1 := soundF_seq h h0
  have e2 := (make_seq hy).1
  omega
theorem turned_same {l : List Rec} {i : Nat} {x : Rec} (hx : l[i]? = some x) : (l.set i x).set i x = l := by
  rw [List.set_set]
  apply List.ext_getElem?
  intro j
  rw [List.getElem?_set]
  have hi := (List.getElem?_eq_some_iff.1 hx).1
  split
  · rename_i e; subst e; exact hx.symm
  · rfl
theorem enc_fold (y : Rec) : [D.int .i64 y.kind, D.int .i64 y.seq, D.int .i64 y.count, D.int .u64 y.src, D.int .u64 y.dst, D.int .i64 y.msg.kind, D.str y.msg.key, D.str y.msg.value, D.str y.msg.lo, D.str y.msg.hi, D.str y.msg.fr, D.str y.msg.to, D.int .i64 y.msg.n, D.int .u64 y.check] = y.enc := rfl
def hOrders : Det := det2 cRaws (c3 .u8) (fun l p => (∀ x ∈ l, x.ok) ∧ range3 .u8 p) fun _ _ => .d (.bool true)
theorem f_StreamOrders : FPure Try.prog 16 hOrders.spec := by
  refine FPure.runL [(30, .det hTrue18), (28, .det hList), (31, .det hMake), (32, .det hSound)] (fun i => if i = 12 then [(0, (false, [])), (1, (false, [])), (2, (false, [])), (3, (false, [])), (4, (false, [])), (5, (false, [])), (6, (false, [])), (7, (false, [])), (8, (false, [])), (9, (false, [])), (10, (false, [])), (11, (false, [])), (12, (false, [])), (13, (true, [2, 3, 8, 9, 10])), (14, (false, [])), (15, (true, []))] else []) (by
    intro p hp
    simp only [List.mem_cons, List.not_mem_nil, or_false] at hp
    rcases hp with rfl | rfl | rfl | rfl
    · exact f_18sanity
    · exact f_05List
    · exact f_streamMake
    · exact f_streamSound) F.mixed Try.func16 (by kernel_rfl) rfl (by kernel_rfl) 89 Try.ntmps16 [.tmp 4] Try.results16 ?_
  intro ds K hl hs
  obtain ⟨l, ⟨a, b, e⟩, rfl, ⟨ho, ⟨ha1, ha2⟩, ⟨hb1, hb2⟩, -⟩, hK⟩ := det2_elim hs
  simp only at ha1 ha2 hb1 hb2
  have w1 : IntKind.i64.wrap a = a := wrap_i64' (by omega) (by omega)
  have w2 : IntKind.i64.wrap b = b := wrap_i64' (by omega) (by omega)
  have hv := list_valid (n := 10) ho
  have hn := list_len l 10
  have t10 : Int.toNat 10 = 10 := rfl
  rw [t10] at hn
  have p1 : u64P 1 := ⟨by decide, by decide⟩
  have p2 : u64P 2 := ⟨by decide, by decide⟩
  have ml := make_len 1 2 (listF l 10)
  have mr := make_range p1 p2 (show (listF l 10).length ≤ 1000000 by omega) hv
  have ms := make_sound p1 p2 (show (listF l 10).length ≤ 1000000 by omega) hv
  have o1 := fun i hi => out_no (s := 1) (d := 2) (M := listF l 10) (i := i) hi
  have o2 := fun i hi => twice_no (s := 1) (d := 2) (M := listF l 10) (i := i) hi
  have o3 := fun i k x y => turned_no (s := 1) (d := 2) (M := listF l 10) (i := i) (k := k) (x := x) (y := y)
  generalize hM : listF l 10 = M at *
  generalize hL : makeF 1 2 M = L at *
  have h2 : ((L.length : Int) < 2) = False := eq_false (by omega)
  have hi0 := Int.tmod_nonneg (L.length : Int) ha1
  have hi1 := Int.tmod_lt_of_pos a (show (0 : Int) < L.length by omega)
  have hk0 := Int.tmod_nonneg (L.length : Int) hb1
  have hk1 := Int.tmod_lt_of_pos b (show (0 : Int) < L.length by omega)
  obtain ⟨i, hi⟩ := Int.eq_ofNat_of_zero_le hi0
  obtain ⟨k, hk⟩ := Int.eq_ofNat_of_zero_le hk0
  have hil : i < L.length := by omega
  have hkl : k < L.length := by omega
  have wi : IntKind.i64.wrap ((i : Int) + 1) = ((i + 1 : Nat) : Int) := by rw [wrap_i64' (by omega) (by omega)]; rfl
  simp (config := { maxSteps := 4000000 }) only [hTrue18, det0_eq, c3_enc, cRaws_enc, cRaws_dec, cMsgs_dec, hList, hMake, hSound, hM, hL, w1, w2, h2, hi, hk, wi, Int.toNat_natCast, eBs, cBs, F.fBs, Nat.reduceSub, Nat.reduceAdd, Nat.reduceLT, Nat.reduceEqDiff, Nat.reduceLeDiff, Nat.reduceMul, Nat.reduceBEq, Int.reduceToNat, Op.operands, if_true, if_false, reduceCtorEq, if_pos, forall_const, implies_true, eq_self, ne_eq]
  have gx : L[k]? = some L[k] := List.getElem?_eq_getElem hkl
  have gy : L[i]? = some L[i] := List.getElem?_eq_getElem hil
  generalize L[k] = y at gx
  generalize L[i] = x at gy
  have ex : L.getD k default = y := getD_of gx
  have ey : L.getD i default = x := getD_of gy
  have el : ∀ X : List Rec, ∀ x ∈ X, x.enc.length = 14 := fun _ _ _ => rfl
  refine ⟨⟨ho, by omega, by omega⟩, ⟨p1, p2, by omega, hv⟩, ⟨by omega, by omega⟩, by omega, ⟨by omega, by omega⟩, by omega, ⟨⟨by omega, by omega, by omega⟩, el _⟩, ⟨el _, by rw [List.length_take]; omega⟩, ⟨⟨by omega, by omega, by omega⟩, el _⟩, ⟨el _, by rw [List.length_take, List.length_drop]; omega⟩, ⟨⟨by omega, by omega, by omega⟩, el _⟩, ⟨el _, by rw [List.length_take]; omega⟩, ⟨⟨by omega, by omega, by omega⟩, el _⟩, ⟨el _, by rw [List.length_take, List.length_drop]; omega⟩, ⟨el _, by omega⟩, ⟨by omega, by omega⟩, ?_⟩
  refine eG_map _ _ _ _ _ _ ⟨fun _ => rfl, ?_⟩
  simp (config := { maxSteps := 4000000 }) only [le_eq, ex, ey, Rec.em, eBs, cBs, F.fBs, Nat.reduceSub, Nat.reduceAdd, Nat.reduceLT, Nat.reduceEqDiff, Nat.reduceLeDiff, Nat.reduceMul, Nat.reduceBEq, Int.reduceToNat, Op.operands, if_true, if_false, reduceCtorEq, if_pos, forall_const, implies_true, eq_self, ne_eq]
  refine ⟨⟨by omega, by omega⟩, ?_⟩
  refine eG_map _ _ _ _ _ _ ⟨fun _ => rfl, ?_⟩
  simp (config := { maxSteps := 4000000 }) only [le_eq, ex, ey, Rec.em, eBs, cBs, F.fBs, Nat.reduceSub, Nat.reduceAdd, Nat.reduceLT, Nat.reduceEqDiff, Nat.reduceLeDiff, Nat.reduceMul, Nat.reduceBEq, Int.reduceToNat, Op.operands, if_true, if_false, reduceCtorEq, if_pos, forall_const, implies_true, eq_self, ne_eq]
  simp (config := { maxSteps := 4000000 }) only [drop14, enc_fold, ← List.map_set, List.length_map, List.length_set]
  have ge : ∀ x_1 : List D, (List.map Rec.enc L)[i]? = some x_1 → x_1.length = 14 ∧ AV.cptr x_1 = AV.cptr x.enc := by
    intro z hz
    rw [List.getElem?_map, gy] at hz
    simp only [Option.map_some, Option.some.injEq] at hz
    subst hz
    exact ⟨rfl, rfl⟩
  refine ⟨⟨by omega, by omega⟩, by omega, ⟨⟨by omega, by omega⟩, ge⟩, ⟨trivial, by omega, by omega⟩, ⟨trivial, by omega⟩, ?_⟩
  have m1 : ∀ z ∈ List.take i L ++ List.drop (i + 1) L, rangeR z := by
    intro z hz
    rcases List.mem_append.1 hz with h | h
    · exact mr z (List.mem_of_mem_take h)
    · exact mr z (List.mem_of_mem_drop h)
  have m2 : ∀ z ∈ List.take (i + 1) L ++ List.drop i L, rangeR z := by
    intro z hz
    rcases List.mem_append.1 hz with h | h
    · exact mr z (List.mem_of_mem_take h)
    · exact mr z (List.mem_of_mem_drop h)
  have m3 : ∀ z ∈ (L.set i y).set k x, rangeR z := by
    intro z hz
    rcases List.mem_or_eq_of_mem_set hz with h | h
    · rcases List.mem_or_eq_of_mem_set h with h | h
      · exact mr z h
      · exact h ▸ mr y (List.mem_of_getElem? gx)
    · exact h ▸ mr x (List.mem_of_getElem? gy)
  have l1 : (List.take i L ++ List.drop (i + 1) L).length ≤ 1000000 := by rw [List.length_append, List.length_take, List.length_drop]; omega
  have l2 : (List.take (i + 1) L ++ List.drop i L).length ≤ 1000000 := by rw [List.length_append, List.length_take, List.length_drop]; omega
  have l3 : ((L.set i y).set k x).length ≤ 1000000 := by rw [List.length_set, List.length_set]; omega
  have s1 := o1 i hil
  have s2 := o2 i hil
  have s3 := o3 i k x y gy gx
  generalize List.take i L ++ List.drop (i + 1) L = L1 at *
  generalize List.take (i + 1) L ++ List.drop i L = L2 at *
  generalize hL3 : (L.set i y).set k x = L3 at *
  simp (config := { maxSteps := 4000000 }) only [le_eq, hSound, cRecs_dec, eBs, cBs, F.fBs, Nat.reduceSub, Nat.reduceAdd, Nat.reduceLT, Nat.reduceEqDiff, Nat.reduceLeDiff, Nat.reduceMul, Nat.reduceBEq, Int.reduceToNat, Op.operands, if_true, if_false, reduceCtorEq, if_pos, forall_const, implies_true, eq_self, ne_eq]
  simp (config := { maxSteps := 4000000 }) only [drop14, enc_fold, ← List.map_set, hL3, hSound, cRecs_dec, s1, s2, eBs, cBs, F.fBs, Nat.reduceSub, Nat.reduceAdd, Nat.reduceLT, Nat.reduceEqDiff, Nat.reduceLeDiff, Nat.reduceMul, Nat.reduceBEq, Int.reduceToNat, Op.operands, if_true, if_false, reduceCtorEq, if_pos, forall_const, implies_true, eq_self, ne_eq]
  refine ⟨⟨l1, m1⟩, ⟨l2, m2⟩, ?_⟩
  have e3 : L.length = L3.length := by rw [← hL3, List.length_set, List.length_set]
  rw [if_pos e3]
  simp (config := { maxSteps := 4000000 }) only [hSound, cRecs_dec, s1, s2, eBs, cBs, F.fBs, Nat.reduceSub, Nat.reduceAdd, Nat.reduceLT, Nat.reduceEqDiff, Nat.reduceLeDiff, Nat.reduceMul, Nat.reduceBEq, Int.reduceToNat, Op.operands, if_true, if_false, reduceCtorEq, if_pos, forall_const, implies_true, eq_self, ne_eq]
  refine ⟨⟨l3, m3⟩, ?_⟩
  have e : (soundF L3 == decide ((i : Int) = k)) = true := by
    by_cases hik : i = k
    · subst hik
      have exy : x = y := by
        rw [gx] at gy
        simpa using gy.symm
      subst exy
      rw [← hL3, turned_same gx, ms]
      simp
    · rw [s3 hik]
      have : ¬ (i : Int) = k := by omega
      simp [this]
  rw [e]
  exact hK
end Go.PE
