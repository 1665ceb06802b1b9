/- Law 18: StreamChecks. -/
import Derived.Test.YtkgkpmdbcjelfaaWkSh
import Derived.Test.YtkgkpmdbcjelfaaWkY
set_option linter.unusedVariables false
set_option linter.defProp false
set_option linter.all false
set_option linter.unusedSimpArgs false
set_option maxRecDepth 10000
set_option maxHeartbeats 4000000
namespace Go.PE
open Go Go.Proofs

/-- One byte of a number changed. -/
def other (c v s : Nat) : Nat := c ^^^ (v * 2 ^ (8 * s))
theorem beN_get (n size j : Nat) (h : j < size) : (beN n size size)[j]? = some (beAt n size j) := by simp [beN, h]
theorem byte_xor (c v s i : Nat) (hv : v < 256) : UInt8.ofNat (other c v s / 2 ^ (8 * i)) = UInt8.ofNat (c / 2 ^ (8 * i)) ^^^ (if i = s then UInt8.ofNat v else 0) := by
  have e : other c v s / 2 ^ (8 * i) = (c / 2 ^ (8 * i)) ^^^ (v * 2 ^ (8 * s) / 2 ^ (8 * i)) := by
    unfold other
    rw [← Nat.shiftRight_eq_div_pow, ← Nat.shiftRight_eq_div_pow, ← Nat.shiftRight_eq_div_pow, Nat.shiftRight_xor_distrib]
  rw [e]
  have key : (UInt8.ofNat (v * 2 ^ (8 * s) / 2 ^ (8 * i))) = if i = s then UInt8.ofNat v else 0 := by
    rcases Nat.lt_trichotomy i s with h | h | h
    · rw [if_neg (by omega)]
      obtain ⟨d, rfl⟩ : ∃ d, s = i + 1 + d := ⟨s - i - 1, by omega⟩
      have : v * 2 ^ (8 * (i + 1 + d)) / 2 ^ (8 * i) = v * 2 ^ (8 * d) * 256 := by
        rw [show 8 * (i + 1 + d) = 8 * i + (8 * d + 8) by omega, Nat.pow_add, ← Nat.mul_assoc, Nat.mul_right_comm, Nat.mul_div_cancel _ (Nat.pow_pos (by decide)), Nat.pow_add, ← Nat.mul_assoc]
      rw [this]
      apply UInt8.toNat_inj.1
      rw [UInt8.toNat_ofNat']
      simp
    · subst h
      rw [if_pos rfl, Nat.mul_div_cancel _ (Nat.pow_pos (by decide))]
    · rw [if_neg (by omega)]
      obtain ⟨d, rfl⟩ : ∃ d, i = s + 1 + d := ⟨i - s - 1, by omega⟩
      have : v * 2 ^ (8 * s) / 2 ^ (8 * (s + 1 + d)) = 0 := by
        rw [Nat.div_eq_of_lt]
        rw [show 8 * (s + 1 + d) = 8 * s + (8 + 8 * d) by omega, Nat.pow_add, Nat.mul_comm]
        refine Nat.mul_lt_mul_of_pos_left ?_ (Nat.pow_pos (by decide))
        rw [Nat.pow_add]
        have : 1 ≤ 2 ^ (8 * d) := Nat.pow_pos (by decide)
        calc v < 256 * 1 := by omega
          _ ≤ 2 ^ 8 * 2 ^ (8 * d) := Nat.mul_le_mul_left _ this
      rw [this]
      rfl
  rw [← key]
  apply UInt8.toNat_inj.1
  rw [UInt8.toNat_xor, UInt8.toNat_ofNat', UInt8.toNat_ofNat', UInt8.toNat_ofNat']
  exact Nat.xor_mod_two_pow
theorem other_set (c v s : Nat) (hv : v < 256) (hs : s < 8) : beN (other c v s) 8 8 = (beN c 8 8).set (7 - s) (beAt c 8 (7 - s) ^^^ UInt8.ofNat v) := by
  apply List.ext_getElem?
  intro j
  rcases Nat.lt_or_ge j 8 with h | h
  · rw [beN_get _ _ _ h, List.getElem?_set]
    have hb : (beN c 8 8).length = 8 := beN_len _ _ _
    unfold beAt
    rw [byte_xor _ _ _ _ hv]
    by_cases e : 7 - s = j
    · rw [if_pos e, if_pos (by omega), if_pos (by omega), show 8 - 1 - (7 - s) = 8 - 1 - j by omega]
    · rw [if_neg e, if_neg (by omega), beN_get _ _ _ h]
      simp [beAt]
  · rw [List.getElem?_eq_none (by rw [beN_len]; exact h), List.getElem?_eq_none (by simp [beN_len]; exact h)]
theorem next_other {c v s : Nat} {r : Rec} (hv0 : 0 < v) (hv : v < 256) (hs : s < 8) : nextN (other c v s) r ≠ nextN c r := by
  intro e
  unfold nextN at e
  rw [other_set c v s hv hs] at e
  obtain ⟨a, d, x, e1, e2, e3⟩ := set_split (l := beN c 8 8) (i := 7 - s) (by rw [beN_len]; omega) (beAt c 8 (7 - s) ^^^ UInt8.ofNat v)
  rw [e3] at e
  conv at e => rhs; rw [e2]
  rw [List.append_assoc, List.append_assoc, List.cons_append, List.cons_append] at e
  have h := fnv_one e
  rw [beN_get _ _ _ (by omega)] at e1
  injection e1 with e1
  rw [← e1] at h
  have := xor_ne (beAt c 8 (7 - s)) (y := (v : Int)) (by omega) (by omega) (by omega)
  exact this h.symm
theorem other_lt {c v s : Nat} (hc : c < 18446744073709551616) (hv : v < 256) (hs : s < 8) : other c v s < 18446744073709551616 := by
  have h2 : v * 2 ^ (8 * s) < 2 ^ 64 := by
    have : s ≤ 7 := by omega
    calc v * 2 ^ (8 * s) ≤ v * 2 ^ 56 := Nat.mul_le_mul_left _ (Nat.pow_le_pow_right (by decide) (by omega))
      _ < 2 ^ 64 := by omega
  exact Nat.xor_lt_two_pow (n := 64) hc h2
def hChecks : Det := det3 cRaws (c2 .u64) (c2 .u8) (fun l p q => (∀ x ∈ l, x.ok) ∧ range2 .u64 p ∧ range2 .u8 q) fun _ _ _ => .d (.bool true)
theorem f_StreamChecks : FPure Try.prog 13 hChecks.spec := by
  refine FPure.runL [(30, .det hTrue18), (28, .det hList), (31, .det hMake), (37, .det hNext)] (fun i => if i = 2 then [(0, (false, [])), (1, (false, [])), (2, (false, [])), (3, (false, [])), (4, (false, [])), (5, (true, [0, 1, 2, 3])), (6, (true, [0, 2])), (7, (true, []))] else []) (by
    intro p hp
    simp only [List.mem_cons, List.not_mem_nil, or_false] at hp
    rcases hp with rfl | rfl | rfl | rfl
    · exact f_18sanity
    · exact f_05List
    · exact f_streamMake
    · exact f_streamNext) F.mixed Try.func13 (by kernel_rfl) rfl (by kernel_rfl) 68 Try.ntmps13 [.tmp 6] Try.results13 ?_
  intro ds K hl hs
  obtain ⟨l, ⟨s, d⟩, ⟨a, b⟩, rfl, ⟨ho, ⟨⟨hs1, hs2⟩, ⟨hd1, hd2⟩⟩, ⟨ha1, ha2⟩, ⟨hb1, hb2⟩⟩, hK⟩ := det3_elim hs
  simp only at hs1 hs2 hd1 hd2 ha1 ha2 hb1 hb2
  have ps : u64P s := ⟨by omega, by omega⟩
  have pd : u64P d := ⟨by omega, by omega⟩
  have hv := list_valid (n := 10) ho
  have hn := list_len l 10
  have t10 : Int.toNat 10 = 10 := rfl
  rw [t10] at hn
  have mo := make_ok ps pd (show (listF l 10).length ≤ 1000000 by omega) hv
  have ml := make_len s d (listF l 10)
  have mg := make_get s d (listF l 10)
  have bl := bare_len s d (listF l 10)
  generalize hM : listF l 10 = M at *
  generalize hL : makeF s d M = L at *
  generalize hBr : bareF s d M = Br at *
  simp (config := { maxSteps := 4000000 }) only [hTrue18, det0_eq, c2_enc, cRaws_enc, cRaws_dec, cMsgs_dec, hList, hMake, hM, hL, eBs, cBs, F.fBs, Nat.reduceSub, Nat.reduceAdd, Nat.reduceLT, Nat.reduceEqDiff, Nat.reduceLeDiff, Nat.reduceMul, Nat.reduceBEq, Int.reduceToNat, Op.operands, if_true, if_false, reduceCtorEq, if_pos, forall_const, implies_true, eq_self, ne_eq]
  repeat' (first | exact ho | exact ps | exact pd | exact hv | omega | (with_reducible apply And.intro))
  refine eK_rounds [5, 7, 8] (fun i : Nat => i ≤ L.length) (fun i => [(9, .d (.int .u64 (chk 0 Br i : Nat))), (10, .d (.int .i64 i))]) (fun _ => []) (fun _ => []) (fun i => L.length - i) 0 (Nat.zero_le _) ?_ ?_
  · simp [le_eq, St.head, keepT, setAll, leV, leB, leR, idsL, idsA, idsB, chk]
  intro i hi
  rcases Nat.lt_or_ge i L.length with hlt | hge
  · have h3 : ((i : Int) < L.length) = True := eq_true (by omega)
    have hx : L[i]? = some L[i] := List.getElem?_eq_getElem hlt
    have hox := mo _ (List.getElem_mem hlt)
    generalize L[i] = x at hx hox
    simp (config := { maxSteps := 4000000 }) only [le_eq, h3, Rec.em, hNext, cRec_dec, Rec.eta, eBs, cBs, F.fBs, Nat.reduceSub, Nat.reduceAdd, Nat.reduceLT, Nat.reduceEqDiff, Nat.reduceLeDiff, Nat.reduceMul, Nat.reduceBEq, Int.reduceToNat, Op.operands, if_true, if_false, reduceCtorEq, if_pos, forall_const, implies_true, eq_self, ne_eq]
    have hb : ∃ y, Br[i]? = some y ∧ x = withC y (nextN (chk 0 Br i) y) := by
      have hm := mg i
      rw [hx] at hm
      cases hy : Br[i]? with
      | none => rw [hy] at hm; cases hm
      | some y =>
        rw [hy] at hm
        injection hm with hm
        exact ⟨y, rfl, hm⟩
    obtain ⟨y, hy, hxy⟩ := hb
    have hxc : (x.check : Int) = (nextN (chk 0 Br i) x : Nat) := by rw [hxy, next_withC]; rfl
    have hcs : chk 0 Br (i + 1) = nextN (chk 0 Br i) x := by rw [chk_succ hy, hxy, next_withC]
    have hcl := chk_lt (c := 0) (l := Br) (i := i) (by decide)
    have gx : L.getD i default = x := by simp [List.getD, hx]
    have hS0 := Int.tmod_nonneg 8 ha1
    have hS1 := Int.tmod_lt_of_pos a (show (0 : Int) < 8 by decide)
    obtain ⟨S, hS⟩ := Int.eq_ofNat_of_zero_le hS0
    obtain ⟨V, hV⟩ := Int.eq_ofNat_of_zero_le (show 0 ≤ max b 1 by omega)
    have eS : IntKind.u8.wrap (8 * a.tmod 8) = ((8 * S : Nat) : Int) := by rw [hS, wrap_u8' (by omega) (by omega)]; omega
    have eV : IntKind.u64.wrap (max b 1) = (V : Nat) := by rw [hV, wrap_u64n ⟨by omega, by omega⟩]
    have hVS : V * 2 ^ (8 * S) < 18446744073709551616 := by
      calc V * 2 ^ (8 * S) ≤ V * 2 ^ 56 := Nat.mul_le_mul_left _ (Nat.pow_le_pow_right (by decide) (by omega))
        _ < 18446744073709551616 := by omega
    have eO : bitsI .xor .u64 ((chk 0 Br i : Nat) : Int) (IntKind.u64.wrap ((V : Int) * 2 ^ min (8 * S) IntKind.u64.bits)) = ((other (chk 0 Br i) V S : Nat) : Int) := by
      have e1 : min (8 * S) IntKind.u64.bits = 8 * S := by
        have : IntKind.u64.bits = 64 := rfl
        omega
      have e2 : ((V : Int) * 2 ^ (8 * S)) = ((V * 2 ^ (8 * S) : Nat) : Int) := by
        rw [Int.natCast_mul, Int.natCast_pow]
        rfl
      rw [e1, e2, wrap_u64n ⟨by omega, by omega⟩, xor_u64 _ _ hcl hVS]
      rfl
    have hol := other_lt hcl (v := V) (s := S) (by omega) (by omega)
    have hne := next_other (c := chk 0 Br i) (r := x) (v := V) (s := S) (by omega) (by omega) (by omega)
    refine ⟨by omega, fun x1 hx1 => ⟨⟨⟨by omega, by omega⟩, by rw [hx] at hx1; injection hx1 with hx1; rw [← hx1]; exact hox⟩, by omega, by omega, by decide, by rw [eS]; omega, by omega, fun x2 hx2 => ?_⟩⟩
    rw [hx] at hx1 hx2
    injection hx1 with hx1
    injection hx2 with hx2
    subst hx1 hx2
    refine ⟨fun h => ⟨h, by omega⟩, ?_⟩
    refine eG_map _ _ _ _ _ _ ⟨fun _ => rfl, ?_⟩
    simp (config := { maxSteps := 4000000 }) only [le_eq, gx, eS, eV, eO, Rec.em, hNext, cRec_dec, Rec.eta, Int.toNat_natCast, eBs, cBs, F.fBs, Nat.reduceSub, Nat.reduceAdd, Nat.reduceLT, Nat.reduceEqDiff, Nat.reduceLeDiff, Nat.reduceMul, Nat.reduceBEq, Int.reduceToNat, Op.operands, if_true, if_false, reduceCtorEq, if_pos, forall_const, implies_true, eq_self, ne_eq]
    refine ⟨fun h => ⟨h, ⟨by omega, by omega⟩, hox⟩, fun h => ?_, fun _ => ⟨i + 1, by omega, by omega, by rw [hcs], by rw [wrap_i64' (by omega) (by omega)]; rfl⟩⟩
    exfalso
    simp only [Bool.or_eq_true, decide_eq_true_eq] at h
    rcases h with h | h
    · exact h hxc.symm
    · exact hne (by omega)
  · have : i = L.length := by omega
    subst this
    have h3 : ((L.length : Int) < L.length) = False := eq_false (by omega)
    simp (config := { maxSteps := 4000000 }) only [le_eq, h3, eBs, cBs, F.fBs, Nat.reduceSub, Nat.reduceAdd, Nat.reduceLT, Nat.reduceEqDiff, Nat.reduceLeDiff, Nat.reduceMul, Nat.reduceBEq, Int.reduceToNat, Op.operands, if_true, if_false, reduceCtorEq, if_pos, forall_const, implies_true, eq_self, ne_eq]
    rw [decide_eq_true (by omega)]
    exact hK
end Go.PE
