/- Law 18: StreamOrders. -/
import Derived.Test.YtkgkpmdbcjelfaaGreatWkSh
set_option linter.unusedVariables false
set_option linter.defProp false
set_option linter.all false
set_option linter.unusedSimpArgs false
set_option maxRecDepth 10000
set_option maxHeartbeats 4000000
namespace Go.PE
open Go Go.Proofs

/-- What a stream has at each place. -/
theorem sound_at {last : Nat} : ∀ {l : List Rec} {i c j : Nat} {x : Rec}, soundI last i c l = true → l[j]? = some x → x.seq = ((i + j : Nat) : Int)
  | [], i, c, j, x, _, h => by simp at h
  | r :: l, i, c, 0, x, h, hx => by
    simp only [List.getElem?_cons_zero, Option.some.injEq] at hx
    subst hx
    simp only [soundI, goodR, Bool.and_eq_true, decide_eq_true_eq] at h
    exact h.1.2.2.1
  | r :: l, i, c, j + 1, x, h, hx => by
    simp only [soundI, Bool.and_eq_true] at h
    have := sound_at h.2 (by simpa using hx)
    rw [this]
    congr 1
    omega
theorem soundF_seq {l : List Rec} (h : soundF l = true) {j : Nat} {x : Rec} (hx : l[j]? = some x) : x.seq = (j : Nat) := by
  simp only [soundF, Bool.and_eq_true] at h
  have := sound_at h.2.2.2.1 hx
  rwa [Nat.zero_add] at this
theorem soundF_count {l : List Rec} (h : soundF l = true) {x : Rec} (hx : l[0]? = some x) : x.count = (l.length : Int) - 2 := by
  simp only [soundF, Bool.and_eq_true, decide_eq_true_eq, getD_of hx] at h
  exact h.2.2.1
theorem soundF_kind {l : List Rec} (h : soundF l = true) {x : Rec} (hx : l[0]? = some x) : x.kind = 1 := by
  simp only [soundF, Bool.and_eq_true, decide_eq_true_eq, getD_of hx] at h
  exact h.2.1
theorem soundF_len {l : List Rec} (h : soundF l = true) : 2 ≤ l.length := by
  simp only [soundF, Bool.and_eq_true, decide_eq_true_eq] at h
  exact h.1
theorem out_no {s d : Int} {M : List Msg} {i : Nat} (hi : i < (makeF s d M).length) : soundF ((makeF s d M).take i ++ (makeF s d M).drop (i + 1)) = false := by
  rw [Bool.eq_false_iff]
  intro h
  have ml := make_len s d M
  have hl : ((makeF s d M).take i ++ (makeF s d M).drop (i + 1)).length = (makeF s d M).length - 1 := by simp; omega
  have h2 := soundF_len h
  cases i with
  | zero =>
    have hx : (makeF s d M)[1]? = some ((makeF s d M)[1]'(by omega)) := List.getElem?_eq_getElem _
    have h0 : ((makeF s d M).take 0 ++ (makeF s d M).drop (0 + 1))[0]? = some ((makeF s d M)[1]'(by omega)) := by simpa using hx
    have e1 := soundF_seq h h0
    have e2 := (make_seq hx).1
    omega
  | succ i =>
    have h0 : ((makeF s d M).take (i + 1) ++ (makeF s d M).drop (i + 1 + 1))[0]? = (makeF s d M)[0]? := by
      rw [List.getElem?_append_left (by simp; omega), List.getElem?_take, if_pos (by omega)]
    rw [make_head] at h0
    have := soundF_count h h0
    simp only [withC, headR] at this
    omega
theorem twice_no {s d : Int} {M : List Msg} {i : Nat} (hi : i < (makeF s d M).length) : soundF ((makeF s d M).take (i + 1) ++ (makeF s d M).drop i) = false := by
  rw [Bool.eq_false_iff]
  intro h
  have ml := make_len s d M
  have hl : ((makeF s d M).take (i + 1) ++ (makeF s d M).drop i).length = (makeF s d M).length + 1 := by simp; omega
  have h0 : ((makeF s d M).take (i + 1) ++ (makeF s d M).drop i)[0]? = (makeF s d M)[0]? := by
    rw [List.getElem?_append_left (by simp; omega), List.getElem?_take, if_pos (by omega)]
  rw [make_head] at h0
  have := soundF_count h h0
  simp only [withC, headR] at this
  omega
theorem turned_no {s d : Int} {M : List Msg} {i k : Nat} {x y : Rec} (hx : (makeF s d M)[i]? = some x) (hy : (makeF s d M)[k]? = some y) (hne : i ≠ k) : soundF (((makeF s d M).set i y).set k x) = false := by
  rw [Bool.eq_false_iff]
  intro h
  have hi := (List.getElem?_eq_some_iff.1 hx).1
  have h0 : (((makeF s d M).set i y).set k x)[i]? = some y := by
    rw [List.getElem?_set_ne (by omega), List.getElem?_set_self hi]
  have e1 := soundF_seq h h0
  have e2 := (make_seq hy).1
  omega
theorem turned_same {l : List Rec} {i : Nat} {x : Rec} (hx : l[i]? = some x) : (l.set i x).set i x = l := by
  rw [List.set_set]
  apply List.ext_getElem?
  intro j
  rw [List.getElem?_set]
  have hi := (List.getElem?_eq_some_iff.1 hx).1
  split
  · rename_i e; subst e; exact hx.symm
  · rfl
theorem enc_fold (y : Rec) : [D.int .i64 y.kind, D.int .i64 y.seq, D.int .i64 y.count, D.int .u64 y.src, D.int .u64 y.dst, D.int .i64 y.msg.kind, D.str y.msg.key, D.str y.msg.value, D.str y.msg.lo, D.str y.msg.hi, D.str y.msg.fr, D.str y.msg.to, D.int .i64 y.msg.n, D.int .u64 y.check] = y.enc := rfl
def hOrders : Det := det2 cRaws (c3 .u8) (fun l p => (∀ x ∈ l, x.ok) ∧ range3 .u8 p) fun _ _ => .d (.bool true)
end Go.PE
