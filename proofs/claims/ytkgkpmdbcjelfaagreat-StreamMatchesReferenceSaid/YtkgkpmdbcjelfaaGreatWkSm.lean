/- Law 18: StreamDamage. -/
import Derived.Test.YtkgkpmdbcjelfaaGreatWkSl
import Derived.Test.YtkgkpmdbcjelfaaGreatWkSk
import Derived.Test.YtkgkpmdbcjelfaaGreatWkSi
import Derived.Test.YtkgkpmdbcjelfaaGreatWkY
set_option linter.unusedVariables false
set_option linter.defProp false
set_option linter.all false
set_option linter.unusedSimpArgs false
set_option maxRecDepth 10000
set_option maxHeartbeats 4000000
namespace Go.PE
open Go Go.Proofs

def chkL (c : Nat) : List Rec → Nat
  | [] => c
  | r :: l => chkL r.check.toNat l
theorem sound_mid {last : Nat} : ∀ {l1 l2 : List Rec} {x : Rec} {i c : Nat}, soundI last i c (l1 ++ x :: l2) = true → goodR last (i + l1.length) (chkL c l1) x = true
  | [], l2, x, i, c, h => by
    simp only [List.nil_append, soundI, Bool.and_eq_true] at h
    exact h.1
  | r :: l1, l2, x, i, c, h => by
    simp only [List.cons_append, soundI, Bool.and_eq_true] at h
    have := sound_mid h.2
    rw [List.length_cons, show i + (l1.length + 1) = i + 1 + l1.length by omega]
    exact this
theorem soundF_chain {l : List Rec} (h : soundF l = true) : soundI (l.length - 1) 0 0 l = true := by
  simp only [soundF, Bool.and_eq_true] at h
  exact h.2.2.2.1
theorem good_check {last i c : Nat} {x : Rec} (h : goodR last i c x = true) : x.check = (nextN c x : Nat) := by
  simp only [goodR, Bool.and_eq_true, decide_eq_true_eq] at h
  exact h.2.2.2
theorem be_check {n m : Nat} (hn : n < 18446744073709551616) (hm : m < 18446744073709551616) (h : beN n 8 8 = beN m 8 8) : n = m := by
  have := congrArg readN h
  rwa [readN_beN (by simpa using hn), readN_beN (by simpa using hm)] at this
theorem good_two {last i c : Nat} {x y : Rec} (hx : goodR last i c x = true) (hy : goodR last i c y = true) {k : Nat} {v : UInt8} (hk : k < (bytesR x).length) (hv : (bytesR x)[k]? ≠ some v) (e : bytesR y = (bytesR x).set k v) : False := by
  have ex := good_check hx
  have ey := good_check hy
  have lx := nextN_lt c x
  have ly := nextN_lt c y
  have hc := congrArg List.length e
  rw [List.length_set] at hc
  unfold bytesR at e hc hv hk
  simp only [List.length_append, beN_len] at hc hk
  have hlen : (plainR y).length = (plainR x).length := by omega
  rcases Nat.lt_or_ge k (plainR x).length with h | h
  · rw [List.set_append_left _ _ h] at e
    obtain ⟨e1, e2⟩ := List.append_inj e (by rw [List.length_set]; exact hlen)
    rw [ex, ey, Int.toNat_natCast, Int.toNat_natCast] at e2
    have e3 := be_check ly lx e2
    unfold nextN at e3
    rw [e1] at e3
    obtain ⟨a, d, p, h1, h2, h3⟩ := set_split h v
    rw [h3, h2, ← List.append_assoc, ← List.append_assoc] at e3
    have e4 := fnv_one e3
    rw [List.getElem?_append_left h, h1, ← e4] at hv
    exact hv rfl
  · have e0 := e
    rw [List.set_append_right _ _ h] at e
    obtain ⟨e1, e2⟩ := List.append_inj e hlen
    have e3 : nextN c y = nextN c x := by
      unfold nextN
      rw [e1]
    have e4 : y.check = x.check := by rw [ex, ey, e3]
    rw [e1, e4] at e0
    rw [e0, List.getElem?_set_self (by simp only [List.length_append, beN_len]; omega)] at hv
    exact hv rfl
theorem mid_split {α : Type} {l : List α} {i : Nat} {x : α} (hx : l[i]? = some x) (y : α) : l = l.take i ++ x :: l.drop (i + 1) ∧ l.set i y = l.take i ++ y :: l.drop (i + 1) := by
  obtain ⟨h, e⟩ := List.getElem?_eq_some_iff.1 hx
  refine ⟨?_, List.set_eq_take_append_cons_drop.trans (if_pos h)⟩
  rw [← e, ← List.drop_eq_getElem_cons h, List.take_append_drop]
theorem damage_no {l : List Rec} (hs : soundF l = true) {i : Nat} {x y : Rec} (hx : l[i]? = some x) {k : Nat} {v : UInt8} (hk : k < (bytesR x).length) (hv : (bytesR x)[k]? ≠ some v) (e : bytesR y = (bytesR x).set k v) : soundF (l.set i y) = false ∧ y ≠ x := by
  constructor
  · rw [Bool.eq_false_iff]
    intro h
    obtain ⟨e1, e2⟩ := mid_split hx y
    have s1 := soundF_chain hs
    have s2 := soundF_chain h
    rw [List.length_set] at s2
    generalize l.length - 1 = last at s1 s2
    rw [e1] at s1
    rw [e2] at s2
    exact good_two (sound_mid s1) (sound_mid s2) hk hv e
  · intro h
    subst h
    rw [e, List.getElem?_set_self (by rw [e] at hk; simpa using hk)] at hv
    exact hv rfl
def hDamage18 : Det := det3 cRaws (c2 .u64) (c2 .u8) (fun l p q => (∀ x ∈ l, x.ok) ∧ range2 .u64 p ∧ range2 .u8 q) fun _ _ _ => .d (.bool true)
end Go.PE
