/- Plain laws for the references: messages read alike; what is sound is what is made. -/
import Derived.Test.YtkgkpmdbcjelfaaGreatWkSq
import Derived.Test.YtkgkpmdbcjelfaaGreatWkI
import Derived.Test.YtkgkpmdbcjelfaaGreatWkSm
set_option linter.unusedVariables false
set_option linter.defProp false
set_option linter.all false
set_option linter.unusedSimpArgs false
set_option maxRecDepth 10000
set_option maxHeartbeats 4000000
namespace Go.PE
open Go Go.Proofs

theorem rdText_eq (l : List UInt8) : rdText ⟨l, false⟩ = ((textF l).1, ⟨(textF l).2.1, !(textF l).2.2⟩) := by
  unfold rdText rdNum textF
  by_cases h2 : l.length < 2
  · rw [if_pos (.inl h2)]
    have e : rdTake 2 ⟨l, false⟩ = ([], ⟨[], true⟩) := by
      unfold rdTake
      rw [if_neg (by simp only; omega)]
    simp only [e]
    simp [rdTake, readN]
  · have e : rdTake 2 ⟨l, false⟩ = (l.take 2, ⟨l.drop 2, false⟩) := by
      unfold rdTake
      rw [if_pos (by simp only; omega)]
    simp only [e]
    generalize readN (l.take 2) = n
    unfold rdTake
    simp only [List.length_drop]
    by_cases h3 : l.length < 2 + n
    · rw [if_neg (by omega), if_pos (.inr h3)]
      rfl
    · rw [if_pos (by omega), if_neg (by omega)]
      simp only [List.drop_drop, Bool.not_true]
      rw [List.drop_take, Nat.add_sub_cancel_left]
theorem rdText_end : rdText ⟨[], true⟩ = ([], ⟨[], true⟩) := by simp [rdText, rdNum, rdTake, readN]
theorem rdNum_end (k : Nat) : rdNum (k + 1) ⟨[], true⟩ = (0, ⟨[], true⟩) := by simp [rdNum, rdTake, readN]
theorem rdNum4 (l : List UInt8) : rdNum 4 ⟨l, false⟩ = if 4 ≤ l.length then (readN (l.take 4), ⟨l.drop 4, false⟩) else (0, ⟨[], true⟩) := by
  unfold rdNum rdTake
  simp only
  split <;> simp [readN]
theorem textF_none {l : List UInt8} (h : (textF l).2.2 = false) : textF l = ([], [], false) := by
  unfold textF at h ⊢
  split
  · rfl
  · rename_i h1
    rw [if_neg h1] at h
    cases h
theorem valid_other {m : Msg} (h : ¬ (m.kind = 1 ∨ m.kind = 2 ∨ m.kind = 3 ∨ m.kind = 4 ∨ m.kind = 5 ∨ m.kind = 6)) : validB m = false := by
  rw [Bool.eq_false_iff]
  intro hv
  have := valid_cases hv
  apply h
  rcases this with h | h | h | h | h | h <;> (have := h.1; omega)
theorem parse_same (b : List UInt8) : parse2 b = parse1 b := by
  match b with
  | [] => simp [parse2, parse1, rdMsg, rdNum, rdTake, readN]
  | k :: l =>
    have e1 : rdNum 1 ⟨k :: l, false⟩ = (k.toNat, ⟨l, false⟩) := by simp [rdNum, rdTake, readN]
    unfold parse2 parse1 rdMsg
    simp only [e1, rdText_eq]
    by_cases k2 : k.toNat = 2
    · have h1 : readF 1 l = ((textF l).1, [], (textF l).2.1, (textF l).2.2) := by simp [readF, readI]
      simp only [k2, h1, if_true, if_pos, Nat.reduceEqDiff, if_false, Nat.reduceEqDiff, or_self]
      cases h : (textF l).2.2 <;> cases hv : validB { zeroMsg with kind := ((2 : Nat) : Int), key := (textF l).1 } <;> simp [hv]
    · have hf : readF 2 l = if (textF l).2.2 = false then ((textF l).1, [], (textF l).2.1, (textF l).2.2) else ((textF l).1, (textF (textF l).2.1).1, (textF (textF l).2.1).2.1, (textF (textF l).2.1).2.2) := by
        unfold readF
        simp only [Nat.reduceEqDiff, false_or]
        split <;> rfl
      simp only [k2, if_false, hf]
      cases h : (textF l).2.2 with
      | false =>
        have ht := textF_none h
        simp only [if_true, ht, Bool.not_false, rdText_end, rdNum_end]
        by_cases k1 : k.toNat = 1
        · simp [k1]
        by_cases k3 : k.toNat = 3
        · simp [k3]
        by_cases k45 : k.toNat = 4 ∨ k.toNat = 5
        · simp [k1, k3, k45]
        by_cases k6 : k.toNat = 6
        · simp [k6]
        · simp only [k1, k3, k45, k6, if_false]
          have := valid_other (m := { zeroMsg with kind := (k.toNat : Int) }) (by simp only; omega)
          simp [this]
      | true =>
        simp only [Bool.true_eq_false, if_false, Bool.not_true, rdText_eq]
        generalize (textF l).2.1 = l1
        generalize (textF l).1 = t1
        cases h2 : (textF l1).2.2 with
        | false =>
          have ht := textF_none h2
          simp only [if_true, ht, Bool.not_false, rdText_end, rdNum_end]
          by_cases k1 : k.toNat = 1
          · simp [k1]
          by_cases k3 : k.toNat = 3
          · simp [k3]
          by_cases k45 : k.toNat = 4 ∨ k.toNat = 5
          · simp [k1, k3, k45]
          by_cases k6 : k.toNat = 6
          · simp [k6]
          · simp only [k1, k3, k45, k6, if_false]
            have := valid_other (m := { zeroMsg with kind := (k.toNat : Int) }) (by simp only; omega)
            simp [this]
        | true =>
          simp only [Bool.true_eq_false, if_false, Bool.not_true, rdNum4]
          generalize (textF l1).2.1 = l2
          generalize (textF l1).1 = t2
          by_cases k1 : k.toNat = 1
          · simp only [k1, if_true, true_or, num4]
            by_cases h4 : l2.length < 4
            · simp [h4, show ¬ 4 ≤ l2.length by omega]
            · have h4' : 4 ≤ l2.length := by omega
              simp only [if_neg h4, if_pos h4']
              generalize readN (l2.take 4) = n
              cases hv : validB { zeroMsg with kind := ((1 : Nat) : Int), key := t1, value := t2, n := n } <;> simp [hv]
          by_cases k3 : k.toNat = 3
          · simp only [k3, Nat.reduceEqDiff, if_true, if_false, true_or, or_self]
            cases hv : validB { zeroMsg with kind := ((3 : Nat) : Int), lo := t1, hi := t2 } <;> simp [hv]
          by_cases k6 : k.toNat = 6
          · simp only [k6, Nat.reduceEqDiff, if_true, if_false, or_true, or_self, num4]
            by_cases h4 : l2.length < 4
            · simp [h4, show ¬ 4 ≤ l2.length by omega]
            · have h4' : 4 ≤ l2.length := by omega
              simp only [if_neg h4, if_pos h4']
              generalize readN (l2.take 4) = n
              cases hv : validB { zeroMsg with kind := ((6 : Nat) : Int), lo := t1, hi := t2, n := n } <;> simp [hv]
          simp only [k1, k3, k6, if_false, or_self]
          by_cases k45 : k.toNat = 4 ∨ k.toNat = 5
          · rw [if_pos k45]
            cases hv : validB { zeroMsg with kind := (k.toNat : Int), fr := t1, to := t2 } <;> simp [hv]
          · rw [if_neg k45]
            have v1 := valid_other (m := { zeroMsg with kind := (k.toNat : Int), fr := t1, to := t2 }) (by simp only; omega)
            have v2 := valid_other (m := { zeroMsg with kind := (k.toNat : Int) }) (by simp only; omega)
            simp [v1, v2]
/-- What is sound is what is made. -/
def mids (l : List Rec) : List Msg := ((l.take (l.length - 1)).drop 1).map Rec.msg
theorem mids_len {l : List Rec} : (mids l).length = l.length - 2 := by simp [mids]; omega
theorem mids_get {l : List Rec} {i : Nat} {x : Rec} (hx : l[i]? = some x) (h0 : i ≠ 0) (h1 : i < l.length - 1) : (mids l)[i - 1]? = some x.msg := by
  unfold mids
  rw [List.getElem?_map, List.getElem?_drop, List.getElem?_take, if_pos (by omega), show 1 + (i - 1) = i by omega, hx]
  rfl
theorem chkL_snoc (x : Rec) : ∀ (l : List Rec) (c : Nat), chkL c (l ++ [x]) = x.check.toNat
  | [], _ => rfl
  | r :: l, c => chkL_snoc x l _
def clearC (r : Rec) : Rec := { r with check := 0 }
theorem next_clear (c : Nat) (r : Rec) : nextN c (clearC r) = nextN c r := rfl
theorem sound_at_good {l : List Rec} (h : soundF l = true) {i : Nat} {x : Rec} (hx : l[i]? = some x) : goodR (l.length - 1) i (chkL 0 (l.take i)) x = true := by
  have h1 := soundF_chain h
  generalize l.length - 1 = last at h1 ⊢
  obtain ⟨e1, -⟩ := mid_split hx x
  rw [e1] at h1
  have h2 := sound_mid h1
  have hi := (List.getElem?_eq_some_iff.1 hx).1
  rwa [Nat.zero_add, List.length_take, Nat.min_eq_left (by omega)] at h2
theorem good_facts {last i c : Nat} {x : Rec} (h : goodR last i c x = true) : validR x = true ∧ x.kind = kindAt last i ∧ x.seq = (i : Nat) ∧ x.check = (nextN c x : Nat) := by
  simp only [goodR, Bool.and_eq_true, decide_eq_true_eq] at h
  exact h
theorem soundF_end {l : List Rec} (h : soundF l = true) {x : Rec} (hx : l[l.length - 1]? = some x) : x.count = (l.length : Int) - 2 := by
  simp only [soundF, Bool.and_eq_true, decide_eq_true_eq, getD_of hx] at h
  exact h.2.2.2.2
theorem sound_bare {l : List Rec} (h : soundF l = true) {i : Nat} {x x0 : Rec} (h0 : l[0]? = some x0) (hx : l[i]? = some x) : (bareF x0.src x0.dst (mids l))[i]? = some (clearC x) := by
  have hl := soundF_len h
  obtain ⟨hv, hk, hs, -⟩ := good_facts (sound_at_good h hx)
  have hi := (List.getElem?_eq_some_iff.1 hx).1
  have hc := validR_cases hv
  rw [bare_get, mids_len]
  unfold kindAt at hk
  by_cases e0 : i = 0
  · subst e0
    rw [h0] at hx
    simp only [Option.some.injEq] at hx
    subst hx
    have hct := soundF_count h h0
    rw [if_pos rfl] at hk ⊢
    rcases hc with ⟨k1, -, h3, h4⟩ | ⟨k1, -⟩ | ⟨k1, -⟩
    · obtain ⟨k, s, ct, f, t, m, ch⟩ := x0
      simp only at k1 h3 h4 hct
      subst k1 h3 h4 hct
      simp only [headR, clearC, zeroRec, Option.some.injEq, Rec.mk.injEq, true_and, and_true]
      omega
    · omega
    · omega
  rw [if_neg e0] at hk ⊢
  by_cases e1 : i = l.length - 1
  · rw [if_pos e1] at hk
    rw [if_neg (by omega), if_pos (by omega)]
    have hct := soundF_end h (e1 ▸ hx)
    rcases hc with ⟨k1, -⟩ | ⟨k1, -⟩ | ⟨k1, -, -, -, h5, h6, h7⟩
    · omega
    · omega
    · obtain ⟨k, s, ct, f, t, m, ch⟩ := x
      simp only at k1 h5 h6 h7 hct hs
      subst k1 h5 h6 h7 hct hs
      simp only [endR, clearC, zeroRec, Option.some.injEq, Rec.mk.injEq, true_and, and_true]
      omega
  · rw [if_neg e1] at hk
    rw [if_pos (by omega), mids_get hx e0 (by omega)]
    rcases hc with ⟨k1, -⟩ | ⟨k1, -, -, -, h5, h6, h7⟩ | ⟨k1, -⟩
    · omega
    · obtain ⟨k, s, ct, f, t, m, ch⟩ := x
      simp only at k1 h5 h6 h7 hs
      subst k1 h5 h6 h7 hs
      simp only [bodyR, clearC, zeroRec, Option.map_some, Option.some.injEq, Rec.mk.injEq, true_and, and_true]
      omega
    · omega
theorem sound_chk {l : List Rec} (h : soundF l = true) {x0 : Rec} (h0 : l[0]? = some x0) : ∀ i, i ≤ l.length → chk 0 (bareF x0.src x0.dst (mids l)) i = chkL 0 (l.take i)
  | 0, _ => rfl
  | i + 1, hi => by
    have hx : l[i]? = some l[i] := List.getElem?_eq_getElem (by omega)
    generalize l[i] = x at hx
    have hb := sound_bare h h0 hx
    obtain ⟨-, -, -, hck⟩ := good_facts (sound_at_good h hx)
    rw [chk_succ hb, sound_chk h h0 i (by omega), next_clear, take_snoc hx, chkL_snoc, hck]
    rfl
theorem sound_make {l : List Rec} (h : soundF l = true) {x0 : Rec} (h0 : l[0]? = some x0) : makeF x0.src x0.dst (mids l) = l := by
  apply List.ext_getElem?
  intro i
  have hl := soundF_len h
  rcases Nat.lt_or_ge i l.length with hi | hi
  · have hx : l[i]? = some l[i] := List.getElem?_eq_getElem hi
    generalize l[i] = x at hx
    rw [make_get, sound_bare h h0 hx, hx, sound_chk h h0 i (by omega)]
    obtain ⟨-, -, -, hck⟩ := good_facts (sound_at_good h hx)
    simp only [Option.map_some, next_clear, Option.some.injEq]
    rw [withC, clearC, ← hck]
  · rw [List.getElem?_eq_none hi, List.getElem?_eq_none (by rw [make_len, mids_len]; omega)]
theorem sound_ref {l : List Rec} (hl : 2 ≤ l.length) (hl2 : l.length ≤ 1000000) (hr : ∀ x ∈ l, rangeR x) {x0 : Rec} (h0 : l[0]? = some x0) (hv0 : validR x0 = true) (hm : ∀ i x, l[i]? = some x → i ≠ 0 → i < l.length - 1 → validR x = true ∧ x.kind = 2) :
    soundF l = decide (makeF x0.src x0.dst (mids l) = l) := by
  by_cases e : makeF x0.src x0.dst (mids l) = l
  · rw [decide_eq_true e, ← e]
    have hr0 := hr x0 (List.mem_of_getElem? h0)
    refine make_sound hr0.1 hr0.2.1 (by rw [mids_len]; omega) ?_
    intro m hm1
    obtain ⟨j, hj, ej⟩ := List.mem_iff_getElem.1 hm1
    rw [mids_len] at hj
    have hx : l[j + 1]? = some l[j + 1] := List.getElem?_eq_getElem (by omega)
    generalize l[j + 1] = x at hx
    obtain ⟨v1, v2⟩ := hm (j + 1) x hx (by omega) (by omega)
    have hg := mids_get hx (by omega) (by omega)
    rw [Nat.add_sub_cancel, List.getElem?_eq_getElem (by rw [mids_len]; exact hj), ej] at hg
    simp only [Option.some.injEq] at hg
    subst hg
    rcases validR_cases v1 with ⟨k1, -⟩ | ⟨-, -, -, h5, -⟩ | ⟨k1, -⟩
    · omega
    · exact h5
    · omega
  · rw [decide_eq_false e, Bool.eq_false_iff]
    intro h
    exact e (sound_make h h0)
theorem sound_kinds {l : List Rec} (h : soundF l = true) {i : Nat} {x : Rec} (hx : l[i]? = some x) : validR x = true ∧ x.kind = kindAt (l.length - 1) i := by
  obtain ⟨h1, h2, -⟩ := good_facts (sound_at_good h hx)
  exact ⟨h1, h2⟩
end Go.PE
