/- A call sees only the part of the state that its arguments lead to (see PeQ, PeV): ids, and lists of which some places are renewed. -/
import Derived.Test.YtkgkpmdbcjelfaaPeU
set_option linter.unusedVariables false
set_option linter.unusedSimpArgs false
namespace Go.PE
open Go

def ixOf (i : Nat) : List Nat → Option Nat
  | [] => none
  | j :: l => if j = i then some 0 else match ixOf i l with | some k => some (k + 1) | none => none
theorem ixOf_get {i : Nat} : ∀ {l : List Nat} {k : Nat}, ixOf i l = some k → l[k]? = some i
  | [], _, h => by cases h
  | j :: l, k, h => by
    simp only [ixOf] at h
    split at h
    · rename_i e
      injection h with h
      subst h e
      rfl
    · split at h
      · rename_i k' hk
        injection h with h
        subst h
        simpa using ixOf_get hk
      · cases h
theorem ixOf_none {i : Nat} : ∀ {l : List Nat}, ixOf i l = none → i ∉ l
  | [], _ => by simp
  | j :: l, h => by
    simp only [ixOf] at h
    split at h
    · cases h
    · rename_i e
      split at h
      · cases h
      · rename_i hk
        simp only [List.mem_cons, not_or]
        exact ⟨fun e2 => e e2.symm, ixOf_none hk⟩
def nd : List Nat → Bool
  | [] => true
  | i :: l => (ixOf i l).isNone && nd l
theorem nd_spec : ∀ {l : List Nat}, nd l = true → ∀ {i j k : Nat}, l[i]? = some k → l[j]? = some k → i = j
  | [], _, i, j, k, h, _ => by simp at h
  | x :: l, h, 0, 0, _, _, _ => rfl
  | x :: l, h, 0, j + 1, k, h1, h2 => by
    simp only [nd, Bool.and_eq_true, Option.isNone_iff_eq_none] at h
    simp at h1 h2
    subst h1
    exact absurd (List.mem_of_getElem? h2) (ixOf_none h.1)
  | x :: l, h, i + 1, 0, k, h1, h2 => by
    simp only [nd, Bool.and_eq_true, Option.isNone_iff_eq_none] at h
    simp at h1 h2
    subst h2
    exact absurd (List.mem_of_getElem? h1) (ixOf_none h.1)
  | x :: l, h, i + 1, j + 1, k, h1, h2 => by
    simp only [nd, Bool.and_eq_true] at h
    simp at h1 h2
    rw [nd_spec h.2 h1 h2]

/-- Where place k lies: at its old place, or behind the n old ones. -/
def upI : List Nat → Nat → Nat → Nat
  | [], n, k => n + k
  | i :: _, _, 0 => i
  | _ :: l, n, k + 1 => upI l n k
theorem upI_lt : ∀ {l : List Nat} {k : Nat} (n : Nat) {i : Nat}, l[k]? = some i → upI l n k = i
  | [], k, _, i, h => by simp at h
  | j :: l, 0, _, i, h => by simpa [upI] using h
  | j :: l, k + 1, n, i, h => by simpa [upI] using upI_lt n (by simpa using h)
def mergeL {α : Type} : List Nat → List α → List α → List α
  | [], l, xs => l ++ xs
  | _ :: _, l, [] => l
  | i :: is, l, x :: xs => mergeL is (l.set i x) xs
theorem mergeL_len {α : Type} : ∀ (is : List Nat) (l xs : List α), is.length ≤ xs.length → (mergeL is l xs).length = l.length + (xs.length - is.length)
  | [], l, xs, _ => by simp [mergeL]
  | i :: is, l, [], h => by simp at h
  | i :: is, l, x :: xs, h => by
    simp only [mergeL, List.length_cons]
    rw [mergeL_len is _ xs (by simpa using h)]
    simp
theorem mergeL_other {α : Type} : ∀ (is : List Nat) (l xs : List α) (j : Nat), j ∉ is → j < l.length → (mergeL is l xs)[j]? = l[j]?
  | [], l, xs, j, _, h => by simp [mergeL, List.getElem?_append_left h]
  | i :: is, l, [], j, _, h => by simp [mergeL]
  | i :: is, l, x :: xs, j, hj, h => by
    simp only [List.mem_cons, not_or] at hj
    simp only [mergeL]
    rw [mergeL_other is _ xs j hj.2 (by simpa using h), List.getElem?_set_ne (fun e => hj.1 e.symm)]
theorem mergeL_get {α : Type} : ∀ (is : List Nat) (l xs : List α) (k : Nat), nd is = true → (∀ i ∈ is, i < l.length) → is.length ≤ xs.length → k < xs.length → (mergeL is l xs)[upI is l.length k]? = xs[k]?
  | [], l, xs, k, _, _, _, _ => by
    simp only [mergeL, upI]
    rw [List.getElem?_append_right (by omega)]
    congr 1
    omega
  | i :: is, l, [], k, _, _, _, h => by simp at h
  | i :: is, l, x :: xs, 0, hn, hb, hl, _ => by
    simp only [nd, Bool.and_eq_true, Option.isNone_iff_eq_none] at hn
    have hi := hb i (by simp)
    simp only [mergeL, upI]
    rw [mergeL_other is _ xs i (ixOf_none hn.1) (by simpa using hi)]
    simp [hi]
  | i :: is, l, x :: xs, k + 1, hn, hb, hl, hk => by
    simp only [nd, Bool.and_eq_true] at hn
    simp only [mergeL, upI]
    have := mergeL_get is (l.set i x) xs k hn.2 (fun j hj => by simpa using hb j (by simp [hj])) (by simpa using hl) (by simpa using hk)
    simpa using this
theorem mergeL_class {α : Type} : ∀ (is : List Nat) (l xs : List α) (j : Nat), is.length ≤ xs.length → j < (mergeL is l xs).length → (j ∉ is ∧ j < l.length) ∨ ∃ k, k < xs.length ∧ j = upI is l.length k
  | [], l, xs, j, _, h => by
    simp only [mergeL, List.length_append] at h
    rcases Nat.lt_or_ge j l.length with h1 | h1
    · exact .inl ⟨by simp, h1⟩
    · exact .inr ⟨j - l.length, by omega, by simp only [upI]; omega⟩
  | i :: is, l, [], j, h, _ => by simp at h
  | i :: is, l, x :: xs, j, hl, h => by
    rcases mergeL_class is (l.set i x) xs j (by simpa using hl) h with ⟨h1, h2⟩ | ⟨k, hk, e⟩
    · by_cases e : j = i
      · exact .inr ⟨0, by simp, by simp [upI, e]⟩
      · exact .inl ⟨by simp [e, h1], by simpa using h2⟩
    · exact .inr ⟨k + 1, by simpa using hk, by simpa [upI] using e⟩
def pickL {α : Type} (l : List α) : List Nat → Option (List α)
  | [] => some []
  | i :: is => match l[i]?, pickL l is with
    | some x, some xs => some (x :: xs)
    | _, _ => none
theorem pickL_spec {α : Type} {l : List α} : ∀ {is : List Nat} {xs : List α}, pickL l is = some xs → xs.length = is.length ∧ ∀ (k i : Nat), is[k]? = some i → xs[k]? = l[i]? ∧ i < l.length
  | [], xs, h => by
    injection h with h
    subst h
    exact ⟨rfl, fun k i h => by simp at h⟩
  | j :: is, xs, h => by
    simp only [pickL] at h
    split at h
    · rename_i x xs' hx hxs
      injection h with h
      subst h
      obtain ⟨h1, h2⟩ := pickL_spec hxs
      refine ⟨by simp [h1], fun k i hk => ?_⟩
      cases k with
      | zero =>
        simp at hk
        subst hk
        exact ⟨by simp [hx], (List.getElem?_eq_some_iff.1 hx).1⟩
      | succ k => simpa using h2 k i (by simpa using hk)
    · cases h

/-! ### ids -/
mutual
def low (bs rs : List Nat) : AV → Option AV
  | .undef => some .undef
  | .d x => some (.d x)
  | .nilS => some .nilS
  | .cptr cs => some (.cptr cs)
  | .ptr i o => match ixOf i bs with | some k => some (.ptr k o) | none => none
  | .arr i n => match ixOf i rs with | some k => some (.arr k n) | none => none
  | .eptr i n j o => match ixOf i rs with | some k => some (.eptr k n j o) | none => none
  | .agg cs => match lowL bs rs cs with | some l => some (.agg l) | none => none
  | .tup cs => match lowL bs rs cs with | some l => some (.tup l) | none => none
  | .iface t x => match low bs rs x with | some y => some (.iface t y) | none => none
  | .fn f a c => match lowL bs rs a, lowL bs rs c with | some a, some c => some (.fn f a c) | _, _ => none
def lowL (bs rs : List Nat) : List AV → Option (List AV)
  | [] => some []
  | x :: l => match low bs rs x, lowL bs rs l with | some y, some m => some (y :: m) | _, _ => none
end
mutual
def ptrIds : AV → List Nat
  | .ptr i _ => [i]
  | .agg cs => ptrIdsL cs
  | .tup cs => ptrIdsL cs
  | .iface _ x => ptrIds x
  | .fn _ a c => ptrIdsL a ++ ptrIdsL c
  | .undef => []
  | .d _ => []
  | .nilS => []
  | .cptr _ => []
  | .arr _ _ => []
  | .eptr _ _ _ _ => []
def ptrIdsL : List AV → List Nat
  | [] => []
  | x :: l => ptrIds x ++ ptrIdsL l
end
mutual
def rowIds : AV → List Nat
  | .ptr _ _ => []
  | .agg cs => rowIdsL cs
  | .tup cs => rowIdsL cs
  | .iface _ x => rowIds x
  | .fn _ a c => rowIdsL a ++ rowIdsL c
  | .undef => []
  | .d _ => []
  | .nilS => []
  | .cptr _ => []
  | .arr i _ => [i]
  | .eptr i _ _ _ => [i]
def rowIdsL : List AV → List Nat
  | [] => []
  | x :: l => rowIds x ++ rowIdsL l
end
def uni : List Nat → List Nat → List Nat
  | acc, [] => acc
  | acc, i :: l => uni (match ixOf i acc with | some _ => acc | none => acc ++ [i]) l
/-- The boxes that a call is led to. -/
def seeC (b : List (List AV)) : List Nat → List Nat → List Nat
  | [], acc => acc
  | i :: l, acc => seeC b l (uni acc (ptrIdsL (b.getD i [])))
def seeL (b : List (List AV)) (l : List Nat) : List Nat := seeC b l l
def seeB (b : List (List AV)) (args : List AV) : List Nat := seeL b (seeL b (uni [] (ptrIdsL args)))
/-- The rows that it is led to. -/
def seeD (b : List (List AV)) : List Nat → List Nat → List Nat
  | [], acc => acc
  | i :: l, acc => seeD b l (uni acc (rowIdsL (b.getD i [])))
def seeR (b : List (List AV)) (bs : List Nat) (args : List AV) : List Nat := seeD b bs (uni [] (rowIdsL args))
def lowB (bs rs : List Nat) : List (List AV) → Option (List (List AV))
  | [] => some []
  | c :: l => match lowL bs rs c, lowB bs rs l with | some y, some m => some (y :: m) | _, _ => none
mutual
def up (bs : List Nat) (nb : Nat) (rs : List Nat) (nr : Nat) : AV → AV
  | .undef => .undef
  | .d x => .d x
  | .nilS => .nilS
  | .cptr cs => .cptr cs
  | .ptr i o => .ptr (upI bs nb i) o
  | .arr i n => .arr (upI rs nr i) n
  | .eptr i n j o => .eptr (upI rs nr i) n j o
  | .agg cs => .agg (upL bs nb rs nr cs)
  | .tup cs => .tup (upL bs nb rs nr cs)
  | .iface t x => .iface t (up bs nb rs nr x)
  | .fn f a c => .fn f (upL bs nb rs nr a) (upL bs nb rs nr c)
def upL (bs : List Nat) (nb : Nat) (rs : List Nat) (nr : Nat) : List AV → List AV
  | [] => []
  | x :: l => up bs nb rs nr x :: upL bs nb rs nr l
end
def upB (bs : List Nat) (nb : Nat) (rs : List Nat) (nr : Nat) : List (List AV) → List (List AV)
  | [] => []
  | c :: l => upL bs nb rs nr c :: upB bs nb rs nr l
theorem lowL_spec {bs rs : List Nat} : ∀ {l m : List AV}, lowL bs rs l = some m → m.length = l.length ∧ ∀ i, i < l.length → low bs rs (l.getD i .undef) = some (m.getD i .undef)
  | [], m, h => by
    simp only [lowL] at h
    injection h with h
    subst h
    exact ⟨rfl, fun i hi => absurd hi (by simp)⟩
  | x :: l, m, h => by
    simp only [lowL] at h
    split at h
    · rename_i y m' hy hm
      injection h with h
      subst h
      obtain ⟨h1, h2⟩ := lowL_spec hm
      refine ⟨by simp [h1], fun i hi => ?_⟩
      cases i with
      | zero => simpa using hy
      | succ i => simpa using h2 i (by simpa using hi)
    · cases h
theorem lowB_spec {bs rs : List Nat} : ∀ {l m : List (List AV)}, lowB bs rs l = some m → m.length = l.length ∧ ∀ (i : Nat) (d : List AV), m[i]? = some d → ∃ c, l[i]? = some c ∧ lowL bs rs c = some d
  | [], m, h => by
    injection h with h
    subst h
    exact ⟨rfl, fun i d hi => by simp at hi⟩
  | c :: l, m, h => by
    simp only [lowB] at h
    split at h
    · rename_i y m' hy hm
      injection h with h
      subst h
      obtain ⟨h1, h2⟩ := lowB_spec hm
      refine ⟨by simp [h1], fun i d hi => ?_⟩
      cases i with
      | zero =>
        simp at hi
        subst hi
        exact ⟨c, rfl, hy⟩
      | succ i => simpa using h2 i d (by simpa using hi)
    · cases h
theorem upL_spec {bs rs : List Nat} {nb nr : Nat} : ∀ {l : List AV}, (upL bs nb rs nr l).length = l.length ∧ ∀ i, i < l.length → (upL bs nb rs nr l).getD i .undef = up bs nb rs nr (l.getD i .undef)
  | [] => ⟨rfl, fun i hi => absurd hi (by simp)⟩
  | x :: l => by
    obtain ⟨h1, h2⟩ := upL_spec (bs := bs) (rs := rs) (nb := nb) (nr := nr) (l := l)
    refine ⟨by simp [upL, h1], fun i hi => ?_⟩
    cases i with
    | zero => simp [upL]
    | succ i => simpa [upL] using h2 i (by simpa using hi)
theorem upB_spec {bs rs : List Nat} {nb nr : Nat} : ∀ {l : List (List AV)}, (upB bs nb rs nr l).length = l.length ∧ ∀ (i : Nat) (d : List AV), (upB bs nb rs nr l)[i]? = some d → ∃ c, l[i]? = some c ∧ d = upL bs nb rs nr c
  | [] => ⟨rfl, fun i d hi => by simp [upB] at hi⟩
  | c :: l => by
    obtain ⟨h1, h2⟩ := upB_spec (bs := bs) (rs := rs) (nb := nb) (nr := nr) (l := l)
    refine ⟨by simp [upB, h1], fun i d hi => ?_⟩
    cases i with
    | zero =>
      simp [upB] at hi
      exact ⟨c, rfl, hi.symm⟩
    | succ i => simpa [upB] using h2 i d (by simpa [upB] using hi)

theorem low_rep {w : World} {M M0 : Mem} {r r0 : List Arr} {bs rs : List Nat} (hb : ∀ i k, ixOf i bs = some k → k < M0.bb.length ∧ M0.blk k = M.blk i) (hr : ∀ i k, ixOf i rs = some k → r0[k]? = r[i]? ∧ M0.row k = M.row i)
    (ho : ∀ a, Okc M r a → Okc M0 r0 a) {v : Value} {x : AV} (h : RepA w M r v x) : ∀ y, low bs rs x = some y → RepA w M0 r0 v y := by
  have hd : ∀ {v : Value} {x : D}, Rep w (Okc M r) v x → Rep w (Okc M0 r0) v x := fun h => h.mono fun a u h1 h2 => ⟨h2, ho a h1⟩
  have hl : ∀ {vs : Array Value} {cs : List AV} {ds : List AV}, (∀ i, i < cs.length → ∀ y, low bs rs (cs.getD i .undef) = some y → RepA w M0 r0 (vs.getD i undef) y) → lowL bs rs cs = some ds →
      ds.length = cs.length ∧ ∀ i, i < ds.length → RepA w M0 r0 (vs.getD i undef) (ds.getD i .undef) := by
    intro vs cs ds h1 h2
    obtain ⟨h3, h4⟩ := lowL_spec h2
    exact ⟨h3, fun i hi => h1 i (by omega) _ (h4 i (by omega))⟩
  induction h with
  | undef v => intro y hy; simp only [low, Option.some.injEq] at hy; subst hy; exact .undef v
  | d v x h => intro y hy; simp only [low, Option.some.injEq] at hy; subst hy; exact .d v x (hd h)
  | agg vs cs hs h1 _ ih =>
    intro y hy
    simp only [low] at hy
    split at hy
    · rename_i l hlw
      injection hy with hy
      subst hy
      obtain ⟨h3, h4⟩ := hl ih hlw
      exact .agg vs l (by omega) (fun i hi => h1 i (by omega)) h4
    · cases hy
  | nilS => intro y hy; simp only [low, Option.some.injEq] at hy; subst hy; exact .nilS
  | arr v id n h1 h =>
    intro y hy
    simp only [low] at hy
    split at hy
    · rename_i k hk
      injection hy with hy
      subst hy
      obtain ⟨A, e, h2, h3⟩ := h
      obtain ⟨e1, e2⟩ := hr _ _ hk
      exact .arr v k n h1 ⟨A, by rw [e1]; exact e, h2, fun e3 => by rw [e2]; exact h3 e3⟩
    · cases hy
  | ptr id off h =>
    intro y hy
    simp only [low] at hy
    split at hy
    · rename_i k hk
      injection hy with hy
      subst hy
      obtain ⟨e1, e2⟩ := hb _ _ hk
      rw [← e2]
      exact .ptr k off e1
    · cases hy
  | cptr a cs f hsp hcell h1 h =>
    intro y hy
    simp only [low, Option.some.injEq] at hy
    subst hy
    exact .cptr a cs f hsp (fun j hj => ⟨(hcell j hj).1, ho _ (hcell j hj).2⟩) h1 (fun j hj => hd (h j hj))
  | eptr v id n i off h1 h =>
    intro y hy
    simp only [low] at hy
    split at hy
    · rename_i k hk
      injection hy with hy
      subst hy
      obtain ⟨A, e, h2, h3⟩ := h
      obtain ⟨e1, e2⟩ := hr _ _ hk
      exact .eptr v k n i off h1 ⟨A, by rw [e1]; exact e, h2, fun e3 => by rw [e2]; exact h3 e3⟩
    · cases hy
  | tup vs cs hs _ ih =>
    intro y hy
    simp only [low] at hy
    split at hy
    · rename_i l hlw
      injection hy with hy
      subst hy
      obtain ⟨h3, h4⟩ := hl ih hlw
      exact .tup vs l (by omega) h4
    · cases hy
  | iface t v x _ ih =>
    intro y hy
    simp only [low] at hy
    split at hy
    · rename_i z hz
      injection hy with hy
      subst hy
      exact .iface t v z (ih z hz)
    · cases hy
  | fn f vs us cs ds hs hs' _ _ ih ih' =>
    intro y hy
    simp only [low] at hy
    split at hy
    · rename_i a c ha hc
      injection hy with hy
      subst hy
      obtain ⟨h3, h4⟩ := hl ih ha
      obtain ⟨h5, h6⟩ := hl ih' hc
      exact .fn f vs us a c (by omega) (by omega) h4 h6
    · cases hy

theorem up_rep {w : World} {M M1 : Mem} {r r1 : List Arr} {bs rs : List Nat} {nb nr : Nat} (hb : ∀ k, k < M1.bb.length → upI bs nb k < M.bb.length ∧ M.blk (upI bs nb k) = M1.blk k)
    (hr : ∀ k A, r1[k]? = some A → r[upI rs nr k]? = some A ∧ M.row (upI rs nr k) = M1.row k)
    (ho : ∀ a, Okc M1 r1 a → Okc M r a) {v : Value} {x : AV} (h : RepA w M1 r1 v x) : RepA w M r v (up bs nb rs nr x) := by
  have hd : ∀ {v : Value} {x : D}, Rep w (Okc M1 r1) v x → Rep w (Okc M r) v x := fun h => h.mono fun a u h1 h2 => ⟨h2, ho a h1⟩
  have hl : ∀ {vs : Array Value} {cs : List AV}, (∀ i, i < cs.length → RepA w M r (vs.getD i undef) (up bs nb rs nr (cs.getD i .undef))) →
      ∀ i, i < (upL bs nb rs nr cs).length → RepA w M r (vs.getD i undef) ((upL bs nb rs nr cs).getD i .undef) := by
    intro vs cs h1 i hi
    rw [upL_spec.1] at hi
    rw [upL_spec.2 i hi]
    exact h1 i hi
  induction h with
  | undef v => exact .undef v
  | d v x h => exact .d v x (hd h)
  | agg vs cs hs h1 _ ih => exact .agg vs _ (by rw [upL_spec.1]; exact hs) (fun i hi => h1 i (by rwa [upL_spec.1] at hi)) (hl ih)
  | nilS => exact .nilS
  | arr v id n h1 h =>
    obtain ⟨A, e, h2, h3⟩ := h
    obtain ⟨e1, e2⟩ := hr _ _ e
    exact .arr v _ n h1 ⟨A, e1, h2, fun e3 => by rw [e2]; exact h3 e3⟩
  | ptr id off h =>
    obtain ⟨e1, e2⟩ := hb _ h
    rw [← e2]
    exact .ptr _ off e1
  | cptr a cs f hsp hcell h1 h => exact .cptr a cs f hsp (fun j hj => ⟨(hcell j hj).1, ho _ (hcell j hj).2⟩) h1 (fun j hj => hd (h j hj))
  | eptr v id n i off h1 h =>
    obtain ⟨A, e, h2, h3⟩ := h
    obtain ⟨e1, e2⟩ := hr _ _ e
    exact .eptr v _ n i off h1 ⟨A, e1, h2, fun e3 => by rw [e2]; exact h3 e3⟩
  | tup vs cs hs _ ih => exact .tup vs _ (by rw [upL_spec.1]; exact hs) (hl ih)
  | iface t v x _ ih => exact .iface t v _ ih
  | fn f vs us cs ds hs hs' _ _ ih ih' => exact .fn f vs us _ _ (by rw [upL_spec.1]; exact hs) (by rw [upL_spec.1]; exact hs') (hl ih) (hl ih')
end Go.PE
