/- Joined: PeU, PeWe, PeWf, PeV, PeW, PeWb, PeVd, PeWc, PeWd. -/
import Derived.Test.YtknilgmkgjjidaaGreatDoorPe2
import Derived.Recover
import Derived.Laws.BitsLemmas
section
/- The evaluator: whole functions (see PeQ). -/
set_option linter.unusedVariables false
set_option linter.unusedSimpArgs false
namespace Go.PE
open Go

/-- What a function gives back. -/
def resK (P : Program) (st : St) : List ResultVar → (List AV → Prop) → Prop
  | [], K => K []
  | .tmp t :: l, K => resK P st l fun vs => K (st.t.getD t .undef :: vs)
  | .cell a t :: l, K => match ty? P t, st.t.getD a .undef with
    | some (g, n), .ptr id off => match st.b[id]? with
      | some cells => off + n ≤ cells.length ∧ resK P st l fun vs => K (mkV g ((cells.drop off).take n) :: vs)
      | none => False
    | _, _ => False
def oneV : List AV → AV
  | [v] => v
  | vs => .tup vs

def resM (tmps : Array Value) (x : ResultVar) : Sem Value := match x with
  | .tmp t => pure (tmps.getD t undef)
  | .cell a t => do loadVar t (← asAddr (tmps.getD a undef))
theorem results_eq (fn : Func) (tmps : Array Value) : results fn tmps = (do let vs ← fn.results.mapM (resM tmps); pure (if h : vs.size = 1 then vs[0] else .tuple vs)) := by
  unfold results
  congr 1

/-- A body, run to its end. -/
def bodyK (P : Program) (E : Env) (pl : Nat → List (Nat × Bool × List Nat)) (fn : Func) (c : Code) (args : List AV) (b : List (List AV)) (r : List Arr) (K : Out → List (List AV) → List Arr → Prop) : Prop :=
  evalK P E pl c ⟨args ++ List.replicate (fn.ntmps - args.length) .undef, b, r⟩ fun e st => match e with
    | .normal => resK P st fn.results.toList fun vs => K (.ret (oneV vs)) st.b st.r
    | .ret => resK P st fn.results.toList fun vs => K (.ret (oneV vs)) st.b st.r
    | .panic x => K (.panic x) st.b st.r
    | .exit _ => False

section
variable {P : Program} {E : Env} {pl : Nat → List (Nat × Bool × List Nat)} {w0 : World} {F : List Nat} {M : Mem} {st : St} {w : World}

theorem mapM_res (h : Inv w0 F M st.b st.r w) {a : Act} (ht : Rept w M st.r a.tmps st.t) : ∀ (l : List ResultVar) (K : List AV → Prop), resK P st l K →
    ∃ vs : List Value, ∃ xs : List AV, (l.mapM (resM a.tmps)).run P w = .ok vs w ∧ K xs ∧ RepL w M st.r vs.toArray xs := by
  have cons : ∀ (u : Value) (vs : List Value) (v : AV) (xs : List AV), RepA w M st.r u v → RepL w M st.r vs.toArray xs → RepL w M st.r (u :: vs).toArray (v :: xs) := by
    intro u vs v xs h1 h2
    have := RepL.cons h1 h2
    simpa using this
  have step : ∀ (x : ResultVar) (l : List ResultVar) (u : Value) (vs : List Value), (resM a.tmps x).run P w = .ok u w → (l.mapM (resM a.tmps)).run P w = .ok vs w → ((x :: l).mapM (resM a.tmps)).run P w = .ok (u :: vs) w := by
    intro x l u vs h1 h2
    rw [List.mapM_cons, Sem.run_bind, h1, Result.andThen_ok, Sem.run_bind, h2, Result.andThen_ok, Sem.run_pure]
  intro l
  induction l with
  | nil =>
    intro K hk
    exact ⟨[], [], by simp, hk, rfl, fun i hi => absurd hi (by simp)⟩
  | cons x l ih =>
    intro K hk
    cases x with
    | tmp t =>
      obtain ⟨vs, xs, hr, hK, hv⟩ := ih _ hk
      exact ⟨a.tmps.getD t undef :: vs, st.t.getD t .undef :: xs, step _ _ _ _ rfl hr, hK, cons _ _ _ _ (ev_rep ht (.tmp t)) hv⟩
    | cell c t =>
      simp only [resK] at hk
      split at hk
      · rename_i g n id off hty hc
        split at hk
        · rename_i cells hb
          obtain ⟨vs, xs, hr, hK, hv⟩ := ih _ hk.2
          have hcr := ev_rep (a := a) ht (.tmp c)
          have hcr' : RepA w M st.r (a.tmps.getD c undef) (.ptr id off) := by
            have : st.ev (.tmp c) = .ptr id off := hc
            rw [this] at hcr
            exact hcr
          have hg1 : g = false → n = 1 := (ty_info hty).choose_spec.2.2.1
          obtain ⟨cs, ty, hh, hcs⟩ := box_cells h hb
          have hlen : off + n ≤ cs.toList.length := by have := hcs.size; simp; omega
          have hsub := hcs.sub off n hk.1
          have hu := mkV_rep hsub (g := g) (fun e => by rw [len_sub _ _ _ hk.1]; exact hg1 e)
          refine ⟨_ :: vs, _, step _ _ (mkVal g ((cs.toList.drop off).take n).toArray) _ ?_ hr, hK, cons _ _ _ _ hu hv⟩
          unfold resM
          simp only []
          generalize a.tmps.getD c undef = q at hcr'
          cases hcr'
          simp only [asAddr, Sem.run_bind, Sem.run_pure, Result.andThen_ok]
          refine run_loadVar_cells hty w _ _ (len_sub _ _ _ hlen) (fun j v hj => ?_)
          rw [cell_at hh]
          rw [List.getElem?_take] at hj
          split at hj
          · rw [List.getElem?_drop] at hj; exact hj
          · cases hj
        · exact hk.elim
      · exact hk.elim

theorem oneV_rep {vs : Array Value} {xs : List AV} (h : RepL w M st.r vs xs) : RepA w M st.r (if h : vs.size = 1 then vs[0] else .tuple vs) (oneV xs) := by
  match xs, h with
  | [x], h =>
    have h1 : vs.size = 1 := h.1
    rw [dif_pos h1]
    have := h.2 0 (by simp)
    have e : vs.getD 0 undef = vs[0] := by simp [Array.getD, h1]
    rw [e] at this
    exact this
  | [], h => rw [dif_neg (by rw [h.1]; simp)]; exact .tup _ _ h.1 h.2
  | x :: y :: l, h => rw [dif_neg (by rw [h.1]; simp)]; exact .tup _ _ h.1 h.2

theorem results_run (h : Inv w0 F M st.b st.r w) {a : Act} (ht : Rept w M st.r a.tmps st.t) {fn : Func} {K : List AV → Prop} (hk : resK P st fn.results.toList K) :
    ∃ v xs, (results fn a.tmps).run P w = .ok v w ∧ K xs ∧ RepA w M st.r v (oneV xs) := by
  obtain ⟨vs, xs, hr, hK, hv⟩ := mapM_res h ht _ _ hk
  refine ⟨_, xs, ?_, hK, oneV_rep hv⟩
  have e : ∀ f : ResultVar → Sem Value, fn.results.mapM f = (do pure (← fn.results.toList.mapM f).toArray) := by
    intro f
    rw [Array.mapM_eq_mapM_toList (m := Sem)]
    rfl
  rw [results_eq, e, Sem.run_bind, Sem.run_bind, hr]
  rfl

theorem body_sound (hE : E.Ok P) (hm : P.follows .mixedOrders = true) {f : FuncId} {fn : Func} {c : Code} (hf : P.funcs[f]? = some fn) (hb : fn.body = some c) (hdr : drawsB pl c = true) {b : List (List AV)} {r : List Arr} (hnr : r.length ≤ nrP pl ∨ ∀ i, pl (i + 200000) = []) {vs : Array Value} {args : List AV} {K : Out → List (List AV) → List Arr → Prop}
    (h : Inv w0 F M b r w) (hv : RepL w M r vs args) (hk : bodyK P E pl fn c args b r K) : Calls P f vs w (EndQ w0 F M r w K) := by
  refine calls_of_wp hf hb ?_
  have hat : At (fun a => a.defers = []) w0 F w M r [] ⟨args ++ List.replicate (fn.ntmps - args.length) .undef, b, r⟩ { tmps := vs ++ Array.replicate (fn.ntmps - vs.size) undef, defers := [] } w := by
    refine ⟨M, h, ⟨by simp [hv.1], fun i hi _ => ?_⟩, rfl, .refl _ _ _⟩
    rcases Nat.lt_or_ge i args.length with h1 | h1
    · have e1 : (vs ++ Array.replicate (fn.ntmps - vs.size) undef).getD i undef = vs.getD i undef := by
        have h2 : i < vs.size := by rw [hv.1]; exact h1
        simp [Array.getD, h2, Nat.lt_add_right _ h2, Array.getElem_append_left]
      show RepA w M r ((vs ++ Array.replicate (fn.ntmps - vs.size) undef).getD i undef) ((args ++ _).getD i .undef)
      rw [e1, getD_append_lt _ _ _ _ h1]
      exact hv.2 i h1
    · have e : (args ++ List.replicate (fn.ntmps - args.length) AV.undef).getD i .undef = .undef := by
        simp only [List.getD, List.getElem?_append_right h1, List.getElem?_replicate]
        split <;> rfl
      show RepA w M r _ ((args ++ _).getD i .undef)
      rw [e]
      exact .undef _
  refine Go.wp_mono (evalK_sound hE hm c (keeps_defers [] c) hdr hnr _ _ _ w hat hk) (fun e a' w' hq => ?_)
  have ret : ∀ st, At (fun a => a.defers = []) w0 F w M r [] st a' w' → (resK P st fn.results.toList fun vs => K (.ret (oneV vs)) st.b st.r) → a'.defers = [] ∧ ∃ v, (results fn a'.tmps).run P w' = .ok v w' ∧ EndQ w0 F M r w K (.returned v) w' := by
    intro st hst hres
    obtain ⟨M', hI, hR, hd, hC⟩ := hst
    obtain ⟨v, xs, hr, hK, hv⟩ := results_run hI (a := a') ⟨hR.1, fun i hi => hR.2 i hi (fun p hp => absurd hp (by simp))⟩ hres
    exact ⟨hd, v, hr, _, _, _, M', hK, hI, hC, hv⟩
  cases e with
  | normal =>
    obtain ⟨st, hst, hres⟩ := hq
    exact ret st hst hres
  | ret =>
    obtain ⟨st, hst, hres⟩ := hq
    exact ret st hst hres
  | exit i =>
    obtain ⟨st, hst, hres⟩ := hq
    exact hres.elim
  | panic ch =>
    obtain ⟨st, x, u, rfl, ⟨M', hI, hx, hd, hC⟩, hK⟩ := hq
    exact ⟨hd, x, st.b, st.r, M', u, hK, rfl, hI, hC, hx⟩
  | goto l => exact hq.elim
  | outgrown => exact hq.elim

/-- A body, as what a call of it asks. -/
theorem HOk.ofBody (hE : E.Ok P) (hm : P.follows .mixedOrders = true) {f : FuncId} {fn : Func} {c : Code} (hf : P.funcs[f]? = some fn) (hn : (fn.name == "runtime.NumGoroutine") = false) (hb : fn.body = some c) (hdr : drawsB pl c = true) : HOk P f (fun args b r K => (r.length ≤ nrP pl ∨ ∀ i, pl (i + 200000) = []) ∧ bodyK P E pl fn c args b r K) := by
  intro w0 F M b r w vs args K h hv hk
  exact ⟨enters_of hf hn (by rw [hb]; rfl), body_sound hE hm hf hb hdr hk.1 h hv hk.2⟩

theorem HOk.no (f : FuncId) : HOk P f (fun _ _ _ _ => False) := by
  intro w0 F M b r w vs args K hI hv h
  exact h.elim
theorem HOk.weaken {f : FuncId} {h h' : Handler} (hh : HOk P f h) (k : ∀ args b r K, h' args b r K → h args b r K) : HOk P f h' := by
  intro w0 F M b r w vs args K hI hv hk
  exact hh hI hv (k _ _ _ _ hk)
end
end Go.PE
end

section
/- A call sees only the part of the state that its arguments lead to (see PeQ, PeV): ids, and lists of which some places are renewed. -/
set_option linter.unusedVariables false
set_option linter.unusedSimpArgs false
namespace Go.PE
open Go

def ixOf (i : Nat) : List Nat → Option Nat
  | [] => none
  | j :: l => if j = i then some 0 else match ixOf i l with | some k => some (k + 1) | none => none
theorem ixOf_get {i : Nat} : ∀ {l : List Nat} {k : Nat}, ixOf i l = some k → l[k]? = some i
  | [], _, h => by cases h
  | j :: l, k, h => by
    simp only [ixOf] at h
    split at h
    · rename_i e
      injection h with h
      subst h e
      rfl
    · split at h
      · rename_i k' hk
        injection h with h
        subst h
        simpa using ixOf_get hk
      · cases h
theorem ixOf_none {i : Nat} : ∀ {l : List Nat}, ixOf i l = none → i ∉ l
  | [], _ => by simp
  | j :: l, h => by
    simp only [ixOf] at h
    split at h
    · cases h
    · rename_i e
      split at h
      · cases h
      · rename_i hk
        simp only [List.mem_cons, not_or]
        exact ⟨fun e2 => e e2.symm, ixOf_none hk⟩
def nd : List Nat → Bool
  | [] => true
  | i :: l => (ixOf i l).isNone && nd l
theorem nd_spec : ∀ {l : List Nat}, nd l = true → ∀ {i j k : Nat}, l[i]? = some k → l[j]? = some k → i = j
  | [], _, i, j, k, h, _ => by simp at h
  | x :: l, h, 0, 0, _, _, _ => rfl
  | x :: l, h, 0, j + 1, k, h1, h2 => by
    simp only [nd, Bool.and_eq_true, Option.isNone_iff_eq_none] at h
    simp at h1 h2
    subst h1
    exact absurd (List.mem_of_getElem? h2) (ixOf_none h.1)
  | x :: l, h, i + 1, 0, k, h1, h2 => by
    simp only [nd, Bool.and_eq_true, Option.isNone_iff_eq_none] at h
    simp at h1 h2
    subst h2
    exact absurd (List.mem_of_getElem? h1) (ixOf_none h.1)
  | x :: l, h, i + 1, j + 1, k, h1, h2 => by
    simp only [nd, Bool.and_eq_true] at h
    simp at h1 h2
    rw [nd_spec h.2 h1 h2]

/-- Where place k lies: at its old place, or behind the n old ones. -/
def upI : List Nat → Nat → Nat → Nat
  | [], n, k => n + k
  | i :: _, _, 0 => i
  | _ :: l, n, k + 1 => upI l n k
theorem upI_lt : ∀ {l : List Nat} {k : Nat} (n : Nat) {i : Nat}, l[k]? = some i → upI l n k = i
  | [], k, _, i, h => by simp at h
  | j :: l, 0, _, i, h => by simpa [upI] using h
  | j :: l, k + 1, n, i, h => by simpa [upI] using upI_lt n (by simpa using h)
def mergeL {α : Type} : List Nat → List α → List α → List α
  | [], l, xs => l ++ xs
  | _ :: _, l, [] => l
  | i :: is, l, x :: xs => mergeL is (l.set i x) xs
theorem mergeL_len {α : Type} : ∀ (is : List Nat) (l xs : List α), is.length ≤ xs.length → (mergeL is l xs).length = l.length + (xs.length - is.length)
  | [], l, xs, _ => by simp [mergeL]
  | i :: is, l, [], h => by simp at h
  | i :: is, l, x :: xs, h => by
    simp only [mergeL, List.length_cons]
    rw [mergeL_len is _ xs (by simpa using h)]
    simp
theorem mergeL_other {α : Type} : ∀ (is : List Nat) (l xs : List α) (j : Nat), j ∉ is → j < l.length → (mergeL is l xs)[j]? = l[j]?
  | [], l, xs, j, _, h => by simp [mergeL, List.getElem?_append_left h]
  | i :: is, l, [], j, _, h => by simp [mergeL]
  | i :: is, l, x :: xs, j, hj, h => by
    simp only [List.mem_cons, not_or] at hj
    simp only [mergeL]
    rw [mergeL_other is _ xs j hj.2 (by simpa using h), List.getElem?_set_ne (fun e => hj.1 e.symm)]
theorem mergeL_get {α : Type} : ∀ (is : List Nat) (l xs : List α) (k : Nat), nd is = true → (∀ i ∈ is, i < l.length) → is.length ≤ xs.length → k < xs.length → (mergeL is l xs)[upI is l.length k]? = xs[k]?
  | [], l, xs, k, _, _, _, _ => by
    simp only [mergeL, upI]
    rw [List.getElem?_append_right (by omega)]
    congr 1
    omega
  | i :: is, l, [], k, _, _, _, h => by simp at h
  | i :: is, l, x :: xs, 0, hn, hb, hl, _ => by
    simp only [nd, Bool.and_eq_true, Option.isNone_iff_eq_none] at hn
    have hi := hb i (by simp)
    simp only [mergeL, upI]
    rw [mergeL_other is _ xs i (ixOf_none hn.1) (by simpa using hi)]
    simp [hi]
  | i :: is, l, x :: xs, k + 1, hn, hb, hl, hk => by
    simp only [nd, Bool.and_eq_true] at hn
    simp only [mergeL, upI]
    have := mergeL_get is (l.set i x) xs k hn.2 (fun j hj => by simpa using hb j (by simp [hj])) (by simpa using hl) (by simpa using hk)
    simpa using this
theorem mergeL_class {α : Type} : ∀ (is : List Nat) (l xs : List α) (j : Nat), is.length ≤ xs.length → j < (mergeL is l xs).length → (j ∉ is ∧ j < l.length) ∨ ∃ k, k < xs.length ∧ j = upI is l.length k
  | [], l, xs, j, _, h => by
    simp only [mergeL, List.length_append] at h
    rcases Nat.lt_or_ge j l.length with h1 | h1
    · exact .inl ⟨by simp, h1⟩
    · exact .inr ⟨j - l.length, by omega, by simp only [upI]; omega⟩
  | i :: is, l, [], j, h, _ => by simp at h
  | i :: is, l, x :: xs, j, hl, h => by
    rcases mergeL_class is (l.set i x) xs j (by simpa using hl) h with ⟨h1, h2⟩ | ⟨k, hk, e⟩
    · by_cases e : j = i
      · exact .inr ⟨0, by simp, by simp [upI, e]⟩
      · exact .inl ⟨by simp [e, h1], by simpa using h2⟩
    · exact .inr ⟨k + 1, by simpa using hk, by simpa [upI] using e⟩
def pickL {α : Type} (l : List α) : List Nat → Option (List α)
  | [] => some []
  | i :: is => match l[i]?, pickL l is with
    | some x, some xs => some (x :: xs)
    | _, _ => none
theorem pickL_spec {α : Type} {l : List α} : ∀ {is : List Nat} {xs : List α}, pickL l is = some xs → xs.length = is.length ∧ ∀ (k i : Nat), is[k]? = some i → xs[k]? = l[i]? ∧ i < l.length
  | [], xs, h => by
    injection h with h
    subst h
    exact ⟨rfl, fun k i h => by simp at h⟩
  | j :: is, xs, h => by
    simp only [pickL] at h
    split at h
    · rename_i x xs' hx hxs
      injection h with h
      subst h
      obtain ⟨h1, h2⟩ := pickL_spec hxs
      refine ⟨by simp [h1], fun k i hk => ?_⟩
      cases k with
      | zero =>
        simp at hk
        subst hk
        exact ⟨by simp [hx], (List.getElem?_eq_some_iff.1 hx).1⟩
      | succ k => simpa using h2 k i (by simpa using hk)
    · cases h

/-! ### ids -/
mutual
def low (bs rs : List Nat) : AV → Option AV
  | .undef => some .undef
  | .d x => some (.d x)
  | .nilS => some .nilS
  | .full es => some (.full es)
  | .cptr cs => some (.cptr cs)
  | .ptr i o => match ixOf i bs with | some k => some (.ptr k o) | none => none
  | .bsl i o => match ixOf i bs with | some k => some (.bsl k o) | none => none
  | .arr i n => match ixOf i rs with | some k => some (.arr k n) | none => none
  | .eptr i n j o => match ixOf i rs with | some k => some (.eptr k n j o) | none => none
  | .agg cs => match lowL bs rs cs with | some l => some (.agg l) | none => none
  | .tup cs => match lowL bs rs cs with | some l => some (.tup l) | none => none
  | .iface t x => match low bs rs x with | some y => some (.iface t y) | none => none
  | .fn f a c => match lowL bs rs a, lowL bs rs c with | some a, some c => some (.fn f a c) | _, _ => none
def lowL (bs rs : List Nat) : List AV → Option (List AV)
  | [] => some []
  | x :: l => match low bs rs x, lowL bs rs l with | some y, some m => some (y :: m) | _, _ => none
end
mutual
def ptrIds : AV → List Nat
  | .ptr i _ => [i]
  | .bsl i _ => [i]
  | .full _ => []
  | .agg cs => ptrIdsL cs
  | .tup cs => ptrIdsL cs
  | .iface _ x => ptrIds x
  | .fn _ a c => ptrIdsL a ++ ptrIdsL c
  | .undef => []
  | .d _ => []
  | .nilS => []
  | .cptr _ => []
  | .arr _ _ => []
  | .eptr _ _ _ _ => []
def ptrIdsL : List AV → List Nat
  | [] => []
  | x :: l => ptrIds x ++ ptrIdsL l
end
mutual
def rowIds : AV → List Nat
  | .ptr _ _ => []
  | .bsl _ _ => []
  | .full _ => []
  | .agg cs => rowIdsL cs
  | .tup cs => rowIdsL cs
  | .iface _ x => rowIds x
  | .fn _ a c => rowIdsL a ++ rowIdsL c
  | .undef => []
  | .d _ => []
  | .nilS => []
  | .cptr _ => []
  | .arr i _ => [i]
  | .eptr i _ _ _ => [i]
def rowIdsL : List AV → List Nat
  | [] => []
  | x :: l => rowIds x ++ rowIdsL l
end
def uni : List Nat → List Nat → List Nat
  | acc, [] => acc
  | acc, i :: l => uni (match ixOf i acc with | some _ => acc | none => acc ++ [i]) l
/-- The boxes that a call is led to. -/
def seeC (b : List (List AV)) : List Nat → List Nat → List Nat
  | [], acc => acc
  | i :: l, acc => seeC b l (uni acc (ptrIdsL (b.getD i [])))
def seeL (b : List (List AV)) (l : List Nat) : List Nat := seeC b l l
def seeB (b : List (List AV)) (args : List AV) : List Nat := seeL b (seeL b (uni [] (ptrIdsL args)))
/-- The rows that it is led to. -/
def seeD (b : List (List AV)) : List Nat → List Nat → List Nat
  | [], acc => acc
  | i :: l, acc => seeD b l (uni acc (rowIdsL (b.getD i [])))
def seeR (b : List (List AV)) (bs : List Nat) (args : List AV) : List Nat := seeD b bs (uni [] (rowIdsL args))
def lowB (bs rs : List Nat) : List (List AV) → Option (List (List AV))
  | [] => some []
  | c :: l => match lowL bs rs c, lowB bs rs l with | some y, some m => some (y :: m) | _, _ => none
mutual
def up (bs : List Nat) (nb : Nat) (rs : List Nat) (nr : Nat) : AV → AV
  | .undef => .undef
  | .d x => .d x
  | .nilS => .nilS
  | .full es => .full es
  | .cptr cs => .cptr cs
  | .ptr i o => .ptr (upI bs nb i) o
  | .bsl i o => .bsl (upI bs nb i) o
  | .arr i n => .arr (upI rs nr i) n
  | .eptr i n j o => .eptr (upI rs nr i) n j o
  | .agg cs => .agg (upL bs nb rs nr cs)
  | .tup cs => .tup (upL bs nb rs nr cs)
  | .iface t x => .iface t (up bs nb rs nr x)
  | .fn f a c => .fn f (upL bs nb rs nr a) (upL bs nb rs nr c)
def upL (bs : List Nat) (nb : Nat) (rs : List Nat) (nr : Nat) : List AV → List AV
  | [] => []
  | x :: l => up bs nb rs nr x :: upL bs nb rs nr l
end
def upB (bs : List Nat) (nb : Nat) (rs : List Nat) (nr : Nat) : List (List AV) → List (List AV)
  | [] => []
  | c :: l => upL bs nb rs nr c :: upB bs nb rs nr l
theorem lowL_spec {bs rs : List Nat} : ∀ {l m : List AV}, lowL bs rs l = some m → m.length = l.length ∧ ∀ i, i < l.length → low bs rs (l.getD i .undef) = some (m.getD i .undef)
  | [], m, h => by
    simp only [lowL] at h
    injection h with h
    subst h
    exact ⟨rfl, fun i hi => absurd hi (by simp)⟩
  | x :: l, m, h => by
    simp only [lowL] at h
    split at h
    · rename_i y m' hy hm
      injection h with h
      subst h
      obtain ⟨h1, h2⟩ := lowL_spec hm
      refine ⟨by simp [h1], fun i hi => ?_⟩
      cases i with
      | zero => simpa using hy
      | succ i => simpa using h2 i (by simpa using hi)
    · cases h
theorem lowB_spec {bs rs : List Nat} : ∀ {l m : List (List AV)}, lowB bs rs l = some m → m.length = l.length ∧ ∀ (i : Nat) (d : List AV), m[i]? = some d → ∃ c, l[i]? = some c ∧ lowL bs rs c = some d
  | [], m, h => by
    injection h with h
    subst h
    exact ⟨rfl, fun i d hi => by simp at hi⟩
  | c :: l, m, h => by
    simp only [lowB] at h
    split at h
    · rename_i y m' hy hm
      injection h with h
      subst h
      obtain ⟨h1, h2⟩ := lowB_spec hm
      refine ⟨by simp [h1], fun i d hi => ?_⟩
      cases i with
      | zero =>
        simp at hi
        subst hi
        exact ⟨c, rfl, hy⟩
      | succ i => simpa using h2 i d (by simpa using hi)
    · cases h
theorem upL_spec {bs rs : List Nat} {nb nr : Nat} : ∀ {l : List AV}, (upL bs nb rs nr l).length = l.length ∧ ∀ i, i < l.length → (upL bs nb rs nr l).getD i .undef = up bs nb rs nr (l.getD i .undef)
  | [] => ⟨rfl, fun i hi => absurd hi (by simp)⟩
  | x :: l => by
    obtain ⟨h1, h2⟩ := upL_spec (bs := bs) (rs := rs) (nb := nb) (nr := nr) (l := l)
    refine ⟨by simp [upL, h1], fun i hi => ?_⟩
    cases i with
    | zero => simp [upL]
    | succ i => simpa [upL] using h2 i (by simpa using hi)
theorem upB_spec {bs rs : List Nat} {nb nr : Nat} : ∀ {l : List (List AV)}, (upB bs nb rs nr l).length = l.length ∧ ∀ (i : Nat) (d : List AV), (upB bs nb rs nr l)[i]? = some d → ∃ c, l[i]? = some c ∧ d = upL bs nb rs nr c
  | [] => ⟨rfl, fun i d hi => by simp [upB] at hi⟩
  | c :: l => by
    obtain ⟨h1, h2⟩ := upB_spec (bs := bs) (rs := rs) (nb := nb) (nr := nr) (l := l)
    refine ⟨by simp [upB, h1], fun i d hi => ?_⟩
    cases i with
    | zero =>
      simp [upB] at hi
      exact ⟨c, rfl, hi.symm⟩
    | succ i => simpa [upB] using h2 i d (by simpa [upB] using hi)

theorem low_rep {w : World} {M M0 : Mem} {r r0 : List Arr} {bs rs : List Nat} (hb : ∀ i k, ixOf i bs = some k → k < M0.bb.length ∧ M0.blk k = M.blk i) (hr : ∀ i k, ixOf i rs = some k → r0[k]? = r[i]? ∧ M0.row k = M.row i)
    (ho : ∀ a, Okc M r a → Okc M0 r0 a) {v : Value} {x : AV} (h : RepA w M r v x) : ∀ y, low bs rs x = some y → RepA w M0 r0 v y := by
  have hd : ∀ {v : Value} {x : D}, Rep w (Okc M r) v x → Rep w (Okc M0 r0) v x := fun h => h.mono fun a u h1 h2 => ⟨h2, ho a h1⟩
  have hl : ∀ {vs : Array Value} {cs : List AV} {ds : List AV}, (∀ i, i < cs.length → ∀ y, low bs rs (cs.getD i .undef) = some y → RepA w M0 r0 (vs.getD i undef) y) → lowL bs rs cs = some ds →
      ds.length = cs.length ∧ ∀ i, i < ds.length → RepA w M0 r0 (vs.getD i undef) (ds.getD i .undef) := by
    intro vs cs ds h1 h2
    obtain ⟨h3, h4⟩ := lowL_spec h2
    exact ⟨h3, fun i hi => h1 i (by omega) _ (h4 i (by omega))⟩
  induction h with
  | undef v => intro y hy; simp only [low, Option.some.injEq] at hy; subst hy; exact .undef v
  | d v x h => intro y hy; simp only [low, Option.some.injEq] at hy; subst hy; exact .d v x (hd h)
  | agg vs cs hs h1 _ ih =>
    intro y hy
    simp only [low] at hy
    split at hy
    · rename_i l hlw
      injection hy with hy
      subst hy
      obtain ⟨h3, h4⟩ := hl ih hlw
      exact .agg vs l (by omega) (fun i hi => h1 i (by omega)) h4
    · cases hy
  | nilS => intro y hy; simp only [low, Option.some.injEq] at hy; subst hy; exact .nilS
  | arr v id n h1 h =>
    intro y hy
    simp only [low] at hy
    split at hy
    · rename_i k hk
      injection hy with hy
      subst hy
      obtain ⟨A, e, h2, h3⟩ := h
      obtain ⟨e1, e2⟩ := hr _ _ hk
      exact .arr v k n h1 ⟨A, by rw [e1]; exact e, h2, fun e3 => by rw [e2]; exact h3 e3⟩
    · cases hy
  | ptr id off h =>
    intro y hy
    simp only [low] at hy
    split at hy
    · rename_i k hk
      injection hy with hy
      subst hy
      obtain ⟨e1, e2⟩ := hb _ _ hk
      rw [← e2]
      exact .ptr k off e1
    · cases hy
  | bsl id n h hn =>
    intro y hy
    simp only [low] at hy
    split at hy
    · rename_i k hk
      injection hy with hy
      subst hy
      obtain ⟨e1, e2⟩ := hb _ _ hk
      rw [← e2]
      exact .bsl k n e1 hn
    · cases hy
  | full A n es h => intro y hy; simp only [low, Option.some.injEq] at hy; subst hy; exact .full A n es (hd h)
  | cptr a cs f hsp hcell h1 h =>
    intro y hy
    simp only [low, Option.some.injEq] at hy
    subst hy
    exact .cptr a cs f hsp (fun j hj => ⟨(hcell j hj).1, ho _ (hcell j hj).2⟩) h1 (fun j hj => hd (h j hj))
  | eptr v id n i off h1 h =>
    intro y hy
    simp only [low] at hy
    split at hy
    · rename_i k hk
      injection hy with hy
      subst hy
      obtain ⟨A, e, h2, h3⟩ := h
      obtain ⟨e1, e2⟩ := hr _ _ hk
      exact .eptr v k n i off h1 ⟨A, by rw [e1]; exact e, h2, fun e3 => by rw [e2]; exact h3 e3⟩
    · cases hy
  | tup vs cs hs _ ih =>
    intro y hy
    simp only [low] at hy
    split at hy
    · rename_i l hlw
      injection hy with hy
      subst hy
      obtain ⟨h3, h4⟩ := hl ih hlw
      exact .tup vs l (by omega) h4
    · cases hy
  | iface t v x _ ih =>
    intro y hy
    simp only [low] at hy
    split at hy
    · rename_i z hz
      injection hy with hy
      subst hy
      exact .iface t v z (ih z hz)
    · cases hy
  | fn f vs us cs ds hs hs' _ _ ih ih' =>
    intro y hy
    simp only [low] at hy
    split at hy
    · rename_i a c ha hc
      injection hy with hy
      subst hy
      obtain ⟨h3, h4⟩ := hl ih ha
      obtain ⟨h5, h6⟩ := hl ih' hc
      exact .fn f vs us a c (by omega) (by omega) h4 h6
    · cases hy

def upE (rs : List Nat) (nr : Nat) : List D → List D
  | [.ref id n] => [.ref (upI rs nr id) n]
  | e => e
def upA (rs : List Nat) (nr : Nat) (A : Arr) : Arr := if A.sz = 0 then { A with es := A.es.map (upE rs nr) } else A
def upR (rs : List Nat) (nr : Nat) : List Arr → List Arr
  | [] => []
  | A :: l => upA rs nr A :: upR rs nr l
theorem upR_len {rs : List Nat} {nr : Nat} : ∀ {l : List Arr}, (upR rs nr l).length = l.length
  | [] => rfl
  | A :: l => by simp [upR, upR_len (l := l)]
theorem upR_get {rs : List Nat} {nr : Nat} : ∀ {l : List Arr} (k : Nat), (upR rs nr l)[k]? = (l[k]?).map (upA rs nr)
  | [], k => by simp [upR]
  | A :: l, 0 => by simp [upR]
  | A :: l, k + 1 => by simpa [upR] using upR_get (l := l) k
section
variable {rs : List Nat} {nr : Nat} {A : Arr}
theorem upA_sz : (upA rs nr A).sz = A.sz := by unfold upA; split <;> rfl
theorem upA_w : (upA rs nr A).w = A.w := by unfold Arr.w; rw [upA_sz]
theorem upA_sh : (upA rs nr A).sh = A.sh := by unfold upA; split <;> rfl
theorem upA_ety : (upA rs nr A).ety = A.ety := by unfold upA; split <;> rfl
theorem upA_len : (upA rs nr A).es.length = A.es.length := by unfold upA; split <;> simp
theorem upE_len (e : List D) : (upE rs nr e).length = e.length := by
  unfold upE
  split <;> rfl
theorem upA_mem {e : List D} (h : e ∈ (upA rs nr A).es) : ∃ e0 ∈ A.es, e.length = e0.length := by
  unfold upA at h
  split at h
  · obtain ⟨e0, h0, rfl⟩ := List.mem_map.1 h
    exact ⟨e0, h0, upE_len e0⟩
  · exact ⟨e, h, rfl⟩
theorem Rep.not_ref {w : World} {ok : Addr → Prop} {v : Value} {id n : Nat} : ¬ Rep w ok v (.ref id n) := fun h => by cases h
theorem upE_ref (id n : Nat) : upE rs nr [.ref id n] = [.ref (upI rs nr id) n] := rfl
theorem upE_data {d : D} (h : ∀ id n, d ≠ .ref id n) : upE rs nr [d] = [d] := by
  unfold upE
  split
  · rename_i id n e
    injection e with e _
    exact absurd e (h id n)
  · rfl
theorem upA_cell {k : Nat} (hk : k < A.es.length) : (upA rs nr A).es.getD k [] = if A.sz = 0 then upE rs nr (A.es.getD k []) else A.es.getD k [] := by
  unfold upA
  split
  · simp [List.getD, hk]
  · rfl
end

theorem up_rep {w : World} {M M1 : Mem} {r r1 : List Arr} {bs rs : List Nat} {nb nr : Nat} (hb : ∀ k, k < M1.bb.length → upI bs nb k < M.bb.length ∧ M.blk (upI bs nb k) = M1.blk k)
    (hr : ∀ k A, r1[k]? = some A → r[upI rs nr k]? = some (upA rs nr A) ∧ M.row (upI rs nr k) = M1.row k)
    (ho : ∀ a, Okc M1 r1 a → Okc M r a) {v : Value} {x : AV} (h : RepA w M1 r1 v x) : RepA w M r v (up bs nb rs nr x) := by
  have hd : ∀ {v : Value} {x : D}, Rep w (Okc M1 r1) v x → Rep w (Okc M r) v x := fun h => h.mono fun a u h1 h2 => ⟨h2, ho a h1⟩
  have hl : ∀ {vs : Array Value} {cs : List AV}, (∀ i, i < cs.length → RepA w M r (vs.getD i undef) (up bs nb rs nr (cs.getD i .undef))) →
      ∀ i, i < (upL bs nb rs nr cs).length → RepA w M r (vs.getD i undef) ((upL bs nb rs nr cs).getD i .undef) := by
    intro vs cs h1 i hi
    rw [upL_spec.1] at hi
    rw [upL_spec.2 i hi]
    exact h1 i hi
  induction h with
  | undef v => exact .undef v
  | d v x h => exact .d v x (hd h)
  | agg vs cs hs h1 _ ih => exact .agg vs _ (by rw [upL_spec.1]; exact hs) (fun i hi => h1 i (by rwa [upL_spec.1] at hi)) (hl ih)
  | nilS => exact .nilS
  | arr v id n h1 h =>
    obtain ⟨A, e, h2, h3⟩ := h
    obtain ⟨e1, e2⟩ := hr _ _ e
    exact .arr v _ n h1 ⟨_, e1, by rw [upA_len]; exact h2, fun e3 => by rw [e2]; exact h3 (by rwa [upA_len] at e3)⟩
  | ptr id off h =>
    obtain ⟨e1, e2⟩ := hb _ h
    rw [← e2]
    exact .ptr _ off e1
  | bsl id n h hn =>
    obtain ⟨e1, e2⟩ := hb _ h
    rw [← e2]
    exact .bsl _ n e1 hn
  | full A n es h => exact .full A n es (hd h)
  | cptr a cs f hsp hcell h1 h => exact .cptr a cs f hsp (fun j hj => ⟨(hcell j hj).1, ho _ (hcell j hj).2⟩) h1 (fun j hj => hd (h j hj))
  | eptr v id n i off h1 h =>
    obtain ⟨A, e, h2, h3⟩ := h
    obtain ⟨e1, e2⟩ := hr _ _ e
    exact .eptr v _ n i off h1 ⟨_, e1, by rw [upA_len]; exact h2, fun e3 => by rw [e2, upA_w]; exact h3 (by rwa [upA_len] at e3)⟩
  | tup vs cs hs _ ih => exact .tup vs _ (by rw [upL_spec.1]; exact hs) (hl ih)
  | iface t v x _ ih => exact .iface t v _ ih
  | fn f vs us cs ds hs hs' _ _ ih ih' => exact .fn f vs us _ _ (by rw [upL_spec.1]; exact hs) (by rw [upL_spec.1]; exact hs') (hl ih) (hl ih')
end Go.PE
end

section
/- A call sees only the part of the state that its arguments lead to: the law. -/
set_option linter.unusedVariables false
set_option linter.unusedSimpArgs false
namespace Go.PE
open Go

def partF (M : Mem) (bs rs : List Nat) : List Nat := bs.map M.blk ++ rs.filterMap fun j => (M.row j).ownBlock
def partNo (w : World) (M : Mem) (r : List Arr) (bs rs : List Nat) : Addr → Prop := fun a => a.block < w.heap.size ∧ a.block ∉ partF M bs rs ∧ ¬ Okc M r a
def Mem.part (M : Mem) (no : Addr → Prop) (bs rs : List Nat) : Mem := ⟨bs.map M.blk, rs.map M.row, no⟩

theorem mem_partF {M : Mem} {bs rs : List Nat} {g : Nat} : g ∈ partF M bs rs ↔ (∃ i ∈ bs, M.blk i = g) ∨ ∃ j ∈ rs, (M.row j).ownBlock = some g := by
  simp [partF]
theorem part_blk {M : Mem} {no : Addr → Prop} {bs rs : List Nat} {k i : Nat} (h : bs[k]? = some i) : (M.part no bs rs).blk k = M.blk i := by
  simp [Mem.part, Mem.blk, List.getD, h]
theorem part_row {M : Mem} {no : Addr → Prop} {bs rs : List Nat} {k i : Nat} (h : rs[k]? = some i) : (M.part no bs rs).row k = M.row i := by
  simp [Mem.part, Mem.row, List.getD, h]
theorem part_row_own {M : Mem} {no : Addr → Prop} {bs rs : List Nat} {k g : Nat} (h : ((M.part no bs rs).row k).ownBlock = some g) : ∃ i, rs[k]? = some i ∧ (M.row i).ownBlock = some g := by
  have hl := row_len h
  have hl : k < rs.length := by simpa [Mem.part] using hl
  refine ⟨rs[k], List.getElem?_eq_getElem hl, ?_⟩
  rw [part_row (List.getElem?_eq_getElem hl)] at h
  exact h

section
variable {w0 : World} {F : List Nat} {M : Mem} {b : List (List AV)} {r : List Arr} {w : World} {bs rs : List Nat} {c b0 : List (List AV)} {r0 : List Arr}

theorem part_okc (e4 : pickL r rs = some r0) (hb : ∀ i ∈ bs, i < M.bb.length) {a : Addr} (h : Okc M r a) : Okc (M.part (partNo w M r bs rs) bs rs) r0 a := by
  refine ⟨⟨fun k hk => ?_, fun hn => hn.2.2 h⟩, fun k A hk hbk => ?_⟩
  · have hk' : k < bs.length := by simpa [Mem.part] using hk
    rw [part_blk (List.getElem?_eq_getElem hk')]
    exact h.1.1 _ (hb _ (List.getElem_mem hk'))
  · obtain ⟨i, hi, hg⟩ := part_row_own hbk
    obtain ⟨_, h2⟩ := pickL_spec e4
    rw [(h2 k i hi).1] at hk
    rw [part_row hi]
    exact h.2 i A hk hg

theorem part_rep (h : Inv w0 F M b r w) (e4 : pickL r rs = some r0) (hb : ∀ i ∈ bs, i < M.bb.length) {v : Value} {x y : AV} (hv : RepA w M r v x) (hy : low bs rs x = some y) : RepA w (M.part (partNo w M r bs rs) bs rs) r0 v y := by
  refine low_rep (fun i k hk => ?_) (fun i k hk => ?_) (fun a ha => part_okc e4 hb ha) hv y hy
  · have hk := ixOf_get hk
    exact ⟨by simp [Mem.part, (List.getElem?_eq_some_iff.1 hk).1], part_blk hk⟩
  · have hk := ixOf_get hk
    obtain ⟨_, h2⟩ := pickL_spec e4
    exact ⟨(h2 k i hk).1, part_row hk⟩

def flatR : List Arr → Bool
  | [] => true
  | A :: l => if A.sz = 0 then false else flatR l
theorem flatR_get : ∀ {r : List Arr} {k : Nat} {A : Arr}, flatR r = true → r[k]? = some A → A.sz ≠ 0
  | [], k, A, _, h => by simp at h
  | B :: l, 0, A, hf, h => by
    simp only [List.getElem?_cons_zero, Option.some.injEq] at h
    subst h
    intro h0
    simp [flatR, h0] at hf
  | B :: l, k + 1, A, hf, h => by
    have : flatR l = true := by
      unfold flatR at hf
      split at hf
      · cases hf
      · exact hf
    exact flatR_get this (by simpa using h)
theorem part_inv (h : Inv w0 F M b r w) (fl : flatR r0 = true) (nb : nd bs = true) (nr : nd rs = true) (e2 : pickL b bs = some c) (e3 : lowB bs rs c = some b0) (e4 : pickL r rs = some r0) :
    Inv w (partF M bs rs) (M.part (partNo w M r bs rs) bs rs) b0 r0 w := by
  obtain ⟨l2, s2⟩ := pickL_spec e2
  obtain ⟨l3, s3⟩ := lowB_spec e3
  obtain ⟨l4, s4⟩ := pickL_spec e4
  have hb : ∀ i ∈ bs, i < M.bb.length := by
    intro i hi
    obtain ⟨k, hk, e⟩ := List.mem_iff_getElem.1 hi
    rw [h.lb]
    exact (s2 k i (by rw [List.getElem?_eq_getElem hk, e])).2
  have hr : ∀ i ∈ rs, i < M.av.length := by
    intro i hi
    obtain ⟨k, hk, e⟩ := List.mem_iff_getElem.1 hi
    rw [h.lr]
    exact (s4 k i (by rw [List.getElem?_eq_getElem hk, e])).2
  have bsl : ∀ k, k < (M.part (partNo w M r bs rs) bs rs).bb.length → ∃ i, bs[k]? = some i ∧ i ∈ bs := by
    intro k hk
    have hk' : k < bs.length := by simpa [Mem.part] using hk
    exact ⟨bs[k], List.getElem?_eq_getElem hk', List.getElem_mem hk'⟩
  refine ⟨.refl _ _, by simp [Mem.part, l2, l3], by simp [Mem.part, l4], fun k cells hk => ?_, fun k A hk => ?_, fun k hk => ?_, fun k g hg => ?_, fun k j hk hj e => ?_, fun k j g hk hj e1 e2 => ?_, fun k j hk e => ?_, fun a ha => ⟨ha.1, fun k e => ?_⟩⟩
  · obtain ⟨d, hd, hlow⟩ := s3 k cells hk
    have hkc := (List.getElem?_eq_some_iff.1 hd).1
    obtain ⟨i, hi, hm⟩ := bsl k (by simp [Mem.part]; omega)
    rw [(s2 k i hi).1] at hd
    obtain ⟨cs, ty, hh, hs, h1, h2⟩ := h.box i d hd
    obtain ⟨hl, hlo⟩ := lowL_spec hlow
    rw [part_blk hi]
    exact ⟨cs, ty, hh, by omega, fun j hj => h1 j (by omega), fun j hj => part_rep h e4 hb (h2 j (by omega)) (hlo j (by omega))⟩
  · have hkl : k < rs.length := by rw [← l4]; exact (List.getElem?_eq_some_iff.1 hk).1
    have hi := List.getElem?_eq_getElem hkl
    have hnl := flatR_get fl hk
    rw [(s4 k _ hi).1] at hk
    obtain ⟨hz, he, xs, ho, h1, h2⟩ := h.row _ A hk
    rw [part_row hi]
    exact ⟨hz, he, xs, ho, h1, fun k' j hk' hj => .inl (((h2 k' j hk' hj).data hnl).mono fun a u h1 h2 => ⟨h2, part_okc e4 hb h1⟩)⟩
  · obtain ⟨i, hi, hm⟩ := bsl k hk
    rw [part_blk hi]
    exact .inl (mem_partF.2 (.inl ⟨i, hm, rfl⟩))
  · obtain ⟨i, hi, hg'⟩ := part_row_own hg
    exact .inl (mem_partF.2 (.inr ⟨i, List.mem_of_getElem? hi, hg'⟩))
  · obtain ⟨i, hi, hm⟩ := bsl k hk
    obtain ⟨i', hi', hm'⟩ := bsl j hj
    rw [part_blk hi, part_blk hi'] at e
    have := h.dbb i i' (hb i hm) (hb i' hm') e
    subst this
    exact nd_spec nb hi hi'
  · obtain ⟨i, hi, hg⟩ := part_row_own e1
    obtain ⟨i', hi', hg'⟩ := part_row_own e2
    have := h.drr i i' g (hr i (List.mem_of_getElem? hi)) (hr i' (List.mem_of_getElem? hi')) hg hg'
    subst this
    exact nd_spec nr hi hi'
  · obtain ⟨i, hi, hm⟩ := bsl k hk
    obtain ⟨i', hi', hg'⟩ := part_row_own e
    rw [part_blk hi] at hg'
    exact h.dbr i i' (hb i hm) hg'
  · obtain ⟨i, hi, hg⟩ := part_row_own e
    exact ha.2.1 (mem_partF.2 (.inr ⟨i, List.mem_of_getElem? hi, hg⟩))

/-- What the part has become, put back. -/
def Mem.back (M M1 : Mem) (bs rs : List Nat) : Mem := ⟨mergeL bs M.bb M1.bb, mergeL rs M.av M1.av, M.no⟩

theorem part_back (h : Inv w0 F M b r w) {r1 : List Arr} (fl0 : flatR r0 = true) (nb : nd bs = true) (nr : nd rs = true) (e2 : pickL b bs = some c) (e3 : lowB bs rs c = some b0) (e4 : pickL r rs = some r0)
    {M1 : Mem} {b1 : List (List AV)} {w' : World} (hI : Inv w (partF M bs rs) M1 b1 r1 w') (hC : Chg w (M.part (partNo w M r bs rs) bs rs) r0 w' M1 r1) :
    Inv w0 F (M.back M1 bs rs) (mergeL bs b (upB bs b.length rs r.length b1)) (mergeL rs r (upR rs r.length r1)) w' ∧
    Chg w M r w' (M.back M1 bs rs) (mergeL rs r (upR rs r.length r1)) ∧
    ∀ v x, RepA w' M1 r1 v x → RepA w' (M.back M1 bs rs) (mergeL rs r (upR rs r.length r1)) v (up bs b.length rs r.length x) := by
  obtain ⟨l2, s2⟩ := pickL_spec e2
  obtain ⟨l3, s3⟩ := lowB_spec e3
  obtain ⟨l4, s4⟩ := pickL_spec e4
  have h0 := part_inv h fl0 nb nr e2 e3 e4
  have hbm : ∀ i ∈ bs, i < M.bb.length := by
    intro i hi
    obtain ⟨k, hk, e⟩ := List.mem_iff_getElem.1 hi
    rw [h.lb]
    exact (s2 k i (by rw [List.getElem?_eq_getElem hk, e])).2
  have hrm : ∀ i ∈ rs, i < M.av.length := by
    intro i hi
    obtain ⟨k, hk, e⟩ := List.mem_iff_getElem.1 hi
    rw [h.lr]
    exact (s4 k i (by rw [List.getElem?_eq_getElem hk, e])).2
  have hlb1 : bs.length ≤ M1.bb.length := by
    have := hC.lb
    simpa [Mem.part] using this
  have hlr1 : rs.length ≤ M1.av.length := by
    rw [hI.lr]
    rcases Nat.eq_zero_or_pos rs.length with e | e
    · omega
    · obtain ⟨A', hA', _⟩ := hC.row (r0.length - 1) _ (List.getElem?_eq_getElem (by omega))
      have := (List.getElem?_eq_some_iff.1 hA').1
      omega
  -- blocks
  have blkO : ∀ j, j ∉ bs → j < M.bb.length → (M.back M1 bs rs).blk j = M.blk j := by
    intro j h1 h2
    simp only [Mem.back, Mem.blk, List.getD, mergeL_other bs M.bb M1.bb j h1 h2]
  have blkN : ∀ k, k < M1.bb.length → (M.back M1 bs rs).blk (upI bs b.length k) = M1.blk k := by
    intro k hk
    simp only [Mem.back, Mem.blk, List.getD]
    rw [← h.lb, mergeL_get bs M.bb M1.bb k nb hbm hlb1 hk]
  have lenB : (M.back M1 bs rs).bb.length = M.bb.length + (M1.bb.length - bs.length) := mergeL_len bs M.bb M1.bb hlb1
  have upB_lt : ∀ k, k < M1.bb.length → upI bs b.length k < (M.back M1 bs rs).bb.length := by
    intro k hk
    have := mergeL_get bs M.bb M1.bb k nb hbm hlb1 hk
    rw [List.getElem?_eq_getElem hk] at this
    rw [← h.lb]
    exact (List.getElem?_eq_some_iff.1 this).1
  have clB : ∀ j, j < (M.back M1 bs rs).bb.length → (j ∉ bs ∧ j < M.bb.length ∧ (M.back M1 bs rs).blk j = M.blk j) ∨ ∃ k, k < M1.bb.length ∧ j = upI bs b.length k ∧ (M.back M1 bs rs).blk j = M1.blk k := by
    intro j hj
    rcases mergeL_class bs M.bb M1.bb j hlb1 hj with ⟨h1, h2⟩ | ⟨k, h1, h2⟩
    · exact .inl ⟨h1, h2, blkO j h1 h2⟩
    · rw [h.lb] at h2
      exact .inr ⟨k, h1, h2, by rw [h2]; exact blkN k h1⟩
  -- rows
  have rowO : ∀ j, j ∉ rs → j < M.av.length → (M.back M1 bs rs).row j = M.row j := by
    intro j h1 h2
    simp only [Mem.back, Mem.row, List.getD, mergeL_other rs M.av M1.av j h1 h2]
  have rowN : ∀ k, k < M1.av.length → (M.back M1 bs rs).row (upI rs r.length k) = M1.row k := by
    intro k hk
    simp only [Mem.back, Mem.row, List.getD]
    rw [← h.lr, mergeL_get rs M.av M1.av k nr hrm hlr1 hk]
  have lenR : (M.back M1 bs rs).av.length = M.av.length + (M1.av.length - rs.length) := mergeL_len rs M.av M1.av hlr1
  have clR : ∀ j, j < (M.back M1 bs rs).av.length → (j ∉ rs ∧ j < M.av.length ∧ (M.back M1 bs rs).row j = M.row j) ∨ ∃ k, k < M1.av.length ∧ j = upI rs r.length k ∧ (M.back M1 bs rs).row j = M1.row k := by
    intro j hj
    rcases mergeL_class rs M.av M1.av j hlr1 hj with ⟨h1, h2⟩ | ⟨k, h1, h2⟩
    · exact .inl ⟨h1, h2, rowO j h1 h2⟩
    · rw [h.lr] at h2
      exact .inr ⟨k, h1, h2, by rw [h2]; exact rowN k h1⟩
  have rO : ∀ j, j ∉ rs → j < r.length → (mergeL rs r (upR rs r.length r1))[j]? = r[j]? := mergeL_other rs r (upR rs r.length r1)
  have rN : ∀ k, k < r1.length → (mergeL rs r (upR rs r.length r1))[upI rs r.length k]? = (r1[k]?).map (upA rs r.length) := fun k hk => by
    rw [mergeL_get rs r (upR rs r.length r1) k nr (fun i hi => by rw [← h.lr]; exact hrm i hi) (by rw [upR_len, ← hI.lr]; exact hlr1) (by rw [upR_len]; exact hk), upR_get]
  -- blocks of the part are its own, or new; all others' are neither
  have FF : ∀ g, g ∈ partF M bs rs → g ∈ F ∨ w0.heap.size ≤ g := by
    intro g hg
    rcases mem_partF.1 hg with ⟨i, hi, rfl⟩ | ⟨j, hj, hg⟩
    · exact h.fb i (hbm i hi)
    · exact h.fr j g hg
  have FS : ∀ g, g ∈ partF M bs rs ∨ w.heap.size ≤ g → g ∈ F ∨ w0.heap.size ≤ g := by
    intro g hg
    rcases hg with hg | hg
    · exact FF g hg
    · have := h.keep.size
      exact .inr (by omega)
  have nB : ∀ j, j ∉ bs → j < M.bb.length → ¬ (M.blk j ∈ partF M bs rs ∨ w.heap.size ≤ M.blk j) := by
    intro j h1 h2 h3
    rcases h3 with h3 | h3
    · rcases mem_partF.1 h3 with ⟨i, hi, e⟩ | ⟨i, hi, e⟩
      · have := h.dbb i j (hbm i hi) h2 e
        subst this
        exact h1 hi
      · exact h.dbr j i h2 e
    · have := h.box_lt h2
      omega
  have nR : ∀ j g, j ∉ rs → (M.row j).ownBlock = some g → ¬ (g ∈ partF M bs rs ∨ w.heap.size ≤ g) := by
    intro j g h1 h2 h3
    rcases h3 with h3 | h3
    · rcases mem_partF.1 h3 with ⟨i, hi, e⟩ | ⟨i, hi, e⟩
      · subst e
        exact h.dbr i j (hbm i hi) h2
      · have := h.drr i j g (hrm i hi) (row_len h2) e h2
        subst this
        exact h1 hi
    · have := h.row_lt h2
      omega
  have sB : ∀ k, k < M1.bb.length → M1.blk k ∈ partF M bs rs ∨ w.heap.size ≤ M1.blk k := hI.fb
  have sR : ∀ k g, (M1.row k).ownBlock = some g → g ∈ partF M bs rs ∨ w.heap.size ≤ g := hI.fr
  have oldB : ∀ i ∈ bs, ∃ k, k < M1.bb.length ∧ M1.blk k = M.blk i := by
    intro i hi
    obtain ⟨k, hk, e⟩ := List.mem_iff_getElem.1 hi
    have hk' : bs[k]? = some i := by rw [List.getElem?_eq_getElem hk, e]
    refine ⟨k, by omega, ?_⟩
    rw [hC.blk k (by simp [Mem.part]; omega), part_blk hk']
  have hno : M1.no = partNo w M r bs rs := hC.no
  -- cells that nobody overwrites
  have okN : ∀ a, Okc M1 r1 a → Okc (M.back M1 bs rs) (mergeL rs r (upR rs r.length r1)) a := by
    intro a ha
    have hna : ¬ partNo w M r bs rs a := by rw [← hno]; exact ha.1.2
    have hcase : (a.block ∈ partF M bs rs ∨ w.heap.size ≤ a.block) ∨ Okc M r a := by
      by_cases h1 : a.block < w.heap.size
      · by_cases h2 : a.block ∈ partF M bs rs
        · exact .inl (.inl h2)
        · exact .inr (Classical.byContradiction fun h3 => hna ⟨h1, h2, h3⟩)
      · exact .inl (.inr (by omega))
    refine ⟨⟨fun j hj => ?_, fun hn => ?_⟩, fun j A hj hg => ?_⟩
    · rcases clB j hj with ⟨h1, h2, e⟩ | ⟨k, hk, _, e⟩
      · rw [e]
        rcases hcase with hc | hc
        · intro e2
          rw [← e2] at hc
          exact nB j h1 h2 hc
        · exact hc.1.1 j h2
      · rw [e]
        exact ha.1.1 k hk
    · rcases hcase with hc | hc
      · have h1 := h.no a hn
        rcases hc with hc | hc
        · rcases mem_partF.1 hc with ⟨i, hi, e⟩ | ⟨i, hi, e⟩
          · obtain ⟨k, hk, e2⟩ := oldB i hi
            exact ha.1.1 k hk (by rw [e2, e])
          · exact h1.2 i e
        · have := h.keep.size
          omega
      · exact hc.1.2 hn
    · rcases clR j (row_len hg) with ⟨h1, h2, e⟩ | ⟨k, hk, ek, e⟩
      · rw [e] at hg
        rw [rO j h1 (by rw [← h.lr]; exact h2)] at hj
        rcases hcase with hc | hc
        · exact absurd hc (nR j _ h1 hg)
        · rw [e]
          exact hc.2 j A hj hg
      · rw [e] at hg
        rw [ek, rN k (by rw [← hI.lr]; exact hk)] at hj
        obtain ⟨A1, hA1, rfl⟩ := Option.map_eq_some_iff.1 hj
        rw [upA_sh, upA_len, upA_w, e]
        exact ha.2 k A1 hA1 hg
  have chg : Chg w M r w' (M.back M1 bs rs) (mergeL rs r (upR rs r.length r1)) := by
    refine ⟨fun a u ho hc => ?_, by rw [lenB]; omega, fun j hj => ?_, fun j A hA => ?_, rfl⟩
    · obtain ⟨h1, h2⟩ := hC.cell a u (part_okc e4 hbm ho) hc
      exact ⟨h1, okN a h2⟩
    · by_cases hm : j ∈ bs
      · obtain ⟨k, hk, e⟩ := List.mem_iff_getElem.1 hm
        have hk' : bs[k]? = some j := by rw [List.getElem?_eq_getElem hk, e]
        have := blkN k (by omega)
        rw [upI_lt b.length hk'] at this
        rw [this, hC.blk k (by simp [Mem.part]; omega), part_blk hk']
      · exact blkO j hm hj
    · by_cases hm : j ∈ rs
      · obtain ⟨k, hk, e⟩ := List.mem_iff_getElem.1 hm
        have hk' : rs[k]? = some j := by rw [List.getElem?_eq_getElem hk, e]
        have hA0 : r0[k]? = some A := by rw [(s4 k j hk').1]; exact hA
        obtain ⟨A', hA', h1, h2, h3⟩ := hC.row k A hA0
        have hk1 : k < M1.av.length := by omega
        have hN := rN k (by rw [← hI.lr]; exact hk1)
        have hW := rowN k hk1
        rw [upI_lt r.length hk'] at hN hW
        exact ⟨upA rs r.length A', by rw [hN, hA']; rfl, by rw [upA_len]; exact h1, by rw [upA_w]; exact h2, fun e => by
          rw [upA_len] at e
          rw [hW, h3 e, part_row hk']⟩
      · have hj : j < r.length := (List.getElem?_eq_some_iff.1 hA).1
        exact ⟨A, by rw [rO j hm hj]; exact hA, Nat.le_refl _, rfl, fun _ => rowO j hm (by rw [h.lr]; exact hj)⟩
  have rep : ∀ v x, RepA w' M1 r1 v x → RepA w' (M.back M1 bs rs) (mergeL rs r (upR rs r.length r1)) v (up bs b.length rs r.length x) := by
    intro v x hx
    refine up_rep (fun k hk => ⟨upB_lt k hk, blkN k hk⟩) (fun k A hk => ?_) okN hx
    have hk1 := (List.getElem?_eq_some_iff.1 hk).1
    exact ⟨by rw [rN k hk1, hk]; rfl, rowN k (by rw [hI.lr]; exact hk1)⟩
  have lb1 : (upB bs b.length rs r.length b1).length = M1.bb.length := by rw [upB_spec.1, hI.lb]
  refine ⟨⟨⟨hI.keep.os.trans h.keep.os, hI.keep.tape.trans h.keep.tape, hI.keep.output.trans h.keep.output, Nat.le_trans h.keep.size hI.keep.size, fun k hk hF => ?_⟩, ?_, ?_, fun j cells hj => ?_, fun j A hj => ?_, fun j hj => ?_, fun j g hg => ?_, fun i j hi hj e => ?_,
    fun i j g hi hj h1 h2 => ?_, fun i j hi e => ?_, fun a ha => ⟨(h.no a ha).1, fun i e => ?_⟩⟩, chg, rep⟩
  · have := h.keep.size
    rw [hI.keep.block k (by omega) (fun hm => ?_)]
    · exact h.keep.block k hk hF
    · rcases FF k hm with h1 | h1
      · exact hF h1
      · omega
  · rw [lenB, mergeL_len bs b _ (by rw [lb1]; exact hlb1), lb1, h.lb]
  · rw [lenR, mergeL_len rs r (upR rs r.length r1) (by rw [upR_len, ← hI.lr]; exact hlr1), upR_len, h.lr, hI.lr]
  · rcases mergeL_class bs b (upB bs b.length rs r.length b1) j (by rw [lb1]; exact hlb1) (List.getElem?_eq_some_iff.1 hj).1 with ⟨h1, h2⟩ | ⟨k, h1, h2⟩
    · rw [mergeL_other bs b _ j h1 h2] at hj
      obtain ⟨cs, ty, hh, hs, hone, hrep⟩ := h.box j cells hj
      have h2' : j < M.bb.length := by rw [h.lb]; exact h2
      refine ⟨cs, ty, ?_, hs, hone, fun q hq => (hrep q hq).mono chg⟩
      rw [blkO j h1 h2', hI.keep.block _ (h.box_lt h2') (fun hm => nB j h1 h2' (.inl hm))]
      exact hh
    · rw [h2, mergeL_get bs b _ k nb (fun i hi => by rw [← h.lb]; exact hbm i hi) (by rw [lb1]; exact hlb1) h1] at hj
      obtain ⟨d, hd, rfl⟩ := upB_spec.2 k cells hj
      obtain ⟨cs, ty, hh, hs, hone, hrep⟩ := hI.box k d hd
      rw [lb1] at h1
      refine ⟨cs, ty, by rw [h2, blkN k h1]; exact hh, by rw [upL_spec.1]; exact hs, fun q hq => hone q (by rwa [upL_spec.1] at hq), fun q hq => ?_⟩
      rw [upL_spec.1] at hq
      rw [upL_spec.2 q hq]
      exact rep _ _ (hrep q hq)
  · rcases mergeL_class rs r (upR rs r.length r1) j (by rw [upR_len, ← hI.lr]; exact hlr1) (List.getElem?_eq_some_iff.1 hj).1 with ⟨h1, h2⟩ | ⟨k, h1, h2⟩
    · rw [rO j h1 h2] at hj
      obtain ⟨hz, he, xs, ho, hone, hrep⟩ := h.row j A hj
      have h2' : j < M.av.length := by rw [h.lr]; exact h2
      rw [rowO j h1 h2']
      refine ⟨hz, he, xs, ⟨ho.1, ?_⟩, hone, fun k q hk hq => (hrep k q hk hq).mono chg⟩
      rcases ho.2 with hn | ⟨g, cap, cur, o, hv, hg, rest⟩
      · exact .inl hn
      · have hob : (M.row j).ownBlock = some g := by rw [hv]; rfl
        exact .inr ⟨g, cap, cur, o, hv, by rw [hI.keep.block g (h.row_lt hob) (fun hm => nR j g h1 hob (.inl hm))]; exact hg, rest⟩
    · rw [upR_len] at h1
      rw [h2, rN k h1] at hj
      obtain ⟨A1, hA1, rfl⟩ := Option.map_eq_some_iff.1 hj
      obtain ⟨hz, he, xs, ho, hone, hrep⟩ := hI.row k A1 hA1
      rw [h2, rowN k (by rw [hI.lr]; exact h1)]
      refine ⟨by rw [upA_w]; exact hz, fun e hm => ?_, xs, by rw [upA_ety, upA_w, upA_len]; exact ho, hone, fun k' q hk' hq => ?_⟩
      · obtain ⟨e0, h0, e1⟩ := upA_mem hm
        rw [upA_w, e1]
        exact he e0 h0
      · rw [upA_len] at hk'
        rw [upA_w] at hq ⊢
        have hm : A1.es.getD k' [] ∈ A1.es := by
          have : A1.es.getD k' [] = A1.es[k'] := by simp [List.getD, hk']
          rw [this]
          exact List.getElem_mem hk'
        have hle := he _ hm
        rw [upA_cell hk']
        rcases hrep k' q hk' hq with h3 | ⟨h0, id, n, e, h3⟩
        · have h4 : Rep w' (Okc (M.back M1 bs rs) (mergeL rs r (upR rs r.length r1))) (xs.getD (k' * A1.w + q) undef) ((A1.es.getD k' []).getD q .nilI) := h3.mono fun a u h1 h2 => ⟨h2, okN a h1⟩
          refine .inl ?_
          split
          · rename_i h0
            have hw : A1.w = 1 := if_pos h0
            rw [hw] at hle hq
            obtain rfl : q = 0 := by omega
            match hd : A1.es.getD k' [], hle with
            | [d], _ =>
              rw [hd] at h4
              rw [upE_data (fun id n e => ?_)]
              · exact h4
              · rw [e] at h4
                exact Rep.not_ref h4
          · exact h4
        · have hw : A1.w = 1 := if_pos h0
          refine .inr ⟨by rw [upA_sz]; exact h0, upI rs r.length id, n, ?_, rep _ _ h3⟩
          rw [hw] at hle hq
          obtain rfl : q = 0 := by omega
          rw [if_pos h0]
          match hd : A1.es.getD k' [], hle with
          | [d], _ =>
            rw [hd] at e
            have e : d = .ref id n := e
            rw [e, upE_ref]
            rfl
  · rcases clB j hj with ⟨h1, h2, e⟩ | ⟨k, hk, _, e⟩ <;> rw [e]
    · exact h.fb j h2
    · exact FS _ (sB k hk)
  · rcases clR j (row_len hg) with ⟨h1, h2, e⟩ | ⟨k, hk, _, e⟩ <;> rw [e] at hg
    · exact h.fr j g hg
    · exact FS _ (sR k g hg)
  · rcases clB i hi with ⟨h1, h2, e1⟩ | ⟨k, hk, ek, e1⟩ <;> rcases clB j hj with ⟨h3, h4, e3⟩ | ⟨q, hq, eq, e3⟩ <;> rw [e1, e3] at e
    · exact h.dbb i j h2 h4 e
    · have := sB q hq
      rw [← e] at this
      exact absurd this (nB i h1 h2)
    · have := sB k hk
      rw [e] at this
      exact absurd this (nB j h3 h4)
    · have := hI.dbb k q hk hq e
      subst this
      rw [ek, eq]
  · rcases clR i hi with ⟨h3, h4, e3⟩ | ⟨k, hk, ek, e3⟩ <;> rcases clR j hj with ⟨h5, h6, e5⟩ | ⟨q, hq, eq, e5⟩ <;> rw [e3] at h1 <;> rw [e5] at h2
    · exact h.drr i j g h4 h6 h1 h2
    · exact absurd (sR q g h2) (nR i g h3 h1)
    · exact absurd (sR k g h1) (nR j g h5 h2)
    · have := hI.drr k q g hk hq h1 h2
      subst this
      rw [ek, eq]
  · have hl := row_len e
    rcases clB i hi with ⟨h1, h2, e1⟩ | ⟨k, hk, ek, e1⟩ <;> rcases clR j hl with ⟨h5, h6, e5⟩ | ⟨q, hq, eq, e5⟩ <;> rw [e1, e5] at e
    · exact h.dbr i j h2 e
    · exact nB i h1 h2 (sR q _ e)
    · exact nR j _ h5 e (sB k hk)
    · exact hI.dbr k q hk e
  · have hl := row_len e
    rcases clR i hl with ⟨h5, h6, e5⟩ | ⟨q, hq, eq, e5⟩ <;> rw [e5] at e
    · exact (h.no a ha).2 i e
    · rcases sR q _ e with hm | hm
      · rcases mem_partF.1 hm with ⟨i', hi', e'⟩ | ⟨i', hi', e'⟩
        · obtain ⟨k, hk, e2⟩ := oldB i' hi'
          exact hI.dbr k q hk (by rw [e, e2, e'])
        · exact (h.no a ha).2 i' e'
      · have h1 := (h.no a ha).1
        have h2 := h.keep.size
        omega
end

/-- What is known after a call of the part. -/
def putK (bs rs : List Nat) (b : List (List AV)) (r : List Arr) (K : Out → List (List AV) → List Arr → Prop) (o : Out) (b1 : List (List AV)) (r1 : List Arr) : Prop :=
  match o with
  | .ret x => K (.ret (up bs b.length rs r.length x)) (mergeL bs b (upB bs b.length rs r.length b1)) (mergeL rs r (upR rs r.length r1))
  | .panic x => K (.panic (up bs b.length rs r.length x)) (mergeL bs b (upB bs b.length rs r.length b1)) (mergeL rs r (upR rs r.length r1))
/-- A call, by what it asks of the part that it sees. -/
def partH (h : Handler) (bs rs : List Nat) (args : List AV) (b : List (List AV)) (r : List Arr) (K : Out → List (List AV) → List Arr → Prop) : Prop :=
  match lowL bs rs args with
  | some args0 => match pickL b bs with
    | some c => match lowB bs rs c with
      | some b0 => match pickL r rs with
        | some r0 => ((nd bs = true ∧ nd rs = true) ∧ flatR r0 = true) ∧ h args0 b0 r0 (putK bs rs b r K)
        | none => False
      | none => False
    | none => False
  | none => False
def frameH (h : Handler) : Handler := fun args b r K => partH h (seeB b args) (seeR b (seeB b args) args) args b r K

theorem HOk.frame {P : Program} {f : FuncId} {h : Handler} (hh : HOk P f h) : HOk P f (frameH h) := by
  intro w0 F M b r w vs args K hI hv hk
  unfold frameH partH at hk
  generalize seeR b (seeB b args) args = rs at hk
  generalize seeB b args = bs at hk
  split at hk
  case h_2 => exact hk.elim
  rename_i args0 e1
  split at hk
  case h_2 => exact hk.elim
  rename_i c e2
  split at hk
  case h_2 => exact hk.elim
  rename_i b0 e3
  split at hk
  case h_2 => exact hk.elim
  rename_i r0 e4
  obtain ⟨⟨⟨nb, nr⟩, fl⟩, hk⟩ := hk
  have h0 := part_inv hI fl nb nr e2 e3 e4
  obtain ⟨_, s2⟩ := pickL_spec e2
  have hb : ∀ i ∈ bs, i < M.bb.length := by
    intro i hi
    obtain ⟨k, hk, e⟩ := List.mem_iff_getElem.1 hi
    rw [hI.lb]
    exact (s2 k i (by rw [List.getElem?_eq_getElem hk, e])).2
  have hv0 : RepL w (M.part (partNo w M r bs rs) bs rs) r0 vs args0 := by
    obtain ⟨l1, s1⟩ := lowL_spec e1
    exact ⟨by rw [hv.1, l1], fun i hi => part_rep hI e4 hb (hv.2 i (by omega)) (s1 i (by omega))⟩
  obtain ⟨hent, hc⟩ := hh h0 hv0 hk
  refine ⟨hent, Calls.mono hc (fun e w' he => ?_)⟩
  cases e with
  | returned v =>
    obtain ⟨x, b1, r1, M1, hK, hI1, hC1, hx⟩ := he
    obtain ⟨h1, h2, h3⟩ := part_back hI fl nb nr e2 e3 e4 hI1 hC1
    exact ⟨_, _, _, _, hK, h1, h2, h3 v x hx⟩
  | panicked ch =>
    obtain ⟨x, b1, r1, M1, u, hK, rfl, hI1, hC1, hx⟩ := he
    obtain ⟨h1, h2, h3⟩ := part_back hI fl nb nr e2 e3 e4 hI1 hC1
    exact ⟨_, _, _, _, u, hK, rfl, h1, h2, h3 u x hx⟩
  | outgrown => exact he.elim
end Go.PE
end

section
/- Functions of data: their contract, and how a call of one looks from the caller's side (see PeQ). -/
set_option linter.unusedVariables false
set_option linter.unusedSimpArgs false
namespace Go.PE
open Go

/-- No boxes, no rows; cells that no data may lie in. -/
def Mno (no : Addr → Prop) : Mem := ⟨[], [], no⟩

def dataA : AV → Bool
  | .d _ => true
  | .full _ => true
  | .tup cs => (allD cs).isSome
  | _ => false
/-- What is given back, as data. -/
def toO (r : List Arr) : AV → Option AV
  | .tup cs => (toDL r cs).map fun ds => .tup (ds.map .d)
  | x => (toD r x).map .d
def outK (r : List Arr) (v : AV) (F : AV → Prop) : Prop := match toO r v with | some x => F x | none => False

/-- What a function of data asks, so that K holds of how it ends. -/
abbrev Spec := List D → (Out → Prop) → Prop

def PQ (w : World) (no : Addr → Prop) (K : Out → Prop) : Ending → World → Prop
  | .returned v, w' => ∃ x, K (.ret x) ∧ Keep w [] w' ∧ RepA w' (Mno no) [] v x ∧ dataA x = true
  | .panicked ch, w' => ∃ x u, K (.panic x) ∧ ch = [{ v := u, recovered := false }] ∧ Keep w [] w' ∧ RepA w' (Mno no) [] u x ∧ dataA x = true
  | .outgrown, _ => False

def FPure (P : Program) (f : FuncId) (s : Spec) : Prop :=
  ∀ (w : World) (no : Addr → Prop) (vs : Array Value) (ds : List D) (K : Out → Prop), (∀ a, no a → a.block < w.heap.size) → RepL w (Mno no) [] vs (ds.map .d) → s ds K → Enters P f ∧ Calls P f vs w (PQ w no K)

theorem mno_okc {no : Addr → Prop} {a : Addr} : Okc (Mno no) [] a ↔ ¬ no a :=
  ⟨fun h => h.1.2, fun h => ⟨⟨fun i hi => absurd hi (by simp [Mno]), h⟩, fun k A hk => by simp at hk⟩⟩

theorem mno_inv {w : World} {no : Addr → Prop} (h : ∀ a, no a → a.block < w.heap.size) : Inv w [] (Mno no) [] [] w := by
  have hrow : ∀ i, (Mno no).row i = .nilIface := fun i => by simp [Mno, Mem.row, List.getD]
  refine ⟨.refl _ _, rfl, rfl, fun i _ hi => by simp at hi, fun i _ hi => by simp at hi, fun i hi => absurd hi (by simp [Mno]), fun i g hg => ?_, fun i _ hi => absurd hi (by simp [Mno]), fun i j g hi => absurd hi (by simp [Mno]), fun i _ hi => absurd hi (by simp [Mno]), fun a ha => ⟨h a ha, fun i e => ?_⟩⟩
  · rw [hrow] at hg; cases hg
  · rw [hrow] at e; cases e

theorem allD_map (ds : List D) : allD (ds.map .d) = some ds := by
  induction ds with
  | nil => rfl
  | cons d ds ih => simp [allD, ih]
theorem toDL_map (r : List Arr) (ds : List D) : toDL r (ds.map .d) = some ds := by
  induction ds with
  | nil => rfl
  | cons d ds ih => simp [toDL, toD, ih]
theorem arrIdsL_map (ds : List D) : arrIdsL (ds.map .d) = [] := by
  induction ds with
  | nil => rfl
  | cons d ds ih => simp [arrIdsL, arrIds, ih]

/-- What data is, wherever its cells are. -/
theorem dataA_mono {w w' : World} {M M' : Mem} {r r' : List Arr} (hm : ∀ a u, Okc M r a → w.cell? a = some u → w'.cell? a = some u ∧ Okc M' r' a) {v : Value} {x : AV} (h : RepA w M r v x) (hx : dataA x = true) : RepA w' M' r' v x := by
  cases x with
  | d x => exact .d _ _ (h.d_inv.mono hm)
  | tup cs =>
    simp only [dataA, Option.isSome_iff_exists] at hx
    obtain ⟨ds, hds⟩ := hx
    obtain rfl := allD_spec hds
    cases h with
    | tup vs _ hs hr =>
      refine .tup vs _ hs (fun i hi => ?_)
      have hi' : i < ds.length := by simpa using hi
      have := hr i hi
      rw [getD_map_d _ _ hi'] at this ⊢
      exact .d _ _ (this.d_inv.mono hm)
  | full es =>
    cases h with
    | full A n _ hr => exact .full A n es (hr.mono hm)
  | _ => cases hx

section
variable {P : Program} {E : Env} {pl : Nat → List (Nat × Bool × List Nat)}

theorem toO_rep {w0 : World} {F : List Nat} {M : Mem} {b : List (List AV)} {r : List Arr} {w : World} (h : Inv w0 F M b r w) {v : Value} {x y : AV} (hv : RepA w M r v x) (hy : toO r x = some y) :
    RepA w (Mno M.no) [] v y ∧ dataA y = true := by
  have one : ∀ x y, (toD r x).map AV.d = some y → RepA w M r v x → RepA w (Mno M.no) [] v y ∧ dataA y = true := by
    intro x y hy hv
    simp only [Option.map_eq_some_iff] at hy
    obtain ⟨d, hd, rfl⟩ := hy
    obtain ⟨hI, hc⟩ := Inv.shareL (arrIds x) h
    have := toD_rep hI hc (shared_share (arrIds x) r) x d v hd (fun id hid => hid) hv
    exact ⟨.d _ _ (this.mono fun a u ho hc => ⟨hc, mno_okc.2 ho.1.2⟩), rfl⟩
  cases x with
  | tup cs =>
    simp only [toO, Option.map_eq_some_iff] at hy
    obtain ⟨ds, hds, rfl⟩ := hy
    cases hv with
    | tup vs _ hs hr =>
      obtain ⟨hI, hc⟩ := Inv.shareL (arrIdsL cs) h
      obtain ⟨hl, hrep⟩ := toDL_rep hI hc (shared_share (arrIdsL cs) r) cs ds hds (fun id hid => hid) (fun i => vs.getD i undef) hr
      refine ⟨.tup vs _ (by simp [hl, hs]) (fun i hi => ?_), by simp [dataA, allD_map]⟩
      have hi' : i < ds.length := by simpa using hi
      rw [getD_map_d _ _ hi']
      exact .d _ _ ((hrep i hi').mono fun a u ho hc => ⟨hc, mno_okc.2 ho.1.2⟩)
  | _ =>
    have h1 := fun h => one _ y h hv
    exact h1 hy

theorem FPure.ofBody (hE : E.Ok P) (hm : P.follows .mixedOrders = true) {f : FuncId} {fn : Func} {c : Code} {s : Spec} (hf : P.funcs[f]? = some fn) (hn : (fn.name == "runtime.NumGoroutine") = false) (hb : fn.body = some c) (hdr : drawsB pl c = true)
    (h : ∀ ds K, s ds K → bodyK P E pl fn c (ds.map .d) [] [] fun o _ r => match o with | .ret v => outK r v fun x => K (.ret x) | .panic v => outK r v fun x => K (.panic x)) : FPure P f s := by
  intro w no vs ds K hno hv hs
  refine ⟨enters_of hf hn (by rw [hb]; rfl), Calls.mono (body_sound hE hm hf hb hdr (.inl (Nat.zero_le _)) (mno_inv hno) hv (h ds K hs)) (fun e w' he => ?_)⟩
  cases e with
  | returned v =>
    obtain ⟨x, b', r', M', hK, hI, hC, hx⟩ := he
    simp only [outK] at hK
    split at hK
    · rename_i y hy
      obtain ⟨h1, h2⟩ := toO_rep hI hx hy
      rw [hC.no] at h1
      exact ⟨y, hK, hI.keep, h1, h2⟩
    · exact hK.elim
  | panicked ch =>
    obtain ⟨x, b', r', M', u, hK, rfl, hI, hC, hx⟩ := he
    simp only [outK] at hK
    split at hK
    · rename_i y hy
      obtain ⟨h1, h2⟩ := toO_rep hI hx hy
      rw [hC.no] at h1
      exact ⟨y, u, hK, rfl, hI.keep, h1, h2⟩
    · exact hK.elim
  | outgrown => exact he.elim

/-- A call of a function of data. -/
def specH (s : Spec) : Handler := fun args b r K => match toDL r args with
  | some ds => s ds fun o => K o b (share r (arrIdsL args))
  | none => False

theorem Keep.grown' {w w' : World} (h : Keep w [] w') : w.grownBy w' none := ⟨h.os, h.tape, h.output, h.size, fun k hk _ => h.block k hk (by simp)⟩

theorem HOk.ofPure {f : FuncId} {s : Spec} (hp : FPure P f s) : HOk P f (specH s) := by
  intro w0 F M b r w vs args K h hv hk
  simp only [specH] at hk
  split at hk
  case h_2 => exact hk.elim
  rename_i ds hds
  obtain ⟨hI, hc⟩ := Inv.shareL (arrIdsL args) h
  obtain ⟨hl, hrep⟩ := toDL_rep hI hc (shared_share (arrIdsL args) r) args ds hds (fun id hid => hid) (fun i => vs.getD i undef) hv.2
  generalize hr' : share r (arrIdsL args) = r' at *
  let no : Addr → Prop := fun a => ¬ Okc M r' a ∧ a.block < w.heap.size
  have hvs : RepL w (Mno no) [] vs (ds.map .d) := by
    refine ⟨by simp [hl, hv.1], fun i hi => ?_⟩
    have hi' : i < ds.length := by simpa using hi
    rw [getD_map_d _ _ hi']
    exact .d _ _ ((hrep i hi').mono fun a u ho hc => ⟨hc, mno_okc.2 fun hn => hn.1 ho⟩)
  obtain ⟨hent, hcalls⟩ := hp w no vs ds _ (fun a ha => ha.2) hvs hk
  refine ⟨hent, Calls.mono hcalls (fun e w' he => ?_)⟩
  have back : ∀ a, Okc (Mno no) [] a → Okc M r' a := by
    intro a ha
    have ha := mno_okc.1 ha
    by_cases hlt : a.block < w.heap.size
    · exact Classical.byContradiction fun hn => ha ⟨hn, hlt⟩
    · refine ⟨⟨fun i hi e => ?_, fun hn => ?_⟩, fun k A hk hb => ?_⟩
      · have := hI.box_lt hi; omega
      · have := (hI.no a hn).1
        have := hI.keep.size
        omega
      · have := hI.row_lt hb; omega
  cases e with
  | returned v =>
    obtain ⟨x, hK, hkeep, hx, hd⟩ := he
    obtain ⟨hI', hc'⟩ := hI.grow hkeep.grown'
    exact ⟨x, b, r', M, hK, hI', hc.trans hc', dataA_mono (fun a u ho hc => ⟨hc, back a ho⟩) hx hd⟩
  | panicked ch =>
    obtain ⟨x, u, hK, rfl, hkeep, hx, hd⟩ := he
    obtain ⟨hI', hc'⟩ := hI.grow hkeep.grown'
    exact ⟨x, b, r', M, u, hK, rfl, hI', hc.trans hc', dataA_mono (fun a u ho hc => ⟨hc, back a ho⟩) hx hd⟩
  | outgrown => exact he.elim

/-- A function of data that gives one thing. -/
def Det.spec (h : Det) : Spec := fun ds K => (h ds).1 ∧ K (.ret (h ds).2)
theorem HOk.ofDet {f : FuncId} {h : Det} (hp : FPure P f h.spec) : HOk P f h.handler := by
  refine HOk.weaken (HOk.ofPure hp) (fun args b r K hk => ?_)
  obtain ⟨ds, hds, hpre, hK⟩ := hk
  obtain rfl := allD_spec hds
  simp only [specH, toDL_map, arrIdsL_map, Det.spec]
  exact ⟨hpre, hK⟩

/-! ### tables of what is known of functions -/
inductive Known where
  | det (h : Det)
  | spec (s : Spec)
  | raw (h : Handler)
  | mem (h : Handler)
def Known.H : Known → Handler
  | .det h => specH h.spec
  | .spec s => specH s
  | .raw h => h
  | .mem h => frameH h
def Known.Dt : Known → Option Det
  | .det h => some h
  | _ => none
def lookK : List (FuncId × Known) → FuncId → Option Known
  | [], _ => none
  | (g, k) :: l, f => if g = f then some k else lookK l f
def hOf : Option Known → Handler
  | some k => k.H
  | none => fun _ _ _ _ => False
def dOf : Option Known → Option Det
  | some k => k.Dt
  | none => none
def mkEnv (l : List (FuncId × Known)) : Env := ⟨fun f => hOf (lookK l f), fun f => dOf (lookK l f)⟩
def KnownOk (P : Program) (f : FuncId) : Known → Prop
  | .det h => FPure P f h.spec
  | .spec s => FPure P f s
  | .raw h => HOk P f h
  | .mem h => HOk P f h
theorem env_ok {l : List (FuncId × Known)} (h : ∀ p ∈ l, KnownOk P p.1 p.2) : (mkEnv l).Ok P := by
  have look : ∀ f k, lookK l f = some k → KnownOk P f k := by
    intro f k
    induction l with
    | nil => intro e; cases e
    | cons p l ih =>
      intro e
      obtain ⟨g, k'⟩ := p
      simp only [lookK] at e
      split at e
      · rename_i hg
        injection e with e
        subst e hg
        exact h _ (List.mem_cons_self ..)
      · exact ih (fun p hp => h p (List.mem_cons_of_mem _ hp)) e
  refine ⟨fun f => ?_, fun f d hd => ?_⟩
  · show HOk P f (hOf (lookK l f))
    cases e : lookK l f with
    | none => exact HOk.no f
    | some k =>
      have hk := look f k e
      cases k with
      | det h => exact HOk.ofPure hk
      | spec s => exact HOk.ofPure hk
      | raw h => exact hk
      | mem h => exact HOk.frame hk
  · have hd : dOf (lookK l f) = some d := hd
    cases e : lookK l f with
    | none => rw [e] at hd; cases hd
    | some k =>
      have hk := look f k e
      rw [e] at hd
      cases k with
      | det h =>
        injection hd with hd
        subst hd
        exact HOk.ofDet hk
      | _ => cases hd
end
end Go.PE
end

section
/- The evaluator: rules by which it is run (see PeQ). -/
set_option linter.unusedVariables false
set_option linter.unusedSimpArgs false
namespace Go.PE
open Go

theorem evalK_c {P : Program} {E : Env} {pl : Nat → List (Nat × Bool × List Nat)} {c : Code} {st st' : St} {Q : Ex → St → Prop} (h : st = st') : evalK P E pl c st Q = evalK P E pl c st' Q := by rw [h]
theorem opsK_c {P : Program} {E : Env} {L l : List Oper} {G G' : List (Nat × Bool)} {st st' : St} {K : St → Prop} {KP : AV → St → Prop} (h : st = st') (hG : G = G') : opsK P E L l G st K KP = opsK P E L l G' st' K KP := by rw [h, hG]
theorem opK_c {P : Program} {E : Env} {L : List Oper} {o : Oper} {G : List (Nat × Bool)} {st : St} {K : List (Nat × Bool) → St → Prop} {KP : AV → St → Prop} : opK P E L o G st K KP = opK P E L o G st K KP := rfl
theorem runK_c {E : Env} {R R' : Res} {K KP : AV → St → Prop} (h : R = R') : runK E R K KP = runK E R' K KP := by rw [h]
theorem guardK_c {P : Program} {E : Env} {o : Oper} {gd : Tmp} {x x' pol : Bool} {R R' : Res} {G : List (Nat × Bool)} {st : St} {K : List (Nat × Bool) → St → Prop} {KP : AV → St → Prop} (h : R = R') (hx : x = x') :
    guardK P E o gd x pol R G st K KP = guardK P E o gd x' pol R' G st K KP := by rw [h, hx]
theorem elemG_c {g g' : Bool} {es es' : List (List D)} {k k' n : Nat} {F : List D → Prop} (h : g = g') (h1 : es = es') (h2 : k = k') : elemG g es k n F = elemG g' es' k' n F := by rw [h, h1, h2]
theorem elemK_c {es es' : List (List D)} {k k' n : Nat} {F : List D → Prop} (h1 : es = es') (h2 : k = k') : elemK es k n F = elemK es' k' n F := by rw [h1, h2]
theorem byteK_c {s s' : List UInt8} {k k' : Nat} {F : UInt8 → Prop} (h1 : s = s') (h2 : k = k') : byteK s k F = byteK s' k' F := by rw [h1, h2]
theorem outK_c {r r' : List Arr} {v v' : AV} {F : AV → Prop} (h : r = r') (hv : v = v') : outK r v F = outK r' v' F := by rw [h, hv]

theorem valid_nil (d : Nat) : valid [] d = True := by simp [valid]
theorem valid_cons (e : Nat) (g : Bool) (G : List (Nat × Bool)) (d : Nat) : valid ((e, g) :: G) d = ((e = d → g = true) ∧ valid G d) := by simp [valid]
theorem needL_nil (G : List (Nat × Bool)) : needL G [] = True := by simp [needL]
theorem needL_cons (G : List (Nat × Bool)) (x : Operand) (l : List Operand) : needL G (x :: l) = (validO G x ∧ needL G l) := by simp [needL]
theorem validO_nil (x : Operand) : validO [] x = True := by cases x <;> simp [validO, valid]
theorem need_nil (o : Op) (st : St) : need [] o st = True := by
  have h : ∀ xs, needL [] xs = True := fun xs => by simp only [needL, validO_nil, implies_true]
  unfold need
  split
  · split
    · simp [validO_nil]
    · exact h _
  · exact h _
def needU (G : List (Nat × Bool)) (o : Op) (st : St) : Prop := need G o st
theorem need_cons (p : Nat × Bool) (G : List (Nat × Bool)) (o : Op) (st : St) : need (p :: G) o st = needU (p :: G) o st := rfl
theorem needU_pick (G : List (Nat × Bool)) (c a b : Operand) (st : St) : needU G (.pick c a b) st = (match st.ev c with
    | .d (.bool e) => validO G c ∧ (e = true → validO G a) ∧ (e = false → validO G b)
    | _ => needL G [c, a, b]) := rfl
theorem needU_of (G : List (Nat × Bool)) (o : Op) (st : St) (h : match o with | .pick _ _ _ => False | _ => True) : needU G o st = needL G o.operands.toList := by
  unfold needU need
  split
  · exact h.elim
  · rfl
theorem ite_boolA (c : Prop) [Decidable c] (x y : Bool) : (if c then AV.d (.bool x) else AV.d (.bool y)) = AV.d (.bool (if c then x else y)) := by split <;> rfl
theorem ite_and (x y : Bool) : (if x = true then y else x) = (x && y) := by cases x <;> rfl
theorem ite_or (x y : Bool) : (if x = true then x else y) = (x || y) := by cases x <;> rfl
theorem ite_and' (x y : Bool) : (if x = true then y else false) = (x && y) := by cases x <;> rfl
theorem ite_or' (x y : Bool) : (if x = true then true else y) = (x || y) := by cases x <;> rfl
theorem elemK_map {α : Type} (enc : α → List D) (l : List α) (k n : Nat) (F : List D → Prop) : elemK (l.map enc) k n F = ∀ x, l[k]? = some x → (enc x).length = n ∧ F (enc x) := by
  simp [elemK]
/-- An element behind a guard, where the row is the image of another. -/
theorem elemG_map {α : Type} [Inhabited α] (g : Bool) (enc : α → List D) (l : List α) (k n : Nat) (F : List D → Prop) (h : (g = true → (enc (l.getD k default)).length = n) ∧ F (enc (l.getD k default))) : elemG g (l.map enc) k n F := by
  refine ⟨enc (l.getD k default), fun y hy => ?_, h.1, h.2⟩
  simp only [List.getElem?_map, Option.map_eq_some_iff] at hy
  obtain ⟨x, hx, rfl⟩ := hy
  simp [List.getD, hx]
theorem gval_eq (L : List Oper) (st : St) (g : Nat) (o : Oper) (d : Tmp) (x : Bool) (h1 : L[g]? = some o) (h2 : o.dst = some d) (h3 : st.t.getD d .undef = .d (.bool x)) : gval L st g = some (d, x) := by
  have hlt : d < st.t.length := by
    rcases Nat.lt_or_ge d st.t.length with h | h
    · exact h
    · simp [List.getD, List.getElem?_eq_none h] at h3
  simp only [gval, h1, h2, h3, if_pos hlt]

section
variable {P : Program} {E : Env} {pl : Nat → List (Nat × Bool × List Nat)} {st : St} {Q : Ex → St → Prop}
theorem evalK_skip : evalK P E pl .skip st Q = Q .normal st := rfl
theorem evalK_label (l : Nat) : evalK P E pl (.label l) st Q = Q .normal st := rfl
theorem evalK_seq (x y : Code) : evalK P E pl (.seq x y) st Q = evalK P E pl x st fun e st => match e with
    | .normal => evalK P E pl y st Q
    | e => Q e st := rfl
def condK (v : AV) (T F : Prop) : Prop := match v with | .d (.bool e) => (e = true → T) ∧ (e = false → F) | _ => False
theorem evalK_cond (c : Operand) (x y : Code) : evalK P E pl (.cond c x y) st Q = condK (st.ev c) (evalK P E pl x st Q) (evalK P E pl y st Q) := rfl
theorem condK_true (T F : Prop) : condK (.d (.bool true)) T F = T := by simp [condK]
theorem condK_false (T F : Prop) : condK (.d (.bool false)) T F = F := by simp [condK]
theorem condK_bool (e : Bool) (T F : Prop) : condK (.d (.bool e)) T F = ((e = true → T) ∧ (e = false → F)) := rfl
theorem condK_c {v v' : AV} {T F : Prop} (h : v = v') : condK v T F = condK v' T F := by rw [h]
theorem evalK_block (id : Nat) (x : Code) : evalK P E pl (.block id x) st Q = evalK P E pl x st fun e st => match e with
    | .exit i => if i = id then Q .normal st else Q (.exit i) st
    | e => Q e st := rfl
theorem evalK_exit (i : Nat) : evalK P E pl (.exit i) st Q = Q (.exit i) st := rfl
theorem evalK_ret : evalK P E pl .ret st Q = Q .ret st := rfl
theorem evalK_region (id : Nat) (l : List Oper) : evalK P E pl (.region id l.toArray false) st Q = ghostK (pl (id + 100000)) st fun st => match cutAt pl id with
    | some i => opsK P E l (l.take i) [] st (fun st => match l[i]? with
        | some o => match cutR P (nrP pl) o st with
          | some q => q.1 ∧ opsK P E l (l.drop (i + 1)) [] q.2 (fun st => Q .normal st) fun x st => Q (.panic x) st
          | none => False
        | none => False) fun x st => Q (.panic x) st
    | none => match kindL l with
    | 0 => opsK P E l l [] st (fun st => Q .normal st) fun x st => Q (.panic x) st
    | 2 => match litR P (l.take 2) st with
      | some q => q.1 ∧ opsK P E l (l.drop 2) [] q.2 (fun st => Q .normal st) fun x st => Q (.panic x) st
      | none => False
    | _ => opsK P E l (l.take 2) [] st (fun st => clearK P (l.drop 2) st fun st => Q .normal st) fun x st => Q (.panic x) st := rfl
theorem evalK_drawn (id : Nat) (l : List Oper) : evalK P E pl (.region id l.toArray true) st Q = ghostK (pl (id + 100000)) st fun st => planK P E l (pl id) [] st (fun st => Q .normal st) fun x st => Q (.panic x) st := rfl
theorem planK_c {L : List Oper} {l l' : List (Nat × Bool × List Nat)} {G G' : List (Nat × Bool)} {st' : St} {K : St → Prop} {KP : AV → St → Prop} (hl : l = l') (h : st = st') (hG : G = G') : planK P E L l G st K KP = planK P E L l' G' st' K KP := by rw [h, hG, hl]
def stillW (R : Res) (nd : Prop) (g : Bool) (st : St) (F : AV → Prop) : Prop :=
  match R with
  | .ok p v st' => (g = true → nd ∧ p) ∧ (st'.b = st.b ∧ st'.r = st.r) ∧ F v
  | .elem p es k n st' => (g = true → nd ∧ p) ∧ (st'.b = st.b ∧ st'.r = st.r) ∧ elemG g es k n fun y => F (.cptr y)
  | .byte p s k st' => (g = true → nd ∧ p) ∧ (st'.b = st.b ∧ st'.r = st.r) ∧ F (.d (.int .u8 ((s.getD k 0).toNat : Int)))
  | _ => g = false ∧ F .undef
theorem stillV_eq (E : Env) (o : Oper) (g : Bool) (G : List (Nat × Bool)) (F : AV → Prop) : stillV P E o g G st F = stillW (detR E (opR P o st)) (need G o.op st) g st F := rfl
theorem stillW_c {R R' : Res} {nd nd' : Prop} {g g' : Bool} {F : AV → Prop} (h : R = R') (hn : nd = nd') (hg : g = g') : stillW R nd g st F = stillW R' nd' g' st F := by rw [h, hn, hg]
theorem stillK_eq (E : Env) (L : List Oper) (o : Oper) (G : List (Nat × Bool)) (K : List (Nat × Bool) → St → Prop) : stillK P E L o G st K = (match o.guard with
  | none => stillV P E o true G st fun v => K G (st.put o.dst v)
  | some (gi, pol) => match gval L st gi with
    | some (gd, x) => stillV P E o (gX (vG G gd) x pol == pol) G st fun v => K (addG o.dst (gX (vG G gd) x pol == pol) G) (st.put o.dst v)
    | none => False) := rfl

theorem evalK_loop {x : Code} {α : Type} (I : α → Prop) (S : α → St) (μ : α → Nat) (a0 : α) (hI : I a0) (h0 : st.le (S a0)) (hlen : ∀ a, I a → (S a).b.length = st.b.length ∧ st.r.length ≤ (S a).r.length)
    (h : ∀ a, I a → evalK P E pl x (S a) fun e s => match e with
      | .normal => ∃ a', I a' ∧ μ a' < μ a ∧ s.le (S a')
      | e => Q e s) : evalK P E pl (.loop x) st Q := by
  refine .inl ⟨{ a : α // I a }, fun a => S a.1, fun a => μ a.1, ⟨a0, hI⟩, h0, fun a => hlen a.1 a.2, fun a => ?_⟩
  have e : (fun (e : Ex) (st : St) => (match e with
      | .normal => ∃ a', I a' ∧ μ a' < μ a.1 ∧ st.le (S a')
      | e => Q e st : Prop)) = fun e st => match e with
      | .normal => ∃ a' : { a : α // I a }, μ a'.1 < μ a.1 ∧ st.le (S a'.1)
      | e => Q e st := by
    funext e st
    cases e with
    | normal => exact propext ⟨fun ⟨a', h1, h2, h3⟩ => ⟨⟨a', h1⟩, h2, h3⟩, fun ⟨⟨a', h1⟩, h2, h3⟩ => ⟨a', h1, h2, h3⟩⟩
    | _ => rfl
  have := h a.1 a.2
  rw [e] at this
  exact this
end

/-- What a loop keeps and what it changes. -/
def keepT (ks : List Nat) : Nat → List AV → List AV
  | _, [] => []
  | i, v :: l => (if ks.contains i then v else .undef) :: keepT ks (i + 1) l
def setAll {α : Type} (t : List α) : List (Nat × α) → List α
  | [] => t
  | (i, v) :: l => setAll (t.set i v) l
def St.head (st : St) (ks : List Nat) (ch : List (Nat × AV)) (bs : List (Nat × List AV)) (rs : List (Nat × Arr)) : St := ⟨setAll (keepT ks 0 st.t) ch, setAll st.b bs, setAll st.r rs⟩

theorem setAll_len {α : Type} : ∀ (l : List (Nat × α)) (t : List α), (setAll t l).length = t.length
  | [], _ => rfl
  | (i, v) :: l, t => by rw [setAll, setAll_len l]; simp
theorem le_eq (st s : St) : st.le s = (leV st.t s.t ∧ leB st.b s.b ∧ leR st.r s.r ∧ idsL s.b.length s.r.length s.t = true ∧ idsB s.b.length s.r.length s.b = true) :=
  propext ⟨fun h => ⟨h.t, h.b, h.r, h.it, h.ib⟩, fun h => ⟨h.1, h.2.1, h.2.2.1, h.2.2.2.1, h.2.2.2.2⟩⟩
/-- A loop: ks: the temporaries that stay as they are; ch, bs, rs: the temporaries, boxes and rows that the rounds change. -/
theorem evalK_rounds {P : Program} {E : Env} {pl : Nat → List (Nat × Bool × List Nat)} {st : St} {Q : Ex → St → Prop} {x : Code} {α : Type} (ks : List Nat) (I : α → Prop) (ch : α → List (Nat × AV)) (bs : α → List (Nat × List AV)) (rs : α → List (Nat × Arr)) (μ : α → Nat) (a0 : α)
    (hI : I a0) (h0 : st.le (st.head ks (ch a0) (bs a0) (rs a0)))
    (h : ∀ a, I a → evalK P E pl x (st.head ks (ch a) (bs a) (rs a)) fun e s => match e with
      | .normal => ∃ a', I a' ∧ μ a' < μ a ∧ s.le (st.head ks (ch a') (bs a') (rs a'))
      | e => Q e s) : evalK P E pl (.loop x) st Q :=
  evalK_loop I (fun a => st.head ks (ch a) (bs a) (rs a)) μ a0 hI h0 (fun a _ => ⟨setAll_len _ _, Nat.le_of_eq (setAll_len _ _).symm⟩) (fun a ha => h a ha)

/-- A loop whose rows may grow: rs: all rows. -/
theorem evalK_grow {P : Program} {E : Env} {pl : Nat → List (Nat × Bool × List Nat)} {st : St} {Q : Ex → St → Prop} {x : Code} {α : Type} (ks : List Nat) (I : α → Prop) (ch : α → List (Nat × AV)) (rs : α → List Arr) (μ : α → Nat) (a0 : α)
    (hI : I a0) (hr : ∀ a, I a → st.r.length ≤ (rs a).length) (h0 : st.le ⟨setAll (keepT ks 0 st.t) (ch a0), st.b, rs a0⟩)
    (h : ∀ a, I a → evalK P E pl x ⟨setAll (keepT ks 0 st.t) (ch a), st.b, rs a⟩ fun e s => match e with
      | .normal => ∃ a', I a' ∧ μ a' < μ a ∧ s.le ⟨setAll (keepT ks 0 st.t) (ch a'), st.b, rs a'⟩
      | e => Q e s) : evalK P E pl (.loop x) st Q :=
  evalK_loop I (fun a => ⟨setAll (keepT ks 0 st.t) (ch a), st.b, rs a⟩) μ a0 hI h0 (fun a ha => ⟨rfl, hr a ha⟩) (fun a ha => h a ha)
/-- A loop that only looks: all rows are lent for a round. -/
theorem evalK_lend {P : Program} {E : Env} {pl : Nat → List (Nat × Bool × List Nat)} {t : List AV} {b : List (List AV)} {r : List Arr} {Q : Ex → St → Prop} {x : Code} {α : Type} (ks : List Nat) (hnc : ∀ i, pl (i + 200000) = []) (hno : noDst ks x = true) (hfl : flatB b = true) (I : α → Prop) (ch : α → List (Nat × AV)) (μ : α → Nat) (a0 : α)
    (hI : I a0) (h0 : (⟨t, b, r⟩ : St).le ⟨setAll (keepT ks 0 t) (ch a0), b, r⟩)
    (h : ∀ a, I a → evalK P E pl x ⟨setAll (keepT ks 0 t) (ch a), b, lendR r⟩ fun e s => match e with
      | .normal => ∃ a', I a' ∧ μ a' < μ a ∧ (sameR s.r r ∧ sameB s.b b) ∧ (⟨backT ks 0 (setAll (keepT ks 0 t) (ch a)) s.t, b, r⟩ : St).le ⟨setAll (keepT ks 0 t) (ch a'), b, r⟩
      | .exit i => (sameR s.r r ∧ sameB s.b b) ∧ Q (.exit i) ⟨backT ks 0 (setAll (keepT ks 0 t) (ch a)) s.t, b, r⟩
      | .ret => Q .ret s
      | .panic v => Q (.panic v) s) : evalK P E pl (.loop x) ⟨t, b, r⟩ Q := by
  refine .inr (.inr ⟨{ a : α // I a }, fun a => ⟨setAll (keepT ks 0 t) (ch a.1), b, r⟩, fun a => μ a.1, ⟨a0, hI⟩, ks, hnc, hno, h0, fun a => ⟨⟨hfl, rfl⟩, Nat.le_refl _⟩, fun a => ?_⟩)
  have := h a.1 a.2
  refine cast (congrArg (evalK P E pl x _) (funext fun e => funext fun s => ?_)) this
  cases e with
  | normal => exact propext ⟨fun ⟨a', h1, h2, h3, h4⟩ => ⟨⟨a', h1⟩, h2, h3, h4⟩, fun ⟨⟨a', h1⟩, h2, h3, h4⟩ => ⟨a', h1, h2, h3, h4⟩⟩
  | _ => rfl

theorem stillK_c {P : Program} {E : Env} {L : List Oper} {o : Oper} {G : List (Nat × Bool)} {st : St} {K : List (Nat × Bool) → St → Prop} : stillK P E L o G st K = stillK P E L o G st K := rfl
theorem stillV_c {P : Program} {E : Env} {o : Oper} {g g' : Bool} {G : List (Nat × Bool)} {st : St} {F : AV → Prop} (h : g = g') : stillV P E o g G st F = stillV P E o g' G st F := by rw [h]
theorem splitK_c {P : Program} {E : Env} {o : Oper} {gd : Tmp} {x x' pol : Bool} {G : List (Nat × Bool)} {st : St} {K : List (Nat × Bool) → St → Prop} {KP : AV → St → Prop} (h : x = x') : splitK P E o gd x pol G st K KP = splitK P E o gd x' pol G st K KP := by rw [h]
theorem resK_c {P : Program} {st st' : St} {l : List ResultVar} {K : List AV → Prop} (h : st = st') : resK P st l K = resK P st' l K := by rw [h]

/-! ### rules without open matches: what follows is not looked into before it is reached -/
def optK {α : Type} (x : Option α) (F : α → Prop) : Prop := match x with | some o => F o | none => False
theorem optK_some {α : Type} (o : α) (F : α → Prop) : optK (some o) F = F o := rfl
theorem optK_none {α : Type} (F : α → Prop) : optK none F = False := rfl
theorem optK_c {α : Type} {x x' : Option α} {F : α → Prop} (h : x = x') : optK x F = optK x' F := by rw [h]
section
variable {P : Program} {E : Env} {L : List Oper} {G : List (Nat × Bool)} {st : St} {K : List (Nat × Bool) → St → Prop} {KP : AV → St → Prop}
theorem planK_nil (K : St → Prop) : planK P E L [] G st K KP = K (clean G st) := rfl
theorem planK_do (i : Nat) (rc : List Nat) (l : List (Nat × Bool × List Nat)) (K : St → Prop) : planK P E L ((i, true, rc) :: l) G st K KP = optK L[i]? fun o => opN P E L o G st (fun G st => pendL P E L G st rc ∧ planK P E L l G st K KP) KP := by
  simp only [planK, optK]
  cases L[i]? <;> rfl
theorem planK_look (i : Nat) (rc : List Nat) (l : List (Nat × Bool × List Nat)) (K : St → Prop) : planK P E L ((i, false, rc) :: l) G st K KP = optK L[i]? fun o => stillK P E L o G st (fun G st => planK P E L l G st K KP) := by
  simp only [planK, optK]
  cases L[i]? <;> rfl
theorem opsK_nil (K : St → Prop) : opsK P E L [] G st K KP = K (clean G st) := rfl
theorem opsK_cons (o : Oper) (l : List Oper) (K : St → Prop) : opsK P E L (o :: l) G st K KP = opN P E L o G st (fun G st => opsK P E L l G st K KP) KP := rfl
theorem opK_free (d : Option Tmp) (op : Op) (ty : TypeId) (p : String) (ar : Array Edge) : opK P E L ⟨d, op, ty, p, ar, none⟩ G st K KP = (need G op st ∧ runK E (opR P ⟨d, op, ty, p, ar, none⟩ st) (fun v st => K G (st.put d v)) KP) := rfl
theorem opK_guard (d : Option Tmp) (op : Op) (ty : TypeId) (p : String) (ar : Array Edge) (gi : Nat) (pol : Bool) : opK P E L ⟨d, op, ty, p, ar, some (gi, pol)⟩ G st K KP =
    optK (gval L st gi) fun q => valid G q.1 ∧ guardK P E ⟨d, op, ty, p, ar, some (gi, pol)⟩ q.1 q.2 pol (opR P ⟨d, op, ty, p, ar, some (gi, pol)⟩ st) G st K KP := by
  simp only [opK, optK]
  cases gval L st gi <;> rfl
theorem opN_guard (d : Option Tmp) (op : Op) (ty : TypeId) (p : String) (ar : Array Edge) (gi : Nat) (pol : Bool) : opN P E L ⟨d, op, ty, p, ar, some (gi, pol)⟩ G st K KP =
    optK (gval L st gi) fun q => guardK P E ⟨d, op, ty, p, ar, some (gi, pol)⟩ q.1 (gX (vG G q.1) q.2 pol) pol (opR P ⟨d, op, ty, p, ar, some (gi, pol)⟩ st) G st K KP := by
  simp only [opN, optK]
  cases gval L st gi <;> rfl
theorem gX_true (x pol : Bool) : gX true x pol = x := rfl
theorem gX_false (x pol : Bool) : gX false x pol = !pol := rfl
theorem gX_beq (g x pol : Bool) : (gX g x pol == pol) = (g && (x == pol)) := by cases g <;> cases x <;> cases pol <;> rfl
theorem stillK_free (d : Option Tmp) (op : Op) (ty : TypeId) (p : String) (ar : Array Edge) : stillK P E L ⟨d, op, ty, p, ar, none⟩ G st K = stillW (detR E (opR P ⟨d, op, ty, p, ar, none⟩ st)) (need G op st) true st fun v => K G (st.put d v) := rfl
theorem stillK_guard (d : Option Tmp) (op : Op) (ty : TypeId) (p : String) (ar : Array Edge) (gi : Nat) (pol : Bool) : stillK P E L ⟨d, op, ty, p, ar, some (gi, pol)⟩ G st K =
    optK (gval L st gi) fun q => stillW (detR E (opR P ⟨d, op, ty, p, ar, some (gi, pol)⟩ st)) (need G op st) (gX (vG G q.1) q.2 pol == pol) st fun v => K (addG d (gX (vG G q.1) q.2 pol == pol) G) (st.put d v) := by
  simp only [stillK, optK]
  cases gval L st gi <;> rfl
theorem stillW_ok (p nd : Prop) (v : AV) (st' : St) (g : Bool) (F : AV → Prop) : stillW (.ok p v st') nd g st F = ((g = true → nd ∧ p) ∧ (st'.b = st.b ∧ st'.r = st.r) ∧ F v) := rfl
theorem stillW_elem (p nd : Prop) (es : List (List D)) (k n : Nat) (st' : St) (g : Bool) (F : AV → Prop) : stillW (.elem p es k n st') nd g st F = ((g = true → nd ∧ p) ∧ (st'.b = st.b ∧ st'.r = st.r) ∧ elemG g es k n fun y => F (.cptr y)) := rfl
theorem stillW_byte (p nd : Prop) (s : List UInt8) (k : Nat) (st' : St) (g : Bool) (F : AV → Prop) : stillW (.byte p s k st') nd g st F = ((g = true → nd ∧ p) ∧ (st'.b = st.b ∧ st'.r = st.r) ∧ F (.d (.int .u8 ((s.getD k 0).toNat : Int)))) := rfl
theorem stillW_fail (nd : Prop) (g : Bool) (F : AV → Prop) : stillW .fail nd g st F = (g = false ∧ F .undef) := rfl

variable (o : Oper) (gd : Tmp) (x pol : Bool)
theorem guardK_ok (h : stillOp o.op = true) (p : Prop) (v : AV) (st' : St) : guardK P E o gd x pol (.ok p v st') G st K KP = (((x == pol) = true → need G o.op st ∧ p) ∧ (st'.b = st.b ∧ st'.r = st.r) ∧ K (addG o.dst (x == pol) G) (st.put o.dst v)) := by
  unfold guardK; rw [h]
theorem guardK_elem (h : stillOp o.op = true) (p : Prop) (es : List (List D)) (k n : Nat) (st' : St) : guardK P E o gd x pol (.elem p es k n st') G st K KP = (((x == pol) = true → need G o.op st ∧ p) ∧ (st'.b = st.b ∧ st'.r = st.r) ∧ elemG (x == pol) es k n fun y => K (addG o.dst (x == pol) G) (st.put o.dst (.cptr y))) := by
  unfold guardK; rw [h]
theorem guardK_byte (h : stillOp o.op = true) (p : Prop) (s : List UInt8) (k : Nat) (st' : St) : guardK P E o gd x pol (.byte p s k st') G st K KP = (((x == pol) = true → need G o.op st ∧ p) ∧ (st'.b = st.b ∧ st'.r = st.r) ∧ K (addG o.dst (x == pol) G) (st.put o.dst (.d (.int .u8 ((s.getD k 0).toNat : Int))))) := by
  unfold guardK; rw [h]
theorem detR_ok (p : Prop) (v : AV) (s : St) : detR E (.ok p v s) = .ok p v s := rfl
theorem detR_elem (p : Prop) (es : List (List D)) (k n : Nat) (s : St) : detR E (.elem p es k n s) = .elem p es k n s := rfl
theorem detR_byte (p : Prop) (b : List UInt8) (k : Nat) (s : St) : detR E (.byte p b k s) = .byte p b k s := rfl
theorem detR_fail : detR E .fail = .fail := rfl
theorem detR_call (f : FuncId) (args : List AV) (s : St) : detR E (.call f args s) = detRk (E.Dt f) (allD args) (.call f args s) s := rfl
theorem detRk_some (h : Det) (ds : List D) (R : Res) (s : St) : detRk (some h) (some ds) R s = .ok (h ds).1 (h ds).2 s := rfl
def detK (h : Option Det) (ds : Option (List D)) (F : Prop × AV → Prop) (S : Prop) : Prop := match h, ds with | some h, some ds => F (h ds) | _, _ => S
theorem detK_some (h : Det) (ds : List D) (F : Prop × AV → Prop) (S : Prop) : detK (some h) (some ds) F S = F (h ds) := rfl
theorem detK_none (ds : Option (List D)) (F : Prop × AV → Prop) (S : Prop) : detK none ds F S = S := by cases ds <;> rfl
theorem detK_none' (h : Option Det) (F : Prop × AV → Prop) (S : Prop) : detK h none F S = S := by cases h <;> rfl
theorem detK_c {h h' : Option Det} {ds ds' : Option (List D)} {F : Prop × AV → Prop} {S : Prop} (e : h = h') (e' : ds = ds') : detK h ds F S = detK h' ds' F S := by rw [e, e']
theorem guardK_call (h : stillOp o.op = true) (f : FuncId) (args : List AV) (st' : St) : guardK P E o gd x pol (.call f args st') G st K KP =
    detK (E.Dt f) (allD args) (fun q => ((x == pol) = true → need G o.op st ∧ q.1) ∧ K (addG o.dst (x == pol) G) (st.put o.dst q.2)) (splitK P E o gd x pol G st K KP) := by
  unfold guardK detK
  rw [h]
  dsimp only
  cases E.Dt f <;> cases allD args <;> rfl
theorem guardK_fail : guardK P E o gd x pol .fail G st K KP = splitK P E o gd x pol G st K KP := by
  unfold guardK
  cases stillOp o.op <;> rfl
theorem guardK_any (p : Prop) (q : Bool → Prop) (st' : St) : guardK P E o gd x pol (.any p q st') G st K KP = splitK P E o gd x pol G st K KP := by
  unfold guardK
  cases stillOp o.op <;> rfl
theorem guardK_panic (v : AV) (st' : St) : guardK P E o gd x pol (.panic v st') G st K KP = splitK P E o gd x pol G st K KP := by
  unfold guardK
  cases stillOp o.op <;> rfl
theorem guardK_not (h : stillOp o.op = false) (R : Res) : guardK P E o gd x pol R G st K KP = splitK P E o gd x pol G st K KP := by
  unfold guardK
  rw [h]
theorem splitK_eq : splitK P E o gd x pol G st K KP = ((x = pol → need G o.op (st.put (some gd) (.d (.bool pol))) ∧ runK E (opR P o (st.put (some gd) (.d (.bool pol)))) (fun v st => K G (st.put o.dst v)) KP) ∧
  (x = !pol → K G ((st.put (some gd) (.d (.bool !pol))).put o.dst .undef))) := rfl
end
section
variable {E : Env} {K KP : AV → St → Prop}
theorem runK_ok (p : Prop) (v : AV) (st : St) : runK E (.ok p v st) K KP = (p ∧ K v st) := rfl
theorem runK_elem (p : Prop) (es : List (List D)) (k n : Nat) (st : St) : runK E (.elem p es k n st) K KP = (p ∧ elemK es k n fun x => K (.cptr x) st) := rfl
theorem runK_byte (p : Prop) (s : List UInt8) (k : Nat) (st : St) : runK E (.byte p s k st) K KP = (p ∧ byteK s k fun c => K (.d (.int .u8 (c.toNat : Int))) st) := rfl
theorem runK_any (p : Prop) (q : Bool → Prop) (st : St) : runK E (.any p q st) K KP = (p ∧ anyK q fun b => K (.d (.bool b)) st) := rfl
theorem runK_fail : runK E .fail K KP = False := rfl
theorem runK_panic (x : AV) (st : St) : runK E (.panic x st) K KP = KP x st := rfl
def afterC (st : St) (K KP : AV → St → Prop) (o : Out) (b : List (List AV)) (r : List Arr) : Prop := match o with
  | .ret x => K x { st with b := b, r := r }
  | .panic x => KP x { st with b := b, r := r }
theorem afterC_ret (st : St) (x : AV) (b : List (List AV)) (r : List Arr) : afterC st K KP (.ret x) b r = K x { st with b := b, r := r } := rfl
theorem afterC_panic (st : St) (x : AV) (b : List (List AV)) (r : List Arr) : afterC st K KP (.panic x) b r = KP x { st with b := b, r := r } := rfl
theorem afterC_c {st st' : St} {o o' : Out} {b b' : List (List AV)} {r r' : List Arr} (h : st = st') (h1 : o = o') (h2 : b = b') (h3 : r = r') : afterC st K KP o b r = afterC st' K KP o' b' r' := by rw [h, h1, h2, h3]
theorem runK_call (l : List (FuncId × Known)) (f : FuncId) (args : List AV) (st : St) : runK (mkEnv l) (.call f args st) K KP = optK (lookK l f) fun k => k.H args st.b st.r (afterC st K KP) := by
  show hOf (lookK l f) args st.b st.r _ = _
  cases lookK l f with
  | none => rfl
  | some k => rfl
theorem dt_eq (l : List (FuncId × Known)) (f : FuncId) : (mkEnv l).Dt f = dOf (lookK l f) := rfl
theorem dOf_some (k : Known) : dOf (some k) = k.Dt := rfl
theorem dOf_none : dOf none = none := rfl
theorem Dt_det (h : Det) : (Known.det h).Dt = some h := rfl
theorem Dt_spec (s : Spec) : (Known.spec s).Dt = none := rfl
theorem Dt_raw (h : Handler) : (Known.raw h).Dt = none := rfl
variable {args : List AV} {b : List (List AV)} {r : List Arr} {Kh : Out → List (List AV) → List Arr → Prop}
theorem H_det (h : Det) : (Known.det h).H args b r Kh = optK (toDL r args) fun ds => (h ds).1 ∧ Kh (.ret (h ds).2) b (share r (arrIdsL args)) := by
  show specH h.spec args b r Kh = _
  unfold specH optK
  cases toDL r args <;> rfl
theorem H_spec (s : Spec) : (Known.spec s).H args b r Kh = optK (toDL r args) fun ds => s ds fun o => Kh o b (share r (arrIdsL args)) := by
  show specH s args b r Kh = _
  unfold specH optK
  cases toDL r args <;> rfl
theorem H_raw (h : Handler) : (Known.raw h).H args b r Kh = h args b r Kh := rfl
theorem H_mem (h : Handler) : (Known.mem h).H args b r Kh = frameH h args b r Kh := rfl
theorem Dt_mem (h : Handler) : (Known.mem h).Dt = none := rfl
theorem Kh_c {k : Known} {args args' : List AV} {b b' : List (List AV)} {r r' : List Arr} (h1 : args = args') (h2 : b = b') (h3 : r = r') : k.H args b r Kh = k.H args' b' r' Kh := by rw [h1, h2, h3]
end

theorem ite_dec_f (c : Prop) [Decidable c] (b : Bool) : (if c then b else false) = (decide c && b) := by by_cases h : c <;> simp [h]
theorem ite_dec_t (c : Prop) [Decidable c] (b : Bool) : (if c then true else b) = (decide c || b) := by by_cases h : c <;> simp [h]
theorem rng0 : (([] : List Nat) = List.range 0) = True := by simp [List.range, List.range.loop]
theorem rng1 : (([0] : List Nat) = List.range 1) = True := by simp [List.range, List.range.loop]
theorem rng2 : (([0, 1] : List Nat) = List.range 2) = True := by simp [List.range, List.range.loop]
theorem rng3 : (([0, 1, 2] : List Nat) = List.range 3) = True := by simp [List.range, List.range.loop]
theorem rng4 : (([0, 1, 2, 3] : List Nat) = List.range 4) = True := by simp [List.range, List.range.loop]
theorem rng5 : (([0, 1, 2, 3, 4] : List Nat) = List.range 5) = True := by simp [List.range, List.range.loop]
theorem rng6 : (([0, 1, 2, 3, 4, 5] : List Nat) = List.range 6) = True := by simp [List.range, List.range.loop]
theorem rng7 : (([0, 1, 2, 3, 4, 5, 6] : List Nat) = List.range 7) = True := by simp [List.range, List.range.loop]
theorem rng8 : (([0, 1, 2, 3, 4, 5, 6, 7] : List Nat) = List.range 8) = True := by simp [List.range, List.range.loop]
theorem opsB (b : Builtin) (args : List Operand) (ats : Array TypeId) : (Call.mk (.builtin b) args.toArray ats).operands.toList = args := by simp [Call.operands]
theorem opsV (f : Operand) (args : List Operand) (ats : Array TypeId) : (Call.mk (.value f) args.toArray ats).operands.toList = f :: args := by simp [Call.operands]
theorem opsI (r : Operand) (n : String) (args : List Operand) (ats : Array TypeId) : (Call.mk (.invoke r n) args.toArray ats).operands.toList = r :: args := by simp [Call.operands]
theorem opsS (x : Operand) (l h m : Option Operand) : (#[x] ++ l.toArray ++ h.toArray ++ m.toArray).toList = x :: (l.toList ++ h.toList ++ m.toList) := by cases l <;> cases h <;> cases m <;> rfl
theorem optL_none : (none : Option Operand).toList = [] := rfl
theorem optL_some (x : Operand) : (some x).toList = [x] := rfl
theorem get0 {α : Type} (a0 x : α) (l : List α) : (a0 :: l).getD 0 x = a0 := rfl
theorem elm0 {α : Type} (a0 : α) (l : List α) : (a0 :: l)[0]? = some a0 := rfl
theorem set0 {α : Type} (a0 x : α) (l : List α) : (a0 :: l).set 0 x = x :: l := rfl
theorem get1 {α : Type} (a0 a1 x : α) (l : List α) : (a0 :: a1 :: l).getD 1 x = a1 := rfl
theorem elm1 {α : Type} (a0 a1 : α) (l : List α) : (a0 :: a1 :: l)[1]? = some a1 := rfl
theorem set1 {α : Type} (a0 a1 x : α) (l : List α) : (a0 :: a1 :: l).set 1 x = a0 :: x :: l := rfl
theorem get2 {α : Type} (a0 a1 a2 x : α) (l : List α) : (a0 :: a1 :: a2 :: l).getD 2 x = a2 := rfl
theorem elm2 {α : Type} (a0 a1 a2 : α) (l : List α) : (a0 :: a1 :: a2 :: l)[2]? = some a2 := rfl
theorem set2 {α : Type} (a0 a1 a2 x : α) (l : List α) : (a0 :: a1 :: a2 :: l).set 2 x = a0 :: a1 :: x :: l := rfl
theorem get3 {α : Type} (a0 a1 a2 a3 x : α) (l : List α) : (a0 :: a1 :: a2 :: a3 :: l).getD 3 x = a3 := rfl
theorem elm3 {α : Type} (a0 a1 a2 a3 : α) (l : List α) : (a0 :: a1 :: a2 :: a3 :: l)[3]? = some a3 := rfl
theorem set3 {α : Type} (a0 a1 a2 a3 x : α) (l : List α) : (a0 :: a1 :: a2 :: a3 :: l).set 3 x = a0 :: a1 :: a2 :: x :: l := rfl
theorem get4 {α : Type} (a0 a1 a2 a3 a4 x : α) (l : List α) : (a0 :: a1 :: a2 :: a3 :: a4 :: l).getD 4 x = a4 := rfl
theorem elm4 {α : Type} (a0 a1 a2 a3 a4 : α) (l : List α) : (a0 :: a1 :: a2 :: a3 :: a4 :: l)[4]? = some a4 := rfl
theorem set4 {α : Type} (a0 a1 a2 a3 a4 x : α) (l : List α) : (a0 :: a1 :: a2 :: a3 :: a4 :: l).set 4 x = a0 :: a1 :: a2 :: a3 :: x :: l := rfl
theorem get5 {α : Type} (a0 a1 a2 a3 a4 a5 x : α) (l : List α) : (a0 :: a1 :: a2 :: a3 :: a4 :: a5 :: l).getD 5 x = a5 := rfl
theorem elm5 {α : Type} (a0 a1 a2 a3 a4 a5 : α) (l : List α) : (a0 :: a1 :: a2 :: a3 :: a4 :: a5 :: l)[5]? = some a5 := rfl
theorem set5 {α : Type} (a0 a1 a2 a3 a4 a5 x : α) (l : List α) : (a0 :: a1 :: a2 :: a3 :: a4 :: a5 :: l).set 5 x = a0 :: a1 :: a2 :: a3 :: a4 :: x :: l := rfl
theorem get6 {α : Type} (a0 a1 a2 a3 a4 a5 a6 x : α) (l : List α) : (a0 :: a1 :: a2 :: a3 :: a4 :: a5 :: a6 :: l).getD 6 x = a6 := rfl
theorem elm6 {α : Type} (a0 a1 a2 a3 a4 a5 a6 : α) (l : List α) : (a0 :: a1 :: a2 :: a3 :: a4 :: a5 :: a6 :: l)[6]? = some a6 := rfl
theorem set6 {α : Type} (a0 a1 a2 a3 a4 a5 a6 x : α) (l : List α) : (a0 :: a1 :: a2 :: a3 :: a4 :: a5 :: a6 :: l).set 6 x = a0 :: a1 :: a2 :: a3 :: a4 :: a5 :: x :: l := rfl
theorem get7 {α : Type} (a0 a1 a2 a3 a4 a5 a6 a7 x : α) (l : List α) : (a0 :: a1 :: a2 :: a3 :: a4 :: a5 :: a6 :: a7 :: l).getD 7 x = a7 := rfl
theorem elm7 {α : Type} (a0 a1 a2 a3 a4 a5 a6 a7 : α) (l : List α) : (a0 :: a1 :: a2 :: a3 :: a4 :: a5 :: a6 :: a7 :: l)[7]? = some a7 := rfl
theorem set7 {α : Type} (a0 a1 a2 a3 a4 a5 a6 a7 x : α) (l : List α) : (a0 :: a1 :: a2 :: a3 :: a4 :: a5 :: a6 :: a7 :: l).set 7 x = a0 :: a1 :: a2 :: a3 :: a4 :: a5 :: a6 :: x :: l := rfl
theorem get8 {α : Type} (a0 a1 a2 a3 a4 a5 a6 a7 x : α) (l : List α) (n : Nat) : (a0 :: a1 :: a2 :: a3 :: a4 :: a5 :: a6 :: a7 :: l).getD (n + 8) x = l.getD n x := rfl
theorem elm8 {α : Type} (a0 a1 a2 a3 a4 a5 a6 a7 : α) (l : List α) (n : Nat) : (a0 :: a1 :: a2 :: a3 :: a4 :: a5 :: a6 :: a7 :: l)[n + 8]? = l[n]? := rfl
theorem set8 {α : Type} (a0 a1 a2 a3 a4 a5 a6 a7 x : α) (l : List α) (n : Nat) : (a0 :: a1 :: a2 :: a3 :: a4 :: a5 :: a6 :: a7 :: l).set (n + 8) x = a0 :: a1 :: a2 :: a3 :: a4 :: a5 :: a6 :: a7 :: l.set n x := rfl
theorem allS (c : Nat) (p : Nat → Prop) : (∀ d, some c = some d → p d) = p c := propext ⟨fun h => h c rfl, fun h d e => by injection e with e; exact e ▸ h⟩
theorem allN (p : Nat → Prop) : (∀ d, (none : Option Nat) = some d → p d) = True := by simp
end Go.PE
end

section
/- The evaluator: the rules by which simp runs it. What follows stands in a box that simp does not open before it is reached (arguments of a class are left alone by simp). -/
set_option linter.unusedVariables false
set_option linter.unusedSimpArgs false
namespace Go.PE
open Go

class Kt (α : Type) where v : α
structure Cx where
  P : Program
  l : List (FuncId × Known)
  pl : Nat → List (Nat × Bool × List Nat)
  L : List Oper

section defs
variable [cx : Kt Cx]
def Cx.E (c : Cx) : Env := mkEnv c.l
def eK (st : St) [c : Kt Code] [Q : Kt (Ex → St → Prop)] : Prop := evalK cx.v.P cx.v.E cx.v.pl c.v st Q.v
def oK (G : List (Nat × Bool)) (st : St) [l : Kt (List Oper)] [K : Kt (St → Prop)] [KP : Kt (AV → St → Prop)] : Prop := opsK cx.v.P cx.v.E cx.v.L l.v G st K.v KP.v
def pK (G : List (Nat × Bool)) (st : St) [l : Kt (List (Nat × Bool × List Nat))] [K : Kt (St → Prop)] [KP : Kt (AV → St → Prop)] : Prop := planK cx.v.P cx.v.E cx.v.L l.v G st K.v KP.v
def p0 (l : List (Nat × Bool × List Nat)) (G : List (Nat × Bool)) (st : St) [K : Kt (St → Prop)] [KP : Kt (AV → St → Prop)] : Prop := planK cx.v.P cx.v.E cx.v.L l G st K.v KP.v
def o1 (G : List (Nat × Bool)) (st : St) [o : Kt Oper] [K : Kt (List (Nat × Bool) → St → Prop)] [KP : Kt (AV → St → Prop)] : Prop := opN cx.v.P cx.v.E cx.v.L o.v G st K.v KP.v
def o2 (G : List (Nat × Bool)) (st : St) [o : Kt Oper] [K : Kt (List (Nat × Bool) → St → Prop)] [KP : Kt (AV → St → Prop)] : Prop := opN cx.v.P cx.v.E cx.v.L o.v G st K.v KP.v
def s1 (G : List (Nat × Bool)) (st : St) [o : Kt Oper] [K : Kt (List (Nat × Bool) → St → Prop)] : Prop := stillK cx.v.P cx.v.E cx.v.L o.v G st K.v
def rK (R : Res) [K : Kt (AV → St → Prop)] [KP : Kt (AV → St → Prop)] : Prop := runK cx.v.E R K.v KP.v
def gK (x pol : Bool) (R : Res) [o : Kt Oper] [gd : Kt Tmp] [G : Kt (List (Nat × Bool))] [st : Kt St] [K : Kt (List (Nat × Bool) → St → Prop)] [KP : Kt (AV → St → Prop)] : Prop := guardK cx.v.P cx.v.E o.v gd.v x pol R G.v st.v K.v KP.v
def spK (x pol : Bool) [o : Kt Oper] [gd : Kt Tmp] [G : Kt (List (Nat × Bool))] [st : Kt St] [K : Kt (List (Nat × Bool) → St → Prop)] [KP : Kt (AV → St → Prop)] : Prop := splitK cx.v.P cx.v.E o.v gd.v x pol G.v st.v K.v KP.v
def gh (l : List (Nat × Bool × List Nat)) (st : St) [K : Kt (St → Prop)] : Prop := ghostK l st K.v
/-- A region by its kind. -/
def eR (n : Nat) (st : St) [l : Kt (List Oper)] [Q : Kt (Ex → St → Prop)] : Prop := match n with
  | 0 => opsK cx.v.P cx.v.E l.v l.v [] st (fun st => Q.v .normal st) fun x st => Q.v (.panic x) st
  | 2 => match litR cx.v.P (l.v.take 2) st with
    | some q => q.1 ∧ opsK cx.v.P cx.v.E l.v (l.v.drop 2) [] q.2 (fun st => Q.v .normal st) fun x st => Q.v (.panic x) st
    | none => False
  | _ => opsK cx.v.P cx.v.E l.v (l.v.take 2) [] st (fun st => clearK cx.v.P (l.v.drop 2) st fun st => Q.v .normal st) fun x st => Q.v (.panic x) st
end defs
section
variable [cx : Kt Cx]
def o0 (l : List Oper) (G : List (Nat × Bool)) (st : St) [K : Kt (St → Prop)] [KP : Kt (AV → St → Prop)] : Prop := opsK cx.v.P cx.v.E cx.v.L l G st K.v KP.v
/-- A region that is cut, or is not. -/
def cu (i : Option Nat) (nr : Nat) (st : St) [l : Kt (List Oper)] [Q : Kt (Ex → St → Prop)] : Prop := match i with
  | some i => opsK cx.v.P cx.v.E l.v (l.v.take i) [] st (fun st => match l.v[i]? with
      | some o => match cutR cx.v.P nr o st with
        | some q => q.1 ∧ opsK cx.v.P cx.v.E l.v (l.v.drop (i + 1)) [] q.2 (fun st => Q.v .normal st) fun x st => Q.v (.panic x) st
        | none => False
      | none => False) fun x st => Q.v (.panic x) st
  | none => eR (kindL l.v) st
def lK (n : Nat) (st : St) [c : Kt Code] [Q : Kt (Ex → St → Prop)] : Prop := iterK (fun st Q => evalK cx.v.P cx.v.E cx.v.pl c.v st Q) n st Q.v
end
def clK (q : Option (Prop × St)) [K : Kt (St → Prop)] : Prop := match q with
  | some q => q.1 ∧ K.v q.2
  | none => False
def sW (R : Res) (nd : Prop) (g : Bool) (st : St) [F : Kt (AV → Prop)] : Prop := stillW R nd g st F.v
def cK (v : AV) [T : Kt Prop] [F : Kt Prop] : Prop := condK v T.v F.v
def nK {α : Type} (x : Option α) [F : Kt (α → Prop)] : Prop := optK x F.v
def dK (h : Option Det) (ds : Option (List D)) [F : Kt (Prop × AV → Prop)] [S : Kt Prop] : Prop := detK h ds F.v S.v
def eG (g : Bool) (es : List (List D)) (k n : Nat) [F : Kt (List D → Prop)] : Prop := elemG g es k n F.v
def eL (es : List (List D)) (k n : Nat) [F : Kt (List D → Prop)] : Prop := elemK es k n F.v
def bL (s : List UInt8) (k : Nat) [F : Kt (UInt8 → Prop)] : Prop := byteK s k F.v
def yK (q : Bool → Prop) [F : Kt (Bool → Prop)] : Prop := anyK q F.v
def aC (o : Out) (b : List (List AV)) (r : List Arr) [st : Kt St] [K : Kt (AV → St → Prop)] [KP : Kt (AV → St → Prop)] : Prop := afterC st.v K.v KP.v o b r
def hK (k : Known) (args : List AV) (b : List (List AV)) (r : List Arr) [K : Kt (Out → List (List AV) → List Arr → Prop)] : Prop := k.H args b r K.v
def uK (r : List Arr) (v : AV) [F : Kt (AV → Prop)] : Prop := outK r v F.v

theorem Dt_cx (c : Cx) (f : FuncId) : c.E.Dt f = dOf (lookK c.l f) := rfl
section code
variable {cx : Kt Cx} {st : St} {Q : Kt (Ex → St → Prop)}
theorem eK_skip : @eK cx st ⟨.skip⟩ Q = Q.v .normal st := rfl
theorem eK_label (l : Nat) : @eK cx st ⟨.label l⟩ Q = Q.v .normal st := rfl
theorem eK_seq (x y : Code) : @eK cx st ⟨.seq x y⟩ Q = @eK cx st ⟨x⟩ ⟨fun e st => match e with
    | .normal => @eK cx st ⟨y⟩ Q
    | e => Q.v e st⟩ := rfl
theorem eK_cond (c : Operand) (x y : Code) : @eK cx st ⟨.cond c x y⟩ Q = @cK (st.ev c) ⟨@eK cx st ⟨x⟩ Q⟩ ⟨@eK cx st ⟨y⟩ Q⟩ := rfl
theorem eK_block (id : Nat) (x : Code) : @eK cx st ⟨.block id x⟩ Q = @eK cx st ⟨x⟩ ⟨fun e st => match e with
    | .exit i => if i = id then Q.v .normal st else Q.v (.exit i) st
    | e => Q.v e st⟩ := rfl
theorem eK_exit (i : Nat) : @eK cx st ⟨.exit i⟩ Q = Q.v (.exit i) st := rfl
theorem eK_ret : @eK cx st ⟨.ret⟩ Q = Q.v .ret st := rfl
theorem eK_region (id : Nat) (l : List Oper) : @eK cx st ⟨.region id l.toArray false⟩ Q = @gh (cx.v.pl (id + 100000)) st ⟨fun st => @cu cx (cutAt cx.v.pl id) (nrP cx.v.pl) st ⟨l⟩ Q⟩ := rfl
theorem cu_none (nr : Nat) (l : List Oper) : @cu cx none nr st ⟨l⟩ Q = @eR cx (kindL l) st ⟨l⟩ Q := rfl
theorem o0_nil (G : List (Nat × Bool)) (K : Kt (St → Prop)) (KP : Kt (AV → St → Prop)) : @o0 cx [] G st K KP = @oK cx G st ⟨[]⟩ K KP := rfl
theorem o0_cons (o : Oper) (l : List Oper) (G : List (Nat × Bool)) (K : Kt (St → Prop)) (KP : Kt (AV → St → Prop)) : @o0 cx (o :: l) G st K KP = @oK cx G st ⟨o :: l⟩ K KP := rfl
theorem lK_0 (x : Code) : @lK cx 0 st ⟨x⟩ Q = False := rfl
theorem lK_succ (n : Nat) (x : Code) : @lK cx (n + 1) st ⟨x⟩ Q = @eK cx st ⟨x⟩ ⟨fun e s => match e with
    | .normal => @lK cx n s ⟨x⟩ Q
    | e => Q.v e s⟩ := rfl
theorem eR_0 (l : List Oper) : @eR cx 0 st ⟨l⟩ Q = @oK ⟨{ cx.v with L := l }⟩ [] st ⟨l⟩ ⟨fun st => Q.v .normal st⟩ ⟨fun x st => Q.v (.panic x) st⟩ := rfl
theorem eR_1 (o1 o2 o3 o4 : Oper) : @eR cx 1 st ⟨[o1, o2, o3, o4]⟩ Q = @oK ⟨{ cx.v with L := [o1, o2, o3, o4] }⟩ [] st ⟨[o1, o2]⟩ ⟨fun st => @clK (clearR cx.v.P [o3, o4] st) ⟨fun st => Q.v .normal st⟩⟩ ⟨fun x st => Q.v (.panic x) st⟩ := rfl
theorem eR_2 (o1 o2 : Oper) (l : List Oper) : @eR cx 2 st ⟨o1 :: o2 :: l⟩ Q = @clK (litR cx.v.P [o1, o2] st) ⟨fun st => @oK ⟨{ cx.v with L := o1 :: o2 :: l }⟩ [] st ⟨l⟩ ⟨fun st => Q.v .normal st⟩ ⟨fun x st => Q.v (.panic x) st⟩⟩ := rfl
theorem cu_some (i nr : Nat) (l : List Oper) : @cu cx (some i) nr st ⟨l⟩ Q = @o0 ⟨{ cx.v with L := l }⟩ (l.take i) [] st ⟨fun st => @nK _ l[i]? ⟨fun o => @clK (cutR cx.v.P nr o st) ⟨fun st => @o0 ⟨{ cx.v with L := l }⟩ (l.drop (i + 1)) [] st ⟨fun st => Q.v .normal st⟩ ⟨fun x st => Q.v (.panic x) st⟩⟩⟩⟩ ⟨fun x st => Q.v (.panic x) st⟩ := by
  show opsK _ _ _ _ _ _ _ _ = opsK _ _ _ _ _ _ _ _
  congr 1
  funext st
  show _ = optK _ _
  unfold optK
  cases l[i]? with
  | none => rfl
  | some o =>
    dsimp only
    unfold clK
    cases cutR cx.v.P nr o st <;> rfl
theorem clK_some (q : Prop × St) (K : Kt (St → Prop)) : @clK (some q) K = (q.1 ∧ K.v q.2) := rfl
theorem eK_drawn (id : Nat) (l : List Oper) : @eK cx st ⟨.region id l.toArray true⟩ Q = @gh (cx.v.pl (id + 100000)) st ⟨fun st => @p0 ⟨{ cx.v with L := l }⟩ (cx.v.pl id) [] st ⟨fun st => Q.v .normal st⟩ ⟨fun x st => Q.v (.panic x) st⟩⟩ := rfl
theorem gh_nil (st : St) (K : Kt (St → Prop)) : @gh [] st K = K.v st := rfl
theorem gh_link (id : Nat) (x : List Nat) (l : List (Nat × Bool × List Nat)) (st : St) (K : Kt (St → Prop)) : @gh ((id, true, x) :: l) st K = @nK _ st.r[id]? ⟨fun A => A.sz ≤ 1 ∧ @gh l { st with r := st.r.set id { A with sz := 0 } } K⟩ := by
  show ghostK _ _ _ = optK _ _
  simp only [ghostK, optK]
  cases st.r[id]? <;> rfl
theorem gh_unlink (id : Nat) (x : List Nat) (l : List (Nat × Bool × List Nat)) (st : St) (K : Kt (St → Prop)) : @gh ((id, false, x) :: l) st K = @nK _ st.r[id]? ⟨fun A => @nK _ (resL st.r x A.es) ⟨fun es => A.sz = 0 ∧ @gh l { st with r := (share st.r (id :: x)).set id { A with sz := 1, es := es, sh := true } } K⟩⟩ := by
  show ghostK _ _ _ = optK _ _
  simp only [ghostK, optK]
  cases st.r[id]? with
  | none => rfl
  | some A =>
    show _ = optK _ _
    simp only [optK]
    cases resL st.r x A.es <;> rfl
end code
section
variable {T F : Kt Prop}
theorem cK_true : @cK (.d (.bool true)) T F = T.v := condK_true _ _
theorem cK_false : @cK (.d (.bool false)) T F = F.v := condK_false _ _
theorem cK_bool (e : Bool) : @cK (.d (.bool e)) T F = ((e = true → T.v) ∧ (e = false → F.v)) := rfl
theorem nK_some {α : Type} (o : α) (F : Kt (α → Prop)) : @nK α (some o) F = F.v o := rfl
theorem nK_none {α : Type} (F : Kt (α → Prop)) : @nK α none F = False := rfl
end
section ops
variable {cx : Kt Cx} {G : List (Nat × Bool)} {st : St} {K1 : Kt (St → Prop)} {KP : Kt (AV → St → Prop)} {K : Kt (List (Nat × Bool) → St → Prop)}
theorem oK_nil : @oK cx G st ⟨[]⟩ K1 KP = K1.v (clean G st) := rfl
theorem oK_cons (o : Oper) (l : List Oper) : @oK cx G st ⟨o :: l⟩ K1 KP = @o2 cx G st ⟨o⟩ ⟨fun G st => @oK cx G st ⟨l⟩ K1 KP⟩ KP := rfl
theorem p0_cons (x : Nat × Bool × List Nat) (l : List (Nat × Bool × List Nat)) : @p0 cx (x :: l) G st K1 KP = @pK cx G st ⟨x :: l⟩ K1 KP := rfl
theorem pK_nil : @pK cx G st ⟨[]⟩ K1 KP = K1.v (clean G st) := rfl
theorem pK_do (i : Nat) (rc : List Nat) (l : List (Nat × Bool × List Nat)) : @pK cx G st ⟨(i, true, rc) :: l⟩ K1 KP = @nK Oper cx.v.L[i]? ⟨fun o => @o1 cx G st ⟨o⟩ ⟨fun G st => pendL cx.v.P cx.v.E cx.v.L G st rc ∧ @pK cx G st ⟨l⟩ K1 KP⟩ KP⟩ := planK_do ..
theorem pK_look (i : Nat) (rc : List Nat) (l : List (Nat × Bool × List Nat)) : @pK cx G st ⟨(i, false, rc) :: l⟩ K1 KP = @nK Oper cx.v.L[i]? ⟨fun o => @s1 cx G st ⟨o⟩ ⟨fun G st => @pK cx G st ⟨l⟩ K1 KP⟩⟩ := planK_look ..
variable (d : Option Tmp) (op : Op) (ty : TypeId) (p : String) (ar : Array Edge) (gi : Nat) (pol : Bool)
theorem o1_free : @o1 cx G st ⟨⟨d, op, ty, p, ar, none⟩⟩ K KP = (need G op st ∧ @rK cx (opR cx.v.P ⟨d, op, ty, p, ar, none⟩ st) ⟨fun v st => K.v G (st.put d v)⟩ KP) := rfl
theorem o1_guard : @o1 cx G st ⟨⟨d, op, ty, p, ar, some (gi, pol)⟩⟩ K KP =
    @nK _ (gval cx.v.L st gi) ⟨fun q => @gK cx (gX (vG G q.1) q.2 pol) pol (opR cx.v.P ⟨d, op, ty, p, ar, some (gi, pol)⟩ st) ⟨⟨d, op, ty, p, ar, some (gi, pol)⟩⟩ ⟨q.1⟩ ⟨G⟩ ⟨st⟩ K KP⟩ := opN_guard ..
theorem o2_free : @o2 cx G st ⟨⟨d, op, ty, p, ar, none⟩⟩ K KP = (need G op st ∧ @rK cx (opR cx.v.P ⟨d, op, ty, p, ar, none⟩ st) ⟨fun v st => K.v G (st.put d v)⟩ KP) := rfl
theorem o2_guard : @o2 cx G st ⟨⟨d, op, ty, p, ar, some (gi, pol)⟩⟩ K KP =
    @nK _ (gval cx.v.L st gi) ⟨fun q => @gK cx (gX (vG G q.1) q.2 pol) pol (opR cx.v.P ⟨d, op, ty, p, ar, some (gi, pol)⟩ st) ⟨⟨d, op, ty, p, ar, some (gi, pol)⟩⟩ ⟨q.1⟩ ⟨G⟩ ⟨st⟩ K KP⟩ := opN_guard ..
theorem s1_free : @s1 cx G st ⟨⟨d, op, ty, p, ar, none⟩⟩ K = @sW (detR cx.v.E (opR cx.v.P ⟨d, op, ty, p, ar, none⟩ st)) (need G op st) true st ⟨fun v => K.v G (st.put d v)⟩ := rfl
theorem s1_guard : @s1 cx G st ⟨⟨d, op, ty, p, ar, some (gi, pol)⟩⟩ K =
    @nK _ (gval cx.v.L st gi) ⟨fun q => @sW (detR cx.v.E (opR cx.v.P ⟨d, op, ty, p, ar, some (gi, pol)⟩ st)) (need G op st) (gX (vG G q.1) q.2 pol == pol) st ⟨fun v => K.v (addG d (gX (vG G q.1) q.2 pol == pol) G) (st.put d v)⟩⟩ := stillK_guard ..
end ops
section
variable {nd : Prop} {g : Bool} {st : St} {F : Kt (AV → Prop)}
theorem sW_ok (p : Prop) (v : AV) (st' : St) : @sW (.ok p v st') nd g st F = ((g = true → nd ∧ p) ∧ (st'.b = st.b ∧ st'.r = st.r) ∧ F.v v) := rfl
theorem sW_elem (p : Prop) (es : List (List D)) (k n : Nat) (st' : St) : @sW (.elem p es k n st') nd g st F = ((g = true → nd ∧ p) ∧ (st'.b = st.b ∧ st'.r = st.r) ∧ @eG g es k n ⟨fun y => F.v (.cptr y)⟩) := rfl
theorem sW_byte (p : Prop) (s : List UInt8) (k : Nat) (st' : St) : @sW (.byte p s k st') nd g st F = ((g = true → nd ∧ p) ∧ (st'.b = st.b ∧ st'.r = st.r) ∧ F.v (.d (.int .u8 ((s.getD k 0).toNat : Int)))) := rfl
theorem sW_fail : @sW .fail nd g st F = (g = false ∧ F.v .undef) := rfl
end
section guards
variable {cx : Kt Cx} {K : Kt (List (Nat × Bool) → St → Prop)} {KP : Kt (AV → St → Prop)} (o : Oper) (gd : Tmp) (x pol : Bool) (G : List (Nat × Bool)) (st : St)
theorem gK_ok (h : stillOp o.op = true) (p : Prop) (v : AV) (st' : St) : @gK cx x pol (.ok p v st') ⟨o⟩ ⟨gd⟩ ⟨G⟩ ⟨st⟩ K KP = (((x == pol) = true → need G o.op st ∧ p) ∧ (st'.b = st.b ∧ st'.r = st.r) ∧ K.v (addG o.dst (x == pol) G) (st.put o.dst v)) := guardK_ok _ _ _ _ h _ _ _
theorem gK_elem (h : stillOp o.op = true) (p : Prop) (es : List (List D)) (k n : Nat) (st' : St) : @gK cx x pol (.elem p es k n st') ⟨o⟩ ⟨gd⟩ ⟨G⟩ ⟨st⟩ K KP = (((x == pol) = true → need G o.op st ∧ p) ∧ (st'.b = st.b ∧ st'.r = st.r) ∧ @eG (x == pol) es k n ⟨fun y => K.v (addG o.dst (x == pol) G) (st.put o.dst (.cptr y))⟩) := guardK_elem _ _ _ _ h _ _ _ _ _
theorem gK_byte (h : stillOp o.op = true) (p : Prop) (s : List UInt8) (k : Nat) (st' : St) : @gK cx x pol (.byte p s k st') ⟨o⟩ ⟨gd⟩ ⟨G⟩ ⟨st⟩ K KP = (((x == pol) = true → need G o.op st ∧ p) ∧ (st'.b = st.b ∧ st'.r = st.r) ∧ K.v (addG o.dst (x == pol) G) (st.put o.dst (.d (.int .u8 ((s.getD k 0).toNat : Int))))) := guardK_byte _ _ _ _ h _ _ _ _
theorem gK_call (h : stillOp o.op = true) (f : FuncId) (args : List AV) (st' : St) : @gK cx x pol (.call f args st') ⟨o⟩ ⟨gd⟩ ⟨G⟩ ⟨st⟩ K KP =
    @dK (dOf (lookK cx.v.l f)) (allD args) ⟨fun q => ((x == pol) = true → need G o.op st ∧ q.1) ∧ K.v (addG o.dst (x == pol) G) (st.put o.dst q.2)⟩ ⟨@spK cx x pol ⟨o⟩ ⟨gd⟩ ⟨G⟩ ⟨st⟩ K KP⟩ := guardK_call _ _ _ _ h _ _ _
theorem gK_fail : @gK cx x pol .fail ⟨o⟩ ⟨gd⟩ ⟨G⟩ ⟨st⟩ K KP = @spK cx x pol ⟨o⟩ ⟨gd⟩ ⟨G⟩ ⟨st⟩ K KP := guardK_fail _ _ _ _
theorem gK_any (p : Prop) (q : Bool → Prop) (st' : St) : @gK cx x pol (.any p q st') ⟨o⟩ ⟨gd⟩ ⟨G⟩ ⟨st⟩ K KP = @spK cx x pol ⟨o⟩ ⟨gd⟩ ⟨G⟩ ⟨st⟩ K KP := guardK_any _ _ _ _ _ _ _
theorem gK_panic (v : AV) (st' : St) : @gK cx x pol (.panic v st') ⟨o⟩ ⟨gd⟩ ⟨G⟩ ⟨st⟩ K KP = @spK cx x pol ⟨o⟩ ⟨gd⟩ ⟨G⟩ ⟨st⟩ K KP := guardK_panic _ _ _ _ _ _
theorem gK_not (h : stillOp o.op = false) (R : Res) : @gK cx x pol R ⟨o⟩ ⟨gd⟩ ⟨G⟩ ⟨st⟩ K KP = @spK cx x pol ⟨o⟩ ⟨gd⟩ ⟨G⟩ ⟨st⟩ K KP := guardK_not _ _ _ _ h _
theorem spK_eq : @spK cx x pol ⟨o⟩ ⟨gd⟩ ⟨G⟩ ⟨st⟩ K KP = ((x = pol → need G o.op (st.put (some gd) (.d (.bool pol))) ∧ @rK cx (opR cx.v.P o (st.put (some gd) (.d (.bool pol)))) ⟨fun v st => K.v G (st.put o.dst v)⟩ KP) ∧
  (x = !pol → K.v G ((st.put (some gd) (.d (.bool !pol))).put o.dst .undef))) := rfl
theorem dK_some (h : Det) (ds : List D) (F : Kt (Prop × AV → Prop)) (S : Kt Prop) : @dK (some h) (some ds) F S = F.v (h ds) := rfl
theorem dK_none (ds : Option (List D)) (F : Kt (Prop × AV → Prop)) (S : Kt Prop) : @dK none ds F S = S.v := detK_none _ _ _
theorem dK_none' (h : Option Det) (F : Kt (Prop × AV → Prop)) (S : Kt Prop) : @dK h none F S = S.v := detK_none' _ _ _
end guards
section runs
variable {cx : Kt Cx} {K KP : Kt (AV → St → Prop)}
theorem rK_ok (p : Prop) (v : AV) (st : St) : @rK cx (.ok p v st) K KP = (p ∧ K.v v st) := rfl
theorem rK_elem (p : Prop) (es : List (List D)) (k n : Nat) (st : St) : @rK cx (.elem p es k n st) K KP = (p ∧ @eL es k n ⟨fun x => K.v (.cptr x) st⟩) := rfl
theorem rK_byte (p : Prop) (s : List UInt8) (k : Nat) (st : St) : @rK cx (.byte p s k st) K KP = (p ∧ @bL s k ⟨fun c => K.v (.d (.int .u8 (c.toNat : Int))) st⟩) := rfl
theorem rK_any (p : Prop) (q : Bool → Prop) (st : St) : @rK cx (.any p q st) K KP = (p ∧ @yK q ⟨fun b => K.v (.d (.bool b)) st⟩) := rfl
theorem rK_fail : @rK cx .fail K KP = False := rfl
theorem rK_panic (x : AV) (st : St) : @rK cx (.panic x st) K KP = KP.v x st := rfl
theorem rK_call (f : FuncId) (args : List AV) (st : St) : @rK cx (.call f args st) K KP = @nK _ (lookK cx.v.l f) ⟨fun k => @hK k args st.b st.r ⟨fun o b r => @aC o b r ⟨st⟩ K KP⟩⟩ := runK_call ..
theorem aC_ret (st : St) (x : AV) (b : List (List AV)) (r : List Arr) : @aC (.ret x) b r ⟨st⟩ K KP = K.v x { st with b := b, r := r } := rfl
theorem aC_panic (st : St) (x : AV) (b : List (List AV)) (r : List Arr) : @aC (.panic x) b r ⟨st⟩ K KP = KP.v x { st with b := b, r := r } := rfl
variable {args : List AV} {b : List (List AV)} {r : List Arr} {Kh : Kt (Out → List (List AV) → List Arr → Prop)}
theorem hK_det (h : Det) : @hK (.det h) args b r Kh = @nK _ (toDL r args) ⟨fun ds => (h ds).1 ∧ Kh.v (.ret (h ds).2) b (share r (arrIdsL args))⟩ := H_det h
theorem hK_spec (s : Spec) : @hK (.spec s) args b r Kh = @nK _ (toDL r args) ⟨fun ds => s ds fun o => Kh.v o b (share r (arrIdsL args))⟩ := H_spec s
theorem hK_raw (h : Handler) : @hK (.raw h) args b r Kh = h args b r Kh.v := rfl
end runs
/-! ### calls that see a part of the state -/
def fB (h : Handler) (bs : List Nat) (args : List AV) (b : List (List AV)) (r : List Arr) [K : Kt (Out → List (List AV) → List Arr → Prop)] : Prop := partH h bs (seeR b bs args) args b r K.v
def fR (h : Handler) (bs rs : List Nat) (args : List AV) (b : List (List AV)) (r : List Arr) [K : Kt (Out → List (List AV) → List Arr → Prop)] : Prop := partH h bs rs args b r K.v
def pU (bs rs : List Nat) (b : List (List AV)) (r : List Arr) (o : Out) (b1 : List (List AV)) (r1 : List Arr) [K : Kt (Out → List (List AV) → List Arr → Prop)] : Prop := putK bs rs b r K.v o b1 r1
section parts
variable {h : Handler} {bs rs : List Nat} {args : List AV} {b b1 : List (List AV)} {r r1 : List Arr} {K : Kt (Out → List (List AV) → List Arr → Prop)}
theorem hK_mem (h : Handler) : @hK (.mem h) args b r K = @fB h (seeB b args) args b r K := rfl
theorem fB_eq (h : Handler) : @fB h bs args b r K = @fR h bs (seeR b bs args) args b r K := rfl
theorem fR_eq (h : Handler) : @fR h bs rs args b r K = @nK _ (lowL bs rs args) ⟨fun args0 => @nK _ (pickL b bs) ⟨fun c => @nK _ (lowB bs rs c) ⟨fun b0 => @nK _ (pickL r rs) ⟨fun r0 => ((nd bs = true ∧ nd rs = true) ∧ flatR r0 = true) ∧ h args0 b0 r0 (fun o b1 r1 => @pU bs rs b r o b1 r1 K)⟩⟩⟩⟩ := by
  show partH h bs rs args b r K.v = optK _ _
  unfold partH optK
  cases lowL bs rs args with
  | none => rfl
  | some args0 =>
    dsimp only
    show _ = optK _ _
    unfold optK
    cases pickL b bs with
    | none => rfl
    | some c =>
      dsimp only
      show _ = optK _ _
      unfold optK
      cases lowB bs rs c with
      | none => rfl
      | some b0 =>
        dsimp only
        show _ = optK _ _
        unfold optK
        cases pickL r rs with
        | none => rfl
        | some r0 => rfl
theorem pU_ret (x : AV) : @pU bs rs b r (.ret x) b1 r1 K = K.v (.ret (up bs b.length rs r.length x)) (mergeL bs b (upB bs b.length rs r.length b1)) (mergeL rs r (upR rs r.length r1)) := rfl
theorem pU_panic (x : AV) : @pU bs rs b r (.panic x) b1 r1 K = K.v (.panic (up bs b.length rs r.length x)) (mergeL bs b (upB bs b.length rs r.length b1)) (mergeL rs r (upR rs r.length r1)) := rfl
end parts
theorem upI_nil (n k : Nat) : upI [] n k = n + k := rfl
theorem upI_0 (i n : Nat) (l : List Nat) : upI (i :: l) n 0 = i := rfl
theorem upI_1 (i j n : Nat) (l : List Nat) : upI (i :: j :: l) n 1 = j := rfl
theorem upI_2 (i j k n : Nat) (l : List Nat) : upI (i :: j :: k :: l) n 2 = k := rfl
theorem upI_3 (i j k m n : Nat) (l : List Nat) : upI (i :: j :: k :: m :: l) n 3 = m := rfl
theorem upI_11 (i n : Nat) : upI [i] n 1 = n := rfl
theorem upI_12 (i n : Nat) : upI [i] n 2 = n + 1 := rfl
theorem upI_22 (i j n : Nat) : upI [i, j] n 2 = n := rfl
theorem upI_23 (i j n : Nat) : upI [i, j] n 3 = n + 1 := rfl

def arrIdsO : AV → List Nat
  | .tup cs => arrIdsL cs
  | x => arrIds x
/-- How a function ends of which the state is told; what it gives back may be told as data. -/
def vK (nb nr : Nat) (o : Out) (b : List (List AV)) (r : List Arr) [K : Kt (Out → List (List AV) → List Arr → Prop)] : Prop :=
  ∃ o' r1 b' r', K.v o' b' r' ∧ ((o' = o ∧ r1 = r) ∨ ∃ v v', o = .ret v ∧ o' = .ret v' ∧ toO r v = some v' ∧ r1 = share r (arrIdsO v)) ∧ leB b b' ∧ leR r1 r' ∧ idsB b'.length r'.length b' = true ∧
    (match o' with | .ret v => idsA b'.length r'.length v = true | .panic v => idsA b'.length r'.length v = true) ∧ nb ≤ b'.length ∧ nr ≤ r'.length
def memQ (P : Program) (rs : List ResultVar) (nb nr : Nat) (K : Out → List (List AV) → List Arr → Prop) (e : Ex) (st : St) : Prop := match e with
  | .normal => resK P st rs fun vs => @vK nb nr (.ret (oneV vs)) st.b st.r ⟨K⟩
  | .ret => resK P st rs fun vs => @vK nb nr (.ret (oneV vs)) st.b st.r ⟨K⟩
  | .panic x => @vK nb nr (.panic x) st.b st.r ⟨K⟩
  | .exit _ => False
theorem memQ_normal (P : Program) (rs : List ResultVar) (nb nr : Nat) (K : Out → List (List AV) → List Arr → Prop) (st : St) : memQ P rs nb nr K .normal st = resK P st rs fun vs => @vK nb nr (.ret (oneV vs)) st.b st.r ⟨K⟩ := rfl
theorem memQ_ret (P : Program) (rs : List ResultVar) (nb nr : Nat) (K : Out → List (List AV) → List Arr → Prop) (st : St) : memQ P rs nb nr K .ret st = resK P st rs fun vs => @vK nb nr (.ret (oneV vs)) st.b st.r ⟨K⟩ := rfl
theorem memQ_panic (P : Program) (rs : List ResultVar) (nb nr : Nat) (K : Out → List (List AV) → List Arr → Prop) (x : AV) (st : St) : memQ P rs nb nr K (.panic x) st = @vK nb nr (.panic x) st.b st.r ⟨K⟩ := rfl
theorem vK_ret {nb nr : Nat} {v : AV} {b : List (List AV)} {r : List Arr} {K : Out → List (List AV) → List Arr → Prop} (b' : List (List AV)) (r' : List Arr) (hK : K (.ret v) b' r')
    (h : leB b b' ∧ leR r r' ∧ idsB b'.length r'.length b' = true ∧ idsA b'.length r'.length v = true ∧ nb ≤ b'.length ∧ nr ≤ r'.length) : @vK nb nr (.ret v) b r ⟨K⟩ := ⟨_, _, b', r', hK, .inl ⟨rfl, rfl⟩, h⟩
theorem vK_dat {nb nr : Nat} {v : AV} {b : List (List AV)} {r : List Arr} {K : Out → List (List AV) → List Arr → Prop} (v' : AV) (b' : List (List AV)) (r' : List Arr) (hK : K (.ret v') b' r') (hv : toO r v = some v')
    (h : leB b b' ∧ leR (share r (arrIdsO v)) r' ∧ idsB b'.length r'.length b' = true ∧ idsA b'.length r'.length v' = true ∧ nb ≤ b'.length ∧ nr ≤ r'.length) : @vK nb nr (.ret v) b r ⟨K⟩ := ⟨_, _, b', r', hK, .inr ⟨v, v', rfl, rfl, hv, rfl⟩, h⟩
theorem vK_panic {nb nr : Nat} {v : AV} {b : List (List AV)} {r : List Arr} {K : Out → List (List AV) → List Arr → Prop} (b' : List (List AV)) (r' : List Arr) (hK : K (.panic v) b' r')
    (h : leB b b' ∧ leR r r' ∧ idsB b'.length r'.length b' = true ∧ idsA b'.length r'.length v = true ∧ nb ≤ b'.length ∧ nr ≤ r'.length) : @vK nb nr (.panic v) b r ⟨K⟩ := ⟨_, _, b', r', hK, .inl ⟨rfl, rfl⟩, h⟩

theorem toO_share {w0 : World} {F : List Nat} {M : Mem} {b : List (List AV)} {r : List Arr} {w : World} (h : Inv w0 F M b r w) {v : Value} {x y : AV} (hv : RepA w M r v x) (hy : toO r x = some y) :
    Inv w0 F M b (share r (arrIdsO x)) w ∧ Chg w M r w M (share r (arrIdsO x)) ∧ RepA w M (share r (arrIdsO x)) v y := by
  have one : ∀ x y, (toD r x).map AV.d = some y → RepA w M r v x → Inv w0 F M b (share r (arrIds x)) w ∧ Chg w M r w M (share r (arrIds x)) ∧ RepA w M (share r (arrIds x)) v y := by
    intro x y hy hv
    simp only [Option.map_eq_some_iff] at hy
    obtain ⟨d, hd, rfl⟩ := hy
    obtain ⟨hI, hc⟩ := Inv.shareL (arrIds x) h
    exact ⟨hI, hc, .d _ _ (toD_rep hI hc (shared_share (arrIds x) r) x d v hd (fun id hid => hid) hv)⟩
  cases x with
  | tup cs =>
    simp only [toO, Option.map_eq_some_iff] at hy
    obtain ⟨ds, hds, rfl⟩ := hy
    cases hv with
    | tup vs _ hs hr =>
      obtain ⟨hI, hc⟩ := Inv.shareL (arrIdsL cs) h
      obtain ⟨hl, hrep⟩ := toDL_rep hI hc (shared_share (arrIdsL cs) r) cs ds hds (fun id hid => hid) (fun i => vs.getD i undef) hr
      refine ⟨hI, hc, .tup vs _ (by simp [hl, hs]) (fun i hi => ?_)⟩
      have hi' : i < ds.length := by simpa using hi
      rw [getD_map_d _ _ hi']
      exact .d _ _ (hrep i hi')
  | _ => exact one _ y hy hv

theorem EndQ_cut {w0 : World} {F : List Nat} {M : Mem} {b : List (List AV)} {r : List Arr} {w : World} (h : Inv w0 F M b r w) {K : Out → List (List AV) → List Arr → Prop} {e : Ending} {w' : World}
    (he : EndQ w0 F M r w (fun o b1 r1 => @vK b.length r.length o b1 r1 ⟨K⟩) e w') : EndQ w0 F M r w K e w' := by
  have cut : ∀ {b1 : List (List AV)} {r1 : List Arr} {M' : Mem} {b' : List (List AV)} {r' : List Arr}, Inv w0 F M' b1 r1 w' → Chg w M r w' M' r1 → leB b1 b' → leR r1 r' → idsB b'.length r'.length b' = true → b.length ≤ b'.length → r.length ≤ r'.length →
      Inv w0 F (M'.cut b'.length r'.length) b' r' w' ∧ Chg w M r w' (M'.cut b'.length r'.length) r' := by
    intro b1 r1 M' b' r' hI hC h1 h2 h3 h5 h6
    have hlb : b'.length ≤ M'.bb.length := by rw [hI.lb]; exact leB_len h1
    refine ⟨Inv.cut (st := ⟨[], b1, r1⟩) (s := ⟨[], b', r'⟩) hI h1 h2 h3, fun a u ho hc => ?_, ?_, fun i hi => ?_, fun id A hA => ?_, hC.no⟩
    · obtain ⟨h8, h9⟩ := hC.cell a u ho hc
      exact ⟨h8, h9.cut h2⟩
    · simp only [Mem.cut, List.length_take]
      rw [h.lb]
      omega
    · rw [h.lb] at hi
      rw [cut_blk (by omega)]
      exact hC.blk i (by rw [h.lb]; exact hi)
    · have hid : id < r'.length := by
        have := (List.getElem?_eq_some_iff.1 hA).1
        omega
      obtain ⟨A', hA', h7, h8, h9⟩ := hC.row id A hA
      exact ⟨A', by rw [leR_get h2 id hid]; exact hA', h7, h8, by rw [cut_row hid]; exact h9⟩
  have all : ∀ {b1 : List (List AV)} {r1 : List Arr} {M' : Mem} {u : Value} {o : Out}, @vK b.length r.length o b1 r1 ⟨K⟩ → Inv w0 F M' b1 r1 w' → Chg w M r w' M' r1 → (∀ x, o = .ret x ∨ o = .panic x → RepA w' M' r1 u x) →
      ∃ o' b' r' M'', K o' b' r' ∧ Inv w0 F M'' b' r' w' ∧ Chg w M r w' M'' r' ∧ ((∃ x, o = .ret x) → ∃ x, o' = .ret x ∧ RepA w' M'' r' u x) ∧ ((∃ x, o = .panic x) → ∃ x, o' = .panic x ∧ RepA w' M'' r' u x) := by
    intro b1 r1 M' u o hv hI hC hx
    obtain ⟨o', r2, b', r', hK, hor, h1, h2, h3, h4, h5, h6⟩ := hv
    rcases hor with ⟨rfl, rfl⟩ | ⟨v, v', rfl, rfl, hd, rfl⟩
    · obtain ⟨hI', hC'⟩ := cut hI hC h1 h2 h3 h5 h6
      refine ⟨o', b', r', _, hK, hI', hC', fun ⟨x, e⟩ => ?_, fun ⟨x, e⟩ => ?_⟩
      · subst e
        exact ⟨x, rfl, (hx x (.inl rfl)).cut h2 h4⟩
      · subst e
        exact ⟨x, rfl, (hx x (.inr rfl)).cut h2 h4⟩
    · obtain ⟨hI1, hC1, hx1⟩ := toO_share hI (hx v (.inl rfl)) hd
      obtain ⟨hI', hC'⟩ := cut hI1 (hC.trans hC1) h1 h2 h3 h5 h6
      refine ⟨_, b', r', _, hK, hI', hC', fun _ => ⟨v', rfl, hx1.cut h2 h4⟩, fun ⟨x, e⟩ => by cases e⟩
  cases e with
  | returned v =>
    obtain ⟨x, b1, r1, M', hv, hI, hC, hx⟩ := he
    obtain ⟨o', b', r', M'', hK, hI', hC', h1, _⟩ := all hv hI hC (u := v) (fun y hy => by rcases hy with e | e <;> cases e; exact hx)
    obtain ⟨x', rfl, hx'⟩ := h1 ⟨x, rfl⟩
    exact ⟨x', b', r', _, hK, hI', hC', hx'⟩
  | panicked ch =>
    obtain ⟨x, b1, r1, M', u, hv, rfl, hI, hC, hx⟩ := he
    obtain ⟨o', b', r', M'', hK, hI', hC', _, h2⟩ := all hv hI hC (u := u) (fun y hy => by rcases hy with e | e <;> cases e; exact hx)
    obtain ⟨x', rfl, hx'⟩ := h2 ⟨x, rfl⟩
    exact ⟨x', b', r', _, u, hK, rfl, hI', hC', hx'⟩
  | outgrown => exact he.elim

section runs
variable {cx : Kt Cx} {K KP : Kt (AV → St → Prop)}
theorem eL_map {α : Type} (enc : α → List D) (l : List α) (k n : Nat) (F : Kt (List D → Prop)) : @eL (l.map enc) k n F = ∀ x, l[k]? = some x → (enc x).length = n ∧ F.v (enc x) := elemK_map ..
theorem eL_nil (k n : Nat) (F : Kt (List D → Prop)) : @eL [] k n F = True := by simp [eL, elemK]
theorem eL_0 (e : List D) (es : List (List D)) (n : Nat) (F : Kt (List D → Prop)) : @eL (e :: es) 0 n F = (e.length = n ∧ F.v e) := by simp [eL, elemK]
theorem eL_1 (a e : List D) (es : List (List D)) (n : Nat) (F : Kt (List D → Prop)) : @eL (a :: e :: es) 1 n F = (e.length = n ∧ F.v e) := by simp [eL, elemK]
theorem eL_2 (a b e : List D) (es : List (List D)) (n : Nat) (F : Kt (List D → Prop)) : @eL (a :: b :: e :: es) 2 n F = (e.length = n ∧ F.v e) := by simp [eL, elemK]
theorem eG_0 (g : Bool) (e : List D) (es : List (List D)) (n : Nat) (F : Kt (List D → Prop)) : @eG g (e :: es) 0 n F = ((g = true → e.length = n) ∧ F.v e) := by simp [eG, elemG]
theorem eG_1 (g : Bool) (a e : List D) (es : List (List D)) (n : Nat) (F : Kt (List D → Prop)) : @eG g (a :: e :: es) 1 n F = ((g = true → e.length = n) ∧ F.v e) := by simp [eG, elemG]
theorem eG_2 (g : Bool) (a b e : List D) (es : List (List D)) (n : Nat) (F : Kt (List D → Prop)) : @eG g (a :: b :: e :: es) 2 n F = ((g = true → e.length = n) ∧ F.v e) := by simp [eG, elemG]
theorem yK_two (q : Bool → Prop) (F : Kt (Bool → Prop)) : @yK q F = ((q true → F.v true) ∧ (q false → F.v false)) := propext ⟨fun h => ⟨h true, h false⟩, fun h b hb => by cases b; exact h.2 hb; exact h.1 hb⟩
theorem bL_eq (s : List UInt8) (k : Nat) (F : Kt (UInt8 → Prop)) : @bL s k F = ∀ c, s[k]? = some c → F.v c := rfl
theorem eG_map {α : Type} [Inhabited α] (g : Bool) (enc : α → List D) (l : List α) (k n : Nat) (F : Kt (List D → Prop)) (h : (g = true → (enc (l.getD k default)).length = n) ∧ F.v (enc (l.getD k default))) : @eG g (l.map enc) k n F := elemG_map g enc l k n F.v h
theorem uK_eq (r : List Arr) (v : AV) (F : Kt (AV → Prop)) : @uK r v F = @nK _ (toO r v) F := by
  show outK r v F.v = optK (toO r v) F.v
  unfold outK optK
  cases toO r v <;> rfl
end runs

/-- How a function of data ends. -/
def retQ (P : Program) (rs : List ResultVar) (K : Out → Prop) (e : Ex) (st : St) : Prop := match e with
  | .normal => resK P st rs fun vs => @uK st.r (oneV vs) ⟨fun x => K (.ret x)⟩
  | .ret => resK P st rs fun vs => @uK st.r (oneV vs) ⟨fun x => K (.ret x)⟩
  | .panic x => @uK st.r x ⟨fun x => K (.panic x)⟩
  | .exit _ => False
theorem retQ_normal (P : Program) (rs : List ResultVar) (K : Out → Prop) (st : St) : retQ P rs K .normal st = resK P st rs fun vs => @uK st.r (oneV vs) ⟨fun x => K (.ret x)⟩ := rfl
theorem retQ_ret (P : Program) (rs : List ResultVar) (K : Out → Prop) (st : St) : retQ P rs K .ret st = resK P st rs fun vs => @uK st.r (oneV vs) ⟨fun x => K (.ret x)⟩ := rfl
theorem retQ_panic (P : Program) (rs : List ResultVar) (K : Out → Prop) (x : AV) (st : St) : retQ P rs K (.panic x) st = @uK st.r x ⟨fun x => K (.panic x)⟩ := rfl

/-- A function of data, by running its body. -/
theorem FPure.run {P : Program} (l : List (FuncId × Known)) (pl : Nat → List (Nat × Bool × List Nat)) (hl : ∀ p ∈ l, KnownOk P p.1 p.2) (hm : P.follows .mixedOrders = true) {f : FuncId} {fn : Func} {c : Code} {s : Spec}
    (hf : P.funcs[f]? = some fn) (hn : (fn.name == "runtime.NumGoroutine") = false) (hb : fn.body = some c) (hdr : drawsB pl c = true) (n : Nat) (hnt : fn.ntmps = n) (rs : List ResultVar) (hrs : fn.results = rs.toArray)
    (h : ∀ ds K, s ds K → @eK ⟨⟨P, l, pl, []⟩⟩ ⟨ds.map .d ++ List.replicate (n - (ds.map AV.d).length) .undef, [], []⟩ ⟨c⟩ ⟨retQ P rs K⟩) : FPure P f s := by
  refine FPure.ofBody (E := mkEnv l) (pl := pl) (env_ok hl) hm hf hn hb hdr (fun ds K hs => ?_)
  have h1 := h ds K hs
  unfold bodyK
  rw [hnt, hrs]
  have e : (fun (e : Ex) (st : St) => (match e with
    | .normal => resK P st rs.toArray.toList fun vs => outK st.r (oneV vs) fun x => K (.ret x)
    | .ret => resK P st rs.toArray.toList fun vs => outK st.r (oneV vs) fun x => K (.ret x)
    | .panic x => outK st.r x fun x => K (.panic x)
    | .exit _ => False : Prop)) = retQ P rs K := by
    funext e st
    cases e <;> rfl
  exact e ▸ h1

/-- A function of which the state is told, by running its body. -/
theorem HOk.run0 {P : Program} (l : List (FuncId × Known)) (pl : Nat → List (Nat × Bool × List Nat)) (hl : ∀ p ∈ l, KnownOk P p.1 p.2) (hm : P.follows .mixedOrders = true) {f : FuncId} {fn : Func} {c : Code}
    (hf : P.funcs[f]? = some fn) (hn : (fn.name == "runtime.NumGoroutine") = false) (hb : fn.body = some c) (hdr : drawsB pl c = true) (n : Nat) (hnt : fn.ntmps = n) (rs : List ResultVar) (hrs : fn.results = rs.toArray) :
    HOk P f (fun args b r K => (r.length ≤ nrP pl ∨ ∀ i, pl (i + 200000) = []) ∧ @eK ⟨⟨P, l, pl, []⟩⟩ ⟨args ++ List.replicate (n - args.length) .undef, b, r⟩ ⟨c⟩ ⟨memQ P rs b.length r.length K⟩) := by
  intro w0 F M b r w vs args K hI hv hk
  have h1 := HOk.ofBody (E := mkEnv l) (pl := pl) (env_ok hl) hm hf hn hb hdr (K := fun o b1 r1 => @vK b.length r.length o b1 r1 ⟨K⟩) hI hv (And.intro hk.1 (by
    have e : (fun (e : Ex) (st : St) => (match e with
      | .normal => resK P st rs.toArray.toList fun vs => @vK b.length r.length (.ret (oneV vs)) st.b st.r ⟨K⟩
      | .ret => resK P st rs.toArray.toList fun vs => @vK b.length r.length (.ret (oneV vs)) st.b st.r ⟨K⟩
      | .panic x => @vK b.length r.length (.panic x) st.b st.r ⟨K⟩
      | .exit _ => False : Prop)) = memQ P rs b.length r.length K := by
      funext e st
      cases e <;> rfl
    show bodyK P (mkEnv l) pl fn c args b r _
    unfold bodyK
    rw [hnt, hrs]
    exact e ▸ hk.2))
  exact ⟨h1.1, Calls.mono h1.2 fun e w' he => EndQ_cut hI he⟩

theorem eK_rounds {cx : Kt Cx} {st : St} {Q : Kt (Ex → St → Prop)} {x : Code} {α : Type} (ks : List Nat) (I : α → Prop) (ch : α → List (Nat × AV)) (bs : α → List (Nat × List AV)) (rs : α → List (Nat × Arr)) (μ : α → Nat) (a0 : α)
    (hI : I a0) (h0 : st.le (st.head ks (ch a0) (bs a0) (rs a0)))
    (h : ∀ a, I a → @eK cx (st.head ks (ch a) (bs a) (rs a)) ⟨x⟩ ⟨fun e s => match e with
      | .normal => ∃ a', I a' ∧ μ a' < μ a ∧ s.le (st.head ks (ch a') (bs a') (rs a'))
      | e => Q.v e s⟩) : @eK cx st ⟨.loop x⟩ Q := evalK_rounds ks I ch bs rs μ a0 hI h0 h

theorem eK_grow {cx : Kt Cx} {st : St} {Q : Kt (Ex → St → Prop)} {x : Code} {α : Type} (ks : List Nat) (I : α → Prop) (ch : α → List (Nat × AV)) (rs : α → List Arr) (μ : α → Nat) (a0 : α)
    (hI : I a0) (hr : ∀ a, I a → st.r.length ≤ (rs a).length) (h0 : st.le ⟨setAll (keepT ks 0 st.t) (ch a0), st.b, rs a0⟩)
    (h : ∀ a, I a → @eK cx ⟨setAll (keepT ks 0 st.t) (ch a), st.b, rs a⟩ ⟨x⟩ ⟨fun e s => match e with
      | .normal => ∃ a', I a' ∧ μ a' < μ a ∧ s.le ⟨setAll (keepT ks 0 st.t) (ch a'), st.b, rs a'⟩
      | e => Q.v e s⟩) : @eK cx st ⟨.loop x⟩ Q := evalK_grow ks I ch rs μ a0 hI hr h0 h
theorem eK_lend {cx : Kt Cx} {t : List AV} {b : List (List AV)} {r : List Arr} {Q : Kt (Ex → St → Prop)} {x : Code} {α : Type} (ks : List Nat) (hnc : ∀ i, cx.v.pl (i + 200000) = []) (hno : noDst ks x = true) (hfl : flatB b = true) (I : α → Prop) (ch : α → List (Nat × AV)) (μ : α → Nat) (a0 : α)
    (hI : I a0) (h0 : (⟨t, b, r⟩ : St).le ⟨setAll (keepT ks 0 t) (ch a0), b, r⟩)
    (h : ∀ a, I a → @eK cx ⟨setAll (keepT ks 0 t) (ch a), b, lendR r⟩ ⟨x⟩ ⟨fun e s => match e with
      | .normal => ∃ a', I a' ∧ μ a' < μ a ∧ (sameR s.r r ∧ sameB s.b b) ∧ (⟨backT ks 0 (setAll (keepT ks 0 t) (ch a)) s.t, b, r⟩ : St).le ⟨setAll (keepT ks 0 t) (ch a'), b, r⟩
      | .exit i => (sameR s.r r ∧ sameB s.b b) ∧ Q.v (.exit i) ⟨backT ks 0 (setAll (keepT ks 0 t) (ch a)) s.t, b, r⟩
      | .ret => Q.v .ret s
      | .panic v => Q.v (.panic v) s⟩) : @eK cx ⟨t, b, r⟩ ⟨.loop x⟩ Q := evalK_lend ks hnc hno hfl I ch μ a0 hI h0 h

/-- A loop of so many rounds at most, one by one. -/
theorem eK_unroll {cx : Kt Cx} {st : St} {Q : Kt (Ex → St → Prop)} {x : Code} (n : Nat) (h : @lK cx n st ⟨x⟩ Q) : @eK cx st ⟨.loop x⟩ Q := .inr (.inl ⟨n, h⟩)

/-! ### rows of bytes -/
theorem byteCell_len (b : UInt8) : (byteCell b).length = 1 := rfl
theorem bytesD_nil : bytesD [] = some [] := rfl
theorem bytesD_map (l : List UInt8) : bytesD (l.map byteCell) = some l := by
  induction l with
  | nil => rfl
  | cons x l ih =>
    simp only [List.map_cons, byteCell, bytesD, ih, Option.map_some]
    congr 2
    simp
theorem map_take' {α β : Type} (f : α → β) (l : List α) (n : Nat) : (l.map f).take n = (l.take n).map f := List.map_take.symm
theorem map_drop' {α β : Type} (f : α → β) (l : List α) (n : Nat) : (l.map f).drop n = (l.drop n).map f := List.map_drop.symm
theorem map_append' {α β : Type} (f : α → β) (l m : List α) : l.map f ++ m.map f = (l ++ m).map f := List.map_append.symm
theorem forall_map' {α β : Type} (f : α → β) (p : β → Prop) (l : List α) : (∀ e ∈ l.map f, p e) = ∀ x ∈ l, p (f x) := by simp
end Go.PE
end

section
/- A function that defers a closure which may recover (see PeU, PeV). -/
set_option linter.unusedVariables false
set_option linter.unusedSimpArgs false
namespace Go.PE
open Go

/-- What is asked of the closure when the function leaves: gt: the closure's frame, behind its recover. -/
def afterD (P : Program) (E : Env) (pl : Nat → List (Nat × Bool × List Nat)) (fn : Func) (cr : Code) (gt : List AV) (st : St) (K : Out → List (List AV) → List Arr → Prop) : Prop :=
  evalK P E pl cr ⟨gt, st.b, st.r⟩ fun e s => match e with
    | .normal => resK P ⟨st.t, s.b, s.r⟩ fn.results.toList fun vs => K (.ret (oneV vs)) s.b s.r
    | .ret => resK P ⟨st.t, s.b, s.r⟩ fn.results.toList fun vs => K (.ret (oneV vs)) s.b s.r
    | _ => False
def gtOf (caps : List AV) (n a1 a2 : Nat) (rv : AV) : List AV := ((caps ++ List.replicate (n - caps.length) AV.undef).set a1 rv).set a2 rv
/-- ss: the temporaries that lead to the results. -/
def deferK (P : Program) (E : Env) (pl : Nat → List (Nat × Bool × List Nat)) (fn : Func) (c0 c2 : Code) (d : Tmp) (co : List Operand) (ss : List Nat) (n a1 a2 : Nat) (cr : Code) (st : St) (K : Out → List (List AV) → List Arr → Prop) : Prop :=
  evalK P E pl c0 st fun e st1 => match e with
    | .normal => d < st1.t.length ∧ evalK P E pl c2 { st1 with t := st1.t.set d .undef } fun e st => match e with
      | .normal => afterD P E pl fn cr (gtOf (co.map st1.ev) n a1 a2 (.d .nilI)) ⟨keepT ss 0 st1.t, st.b, st.r⟩ K
      | .ret => afterD P E pl fn cr (gtOf (co.map st1.ev) n a1 a2 (.d .nilI)) ⟨keepT ss 0 st1.t, st.b, st.r⟩ K
      | .panic x => afterD P E pl fn cr (gtOf (co.map st1.ev) n a1 a2 x) ⟨keepT ss 0 st1.t, st.b, st.r⟩ K
      | .exit _ => False
    | _ => False
def fixA (dd : Deferred) (ss : List Nat) (n : Nat) (ts : Array Value) (a : Act) : Prop := a.defers = [dd] ∧ a.tmps.size = n ∧ ∀ s ∈ ss, a.tmps.getD s undef = ts.getD s undef
theorem noDst_keeps {dd : Deferred} {ss : List Nat} {n : Nat} {ts : Array Value} : ∀ c : Code, noDst ss c = true → Keeps (fixA dd ss n ts) c := by
  intro c
  induction c with
  | seq x y ihx ihy =>
    intro h
    simp only [noDst, Bool.and_eq_true] at h
    exact ⟨ihx h.1, ihy h.2⟩
  | cond c x y ihx ihy =>
    intro h
    simp only [noDst, Bool.and_eq_true] at h
    exact ⟨ihx h.1, ihy h.2⟩
  | block i x ih => exact fun h => ih h
  | loop x ih => exact fun h => ih h
  | region i ops b =>
    intro h o ho a u hd
    have h1 := List.all_eq_true.1 h o ho
    obtain ⟨h2, h3, h4⟩ := hd
    refine ⟨put_defers.trans h2, ?_, fun s hs => ?_⟩
    · cases o.dst <;> simpa [Act.put] using h3
    · rw [← h4 s hs]
      cases hdst : o.dst with
      | none => rfl
      | some d =>
        rw [hdst] at h1
        refine agetD_set_ne _ _ _ _ (fun e => ?_)
        subst e
        simp at h1
        exact h1 hs
  | _ => exact fun _ => trivial
theorem keepT_get (ks : List Nat) : ∀ (t : List AV) (k i : Nat), i < t.length → (keepT ks k t).getD i .undef = if ks.contains (k + i) then t.getD i .undef else .undef
  | [], _, i, h => absurd h (by simp)
  | v :: l, k, 0, _ => by simp [keepT]
  | v :: l, k, i + 1, h => by
    have := keepT_get ks l (k + 1) i (by simpa using h)
    simp only [keepT, List.getD_cons_succ, this]
    rw [show k + 1 + i = k + (i + 1) by omega]
theorem keepT_length (ks : List Nat) : ∀ (t : List AV) (k : Nat), (keepT ks k t).length = t.length
  | [], _ => rfl
  | v :: l, k => by simp [keepT, keepT_length ks l]

section
variable {P : Program} {E : Env} {pl : Nat → List (Nat × Bool × List Nat)} {w0 : World} {F : List Nat} {M : Mem} {w : World}

/-- The closure, run behind a body that leaves. -/
theorem closure_calls (hE : E.Ok P) (hm : P.follows .mixedOrders = true) {g : FuncId} {gn : Func} {id : Nat} {a1 a2 ty1 ty2 : Nat} {p1 p2 : String} {ar1 ar2 : Array Edge} {cr : Code}
    (hg : P.funcs[g]? = some gn) (hgb : gn.body = some (.seq (.region id #[⟨some a1, .call ⟨.builtin .recover, #[], #[]⟩, ty1, p1, ar1, none⟩, ⟨some a2, .assign (.tmp a1), ty2, p2, ar2, none⟩] false) cr)) (hgr : gn.results = #[])
    (hdr : drawsB pl cr = true) (hnc : ∀ i, pl (i + 200000) = []) {W0 : World} {M0 : Mem} {r0 : List Arr} {b : List (List AV)} {r : List Arr} (hI : Inv w0 F M b r w) (hC : Chg W0 M0 r0 w M r) {tmps : Array Value} {tS : List AV} (hT : Rept w M r tmps tS)
    {caps : Array Value} {cs : List AV} (hlt : a1 < gn.ntmps) (hcapM : RepL w M r caps cs)
    (u u' : FrameMode) (rv : Value) (rx : AV) (hrvM : RepA w M r rv rx)
    (hrec : ∀ (c₀ : Frame) (l : List Frame), c₀.mode = u → (match recoverD (c₀ :: l) with | some (v, l') => v = rv ∧ l' = { c₀ with mode := u' } :: l | none => rv = .nilIface ∧ u' = u))
    {fn : Func} {K : Out → List (List AV) → List Arr → Prop} (hk : afterD P E pl fn cr (gtOf cs gn.ntmps a1 a2 rx) ⟨tS, b, r⟩ K) (hset : settle u' = .returning) {R : Ending → World → Prop}
    (hR : ∀ v w', EndQ w0 F M0 r0 W0 K (.returned v) w' → R (.returned v) w') :
    CallsD P g caps u w fun
      | .returned _, u', w' => Leaves P fn tmps R [] (settle u') w'
      | .panicked chain, u', w' => Leaves P fn tmps R [] (raised u' chain) w'
      | .outgrown, _, w' => R .outgrown w' := by
  refine callsD_of_wpS hg hgb (fun c₀ l hu => ?_)
  refine wpS_seq (wpS_region ?_)
  have hsz : a1 < (caps ++ Array.replicate (gn.ntmps - caps.size) undef).size := by simp; omega
  -- the closure's frame behind recover
  have hrep : Rept w M r ((((caps ++ Array.replicate (gn.ntmps - caps.size) undef).setIfInBounds a1 rv)).setIfInBounds a2 rv) (gtOf cs gn.ntmps a1 a2 rx) := by
    have h0 : Rept w M r (caps ++ Array.replicate (gn.ntmps - caps.size) undef) (cs ++ List.replicate (gn.ntmps - cs.length) .undef) := by
      refine ⟨by simp [hcapM.1], fun i hi => ?_⟩
      rcases Nat.lt_or_ge i cs.length with h1 | h1
      · have h2 : i < caps.size := by rw [hcapM.1]; exact h1
        have e1 : (caps ++ Array.replicate (gn.ntmps - caps.size) undef).getD i undef = caps.getD i undef := by
          simp [Array.getD, h2, Nat.lt_add_right _ h2, Array.getElem_append_left]
        rw [e1, getD_append_lt _ _ _ _ h1]
        exact hcapM.2 i h1
      · have e : (cs ++ List.replicate (gn.ntmps - cs.length) AV.undef).getD i .undef = .undef := by
          simp only [List.getD, List.getElem?_append_right h1, List.getElem?_replicate]
          split <;> rfl
        rw [e]
        exact .undef _
    have hset : ∀ (ts : Array Value) (t : List AV) (k : Nat), Rept w M r ts t → Rept w M r (ts.setIfInBounds k rv) (t.set k rx) := by
      intro ts t k h
      refine ⟨by simpa using h.1, fun i hi => ?_⟩
      simp only [List.length_set] at hi
      by_cases e : k = i
      · subst e
        rw [getD_set_self _ _ _ _ hi, agetD_set_self _ _ _ (by rw [h.1]; exact hi)]
        exact hrvM
      · rw [getD_set_ne _ _ _ _ _ e, agetD_set_ne _ _ _ _ e]
        exact h.2 i hi
    exact hset _ _ _ (hset _ _ _ h0)
  have hnext : ∀ l', l' = { c₀ with mode := u' } :: l →
      cr.wpS P (bodyPostS P gn c₀ l fun e u' w' => match e with
        | .returned _ => Leaves P fn tmps R [] (settle u') w'
        | .panicked chain => Leaves P fn tmps R [] (raised u' chain) w'
        | .outgrown => R .outgrown w') ⟨((caps ++ Array.replicate (gn.ntmps - caps.size) undef).setIfInBounds a1 rv).setIfInBounds a2 rv, []⟩ l' w := by
    intro l' hl'
    subst hl'
    refine wpS_of_wp (Go.wp_mono (evalK_sound (dl := fun a => a.defers = []) (w0 := w0) (F := F) (W0 := w) (M0 := M) (r0 := r) hE hm cr (keeps_defers [] cr) hdr (.inr hnc) _ ⟨gtOf cs gn.ntmps a1 a2 rx, b, r⟩ _ w ⟨M, hI, ⟨hrep.1, fun i hi _ => hrep.2 i hi⟩, rfl, .refl _ _ _⟩ hk) (fun e a' w' hq => ?_))
    have fin : ∀ s, At (fun a => a.defers = []) w0 F w M r [] s a' w' → (resK P ⟨tS, s.b, s.r⟩ fn.results.toList fun vs => K (.ret (oneV vs)) s.b s.r) → a'.defers = [] ∧ ∃ v, (results gn a'.tmps).run P w' = .ok v w' ∧ Leaves P fn tmps R [] (settle u') w' := by
      intro s hs hres
      obtain ⟨M', hI', hRG', hd', hC'⟩ := hs
      refine ⟨hd', .tuple #[], by simp [results, hgr], ?_⟩
      rw [hset]
      obtain ⟨v, xs, hr, hK, hv⟩ := results_run (a := ⟨tmps, []⟩) (st := ⟨tS, s.b, s.r⟩) hI' (hT.mono hC') hres
      exact ⟨v, hr, hR v w' ⟨_, _, _, M', hK, hI', hC.trans hC', hv⟩⟩
    cases e with
    | normal =>
      obtain ⟨s, hs, hres⟩ := hq
      obtain ⟨h1, v, h2, h3⟩ := fin s hs hres
      exact ⟨h1, u', rfl, v, h2, h3⟩
    | ret =>
      obtain ⟨s, hs, hres⟩ := hq
      obtain ⟨h1, v, h2, h3⟩ := fin s hs hres
      exact ⟨h1, u', rfl, v, h2, h3⟩
    | panic ch =>
      obtain ⟨s, x, v, rfl, hs, hres⟩ := hq
      exact hres.elim
    | exit i =>
      obtain ⟨s, hs, hres⟩ := hq
      exact hres.elim
    | goto l => exact hq.elim
    | outgrown => exact hq.elim
  have hr := hrec c₀ l hu
  have hrange : List.range 2 = [0, 1] := rfl
  have hget : ∀ (ts : Array Value) (v : Value), a1 < ts.size → (ts.setIfInBounds a1 v).getD a1 undef = v := fun ts v h => agetD_set_self ts a1 v h
  cases hrc : recoverD (c₀ :: l) with
  | none =>
    rw [hrc] at hr
    obtain ⟨rfl, rfl⟩ := hr
    have hn := hnext (c₀ :: l) (by rw [← hu])
    have hif : a1 < caps.size + (gn.ntmps - caps.size) := by omega
    simp only [List.size_toArray, List.length_cons, List.length_nil, Nat.reduceAdd, hrange]
    simp [wpOpsS, Region.wanted, execOp, resolve, invoke, builtin, hrc, Oper.upon, Act.put, Act.eval, hif, Exit.thenS]
    exact hn
  | some p =>
    obtain ⟨v, l'⟩ := p
    rw [hrc] at hr
    obtain ⟨rfl, hl'⟩ := hr
    have hn := hnext l' hl'
    have hif : a1 < caps.size + (gn.ntmps - caps.size) := by omega
    simp only [List.size_toArray, List.length_cons, List.length_nil, Nat.reduceAdd, hrange]
    simp [wpOpsS, Region.wanted, execOp, resolve, invoke, builtin, hrc, Oper.upon, Act.put, Act.eval, hif, Exit.thenS]
    exact hn

/-- A function that defers such a closure. -/
theorem defer_sound (hE : E.Ok P) (hm : P.follows .mixedOrders = true) {g : FuncId} {gn : Func} {id : Nat} {a1 a2 ty1 ty2 : Nat} {p1 p2 : String} {ar1 ar2 : Array Edge} {cr : Code}
    (hg : P.funcs[g]? = some gn) (hgb : gn.body = some (.seq (.region id #[⟨some a1, .call ⟨.builtin .recover, #[], #[]⟩, ty1, p1, ar1, none⟩, ⟨some a2, .assign (.tmp a1), ty2, p2, ar2, none⟩] false) cr)) (hgr : gn.results = #[])
    (hgn : (gn.name == "runtime.NumGoroutine") = false) (hdrg : drawsB pl cr = true) (hnc : ∀ i, pl (i + 200000) = []) (hlt : a1 < gn.ntmps)
    {f : FuncId} {fn : Func} {c0 c2 : Code} {i1 : Nat} {d : Tmp} {co : Array Operand} {t1 t2 : TypeId} {q1 q2 : String} {e1 e2 : Array Edge} {ats : Array TypeId}
    (hf : P.funcs[f]? = some fn) (hb : fn.body = some (.seq c0 (.seq (.region i1 #[⟨some d, .makeFunc (.func g) #[] co, t1, q1, e1, none⟩, ⟨none, .defer ⟨.value (.tmp d), #[], ats⟩, t2, q2, e2, none⟩] false) c2)))
    (hdr0 : drawsB pl c0 = true) (hdr2 : drawsB pl c2 = true) (ss : List Nat) (hss : noDst ss c2 = true) (hds : ss.contains d = false)
    {b : List (List AV)} {r : List Arr} {vs : Array Value} {args : List AV} {K : Out → List (List AV) → List Arr → Prop} (h : Inv w0 F M b r w) (hv : RepL w M r vs args)
    (hk : deferK P E pl fn c0 c2 d co.toList ss gn.ntmps a1 a2 cr ⟨args ++ List.replicate (fn.ntmps - args.length) .undef, b, r⟩ K) : Calls P f vs w (EndQ w0 F M r w K) := by
  refine calls_of_wp_defers hf hb ?_
  have hat : At (fun a => a.defers = []) w0 F w M r [] ⟨args ++ List.replicate (fn.ntmps - args.length) .undef, b, r⟩ { tmps := vs ++ Array.replicate (fn.ntmps - vs.size) undef, defers := [] } w := by
    refine ⟨M, h, ⟨by simp [hv.1], fun i hi _ => ?_⟩, rfl, .refl _ _ _⟩
    rcases Nat.lt_or_ge i args.length with h1 | h1
    · have e1 : (vs ++ Array.replicate (fn.ntmps - vs.size) undef).getD i undef = vs.getD i undef := by
        have h2 : i < vs.size := by rw [hv.1]; exact h1
        simp [Array.getD, h2, Nat.lt_add_right _ h2, Array.getElem_append_left]
      show RepA w M r ((vs ++ Array.replicate (fn.ntmps - vs.size) undef).getD i undef) ((args ++ _).getD i .undef)
      rw [e1, getD_append_lt _ _ _ _ h1]
      exact hv.2 i h1
    · have e : (args ++ List.replicate (fn.ntmps - args.length) AV.undef).getD i .undef = .undef := by
        simp only [List.getD, List.getElem?_append_right h1, List.getElem?_replicate]
        split <;> rfl
      show RepA w M r _ ((args ++ _).getD i .undef)
      rw [e]
      exact .undef _
  refine wp_seq (Go.wp_mono (evalK_sound hE hm c0 (keeps_defers [] c0) hdr0 (.inr hnc) _ _ _ w hat hk) (fun e a1' w1 hq => ?_))
  cases e with
  | normal =>
    obtain ⟨st1, ⟨M1, hI1, hR1, hd1, hC1⟩, hdl, hk⟩ := hq
    have hR1' : Rept w1 M1 st1.r a1'.tmps st1.t := ⟨hR1.1, fun i hi => hR1.2 i hi (fun p hp => absurd hp (by simp))⟩
    have hcap := RepL.ofMap hR1' co
    generalize hcv : co.map a1'.eval = caps at hcap
    have hent := enters_of hg hgn (by rw [hgb]; rfl)
    let dd : Deferred := { target := .fn (.func g) caps, args := #[] }
    have hrange : List.range 2 = [0, 1] := rfl
    refine wp_seq (wp_region ?_)
    have goal2 : c2.wp P (bodyPostD P fn (EndQ w0 F M r w K)) ⟨a1'.tmps.setIfInBounds d (.func (.func g) #[] caps), [dd]⟩ w1 := by
      have hat2 : At (fixA dd ss a1'.tmps.size a1'.tmps) w0 F w1 M1 st1.r [] { st1 with t := st1.t.set d .undef } ⟨a1'.tmps.setIfInBounds d (.func (.func g) #[] caps), [dd]⟩ w1 := by
        refine ⟨M1, hI1, ⟨by simpa using hR1.1, fun i hi _ => ?_⟩, ⟨rfl, by simp, fun s hs => agetD_set_ne _ _ _ _ (fun e => ?_)⟩, .refl _ _ _⟩
        · simp only [List.length_set] at hi
          show RepA w1 M1 st1.r ((a1'.tmps.setIfInBounds d _).getD i undef) ((st1.t.set d .undef).getD i .undef)
          by_cases e : d = i
          · subst e
            rw [getD_set_self _ _ _ _ hi]
            exact .undef _
          · rw [getD_set_ne _ _ _ _ _ e, agetD_set_ne _ _ _ _ e]
            exact hR1'.2 i hi
        · subst e
          rw [List.contains_iff_mem.2 hs] at hds
          cases hds
      refine Go.wp_mono (evalK_sound hE hm c2 (noDst_keeps c2 hss) hdr2 (.inr hnc) _ _ _ w1 hat2 hk) (fun e a2' w2 hq => ?_)
      have hT : ∀ (M2 : Mem) (r2 : List Arr), Chg w1 M1 st1.r w2 M2 r2 → fixA dd ss a1'.tmps.size a1'.tmps a2' → Rept w2 M2 r2 a2'.tmps (keepT ss 0 st1.t) := by
        intro M2 r2 hC hfix
        refine ⟨by rw [hfix.2.1, hR1.1, keepT_length], fun i hi => ?_⟩
        rw [keepT_length] at hi
        rw [keepT_get _ _ _ _ hi, Nat.zero_add]
        split
        · rename_i hc
          rw [hfix.2.2 i (List.contains_iff_mem.1 hc)]
          exact (hR1'.2 i hi).mono hC
        · exact .undef _
      have hcapM : ∀ (M2 : Mem) (r2 : List Arr), Chg w1 M1 st1.r w2 M2 r2 → RepL w2 M2 r2 caps (co.toList.map st1.ev) := fun M2 r2 hC => ⟨hcap.1, fun i hi => (hcap.2 i hi).mono hC⟩
      have hinv : ∀ w2 : World, (invoke (.fn (.func g) caps) #[]).run P w2 = .ok (.enter g caps) w2 := by
        intro w2
        have := hent caps w2
        simpa [invoke] using this
      have retc : ∀ st, At (fixA dd ss a1'.tmps.size a1'.tmps) w0 F w1 M1 st1.r [] st a2' w2 → afterD P E pl fn cr (gtOf (co.toList.map st1.ev) gn.ntmps a1 a2 (.d .nilI)) ⟨keepT ss 0 st1.t, st.b, st.r⟩ K →
          Leaves P fn a2'.tmps (EndQ w0 F M r w K) a2'.defers .returning w2 := by
        intro st ⟨M2, hI2, hR2, hd2, hC2⟩ hk2
        rw [hd2.1]
        refine leaves_cons (by simp) (hinv w2) ?_
        refine closure_calls hE hm hg hgb hgr hdrg hnc hI2 hC2 (hT M2 st.r hC2 hd2) hlt (hcapM M2 st.r hC2) .returning .returning .nilIface (.d .nilI) (.d _ _ .nilI) (fun c₀ l hu => ?_) hk2 rfl (fun v w' he => ?_)
        · simp [recoverD, hu]
        · obtain ⟨x, b', r', M', hK, hI', hC', hx⟩ := he
          exact ⟨x, b', r', M', hK, hI', hC1.trans hC', hx⟩
      cases e with
      | normal =>
        obtain ⟨st, hst, hk2⟩ := hq
        exact retc st hst hk2
      | ret =>
        obtain ⟨st, hst, hk2⟩ := hq
        exact retc st hst hk2
      | panic ch =>
        obtain ⟨st, x, u, rfl, ⟨M2, hI2, hx2, hd2, hC2⟩, hk2⟩ := hq
        show Leaves P fn a2'.tmps (EndQ w0 F M r w K) a2'.defers (.panicking _) w2
        rw [hd2.1]
        refine leaves_cons (by simp) (hinv w2) ?_
        refine closure_calls hE hm hg hgb hgr hdrg hnc hI2 hC2 (hT M2 st.r hC2 hd2) hlt (hcapM M2 st.r hC2) (.panicking [{ v := u, recovered := false }]) (.panicking [{ v := u, recovered := true }]) u x hx2 (fun c₀ l hu => ?_) hk2 ?_ (fun v w' he => ?_)
        · simp [recoverD, hu]
        · simp [settle]
        · obtain ⟨x, b', r', M', hK, hI', hC', hx⟩ := he
          exact ⟨x, b', r', M', hK, hI', hC1.trans hC', hx⟩
      | exit i =>
        obtain ⟨st, hst, hk2⟩ := hq
        exact hk2.elim
      | goto l => exact hq.elim
      | outgrown => exact hq.elim
    have hdt : d < a1'.tmps.size := by rw [hR1.1]; exact hdl
    have hmf : (Instr.makeFunc (.func g) #[] (co.map a1'.eval)).run P w1 = .ok (.func (.func g) #[] caps) w1 := by rw [hcv]; rfl
    have hd1' : a1'.defers = [] := hd1
    simp only [List.size_toArray, List.length_cons, List.length_nil, Nat.reduceAdd, hrange]
    simp [wpOps, Oper.wp, Region.wanted, execOp, resolve, Deferred.ofValue, Oper.upon, Act.put, Act.eval, hdt, Exit.then, hmf, hd1']
    exact .inl (.inl goal2)
  | exit i =>
    obtain ⟨st1, hst, hk⟩ := hq
    exact hk.elim
  | ret =>
    obtain ⟨st1, hst, hk⟩ := hq
    exact hk.elim
  | panic ch =>
    obtain ⟨st, x, u, rfl, hst, hk⟩ := hq
    exact hk.elim
  | goto l => exact hq.elim
  | outgrown => exact hq.elim
end

/-! ### how such a function is run -/
def dQ2 (P : Program) (rs : List ResultVar) (tS : List AV) (K : Out → Prop) (e : Ex) (s : St) : Prop := match e with
  | .normal => resK P ⟨tS, s.b, s.r⟩ rs fun vs => @uK s.r (oneV vs) ⟨fun x => K (.ret x)⟩
  | .ret => resK P ⟨tS, s.b, s.r⟩ rs fun vs => @uK s.r (oneV vs) ⟨fun x => K (.ret x)⟩
  | .panic _ => False
  | .exit _ => False
def dQ1 (cx : Kt Cx) (rs : List ResultVar) (caps tS : List AV) (n a1 a2 : Nat) (cr : Code) (K : Out → Prop) (e : Ex) (st : St) : Prop := match e with
  | .normal => @eK cx ⟨gtOf caps n a1 a2 (.d .nilI), st.b, st.r⟩ ⟨cr⟩ ⟨dQ2 cx.v.P rs tS K⟩
  | .ret => @eK cx ⟨gtOf caps n a1 a2 (.d .nilI), st.b, st.r⟩ ⟨cr⟩ ⟨dQ2 cx.v.P rs tS K⟩
  | .panic x => @eK cx ⟨gtOf caps n a1 a2 x, st.b, st.r⟩ ⟨cr⟩ ⟨dQ2 cx.v.P rs tS K⟩
  | .exit _ => False
def dQ0 (cx : Kt Cx) (rs : List ResultVar) (c2 : Code) (d : Tmp) (co : List Operand) (ss : List Nat) (n a1 a2 : Nat) (cr : Code) (K : Out → Prop) (e : Ex) (st : St) : Prop := match e with
  | .normal => d < st.t.length ∧ @eK cx ⟨st.t.set d .undef, st.b, st.r⟩ ⟨c2⟩ ⟨dQ1 cx rs (co.map st.ev) (keepT ss 0 st.t) n a1 a2 cr K⟩
  | .ret => False
  | .panic _ => False
  | .exit _ => False
section
variable {P : Program} {cx : Kt Cx} {rs : List ResultVar} {caps tS : List AV} {n a1 a2 : Nat} {cr c2 : Code} {K : Out → Prop} {s st : St} {d : Tmp} {co : List Operand} {ss : List Nat}
theorem dQ2_normal : dQ2 P rs tS K .normal s = resK P ⟨tS, s.b, s.r⟩ rs fun vs => @uK s.r (oneV vs) ⟨fun x => K (.ret x)⟩ := rfl
theorem dQ2_ret : dQ2 P rs tS K .ret s = resK P ⟨tS, s.b, s.r⟩ rs fun vs => @uK s.r (oneV vs) ⟨fun x => K (.ret x)⟩ := rfl
theorem dQ1_normal : dQ1 cx rs caps tS n a1 a2 cr K .normal st = @eK cx ⟨gtOf caps n a1 a2 (.d .nilI), st.b, st.r⟩ ⟨cr⟩ ⟨dQ2 cx.v.P rs tS K⟩ := rfl
theorem dQ1_ret : dQ1 cx rs caps tS n a1 a2 cr K .ret st = @eK cx ⟨gtOf caps n a1 a2 (.d .nilI), st.b, st.r⟩ ⟨cr⟩ ⟨dQ2 cx.v.P rs tS K⟩ := rfl
theorem dQ1_panic (x : AV) : dQ1 cx rs caps tS n a1 a2 cr K (.panic x) st = @eK cx ⟨gtOf caps n a1 a2 x, st.b, st.r⟩ ⟨cr⟩ ⟨dQ2 cx.v.P rs tS K⟩ := rfl
theorem dQ0_normal : dQ0 cx rs c2 d co ss n a1 a2 cr K .normal st = (d < st.t.length ∧ @eK cx ⟨st.t.set d .undef, st.b, st.r⟩ ⟨c2⟩ ⟨dQ1 cx rs (co.map st.ev) (keepT ss 0 st.t) n a1 a2 cr K⟩) := rfl
theorem gtOf_eq (rv : AV) : gtOf caps n a1 a2 rv = ((caps ++ List.replicate (n - caps.length) AV.undef).set a1 rv).set a2 rv := rfl
end
theorem FPure.runD {P : Program} (l : List (FuncId × Known)) (pl : Nat → List (Nat × Bool × List Nat)) (hl : ∀ p ∈ l, KnownOk P p.1 p.2) (hm : P.follows .mixedOrders = true)
    {g : FuncId} {gn : Func} {id : Nat} {a1 a2 ty1 ty2 : Nat} {p1 p2 : String} {ar1 ar2 : Array Edge} {cr : Code}
    (hg : P.funcs[g]? = some gn) (hgb : gn.body = some (.seq (.region id #[⟨some a1, .call ⟨.builtin .recover, #[], #[]⟩, ty1, p1, ar1, none⟩, ⟨some a2, .assign (.tmp a1), ty2, p2, ar2, none⟩] false) cr)) (hgr : gn.results = #[])
    (hgn : (gn.name == "runtime.NumGoroutine") = false) (hdrg : drawsB pl cr = true) (hnc : ∀ i, pl (i + 200000) = []) (ng : Nat) (hng : gn.ntmps = ng) (hlt : a1 < ng)
    {f : FuncId} {fn : Func} {c0 c2 : Code} {i1 : Nat} {d : Tmp} {co : List Operand} {t1 t2 : TypeId} {q1 q2 : String} {e1 e2 : Array Edge} {ats : Array TypeId} {s : Spec}
    (hf : P.funcs[f]? = some fn) (hn : (fn.name == "runtime.NumGoroutine") = false)
    (hb : fn.body = some (.seq c0 (.seq (.region i1 #[⟨some d, .makeFunc (.func g) #[] co.toArray, t1, q1, e1, none⟩, ⟨none, .defer ⟨.value (.tmp d), #[], ats⟩, t2, q2, e2, none⟩] false) c2)))
    (hdr0 : drawsB pl c0 = true) (hdr2 : drawsB pl c2 = true) (ss : List Nat) (hss : noDst ss c2 = true) (hds : ss.contains d = false) (n : Nat) (hnt : fn.ntmps = n) (rs : List ResultVar) (hrs : fn.results = rs.toArray)
    (h : ∀ ds K, s ds K → @eK ⟨⟨P, l, pl, []⟩⟩ ⟨ds.map .d ++ List.replicate (n - (ds.map AV.d).length) .undef, [], []⟩ ⟨c0⟩ ⟨dQ0 ⟨⟨P, l, pl, []⟩⟩ rs c2 d co ss ng a1 a2 cr K⟩) : FPure P f s := by
  intro w no vs ds K hno hv hs
  have h1 := h ds K hs
  refine ⟨enters_of hf hn (by rw [hb]; rfl), Calls.mono (defer_sound (E := mkEnv l) (pl := pl) (env_ok hl) hm hg hgb hgr hgn hdrg hnc (by rw [hng]; exact hlt) hf hb hdr0 hdr2 ss hss hds (mno_inv hno) hv
    (K := fun o _ r => match o with | .ret v => outK r v fun x => K (.ret x) | .panic v => outK r v fun x => K (.panic x)) ?_) (fun e w' he => ?_)⟩
  · unfold deferK
    rw [hnt, hng]
    have e2 : ∀ tS : List AV, (fun (e : Ex) (s : St) => (match e with
        | .normal => resK P ⟨tS, s.b, s.r⟩ rs.toArray.toList fun vs => outK s.r (oneV vs) fun x => K (.ret x)
        | .ret => resK P ⟨tS, s.b, s.r⟩ rs.toArray.toList fun vs => outK s.r (oneV vs) fun x => K (.ret x)
        | _ => False : Prop)) = dQ2 P rs tS K := by
      intro tS
      funext e s
      cases e <;> rfl
    have e3 : ∀ (tS gt : List AV) (st : St), afterD P (mkEnv l) pl fn cr gt ⟨tS, st.b, st.r⟩ (fun o _ r => match o with | .ret v => outK r v fun x => K (.ret x) | .panic v => outK r v fun x => K (.panic x)) = @eK ⟨⟨P, l, pl, []⟩⟩ ⟨gt, st.b, st.r⟩ ⟨cr⟩ ⟨dQ2 P rs tS K⟩ := by
      intro tS gt st
      unfold afterD
      rw [hrs]
      show evalK P (mkEnv l) pl cr ⟨gt, st.b, st.r⟩ _ = evalK P (mkEnv l) pl cr ⟨gt, st.b, st.r⟩ (dQ2 P rs tS K)
      rw [← e2 tS]
    have e4 : (fun (e : Ex) (st1 : St) => (match e with
        | .normal => d < st1.t.length ∧ evalK P (mkEnv l) pl c2 { st1 with t := st1.t.set d .undef } fun e st => match e with
          | .normal => afterD P (mkEnv l) pl fn cr (gtOf (co.toArray.toList.map st1.ev) ng a1 a2 (.d .nilI)) ⟨keepT ss 0 st1.t, st.b, st.r⟩ (fun o _ r => match o with | .ret v => outK r v fun x => K (.ret x) | .panic v => outK r v fun x => K (.panic x))
          | .ret => afterD P (mkEnv l) pl fn cr (gtOf (co.toArray.toList.map st1.ev) ng a1 a2 (.d .nilI)) ⟨keepT ss 0 st1.t, st.b, st.r⟩ (fun o _ r => match o with | .ret v => outK r v fun x => K (.ret x) | .panic v => outK r v fun x => K (.panic x))
          | .panic x => afterD P (mkEnv l) pl fn cr (gtOf (co.toArray.toList.map st1.ev) ng a1 a2 x) ⟨keepT ss 0 st1.t, st.b, st.r⟩ (fun o _ r => match o with | .ret v => outK r v fun x => K (.ret x) | .panic v => outK r v fun x => K (.panic x))
          | .exit _ => False
        | _ => False : Prop)) = dQ0 ⟨⟨P, l, pl, []⟩⟩ rs c2 d co ss ng a1 a2 cr K := by
      funext e st1
      cases e with
      | normal =>
        show (d < st1.t.length ∧ _) = (d < st1.t.length ∧ _)
        congr 1
        show evalK P (mkEnv l) pl c2 _ _ = evalK P (mkEnv l) pl c2 _ _
        congr 1
        funext e st
        cases e with
        | normal => exact e3 _ _ st
        | ret => exact e3 _ _ st
        | panic x => exact e3 _ _ st
        | exit i => rfl
      | _ => rfl
    exact e4 ▸ h1
  · cases e with
    | returned v =>
      obtain ⟨x, b', r', M', hK, hI, hC, hx⟩ := he
      simp only [outK] at hK
      split at hK
      · rename_i y hy
        obtain ⟨h1, h2⟩ := toO_rep hI hx hy
        rw [hC.no] at h1
        exact ⟨y, hK, hI.keep, h1, h2⟩
      · exact hK.elim
    | panicked ch =>
      obtain ⟨x, b', r', M', u, hK, rfl, hI, hC, hx⟩ := he
      simp only [outK] at hK
      split at hK
      · rename_i y hy
        obtain ⟨h1, h2⟩ := toO_rep hI hx hy
        rw [hC.no] at h1
        exact ⟨y, u, hK, rfl, hI.keep, h1, h2⟩
      · exact hK.elim
    | outgrown => exact he.elim
end Go.PE
end

section
/- The rules of evaluation, bundled: simp takes a conjunction for the rules it is made of. -/
set_option linter.defProp false
namespace Go.PE
open Go
def eB1 := And.intro @eK_skip (And.intro @p0_cons (And.intro @eK_label (And.intro @eK_seq (And.intro @eK_cond (And.intro @eK_block (And.intro @eK_exit (And.intro @eK_ret (And.intro @eK_region (And.intro @eK_drawn (And.intro @gh_nil (And.intro @gh_link (And.intro @gh_unlink (And.intro @cK_true (And.intro @cK_false (And.intro @cK_bool (And.intro @nK_some (And.intro @nK_none (And.intro @pK_nil (And.intro @pK_do (And.intro @pK_look (And.intro @oK_nil (And.intro @oK_cons (And.intro @o1_free (And.intro @o1_guard (And.intro @o2_free (And.intro @o2_guard (And.intro @gX_true (And.intro @gX_false (And.intro @gX_beq (And.intro @vG.eq_1 (And.intro @vG.eq_2 (And.intro @s1_free (And.intro @s1_guard (And.intro @sW_ok (And.intro @sW_elem (And.intro @sW_byte (And.intro @sW_fail (And.intro @detR_ok (@detR_elem)))))))))))))))))))))))))))))))))))))))
def eB2 := And.intro @detR_byte (And.intro @detR_fail (And.intro @detR_call (And.intro @detRk_some (And.intro @Dt_cx (And.intro @gK_ok (And.intro @gK_elem (And.intro @gK_byte (And.intro @gK_call (And.intro @gK_fail (And.intro @gK_panic (And.intro @gK_not (And.intro @dK_some (And.intro @dK_none (And.intro @dK_none' (And.intro @spK_eq (And.intro @rK_ok (And.intro @rK_elem (And.intro @rK_byte (And.intro @rK_any (And.intro @yK_two (And.intro @eR_0 (And.intro @eR_1 (And.intro @eR_2 (And.intro @clK_some (And.intro @kindL.eq_def (And.intro @litR.eq_def (And.intro @bytesC.eq_1 (And.intro @bytesC.eq_2 (And.intro @clearR.eq_def (And.intro @gK_any (And.intro @rK_fail (And.intro @rK_panic (And.intro @rK_call (And.intro @aC_ret (And.intro @aC_panic (And.intro @dOf_some (And.intro @dOf_none (And.intro @Dt_det (@Dt_spec)))))))))))))))))))))))))))))))))))))))
def eB3 := And.intro @Dt_raw (And.intro @hK_det (And.intro @hK_spec (And.intro @hK_raw (And.intro @eL_map (And.intro @uK_eq (And.intro @retQ_normal (And.intro @retQ_ret (And.intro @retQ_panic (And.intro @lookK.eq_1 (And.intro @lookK.eq_2 (And.intro @pendL.eq_1 (And.intro @pendL.eq_2 (And.intro @pendO.eq_def (And.intro @pendV.eq_def (And.intro @Res.sem.eq_def (And.intro @List.map_cons.{0,0} (And.intro @List.map_nil.{0,0} (And.intro @List.length_cons.{0} (And.intro @List.length_nil.{0} (And.intro @List.length_map.{0,0} (And.intro @Nat.zero_add (And.intro @Nat.add_zero (And.intro @Nat.lt_add_one (And.intro @List.replicate_succ.{0} (And.intro @List.replicate_zero.{0} (And.intro @List.cons_append.{0} (And.intro @List.nil_append.{0} (And.intro @List.append_nil.{0} (And.intro @need_nil (And.intro @need_cons (And.intro @needU_pick (And.intro @needU_of (And.intro @needL_nil (And.intro @needL_cons (And.intro @validO.eq_def (And.intro @valid_nil (And.intro @valid_cons (And.intro @opR.eq_def (@St.ev.eq_def)))))))))))))))))))))))))))))))))))))))
def eB4 := And.intro @constA.eq_def (And.intro @assignR.eq_def (And.intro @List.getD_nil.{0} (And.intro @St.put.eq_def (And.intro @clean.eq_1 (And.intro @clean.eq_2 (And.intro @gval.eq_def (And.intro @stillOp.eq_def (And.intro @addG.eq_def (And.intro @binR.eq_def (And.intro @intR.eq_def (And.intro @strR.eq_def (And.intro @unR.eq_def (And.intro @pickR.eq_def (And.intro @loadR.eq_def (And.intro @lkd.eq_def (And.intro @lnkC.eq_def (And.intro @storeR.eq_def (And.intro @fieldAddrR.eq_def (And.intro @indexAddrR.eq_def (And.intro @indexR.eq_def (And.intro @fieldR.eq_def (And.intro @cellsA.eq_def (And.intro @mkV.eq_def (And.intro @mkD.eq_def (And.intro @mkAgg.eq_def (And.intro @allD.eq_1 (And.intro @allD.eq_2 (And.intro @allD.eq_3 (And.intro @splice.eq_def (And.intro @oneA.eq_def (And.intro @oneD.eq_def (And.intro @List.all_cons.{0} (And.intro @List.all_nil.{0} (And.intro @List.take_succ_cons.{0} (And.intro @List.take_zero.{0} (And.intro @List.drop_succ_cons.{0} (And.intro @List.drop_zero.{0} (And.intro @callR.eq_def (@builtinR.eq_def)))))))))))))))))))))))))))))))))))))))
def eB5 := And.intro @lenR.eq_def (And.intro @appendR.eq_def (And.intro @srcA.eq_def (And.intro @mmR.eq_def (And.intro @extractR.eq_def (And.intro @mkIfR.eq_def (And.intro @convR.eq_def (And.intro @ik.eq_def (And.intro @allocR.eq_def (And.intro @boxR.eq_def (And.intro @buildR.eq_def (And.intro @fillA.eq_1 (And.intro @fillA.eq_2 (And.intro @plS.eq_def (And.intro @plA.eq_def (And.intro @bsliceR.eq_def (And.intro @hasFn.eq_1 (And.intro @hasFn.eq_2 (And.intro @fnA.eq_def (And.intro @fnL.eq_1 (And.intro @fnL.eq_2 (And.intro @fnO.eq_def (And.intro @catA.eq_1 (And.intro @catA.eq_2 (And.intro @mkSliceR.eq_def (And.intro @sliceR.eq_def (And.intro @boundA.eq_def (And.intro @nilCheckR.eq_def (And.intro @panicR.eq_def (And.intro @invokeR.eq_def (And.intro @toDR.eq_def (And.intro @toD.eq_1 (And.intro @toD.eq_2 (And.intro @toD.eq_3 (And.intro @toD.eq_4 (And.intro @toD.eq_5 (And.intro @toD.eq_6 (And.intro @toD.eq_7 (And.intro @toDL.eq_1 (@toDL.eq_2)))))))))))))))))))))))))))))))))))))))
def eB6 := And.intro @arrIds.eq_1 (And.intro @arrIds.eq_2 (And.intro @arrIds.eq_3 (And.intro @arrIds.eq_4 (And.intro @arrIdsL.eq_1 (And.intro @arrIdsL.eq_2 (And.intro @share.eq_1 (And.intro @share.eq_2 (And.intro @share1.eq_def (And.intro @St.new.eq_def (And.intro @St.row.eq_def (And.intro @toO.eq_def (And.intro @resK.eq_1 (And.intro @resK.eq_2 (And.intro @resK.eq_3 (And.intro @oneV.eq_def (And.intro @Option.map_some.{0,0} (And.intro @Option.map_none.{0,0} (And.intro @eqR.eq_def (And.intro @eqL.eq_1 (And.intro @eqL.eq_2 (And.intro @eqL.eq_3 (And.intro @eqD.eq_def (And.intro @fits.eq_1 (And.intro @fits.eq_2 (And.intro @fits.eq_3 (And.intro @fit1.eq_def (And.intro @true_and (And.intro @and_true (And.intro @and_self (And.intro @ite_boolA (And.intro @ite_and (And.intro @ite_or (And.intro @ite_and' (And.intro @ite_or' (And.intro @beq_true (And.intro @beq_false (And.intro @Bool.true_and (And.intro @Bool.and_true (@Bool.false_and)))))))))))))))))))))))))))))))))))))))
def eB7 := And.intro @Bool.and_false (And.intro @Bool.true_or (And.intro @Bool.or_true (And.intro @Bool.false_or (And.intro @Bool.or_false (And.intro @decide_eq_true_eq (And.intro @decide_eq_false_iff_not (And.intro @Bool.not_true (And.intro @Bool.not_false (And.intro @Bool.not_eq_true' (And.intro @Bool.not_eq_false' (And.intro @false_implies (And.intro @true_implies (And.intro @not_true_eq_false (And.intro @not_false_eq_true (And.intro @imp_self (And.intro @decide_true (And.intro @decide_false (And.intro @Bool.bne_false (And.intro @Bool.bne_true (And.intro @St.head.eq_def (And.intro @keepT.eq_1 (And.intro @keepT.eq_2 (And.intro @setAll.eq_1 (And.intro @setAll.eq_2 (And.intro @leV.eq_1 (And.intro @leV.eq_2 (And.intro @leV.eq_3 (And.intro @leV.eq_4 (And.intro @leB.eq_1 (And.intro @leB.eq_2 (And.intro @leB.eq_3 (And.intro @leR.eq_def (And.intro @leR0.eq_1 (And.intro @leR0.eq_2 (And.intro @leR0.eq_3 (And.intro @idsR.eq_1 (And.intro @idsR.eq_2 (And.intro @anyL.eq_1 (@anyL.eq_2)))))))))))))))))))))))))))))))))))))))
def eB8 := And.intro @lnk1.eq_def (And.intro @lnkA.eq_def (And.intro @srcL.eq_def (And.intro @upR.eq_1 (And.intro @upR.eq_2 (And.intro @upA.eq_def (And.intro @lendR.eq_1 (And.intro @lendR.eq_2 (And.intro @sameR.eq_1 (And.intro @sameR.eq_2 (And.intro @sameR.eq_3 (And.intro @sameB.eq_1 (And.intro @sameB.eq_2 (And.intro @sameB.eq_3 (And.intro @cu_none (And.intro @cu_some (And.intro @o0_nil (And.intro @o0_cons (And.intro @lK_0 (And.intro @lK_succ (And.intro @cutAt.eq_def (And.intro @nrP.eq_def (And.intro @cutR.eq_def (And.intro @freeA.eq_1 (And.intro @freeA.eq_2 (And.intro @freeA.eq_3 (And.intro @freeA.eq_4 (And.intro @freeA.eq_5 (And.intro @freeA.eq_6 (And.intro @freeA.eq_7 (And.intro @freeA.eq_8 (And.intro @freeA.eq_9 (And.intro @freeA.eq_10 (And.intro @freeA.eq_11 (And.intro @freeA.eq_12 (And.intro @freeA.eq_13 (And.intro @freeL.eq_1 (And.intro @freeL.eq_2 (And.intro @freeB.eq_1 (@freeB.eq_2)))))))))))))))))))))))))))))))))))))))
def eB9 := And.intro @forgetT.eq_1 (And.intro @forgetT.eq_2 (And.intro @slice3R.eq_def (And.intro @copyR.eq_def (And.intro @capR.eq_def (And.intro @refD.eq_def (And.intro @backT.eq_1 (And.intro @backT.eq_2 (And.intro @flatA.eq_def (And.intro @idsL.eq_1 (And.intro @idsL.eq_2 (And.intro @idsA.eq_1 (And.intro @idsA.eq_2 (And.intro @idsA.eq_3 (And.intro @idsA.eq_4 (And.intro @idsA.eq_5 (And.intro @idsA.eq_6 (And.intro @idsA.eq_7 (And.intro @idsA.eq_8 (And.intro @idsA.eq_9 (And.intro @idsA.eq_10 (And.intro @idsA.eq_11 (And.intro @idsA.eq_12 (And.intro @idsA.eq_13 (And.intro @idsB.eq_1 (And.intro @idsB.eq_2 (And.intro @List.contains_cons.{0} (And.intro @List.contains_nil.{0} (And.intro @ite_dec_f (And.intro @ite_dec_t (And.intro @rng0 (And.intro @rng1 (And.intro @rng2 (And.intro @rng3 (And.intro @rng4 (And.intro @rng5 (And.intro @rng6 (And.intro @rng7 (And.intro @rng8 (@cellsD.eq_def)))))))))))))))))))))))))))))))))))))))
def eB10 := And.intro @opsB (And.intro @opsV (And.intro @opsI (And.intro @opsS (And.intro @optL_none (And.intro @optL_some (And.intro @Int.toNat_zero (And.intro @Int.toNat_natCast (And.intro @get0 (And.intro @elm0 (And.intro @set0 (And.intro @get1 (And.intro @elm1 (And.intro @set1 (And.intro @get2 (And.intro @elm2 (And.intro @set2 (And.intro @get3 (And.intro @elm3 (And.intro @set3 (And.intro @get4 (And.intro @elm4 (And.intro @set4 (And.intro @get5 (And.intro @elm5 (And.intro @set5 (And.intro @get6 (And.intro @elm6 (And.intro @set6 (And.intro @get7 (And.intro @elm7 (And.intro @set7 (And.intro @get8 (And.intro @elm8 (And.intro @set8 (And.intro @allS (And.intro @allN (And.intro @Bool.decide_eq_true (And.intro @Bool.decide_eq_false (@Bool.and_assoc)))))))))))))))))))))))))))))))))))))))
def eB11 := And.intro @hK_mem (And.intro @fB_eq (And.intro @fR_eq (And.intro @pU_ret (And.intro @pU_panic (And.intro @Dt_mem (And.intro @upI_nil (And.intro @upI_0 (And.intro @upI_1 (And.intro @upI_2 (And.intro @upI_3 (And.intro @upI_11 (And.intro @upI_12 (And.intro @upI_22 (And.intro @upI_23 (And.intro @memQ_normal (And.intro @memQ_ret (And.intro @memQ_panic (And.intro @low.eq_1 (And.intro @low.eq_2 (And.intro @low.eq_3 (And.intro @low.eq_4 (And.intro @low.eq_5 (And.intro @low.eq_6 (And.intro @low.eq_7 (And.intro @low.eq_8 (And.intro @low.eq_9 (And.intro @low.eq_10 (And.intro @low.eq_11 (And.intro @low.eq_12 (And.intro @low.eq_13 (And.intro @lowL.eq_1 (And.intro @lowL.eq_2 (And.intro @lowB.eq_1 (And.intro @lowB.eq_2 (And.intro @pickL.eq_1 (And.intro @pickL.eq_2 (And.intro @ixOf.eq_1 (And.intro @ixOf.eq_2 (@nd.eq_1)))))))))))))))))))))))))))))))))))))))
def eB12 := And.intro @nd.eq_2 (And.intro @flatR.eq_1 (And.intro @flatR.eq_2 (And.intro @up.eq_1 (And.intro @up.eq_2 (And.intro @up.eq_3 (And.intro @up.eq_4 (And.intro @up.eq_5 (And.intro @up.eq_6 (And.intro @up.eq_7 (And.intro @up.eq_8 (And.intro @up.eq_9 (And.intro @up.eq_10 (And.intro @up.eq_11 (And.intro @up.eq_12 (And.intro @up.eq_13 (And.intro @upL.eq_1 (And.intro @upL.eq_2 (And.intro @upB.eq_1 (And.intro @upB.eq_2 (And.intro @mergeL.eq_1 (And.intro @mergeL.eq_2 (And.intro @mergeL.eq_3 (And.intro @uni.eq_1 (And.intro @uni.eq_2 (And.intro @ptrIds.eq_1 (And.intro @ptrIds.eq_2 (And.intro @ptrIds.eq_3 (And.intro @ptrIds.eq_4 (And.intro @ptrIds.eq_5 (And.intro @ptrIds.eq_6 (And.intro @ptrIds.eq_7 (And.intro @ptrIds.eq_8 (And.intro @ptrIds.eq_9 (And.intro @ptrIds.eq_10 (And.intro @ptrIds.eq_11 (And.intro @ptrIds.eq_12 (And.intro @ptrIds.eq_13 (And.intro @ptrIdsL.eq_1 (@ptrIdsL.eq_2)))))))))))))))))))))))))))))))))))))))
def eB13 := And.intro @rowIds.eq_1 (And.intro @rowIds.eq_2 (And.intro @rowIds.eq_3 (And.intro @rowIds.eq_4 (And.intro @rowIds.eq_5 (And.intro @rowIds.eq_6 (And.intro @rowIds.eq_7 (And.intro @rowIds.eq_8 (And.intro @rowIds.eq_9 (And.intro @rowIds.eq_10 (And.intro @rowIds.eq_11 (And.intro @rowIds.eq_12 (And.intro @rowIds.eq_13 (And.intro @rowIdsL.eq_1 (And.intro @rowIdsL.eq_2 (And.intro @seeC.eq_1 (And.intro @seeC.eq_2 (And.intro @seeD.eq_1 (And.intro @seeD.eq_2 (And.intro @seeL.eq_def (And.intro @seeB.eq_def (And.intro @seeR.eq_def (And.intro @Option.isNone_none.{0} (And.intro @Option.isNone_some.{0} (And.intro @byteCell_len (And.intro @bytesD_nil (And.intro @bytesD_map (And.intro @map_take' (And.intro @map_drop' (And.intro @map_append' (And.intro @forall_map' (And.intro @List.take_length.{0} (And.intro @false_or (And.intro @or_false (And.intro @true_or (And.intro @or_true (And.intro @isC.eq_1 (And.intro @isC.eq_2 (And.intro @isC.eq_3 (@isC.eq_4)))))))))))))))))))))))))))))))))))))))
def eB14 := And.intro @eL_nil (And.intro @eL_0 (And.intro @eL_1 (And.intro @eL_2 (And.intro @eG_0 (And.intro @eG_1 (And.intro @eG_2 (And.intro @assertR.eq_def (And.intro @dQ0_normal (And.intro @dQ1_normal (And.intro @dQ1_ret (And.intro @dQ1_panic (And.intro @dQ2_normal (And.intro @dQ2_ret (@gtOf_eq))))))))))))))
def eBs := And.intro eB1 (And.intro eB2 (And.intro eB3 (And.intro eB4 (And.intro eB5 (And.intro eB6 (And.intro eB7 (And.intro eB8 (And.intro eB9 (And.intro eB10 (And.intro eB11 (And.intro eB12 (And.intro eB13 (eB14)))))))))))))
end Go.PE
end

section
/- Small helps for contracts. -/
set_option linter.unusedVariables false
set_option linter.unusedSimpArgs false
namespace Go.PE
open Go

theorem wrap_i64' {n : Int} (h1 : -9223372036854775808 ≤ n) (h2 : n < 9223372036854775808) : IntKind.i64.wrap n = n := by
  rw [IntKind.wrap_i64]
  omega
theorem wrap_u8' {n : Int} (h1 : 0 ≤ n) (h2 : n < 256) : IntKind.u8.wrap n = n := by
  rw [IntKind.wrap_u8]
  omega

/-! ### lists are no longer than lists can be -/
mutual
def okD : D → Prop
  | .list es => es.length ≤ 9223372036854775807 ∧ okLL es
  | .agg cs => okL cs
  | .iface _ d => okD d
  | .int _ _ => True
  | .bool _ => True
  | .str _ => True
  | .nilI => True
  | .raw _ => True
  | .ref _ _ => True
def okL : List D → Prop
  | [] => True
  | x :: l => okD x ∧ okL l
def okLL : List (List D) → Prop
  | [] => True
  | e :: l => okL e ∧ okLL l
end
theorem okL_iff : ∀ {l : List D}, okL l ↔ ∀ d ∈ l, okD d
  | [] => by simp [okL]
  | x :: l => by simp [okL, okL_iff (l := l)]
theorem okLL_iff : ∀ {l : List (List D)}, okLL l ↔ ∀ e ∈ l, okL e
  | [] => by simp [okLL]
  | x :: l => by simp [okLL, okLL_iff (l := l)]
theorem okLL_map {α : Type} (f : α → List D) (l : List α) : okLL (l.map f) ↔ ∀ x ∈ l, okL (f x) := by
  rw [okLL_iff]; simp
theorem getD_mem_of {α : Type} {l : List α} {x d : α} (h : x ∈ l) : ∃ i, i < l.length ∧ l.getD i d = x := by
  obtain ⟨i, hi, e⟩ := List.mem_iff_getElem.1 h
  exact ⟨i, hi, by simp [List.getD, hi, e]⟩
theorem maxLen_le : maxLen ≤ 9223372036854775807 := by simp only [maxLen]; omega
theorem rep_ok {w : World} {ok : Addr → Prop} {v : Value} {x : D} (h : Rep w ok v x) : okD x := by
  induction h with
  | int => simp [okD]
  | bool => simp [okD]
  | str => simp [okD]
  | nilI => simp [okD]
  | raw => simp [okD]
  | iface t v d _ ih => simpa [okD] using ih
  | agg vs cs hs h1 _ ih =>
    simp only [okD]
    refine okL_iff.2 (fun d hd => ?_)
    obtain ⟨i, hi, rfl⟩ := getD_mem_of (d := .nilI) hd
    exact ih i hi
  | list A n c sz es f hn hc hz ha h1 _ ih =>
    simp only [okD]
    refine ⟨?_, okLL_iff.2 (fun e he => okL_iff.2 (fun d hd => ?_))⟩
    · have h1 : n ≤ c := hc.1
      have h2 : c ≤ maxLen := hc.2
      have h3 := maxLen_le
      omega
    · obtain ⟨i, hi, rfl⟩ := getD_mem_of (d := []) he
      obtain ⟨j, hj, rfl⟩ := getD_mem_of (d := .nilI) hd
      exact ih i j (by omega) (by rw [← hz i (by omega)]; exact hj)

def lensOk (ds : List D) : Prop := okL ds
theorem lens_of {w : World} {M : Mem} {r : List Arr} {vs : Array Value} {ds : List D} (h : RepL w M r vs (ds.map .d)) : lensOk ds := by
  refine okL_iff.2 (fun d hd => ?_)
  obtain ⟨i, hi, rfl⟩ := getD_mem_of (d := .nilI) hd
  have := h.2 i (by simpa using hi)
  rw [getD_map_d _ _ hi] at this
  exact rep_ok this.d_inv
theorem lensOk_cons_list (es : List (List D)) (ds : List D) (h : lensOk (.list es :: ds)) : es.length ≤ 9223372036854775807 ∧ lensOk ds := by
  simp only [lensOk, okL, okD] at h
  exact ⟨h.1.1, h.2⟩

/-- A function of data, by running its body; the lists it is handed are no longer than lists can be. -/
theorem FPure.runL {P : Program} (l : List (FuncId × Known)) (pl : Nat → List (Nat × Bool × List Nat)) (hl : ∀ p ∈ l, KnownOk P p.1 p.2) (hm : P.follows .mixedOrders = true) {f : FuncId} {fn : Func} {c : Code} {s : Spec}
    (hf : P.funcs[f]? = some fn) (hn : (fn.name == "runtime.NumGoroutine") = false) (hb : fn.body = some c) (hdr : drawsB pl c = true) (n : Nat) (hnt : fn.ntmps = n) (rs : List ResultVar) (hrs : fn.results = rs.toArray)
    (h : ∀ ds K, lensOk ds → s ds K → @eK ⟨⟨P, l, pl, []⟩⟩ ⟨ds.map .d ++ List.replicate (n - (ds.map AV.d).length) .undef, [], []⟩ ⟨c⟩ ⟨retQ P rs K⟩) : FPure P f s := by
  have h' : FPure P f (fun ds K => lensOk ds ∧ s ds K) := FPure.run l pl hl hm hf hn hb hdr n hnt rs hrs (fun ds K hs => h ds K hs.1 hs.2)
  intro w no vs ds K hno hv hs
  exact h' w no vs ds K hno hv ⟨lens_of hv, hs⟩

def okA : AV → Prop
  | .d x => okD x
  | _ => True
def okSt (args : List AV) (b : List (List AV)) (r : List Arr) : Prop := (∀ x ∈ args, okA x) ∧ (∀ c ∈ b, ∀ x ∈ c, okA x) ∧ ∀ A ∈ r, A.es.length ≤ 9223372036854775807 ∧ okLL A.es
theorem repA_ok {w : World} {M : Mem} {r : List Arr} {v : Value} {x : AV} (h : RepA w M r v x) : okA x := by
  cases x with
  | d x => exact rep_ok h.d_inv
  | _ => trivial
theorem okSt_of {w0 : World} {F : List Nat} {M : Mem} {b : List (List AV)} {r : List Arr} {w : World} {vs : Array Value} {args : List AV} (hI : Inv w0 F M b r w) (hv : RepL w M r vs args) : okSt args b r := by
  refine ⟨fun x hx => ?_, fun c hc x hx => ?_, fun A hA => ?_⟩
  · obtain ⟨i, hi, rfl⟩ := getD_mem_of (d := .undef) hx
    exact repA_ok (hv.2 i hi)
  · obtain ⟨i, hi, e⟩ := List.mem_iff_getElem.1 hc
    obtain ⟨cs, ty, _, _, _, hr⟩ := hI.box i c (by rw [List.getElem?_eq_getElem hi, e])
    obtain ⟨j, hj, rfl⟩ := getD_mem_of (d := .undef) hx
    exact repA_ok (hr j hj)
  · obtain ⟨i, hi, e⟩ := List.mem_iff_getElem.1 hA
    obtain ⟨hz, he, xs, ho, _, hr⟩ := hI.row i A (by rw [List.getElem?_eq_getElem hi, e])
    refine ⟨?_, okLL_iff.2 (fun e' he' => okL_iff.2 (fun d hd => ?_))⟩
    · have h3 := maxLen_le
      rcases ho.2 with ⟨_, hn⟩ | ⟨g, cap, cur, _, _, _, h1, h2, _⟩
      · omega
      · omega
    · have hsz := he e' he'
      obtain ⟨k, hk, rfl⟩ := getD_mem_of (d := []) he'
      obtain ⟨j, hj, rfl⟩ := getD_mem_of (d := .nilI) hd
      rcases hr k j hk (by omega) with h | ⟨_, id, n, e, _⟩
      · exact rep_ok h
      · rw [e]; trivial

/-- A function of which the state is told, by running its body. -/
theorem HOk.runL {P : Program} (l : List (FuncId × Known)) (pl : Nat → List (Nat × Bool × List Nat)) (hl : ∀ p ∈ l, KnownOk P p.1 p.2) (hm : P.follows .mixedOrders = true) {f : FuncId} {fn : Func} {c : Code} {hh : Handler}
    (hf : P.funcs[f]? = some fn) (hn : (fn.name == "runtime.NumGoroutine") = false) (hb : fn.body = some c) (hdr : drawsB pl c = true) (n : Nat) (hnt : fn.ntmps = n) (rs : List ResultVar) (hrs : fn.results = rs.toArray) (hnr : (∀ args b r K, hh args b r K → r.length ≤ nrP pl) ∨ ∀ i, pl (i + 200000) = [])
    (h : ∀ args b r K, okSt args b r → hh args b r K → @eK ⟨⟨P, l, pl, []⟩⟩ ⟨args ++ List.replicate (n - args.length) .undef, b, r⟩ ⟨c⟩ ⟨memQ P rs b.length r.length K⟩) : HOk P f hh := by
  intro w0 F M b r w vs args K hI hv hk
  exact HOk.run0 l pl hl hm hf hn hb hdr n hnt rs hrs hI hv ⟨hnr.imp (fun h => h args b r K hk) id, h args b r K (okSt_of hI hv) hk⟩
end Go.PE
end
