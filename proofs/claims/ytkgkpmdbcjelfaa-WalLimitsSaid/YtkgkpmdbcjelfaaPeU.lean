/- The evaluator: whole functions (see PeQ). -/
import Derived.Test.YtkgkpmdbcjelfaaPeT
set_option linter.unusedVariables false
set_option linter.unusedSimpArgs false
namespace Go.PE
open Go

/-- What a function gives back. -/
def resK (P : Program) (st : St) : List ResultVar → (List AV → Prop) → Prop
  | [], K => K []
  | .tmp t :: l, K => resK P st l fun vs => K (st.t.getD t .undef :: vs)
  | .cell a t :: l, K => match ty? P t, st.t.getD a .undef with
    | some (g, n), .ptr id off => match st.b[id]? with
      | some cells => off + n ≤ cells.length ∧ resK P st l fun vs => K (mkV g ((cells.drop off).take n) :: vs)
      | none => False
    | _, _ => False
def oneV : List AV → AV
  | [v] => v
  | vs => .tup vs

def resM (tmps : Array Value) (x : ResultVar) : Sem Value := match x with
  | .tmp t => pure (tmps.getD t undef)
  | .cell a t => do loadVar t (← asAddr (tmps.getD a undef))
theorem results_eq (fn : Func) (tmps : Array Value) : results fn tmps = (do let vs ← fn.results.mapM (resM tmps); pure (if h : vs.size = 1 then vs[0] else .tuple vs)) := by
  unfold results
  congr 1

/-- A body, run to its end. -/
def bodyK (P : Program) (E : Env) (pl : Nat → List (Nat × Bool × List Nat)) (fn : Func) (c : Code) (args : List AV) (b : List (List AV)) (r : List Arr) (K : Out → List (List AV) → List Arr → Prop) : Prop :=
  evalK P E pl c ⟨args ++ List.replicate (fn.ntmps - args.length) .undef, b, r⟩ fun e st => match e with
    | .normal => resK P st fn.results.toList fun vs => K (.ret (oneV vs)) st.b st.r
    | .ret => resK P st fn.results.toList fun vs => K (.ret (oneV vs)) st.b st.r
    | .panic x => K (.panic x) st.b st.r
    | .exit _ => False

section
variable {P : Program} {E : Env} {pl : Nat → List (Nat × Bool × List Nat)} {w0 : World} {F : List Nat} {M : Mem} {st : St} {w : World}

theorem mapM_res (h : Inv w0 F M st.b st.r w) {a : Act} (ht : Rept w M st.r a.tmps st.t) : ∀ (l : List ResultVar) (K : List AV → Prop), resK P st l K →
    ∃ vs : List Value, ∃ xs : List AV, (l.mapM (resM a.tmps)).run P w = .ok vs w ∧ K xs ∧ RepL w M st.r vs.toArray xs := by
  have cons : ∀ (u : Value) (vs : List Value) (v : AV) (xs : List AV), RepA w M st.r u v → RepL w M st.r vs.toArray xs → RepL w M st.r (u :: vs).toArray (v :: xs) := by
    intro u vs v xs h1 h2
    have := RepL.cons h1 h2
    simpa using this
  have step : ∀ (x : ResultVar) (l : List ResultVar) (u : Value) (vs : List Value), (resM a.tmps x).run P w = .ok u w → (l.mapM (resM a.tmps)).run P w = .ok vs w → ((x :: l).mapM (resM a.tmps)).run P w = .ok (u :: vs) w := by
    intro x l u vs h1 h2
    rw [List.mapM_cons, Sem.run_bind, h1, Result.andThen_ok, Sem.run_bind, h2, Result.andThen_ok, Sem.run_pure]
  intro l
  induction l with
  | nil =>
    intro K hk
    exact ⟨[], [], by simp, hk, rfl, fun i hi => absurd hi (by simp)⟩
  | cons x l ih =>
    intro K hk
    cases x with
    | tmp t =>
      obtain ⟨vs, xs, hr, hK, hv⟩ := ih _ hk
      exact ⟨a.tmps.getD t undef :: vs, st.t.getD t .undef :: xs, step _ _ _ _ rfl hr, hK, cons _ _ _ _ (ev_rep ht (.tmp t)) hv⟩
    | cell c t =>
      simp only [resK] at hk
      split at hk
      · rename_i g n id off hty hc
        split at hk
        · rename_i cells hb
          obtain ⟨vs, xs, hr, hK, hv⟩ := ih _ hk.2
          have hcr := ev_rep (a := a) ht (.tmp c)
          have hcr' : RepA w M st.r (a.tmps.getD c undef) (.ptr id off) := by
            have : st.ev (.tmp c) = .ptr id off := hc
            rw [this] at hcr
            exact hcr
          have hg1 : g = false → n = 1 := (ty_info hty).choose_spec.2.2.1
          obtain ⟨cs, ty, hh, hcs⟩ := box_cells h hb
          have hlen : off + n ≤ cs.toList.length := by have := hcs.size; simp; omega
          have hsub := hcs.sub off n hk.1
          have hu := mkV_rep hsub (g := g) (fun e => by rw [len_sub _ _ _ hk.1]; exact hg1 e)
          refine ⟨_ :: vs, _, step _ _ (mkVal g ((cs.toList.drop off).take n).toArray) _ ?_ hr, hK, cons _ _ _ _ hu hv⟩
          unfold resM
          simp only []
          generalize a.tmps.getD c undef = q at hcr'
          cases hcr'
          simp only [asAddr, Sem.run_bind, Sem.run_pure, Result.andThen_ok]
          refine run_loadVar_cells hty w _ _ (len_sub _ _ _ hlen) (fun j v hj => ?_)
          rw [cell_at hh]
          rw [List.getElem?_take] at hj
          split at hj
          · rw [List.getElem?_drop] at hj; exact hj
          · cases hj
        · exact hk.elim
      · exact hk.elim

theorem oneV_rep {vs : Array Value} {xs : List AV} (h : RepL w M st.r vs xs) : RepA w M st.r (if h : vs.size = 1 then vs[0] else .tuple vs) (oneV xs) := by
  match xs, h with
  | [x], h =>
    have h1 : vs.size = 1 := h.1
    rw [dif_pos h1]
    have := h.2 0 (by simp)
    have e : vs.getD 0 undef = vs[0] := by simp [Array.getD, h1]
    rw [e] at this
    exact this
  | [], h => rw [dif_neg (by rw [h.1]; simp)]; exact .tup _ _ h.1 h.2
  | x :: y :: l, h => rw [dif_neg (by rw [h.1]; simp)]; exact .tup _ _ h.1 h.2

theorem results_run (h : Inv w0 F M st.b st.r w) {a : Act} (ht : Rept w M st.r a.tmps st.t) {fn : Func} {K : List AV → Prop} (hk : resK P st fn.results.toList K) :
    ∃ v xs, (results fn a.tmps).run P w = .ok v w ∧ K xs ∧ RepA w M st.r v (oneV xs) := by
  obtain ⟨vs, xs, hr, hK, hv⟩ := mapM_res h ht _ _ hk
  refine ⟨_, xs, ?_, hK, oneV_rep hv⟩
  have e : ∀ f : ResultVar → Sem Value, fn.results.mapM f = (do pure (← fn.results.toList.mapM f).toArray) := by
    intro f
    rw [Array.mapM_eq_mapM_toList (m := Sem)]
    rfl
  rw [results_eq, e, Sem.run_bind, Sem.run_bind, hr]
  rfl

theorem body_sound (hE : E.Ok P) (hm : P.follows .mixedOrders = true) {f : FuncId} {fn : Func} {c : Code} (hf : P.funcs[f]? = some fn) (hb : fn.body = some c) (hdr : drawsB pl c = true) {b : List (List AV)} {r : List Arr} {vs : Array Value} {args : List AV} {K : Out → List (List AV) → List Arr → Prop}
    (h : Inv w0 F M b r w) (hv : RepL w M r vs args) (hk : bodyK P E pl fn c args b r K) : Calls P f vs w (EndQ w0 F M r w K) := by
  refine calls_of_wp hf hb ?_
  have hat : At (fun a => a.defers = []) w0 F w M r [] ⟨args ++ List.replicate (fn.ntmps - args.length) .undef, b, r⟩ { tmps := vs ++ Array.replicate (fn.ntmps - vs.size) undef, defers := [] } w := by
    refine ⟨M, h, ⟨by simp [hv.1], fun i hi _ => ?_⟩, rfl, .refl _ _ _⟩
    rcases Nat.lt_or_ge i args.length with h1 | h1
    · have e1 : (vs ++ Array.replicate (fn.ntmps - vs.size) undef).getD i undef = vs.getD i undef := by
        have h2 : i < vs.size := by rw [hv.1]; exact h1
        simp [Array.getD, h2, Nat.lt_add_right _ h2, Array.getElem_append_left]
      show RepA w M r ((vs ++ Array.replicate (fn.ntmps - vs.size) undef).getD i undef) ((args ++ _).getD i .undef)
      rw [e1, getD_append_lt _ _ _ _ h1]
      exact hv.2 i h1
    · have e : (args ++ List.replicate (fn.ntmps - args.length) AV.undef).getD i .undef = .undef := by
        simp only [List.getD, List.getElem?_append_right h1, List.getElem?_replicate]
        split <;> rfl
      show RepA w M r _ ((args ++ _).getD i .undef)
      rw [e]
      exact .undef _
  refine Go.wp_mono (evalK_sound hE hm c (keeps_defers [] c) hdr _ _ _ w hat hk) (fun e a' w' hq => ?_)
  have ret : ∀ st, At (fun a => a.defers = []) w0 F w M r [] st a' w' → (resK P st fn.results.toList fun vs => K (.ret (oneV vs)) st.b st.r) → a'.defers = [] ∧ ∃ v, (results fn a'.tmps).run P w' = .ok v w' ∧ EndQ w0 F M r w K (.returned v) w' := by
    intro st hst hres
    obtain ⟨M', hI, hR, hd, hC⟩ := hst
    obtain ⟨v, xs, hr, hK, hv⟩ := results_run hI (a := a') ⟨hR.1, fun i hi => hR.2 i hi (fun p hp => absurd hp (by simp))⟩ hres
    exact ⟨hd, v, hr, _, _, _, M', hK, hI, hC, hv⟩
  cases e with
  | normal =>
    obtain ⟨st, hst, hres⟩ := hq
    exact ret st hst hres
  | ret =>
    obtain ⟨st, hst, hres⟩ := hq
    exact ret st hst hres
  | exit i =>
    obtain ⟨st, hst, hres⟩ := hq
    exact hres.elim
  | panic ch =>
    obtain ⟨st, x, u, rfl, ⟨M', hI, hx, hd, hC⟩, hK⟩ := hq
    exact ⟨hd, x, st.b, st.r, M', u, hK, rfl, hI, hC, hx⟩
  | goto l => exact hq.elim
  | outgrown => exact hq.elim

/-- A body, as what a call of it asks. -/
theorem HOk.ofBody (hE : E.Ok P) (hm : P.follows .mixedOrders = true) {f : FuncId} {fn : Func} {c : Code} (hf : P.funcs[f]? = some fn) (hn : (fn.name == "runtime.NumGoroutine") = false) (hb : fn.body = some c) (hdr : drawsB pl c = true) : HOk P f (fun args b r K => bodyK P E pl fn c args b r K) := by
  intro w0 F M b r w vs args K h hv hk
  exact ⟨enters_of hf hn (by rw [hb]; rfl), body_sound hE hm hf hb hdr h hv hk⟩

theorem HOk.no (f : FuncId) : HOk P f (fun _ _ _ _ => False) := by
  intro w0 F M b r w vs args K hI hv h
  exact h.elim
theorem HOk.weaken {f : FuncId} {h h' : Handler} (hh : HOk P f h) (k : ∀ args b r K, h' args b r K → h args b r K) : HOk P f h' := by
  intro w0 F M b r w vs args K hI hv hk
  exact hh hI hv (k _ _ _ _ hk)
end
end Go.PE
