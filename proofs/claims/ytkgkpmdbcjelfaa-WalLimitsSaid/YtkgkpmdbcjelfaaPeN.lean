/- The evaluator is right, 10: an operation as a whole (see PeA, PeD). -/
import Derived.Test.YtkgkpmdbcjelfaaPeM
set_option linter.unusedVariables false
set_option linter.unusedSimpArgs false
namespace Go.PE
open Go

/-- What an operation's run comes to. -/
inductive OpRuns (P : Program) (w0 : World) (F : List Nat) (M : Mem) (t : List AV) (r : List Arr) (w : World) (s : Sem Next) (R : Res) (K : AV → St → Prop) : Prop where
  | value (v : AV) (st' : St) (M' : Mem) (w' : World) (u : Value) (hK : K v st') (hr : s.run P w = .ok (.value u) w' ∨ (s.run P w = .ok .skip w' ∧ u = undef)) (hI : Inv w0 F M' st'.b st'.r w') (hc : Chg w M r w' M' st'.r) (hv : RepA w' M' st'.r u v) (ht : st'.t = t)
  | enter (g : FuncId) (args : List AV) (st' : St) (vs : Array Value) (hR : R = .call g args st') (hr : Enters P g → s.run P w = .ok (.enter g vs) w) (hv : RepL w M r vs args) (hb : st'.b = st'.b ∧ st'.t = t) (hs : st'.r = r)
  | panic (x : AV) (st' : St) (u : Value) (hR : R = .panic x st') (hr : s.run P w = .halt (.panic u) w) (hv : RepA w M r u x)

section
variable {P : Program} {w0 : World} {F : List Nat} {M : Mem} {st : St} {w : World} {K : AV → St → Prop}

/-- Continue from a result: what it asks. -/
def Res.go (R : Res) (K : AV → St → Prop) : Prop :=
  match R with
  | .call _ _ _ => True
  | .panic _ _ => True
  | R => R.sem K

theorem ok_runs {s : Sem Value} {R : Res} (h : OpOk P w0 F M st.t st.r w s K) : OpRuns P w0 F M st.t st.r w (do pure (.value (← s))) R K := by
  obtain ⟨v, st', M', w', u, hK, hr, hI, hc, hv, ht⟩ := h
  exact .value v st' M' w' u hK (.inl (by simp [hr])) hI hc hv ht

theorem value_callee {a : Act} (h : Rept w M st.r a.tmps st.t) {f : Operand} {g : FuncId} {first caps : List AV} (hf : st.ev f = .fn (.func g) first caps) :
    ∃ vs us, a.eval f = .func (.func g) vs us ∧ RepL w M st.r vs first ∧ RepL w M st.r us caps := by
  have := ev_rep h f
  rw [hf] at this
  generalize a.eval f = u at this
  cases this with
  | fn _ vs us _ _ hs hs' h1 h2 => exact ⟨vs, us, rfl, ⟨hs, h1⟩, ⟨hs', h2⟩⟩

theorem builtin_sound {c : Call} {b : Builtin} {ty : TypeId} {a : Act} (h : Inv w0 F M st.b st.r w) (ht : Rept w M st.r a.tmps st.t) (hc : c.callee = .builtin b)
    (hs : (builtinR P b c.argTypes.toList (c.args.toList.map st.ev) st).sem K) {R : Res} :
    OpRuns P w0 F M st.t st.r w (do let d ← resolve a.eval c ty; invoke d.target d.args) R K := by
  have e : ∀ (w : World), (do let d ← resolve a.eval c ty; invoke d.target d.args : Sem Next).run P w = (builtin b c.argTypes ty (c.args.map fun | .const _ => true | _ => false) (c.args.map a.eval)).run P w := fun w => by
    simp [resolve, hc, invoke]
    rfl
  have lift : ∀ {s : Sem Value}, (builtin b c.argTypes ty (c.args.map fun | .const _ => true | _ => false) (c.args.map a.eval)) = (do pure (.value (← s))) → OpOk P w0 F M st.t st.r w s K → OpRuns P w0 F M st.t st.r w (do let d ← resolve a.eval c ty; invoke d.target d.args) R K := by
    intro s hs h
    obtain ⟨v, st', M', w', u, hK, hr, hI, hc, hv, ht⟩ := h
    exact .value v st' M' w' u hK (.inl (by rw [e, hs]; simp [hr])) hI hc hv ht
  obtain ⟨callee, args, ats⟩ := c
  obtain ⟨args, rfl⟩ : ∃ l : List Operand, args = l.toArray := ⟨args.toList, by simp⟩
  obtain ⟨ats, rfl⟩ : ∃ l : List TypeId, ats = l.toArray := ⟨ats.toList, by simp⟩
  simp only at hc
  subst hc
  unfold builtinR at hs
  split at hs
  · rename_i t x h1 h2
    have e1 : ats = [t] := by simpa using h1
    subst e1
    obtain ⟨o, rfl, rfl⟩ : ∃ o, args = [o] ∧ st.ev o = x := by
      match args, h2 with
      | [o], h2 => exact ⟨o, rfl, by simpa using h2⟩
    refine lift (s := Builtin.len_ #[t] ty #[a.eval o]) (by simp [builtin]) ?_
    have e2 : Builtin.len_ #[t] ty #[a.eval o] = Builtin.len_ #[t] 0 #[a.eval o] := rfl
    rw [e2]
    exact len_sound h (ev_rep ht o) hs
  · rename_i t tx x y h1 h2
    have e1 : ats = [t, tx] := by simpa using h1
    subst e1
    obtain ⟨o, q, rfl, rfl, rfl⟩ : ∃ o q, args = [o, q] ∧ st.ev o = x ∧ st.ev q = y := by
      match args, h2 with
      | [o, q], h2 =>
        simp at h2
        exact ⟨o, q, rfl, h2.1, h2.2⟩
    exact lift (s := Builtin.append_ #[t, tx] ty #[a.eval o, a.eval q]) (by simp [builtin]) (append_sound h (ev_rep ht o) (ev_rep ht q) hs)
  · rename_i x y h2
    obtain ⟨o, q, rfl, rfl, rfl⟩ : ∃ o q, args = [o, q] ∧ st.ev o = x ∧ st.ev q = y := by
      match args, h2 with
      | [o, q], h2 =>
        simp at h2
        exact ⟨o, q, rfl, h2.1, h2.2⟩
    exact lift (s := Builtin.min_ ats.toArray ty #[a.eval o, a.eval q]) (by simp [builtin]) (mm_sound (mx := false) (ats := ats.toArray) (t := ty) h (ev_rep ht o) (ev_rep ht q) hs)
  · rename_i x y h2
    obtain ⟨o, q, rfl, rfl, rfl⟩ : ∃ o q, args = [o, q] ∧ st.ev o = x ∧ st.ev q = y := by
      match args, h2 with
      | [o, q], h2 =>
        simp at h2
        exact ⟨o, q, rfl, h2.1, h2.2⟩
    exact lift (s := Builtin.max_ ats.toArray ty #[a.eval o, a.eval q]) (by simp [builtin]) (mm_sound (mx := true) (ats := ats.toArray) (t := ty) h (ev_rep ht o) (ev_rep ht q) hs)
  · exact hs.elim

theorem call_sound {c : Call} {ty : TypeId} {a : Act} (h : Inv w0 F M st.b st.r w) (ht : Rept w M st.r a.tmps st.t) (hs : (callR P c st).go K) :
    OpRuns P w0 F M st.t st.r w (do let d ← resolve a.eval c ty; invoke d.target d.args) (callR P c st) K := by
  cases hc : c.callee with
  | builtin b =>
    have e : callR P c st = builtinR P b c.argTypes.toList (c.args.toList.map st.ev) st := by simp only [callR, hc]
    rw [e] at hs ⊢
    refine builtin_sound h ht hc ?_
    have hnc : ∀ g args st', builtinR P b c.argTypes.toList (c.args.toList.map st.ev) st ≠ .call g args st' := by
      intro g args st' he
      unfold builtinR lenR appendR mmR at he
      repeat' (split at he)
      all_goals cases he
    have hnp : ∀ v st', builtinR P b c.argTypes.toList (c.args.toList.map st.ev) st ≠ .panic v st' := by
      intro v st' he
      unfold builtinR lenR appendR mmR at he
      repeat' (split at he)
      all_goals cases he
    revert hs hnc hnp
    generalize builtinR P b c.argTypes.toList (c.args.toList.map st.ev) st = R
    intro hs hnc hnp
    cases R with
    | call g args st' => exact absurd rfl (hnc g args st')
    | panic v st' => exact absurd rfl (hnp v st')
    | _ => exact hs
  | value f =>
    have hR : callR P c st = (match st.ev f with
      | .fn (.func g) first caps => .call g (first ++ c.args.toList.map st.ev ++ caps) st
      | _ => .fail) := by simp only [callR, hc]; rfl
    rw [hR] at hs ⊢
    split at hs
    · rename_i g first caps hf
      obtain ⟨vs, us, hev, h1, h2⟩ := value_callee ht hf
      refine .enter g (first ++ c.args.toList.map st.ev ++ caps) st (vs ++ c.args.map a.eval ++ us) rfl (fun hE => ?_) ((h1.append (RepL.ofMap ht c.args)).append h2) ⟨rfl, rfl⟩ rfl
      simp only [resolve, hc, Deferred.ofValue, hev, invoke, Sem.run_bind, Sem.run_pure, Result.andThen_ok]
      simpa using hE _ w
    · exact hs.elim
  | invoke recv name =>
    have hR : callR P c st = invokeR P (st.ev recv) name (c.args.toList.map st.ev) st := by simp only [callR, hc]
    rw [hR] at hs ⊢
    have hrecv := ev_rep ht recv
    unfold invokeR at hs ⊢
    have run : ∀ (t : TypeId) (v : Value) (f : FuncId), a.eval recv = .iface t v → meth? P t name = some f → Enters P f → (do let d ← resolve a.eval c ty; invoke d.target d.args : Sem Next).run P w = .ok (.enter f (#[v] ++ c.args.map a.eval)) w := by
      intro t v f he hm hE
      have hme := fun k => meth_spec (P := P) (w := w) hm v k
      have hfu : P.types.size + Made.depth = (P.types.size + 99) + 1 := rfl
      have e1 : (#[Value.iface t v] ++ Array.map a.eval c.args)[0]? = some (.iface t v) := by rw [Array.getElem?_append_left (by simp)]; rfl
      have e2 : (#[Value.iface t v] ++ Array.map a.eval c.args).extract 1 (#[Value.iface t v] ++ Array.map a.eval c.args).size = c.args.map a.eval := by
        apply Array.ext'
        simp [List.take_of_length_le]
      simp only [resolve, hc, Sem.run_bind, Sem.run_pure, Result.andThen_ok, invoke, he, e1, e2, callMethod, run_program]
      rw [hfu, hme]
      simp only [Result.andThen_ok]
      exact hE _ w
    split at hs
    · rename_i t d hx
      rw [hx] at hrecv
      split at hs
      · rename_i f hm
        have hr := hrecv.d_inv
        generalize hu : a.eval recv = u at hr
        cases hr with
        | iface _ v _ hv =>
          refine .enter f (.d d :: c.args.toList.map st.ev) st (#[v] ++ c.args.map a.eval) rfl (run t v f hu hm) (RepL.cons (.d _ _ hv) (RepL.ofMap ht c.args)) ⟨rfl, rfl⟩ rfl
      · exact hs.elim
    · rename_i t x hx
      rw [hx] at hrecv
      split at hs
      · rename_i f hm
        generalize hu : a.eval recv = u at hrecv
        cases hrecv with
        | iface _ v _ hv =>
          refine .enter f (x :: c.args.toList.map st.ev) st (#[v] ++ c.args.map a.eval) rfl (run t v f hu hm) (RepL.cons hv (RepL.ofMap ht c.args)) ⟨rfl, rfl⟩ rfl
      · exact hs.elim
    · exact hs.elim
end
end Go.PE
