/- The evaluator: a region whose order is drawn is right (see PeX). -/
import Derived.Test.YtkgkpmdbcjelfaaPeX
set_option linter.unusedVariables false
set_option linter.unusedSimpArgs false
namespace Go.PE
open Go

theorem sem_runK {E : Env} {R : Res} {K KP : AV → St → Prop} (h : R.sem K) : runK E R K KP := by
  cases R with
  | ok p v st => exact h
  | elem p es k n st => exact h
  | byte p s k st => exact h
  | _ => exact h.elim
theorem sem_setT {R : Res} {K : AV → St → Prop} {t : List AV} (h : R.sem fun v st => K v (st.wT t)) : (R.setT t).sem K := by
  cases R with
  | ok p v st => exact h
  | elem p es k n st => exact h
  | byte p s k st => exact h
  | _ => exact h.elim
theorem sem_mono {R : Res} {K K' : AV → St → Prop} (h : R.sem K) (k : ∀ v st, K v st → K' v st) : R.sem K' := by
  cases R with
  | ok p v st => exact ⟨h.1, k _ _ h.2⟩
  | elem p es n m st => exact ⟨h.1, fun x hx => ⟨(h.2 x hx).1, k _ _ (h.2 x hx).2⟩⟩
  | byte p s n st => exact ⟨h.1, fun x hx => k _ _ (h.2 x hx)⟩
  | _ => exact h.elim

theorem stillV_spec {P : Program} {o : Oper} {g : Bool} {G : List (Nat × Bool)} {st : St} {Fv : AV → Prop} (h : stillV P o g G st Fv) :
    ∃ v, Fv v ∧ (g = true → need G o.op st ∧ (opR P o st).sem fun v' st' => v' = v ∧ st'.b = st.b ∧ st'.r = st.r) := by
  unfold stillV at h
  split at h
  · rename_i p v st' hop
    refine ⟨v, h.2.2, fun e => ⟨(h.1 e).1, ?_⟩⟩
    rw [hop]
    exact ⟨(h.1 e).2, rfl, h.2.1⟩
  · rename_i p es k n st' hop
    obtain ⟨h1, h2, x, hx1, hx2, hx3⟩ := h
    refine ⟨.cptr x, hx3, fun e => ⟨(h1 e).1, ?_⟩⟩
    rw [hop]
    exact ⟨(h1 e).2, fun y hy => ⟨by rw [← hx1 y hy]; exact hx2 e, by rw [hx1 y hy], h2⟩⟩
  · rename_i p s k st' hop
    refine ⟨_, h.2.2, fun e => ⟨(h.1 e).1, ?_⟩⟩
    rw [hop]
    exact ⟨(h.1 e).2, fun c hc => ⟨by simp [List.getD, hc], h.2.1⟩⟩
  · refine ⟨.undef, h.2, fun e => ?_⟩
    rw [h.1] at e
    cases e

/-- What is pending, as a mask. -/
def maskX (ops : Array Oper) (lst : Array Bool) (pend : List Nat) : List (Nat × Bool) := ((pend.filter fun q => !lst.getD q false).filterMap (dstOf ops)).map fun d => (d, false)
theorem maskX_valid {ops : Array Oper} {lst : Array Bool} {pend : List Nat} {d : Nat} : valid (maskX ops lst pend) d ↔ ∀ q ∈ pend, lst.getD q false = false → dstOf ops q ≠ some d := by
  constructor
  · intro h q hq hl he
    have := h (d, false) (List.mem_map.2 ⟨d, List.mem_filterMap.2 ⟨q, List.mem_filter.2 ⟨hq, by simp [hl]⟩, he⟩, rfl⟩) rfl
    cases this
  · intro h p hp hpe
    obtain ⟨e, he, rfl⟩ := List.mem_map.1 hp
    obtain ⟨q, hq, hd⟩ := List.mem_filterMap.1 he
    obtain ⟨hq1, hq2⟩ := List.mem_filter.1 hq
    subst hpe
    exact absurd hd (h q hq1 (by simpa using hq2))


section
variable {dl : Act → Prop} {P : Program} {E : Env} {w0 : World} {F : List Nat} {W0 : World} {M0 : Mem} {r0 : List Arr} {ops : Array Oper}

structure Sim (P : Program) (ops : Array Oper) (dl : Act → Prop) (w0 : World) (F : List Nat) (W0 : World) (M0 : Mem) (r0 : List Arr) (lst : Array Bool) (V pend : List Nat) (G : List (Nat × Bool)) (st : St) (a : Act) (w : World) : Prop where
  hs : lst.size = ops.size
  sub : ∀ i, lst.getD i false = true → i ∈ V
  vlt : ∀ i ∈ V, i < ops.size
  pnd : ∀ i ∈ V, lst.getD i false = false → i ∈ pend
  pV : ∀ i ∈ pend, i ∈ V
  pw : ∀ p ∈ pend, ∀ q ∈ pend, p ≠ q → (hits (dstOf ops q) (looksOf ops p) = true → q ∈ depsOf ops p) ∧ (∀ d, dstOf ops q = some d → dstOf ops p ≠ some d)
  slf : ∀ p ∈ pend, hits (dstOf ops p) (looksOf ops p) = false
  dep : ∀ i ∈ V, ∀ k ∈ depsOf ops i, k ∈ V
  at_ : At dl w0 F W0 M0 r0 (maskX ops lst pend ++ G) st a w
  pok : ∀ p ∈ pend, lst.getD p false = false → ∃ o, ops[p]? = some o ∧ pendO P ops.toList o G st

theorem hits_some {d : Tmp} {l : List Tmp} : hits (some d) l = true ↔ d ∈ l := by simp [hits]
theorem lst_lt {lst : Array Bool} {i : Nat} (h : lst.getD i true = false) : i < lst.size ∧ lst.getD i false = false := by
  rcases Nat.lt_or_ge i lst.size with h1 | h1
  · simp only [Array.getD, h1, dif_pos] at h ⊢
    exact ⟨trivial, h⟩
  · simp [Array.getElem?_eq_none h1] at h

/-- What may come up has all that it waits for behind it. -/
theorem ready_deps {lst : Array Bool} {i : Nat} (h : i ∈ Region.ready .any ops lst) : lst.getD i true = false ∧ (∃ o, ops[i]? = some o) ∧ ∀ k ∈ depsOf ops i, lst.getD k false = true := by
  obtain ⟨h1, o, ho, h2⟩ := mem_ready.1 h
  refine ⟨h1, ⟨o, ho⟩, fun k hk => ?_⟩
  obtain ⟨e, he, hb, rfl⟩ := (depsOf_mem ho).1 hk
  exact h2 e he hb

theorem set_getD {lst : Array Bool} {i j : Nat} (hi : i < lst.size) : (lst.setIfInBounds i true).getD j false = (if j = i then true else lst.getD j false) := by
  by_cases e : j = i
  · subst e
    simp [Array.getD, hi]
  · rw [if_neg e]
    exact Go.getD_set_ne false (fun h => e h.symm)

/-- An operation that was reckoned ahead comes up. -/
theorem sim_pend (hE : E.Ok P) (hkd : ∀ o ∈ ops.toList, ∀ (a : Act) u, dl a → dl (a.put o.dst u))  {lst : Array Bool} {V pend : List Nat} {G : List (Nat × Bool)} {st : St} {a : Act} {w : World} {p : Nat} {next : Act → World → Prop} {Q : Exit → Act → World → Prop}
    (h : Sim P ops dl w0 F W0 M0 r0 lst V pend G st a w) (hp : p ∈ pend) (hr : p ∈ Region.ready .any ops lst) (hn : ∀ a' w', Sim P ops dl w0 F W0 M0 r0 (lst.setIfInBounds p true) V pend G st a' w' → next a' w') :
    wpOp P ops Q p next a w := by
  obtain ⟨h1, _, h2⟩ := ready_deps hr
  obtain ⟨hlt, hun⟩ := lst_lt h1
  obtain ⟨o, ho, hpo⟩ := h.pok p hp hun
  have hlooks : looksOf ops p = o.looksAt ops := by simp [looksOf, ho]
  have hdst : dstOf ops p = o.dst := by simp [dstOf, ho]
  have hX : ∀ d ∈ o.looksAt ops, valid (maskX ops lst pend) d := by
    intro d hd
    rw [maskX_valid]
    intro q hq hql hqd
    have hh : hits (dstOf ops q) (looksOf ops p) = true := by rw [hqd, hlooks]; exact hits_some.2 hd
    by_cases e : p = q
    · subst e
      rw [h.slf p hp] at hh
      cases hh
    · have := h2 q ((h.pw p hp q hq e).1 hh)
      rw [hql] at this
      cases this
  obtain ⟨M, hI, hR, hd, hC⟩ := h.at_
  -- what comes after
  have after : ∀ (M' : Mem) (w' : World) (u : Value), Inv w0 F M' st.b st.r w' → Chg w M st.r w' M' st.r → (∀ d, o.dst = some d → d < st.t.length → valid G d → RepA w' M' st.r u (st.t.getD d .undef)) → next (a.put o.dst u) w' := by
    intro M' w' u hI' hC' hu
    refine hn _ _ { hs := by simpa using h.hs, sub := fun i hi => ?_, vlt := h.vlt, pnd := fun i hi hl => ?_, pV := h.pV, pw := h.pw, slf := h.slf, dep := h.dep, at_ := ⟨M', hI', ?_, hkd o (by rw [Array.mem_toList_iff]; exact Array.mem_of_getElem? ho) _ _ hd, hC.trans hC'⟩, pok := fun q hq hl => ?_ }
    · rw [set_getD hlt] at hi
      split at hi
      · rename_i e; rw [e]; exact h.pV p hp
      · exact h.sub i hi
    · rw [set_getD hlt] at hl
      split at hl
      · cases hl
      · exact h.pnd i hi hl
    · refine ⟨?_, fun d hdl hv => ?_⟩
      · cases o.dst <;> simpa [Act.put] using hR.1
      · obtain ⟨hv1, hv2⟩ := valid_append.1 hv
        rw [maskX_valid] at hv1
        by_cases e : o.dst = some d
        · rw [e]
          show RepA w' M' st.r ((a.tmps.setIfInBounds d u).getD d undef) _
          rw [agetD_set_self _ _ _ (by rw [hR.1]; exact hdl)]
          exact hu d e hdl hv2
        · have e2 : (a.put o.dst u).tmps.getD d undef = a.tmps.getD d undef := by
            cases hdd : o.dst with
            | none => rfl
            | some d' =>
              rw [hdd] at e
              exact agetD_set_ne _ _ _ _ (fun h => e (by rw [h]))
          rw [e2]
          refine (hR.2 d hdl (valid_append.2 ⟨maskX_valid.2 fun q hq hql => ?_, hv2⟩)).mono hC'
          by_cases eq : q = p
          · subst eq; rw [hdst]; exact e
          · exact hv1 q hq (by rw [set_getD hlt, if_neg eq]; exact hql)
    · rw [set_getD hlt] at hl
      split at hl
      · cases hl
      · exact h.pok q hq hl
  -- it is wanted
  have go : ∀ g, g = true → pendV P o g G st → o.wp P a w next Q := by
    intro g hg hv
    obtain ⟨hneed, hsem⟩ := hv.2 hg
    have hneed' : need (maskX ops lst pend ++ G) o.op st := need_valid (fun d hd hv => valid_append.2 ⟨hX d (looks_op hd), hv⟩) hneed
    refine run_sound (K := fun v st' => (∀ d, o.dst = some d → d < st.t.length → v = st.t.getD d .undef) ∧ st'.b = st.b ∧ st'.r = st.r) (KP := fun _ _ => False) hE hI hR hneed' (sem_runK hsem) (fun v st' M' w' u hK ht hI' hC' hu => ?_) (fun _ _ _ _ _ hf => hf.elim)
    obtain ⟨hv', hb, hr'⟩ := hK
    rw [hb, hr'] at hI'
    rw [hr'] at hC' hu
    exact after M' w' u hI' hC' (fun d hdd hlt' _ => by rw [← hv' d hdd hlt']; exact hu)
  unfold wpOp
  rw [ho]
  simp only
  unfold pendO at hpo
  cases hg : o.guard with
  | none =>
    rw [hg] at hpo
    have hw : Region.wanted o (yielded ops a.tmps) = true := by simp [Region.wanted, hg]
    rw [if_pos hw]
    exact .inl (go true rfl hpo)
  | some gp =>
    obtain ⟨gi, pol⟩ := gp
    rw [hg] at hpo
    simp only at hpo
    cases hgv : gval ops.toList st gi with
    | none => rw [hgv] at hpo; exact hpo.elim
    | some gx =>
      obtain ⟨gd, x⟩ := gx
      rw [hgv] at hpo
      obtain ⟨hval, hpv⟩ := hpo
      obtain ⟨hy, _, _⟩ := gval_spec hR hgv (valid_append.2 ⟨hX gd (looks_guard hg (gval_dst hgv)), hval⟩)
      have hw : Region.wanted o (yielded ops a.tmps) = (x == pol) := by
        simp only [Region.wanted, hg, hy]
        cases x <;> cases pol <;> rfl
      rw [hw]
      cases e : (x == pol) with
      | true =>
        rw [if_pos rfl]
        exact .inl (go _ e hpv)
      | false =>
        rw [if_neg (by simp)]
        refine after M w undef hI (.refl _ _ _) (fun d hdd _ hv => ?_)
        have := hpv.1 d hdd hv
        rw [e] at this
        cases this
end
end Go.PE
