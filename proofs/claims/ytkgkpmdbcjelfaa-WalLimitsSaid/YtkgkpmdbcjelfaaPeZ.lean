/- The evaluator: a region whose order is drawn is right, the whole of it (see PeX). -/
import Derived.Test.YtkgkpmdbcjelfaaPeY
set_option linter.unusedVariables false
set_option linter.unusedSimpArgs false
namespace Go.PE
open Go

section
variable {dl : Act → Prop} {P : Program} {E : Env} {w0 : World} {F : List Nat} {W0 : World} {M0 : Mem} {r0 : List Arr} {ops : Array Oper}

theorem ev_put_looks {o : Oper} {st : St} {dst : Option Tmp} {v : AV} (h : ∀ d, dst = some d → d ∉ o.looksAt ops) : ∀ x ∈ o.op.operands, (st.put dst v).ev x = st.ev x := by
  intro x hx
  refine ev_put (fun d hd e => h d hd ?_)
  subst e
  exact looks_op hx
theorem put_wT (st : St) (dst : Option Tmp) (v : AV) : st.put dst v = st.wT (st.put dst v).t := by cases dst <;> rfl
theorem opR_put {o : Oper} {st : St} {dst : Option Tmp} {v : AV} (h : ∀ d, dst = some d → d ∉ o.looksAt ops) : opR P o (st.put dst v) = (opR P o st).setT (st.put dst v).t := by
  have := ev_put_looks (st := st) (v := v) h
  rw [put_wT] at this ⊢
  exact opR_t _ _ _ this
theorem put_len {st : St} {dst : Option Tmp} {v : AV} : (st.put dst v).t.length = st.t.length := by cases dst <;> simp [St.put]
theorem put_get_ne {st : St} {dst : Option Tmp} {v : AV} {d : Nat} (h : dst ≠ some d) : (st.put dst v).t.getD d .undef = st.t.getD d .undef := by
  cases dst with
  | none => rfl
  | some e => exact getD_set_ne _ _ _ _ _ (fun h' => h (by rw [h']))
theorem put_get_eq {st : St} {v : AV} {d : Nat} (h : d < st.t.length) : (st.put (some d) v).t.getD d .undef = v := getD_set_self _ _ _ _ h

theorem gval_put' {o : Oper} {st : St} {dst : Option Tmp} {v : AV} {gi : Nat} {pol : Bool} (hg : o.guard = some (gi, pol)) (h : ∀ d, dst = some d → d ∉ o.looksAt ops) : gval ops.toList (st.put dst v) gi = gval ops.toList st gi := by
  refine gval_put (fun d o' e hd ho he heq => h d hd ?_)
  subst heq
  refine looks_guard hg ?_
  have : ops[gi]? = some o' := by simpa using ho
  simp [this, he]

theorem pendO_put {o : Oper} {G G' : List (Nat × Bool)} {st : St} {dst : Option Tmp} {v : AV} (h : ∀ d, dst = some d → d ∉ o.looksAt ops) (hd : ∀ d, o.dst = some d → dst ≠ some d)
    (hv : ∀ d ∈ o.looksAt ops, valid G d → valid G' d) (hv' : ∀ d, valid G' d → valid G d) (hp : pendO P ops.toList o G st) : pendO P ops.toList o G' (st.put dst v) := by
  have pv : ∀ g, pendV P o g G st → pendV P o g G' (st.put dst v) := by
    intro g hpv
    refine ⟨fun d hdd hval => hpv.1 d hdd (hv' d hval), fun e => ?_⟩
    obtain ⟨h1, h2⟩ := hpv.2 e
    refine ⟨need_st (ev_put_looks h) (need_valid (fun d hd => hv d (looks_op hd)) h1), ?_⟩
    rw [opR_put h]
    refine sem_setT (sem_mono h2 (fun v' st' hK => ⟨fun d hdd hlt => ?_, ?_, ?_⟩))
    · rw [put_get_ne (hd d hdd)]
      rw [put_len] at hlt
      exact hK.1 d hdd hlt
    · rw [put_put_len.1]; exact hK.2.1
    · rw [put_put_len.2]; exact hK.2.2
  unfold pendO at hp ⊢
  cases hg : o.guard with
  | none => rw [hg] at hp; exact pv true hp
  | some gp =>
    obtain ⟨gi, pol⟩ := gp
    rw [hg] at hp
    simp only at hp ⊢
    rw [gval_put' hg h]
    cases hgv : gval ops.toList st gi with
    | none => rw [hgv] at hp; exact hp.elim
    | some gx =>
      obtain ⟨gd, x⟩ := gx
      rw [hgv] at hp
      exact ⟨hv gd (looks_guard hg (gval_dst hgv)) hp.1, pv _ hp.2⟩

/-- An operation, reckoned ahead. -/
theorem still_pend {o : Oper} {G : List (Nat × Bool)} {st : St} {K : List (Nat × Bool) → St → Prop} (hs : ∀ d, o.dst = some d → d ∉ o.looksAt ops) (hk : stillK P ops.toList o G st K) :
    ∃ v G', K G' (st.put o.dst v) ∧ (∀ d, valid G' d → valid G d) ∧ (∀ d, o.dst ≠ some d → valid G d → valid G' d) ∧ pendO P ops.toList o G' (st.put o.dst v) := by
  have pv : ∀ (g : Bool) (G' : List (Nat × Bool)) (v : AV), (∀ d, o.dst = some d → valid G' d → g = true) → (∀ d, o.dst ≠ some d → valid G d → valid G' d) →
      (g = true → need G o.op st ∧ (opR P o st).sem fun v' st' => v' = v ∧ st'.b = st.b ∧ st'.r = st.r) → pendV P o g G' (st.put o.dst v) := by
    intro g G' v h1 h2 h3
    refine ⟨h1, fun e => ?_⟩
    obtain ⟨h4, h5⟩ := h3 e
    refine ⟨need_st (ev_put_looks hs) (need_valid (fun d hd => h2 d (fun hdd => hs d hdd (looks_op hd))) h4), ?_⟩
    rw [opR_put hs]
    refine sem_setT (sem_mono h5 (fun v' st' hK => ⟨fun d hdd hlt => ?_, ?_, ?_⟩))
    · rw [put_len] at hlt
      rw [hK.1, hdd, put_get_eq hlt]
    · rw [put_put_len.1]; exact hK.2.1
    · rw [put_put_len.2]; exact hK.2.2
  unfold stillK at hk
  cases hg : o.guard with
  | none =>
    rw [hg] at hk
    obtain ⟨v, hK, hsem⟩ := stillV_spec hk
    refine ⟨v, G, hK, fun _ h => h, fun _ _ h => h, ?_⟩
    unfold pendO
    rw [hg]
    exact pv true G v (fun _ _ _ => rfl) (fun _ _ h => h) hsem
  | some gp =>
    obtain ⟨gi, pol⟩ := gp
    rw [hg] at hk
    simp only at hk
    cases hgv : gval ops.toList st gi with
    | none => rw [hgv] at hk; exact hk.elim
    | some gx =>
      obtain ⟨gd, x⟩ := gx
      rw [hgv] at hk
      obtain ⟨hval, hk⟩ := hk
      obtain ⟨v, hK, hsem⟩ := stillV_spec hk
      have hsub : ∀ d, o.dst ≠ some d → valid G d → valid (addG o.dst (x == pol) G) d := fun d hd h => valid_addG_iff.2 ⟨h, fun e => absurd e hd⟩
      refine ⟨v, _, hK, fun d h => (valid_addG h).1, hsub, ?_⟩
      unfold pendO
      rw [hg]
      simp only
      rw [gval_put' hg hs, hgv]
      refine ⟨hsub gd (fun hdd => hs gd hdd (looks_guard hg (gval_dst hgv))) hval, ?_⟩
      exact pv _ _ v (fun d hdd h => (valid_addG h).2 hdd) hsub hsem

/-- The plan's next operation is reckoned ahead: nothing has happened yet. -/
theorem sim_still {lst : Array Bool} {V pend rc : List Nat} {G : List (Nat × Bool)} {st : St} {a : Act} {w : World} {i : Nat} {l : List (Nat × Bool × List Nat)} {K : St → Prop} {KP : AV → St → Prop}
    (h : Sim P ops dl w0 F W0 M0 r0 lst V pend G st a w) (hb : planB ops V pend ((i, false, rc) :: l) = true) (hk : planK P E ops.toList ((i, false, rc) :: l) G st K KP) :
    ∃ G' st', Sim P ops dl w0 F W0 M0 r0 lst (i :: V) (i :: pend) G' st' a w ∧ planB ops (i :: V) (i :: pend) l = true ∧ planK P E ops.toList l G' st' K KP := by
  simp only [planB, Bool.and_eq_true, decide_eq_true_eq, Bool.not_eq_true', List.all_eq_true, if_false, Bool.false_eq_true] at hb
  obtain ⟨⟨⟨⟨⟨⟨hlt, hiV⟩, hdeps⟩, hself⟩, hpw⟩, _⟩, hb⟩ := hb
  have hiV' : i ∉ V := by simpa using hiV
  simp only [planK] at hk
  cases ho : ops.toList[i]? with
  | none => rw [ho] at hk; exact hk.elim
  | some o =>
    rw [ho] at hk
    simp only at hk
    have ho' : ops[i]? = some o := by simpa using ho
    have hlooks : looksOf ops i = o.looksAt ops := by simp [looksOf, ho']
    have hdst : dstOf ops i = o.dst := by simp [dstOf, ho']
    have hs : ∀ d, o.dst = some d → d ∉ o.looksAt ops := by
      intro d hd hm
      rw [hdst, hlooks, hd] at hself
      have := hits_some.2 hm
      rw [hself] at this
      cases this
    obtain ⟨v, G', hK, hv1, hv2, hpo⟩ := still_pend hs hk
    have hil : lst.getD i false = false := by
      cases e : lst.getD i false with
      | false => rfl
      | true => exact absurd (h.sub i e) hiV'
    have pair : ∀ p ∈ pend, hits (dstOf ops i) (looksOf ops p) = false ∧ (∀ d, dstOf ops i = some d → dstOf ops p ≠ some d) ∧ (hits (dstOf ops p) (looksOf ops i) = true → p ∈ depsOf ops i) := by
      intro p hp
      obtain ⟨⟨h1, h2⟩, h3⟩ := hpw p hp
      refine ⟨h1, fun d hd hpd => ?_, fun hh => ?_⟩
      · rw [Bool.or_eq_true] at h2
        rcases h2 with h2 | h2
        · rw [hd] at h2; simp at h2
        · rw [hd, hpd] at h2; simp at h2
      · rw [Bool.or_eq_true] at h3
        rcases h3 with h3 | h3
        · rw [hh] at h3; simp at h3
        · simpa using h3
    refine ⟨G', st.put o.dst v, { hs := h.hs, sub := fun j hj => List.mem_cons_of_mem _ (h.sub j hj), vlt := fun j hj => ?_, pnd := fun j hj hl => ?_, pV := fun j hj => ?_, pw := fun p hp q hq hne => ?_, slf := fun p hp => ?_, dep := fun j hj k hk => ?_, at_ := ?_, pok := fun p hp hl => ?_ }, hb, hK⟩
    · rcases List.mem_cons.1 hj with rfl | hj
      · exact hlt
      · exact h.vlt j hj
    · rcases List.mem_cons.1 hj with rfl | hj
      · exact List.mem_cons_self ..
      · exact List.mem_cons_of_mem _ (h.pnd j hj hl)
    · rcases List.mem_cons.1 hj with rfl | hj
      · exact List.mem_cons_self ..
      · exact List.mem_cons_of_mem _ (h.pV j hj)
    · rcases List.mem_cons.1 hp with ep | hp' <;> rcases List.mem_cons.1 hq with eq | hq'
      · exact absurd (ep.trans eq.symm) hne
      · obtain ⟨h1, h2, h3⟩ := pair q hq'
        rw [ep]
        exact ⟨h3, fun d hd hd' => h2 d hd' hd⟩
      · obtain ⟨h1, h2, h3⟩ := pair p hp'
        rw [eq]
        exact ⟨fun hh => (by rw [h1] at hh; cases hh), h2⟩
      · exact h.pw p hp' q hq' hne
    · rcases List.mem_cons.1 hp with rfl | hp
      · exact hself
      · exact h.slf p hp
    · rcases List.mem_cons.1 hj with rfl | hj
      · exact List.mem_cons_of_mem _ (by simpa using hdeps k hk)
      · exact List.mem_cons_of_mem _ (h.dep j hj k hk)
    · obtain ⟨M, hI, hR, hd, hC⟩ := h.at_
      refine ⟨M, by rw [put_put_len.1, put_put_len.2]; exact hI, ?_, hd, by rw [put_put_len.2]; exact hC⟩
      rw [put_put_len.2]
      refine ⟨by rw [put_len]; exact hR.1, fun d hdl hval => ?_⟩
      rw [put_len] at hdl
      obtain ⟨hx, hg⟩ := valid_append.1 hval
      rw [maskX_valid] at hx
      have hne : o.dst ≠ some d := by
        rw [← hdst]
        exact hx i (List.mem_cons_self ..) hil
      rw [put_get_ne hne]
      exact hR.2 d hdl (valid_append.2 ⟨maskX_valid.2 fun q hq hql => hx q (List.mem_cons_of_mem _ hq) hql, hv1 d hg⟩)
    · rcases List.mem_cons.1 hp with rfl | hp
      · exact ⟨o, ho', hpo⟩
      · obtain ⟨op, hop, hpp⟩ := h.pok p hp hl
        obtain ⟨h1, h2, h3⟩ := pair p hp
        have hlp : looksOf ops p = op.looksAt ops := by simp [looksOf, hop]
        have hdp : dstOf ops p = op.dst := by simp [dstOf, hop]
        have hno : ∀ d, o.dst = some d → d ∉ op.looksAt ops := by
          intro d hd hm
          rw [hdst, hlp, hd] at h1
          have := hits_some.2 hm
          rw [h1] at this
          cases this
        refine ⟨op, hop, pendO_put hno (fun d hd hdd => ?_) (fun d hd hval => hv2 d (fun hdd => hno d hdd hd) hval) hv1 hpp⟩
        exact h2 d (by rw [hdst]; exact hdd) (by rw [hdp]; exact hd)
end
end Go.PE
