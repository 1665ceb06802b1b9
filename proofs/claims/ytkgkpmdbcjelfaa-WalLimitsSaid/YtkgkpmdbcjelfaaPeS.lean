/- The evaluator of code is right, 2: a region in the order of the text (see PeQ). -/
import Derived.Test.YtkgkpmdbcjelfaaPeR
set_option linter.unusedVariables false
set_option linter.unusedSimpArgs false
namespace Go.PE
open Go

/-- Where a walk stands: behind the start (W0, M0, r0). -/
def At (dl : Act → Prop) (w0 : World) (F : List Nat) (W0 : World) (M0 : Mem) (r0 : List Arr) (G : List (Nat × Bool)) (st : St) (a : Act) (w : World) : Prop :=
  ∃ M, Inv w0 F M st.b st.r w ∧ RG w M st.r G a.tmps st.t ∧ dl a ∧ Chg W0 M0 r0 w M st.r
/-- Where it stands when it panics. -/
def AtP (dl : Act → Prop) (w0 : World) (F : List Nat) (W0 : World) (M0 : Mem) (r0 : List Arr) (x : AV) (st : St) (u : Value) (a : Act) (w : World) : Prop :=
  ∃ M, Inv w0 F M st.b st.r w ∧ RepA w M st.r u x ∧ dl a ∧ Chg W0 M0 r0 w M st.r

section
variable {dl : Act → Prop} {P : Program} {E : Env} {w0 : World} {F : List Nat} {W0 : World} {M0 : Mem} {r0 : List Arr} {G : List (Nat × Bool)} {st : St} {a : Act} {w : World}

theorem run_sound (hE : E.Ok P) {M : Mem} {o : Oper} {K KP : AV → St → Prop} {next : Act → World → Prop} {Q : Exit → Act → World → Prop}
    (h : Inv w0 F M st.b st.r w) (hR : RG w M st.r G a.tmps st.t) (hn : need G o.op st) (hk : runK E (opR P o st) K KP)
    (next' : ∀ v st' M' w' u, K v st' → st'.t = st.t → Inv w0 F M' st'.b st'.r w' → Chg w M st.r w' M' st'.r → RepA w' M' st'.r u v → next (a.put o.dst u) w')
    (panics : ∀ x st' M' w' u, KP x st' → Inv w0 F M' st'.b st'.r w' → Chg w M st.r w' M' st'.r → RepA w' M' st'.r u x → Q (.panic [{ v := u, recovered := false }]) a w') :
    o.wp P a w next Q := by
  have hm := opR_mask (P := P) hn
  have hself := opR_self (P := P) o st
  have ht : Rept w M (st.wT (maskT G st.t)).r a.tmps (st.wT (maskT G st.t)).t := hR.rept
  have key : (opR P o (st.wT (maskT G st.t))).go (fun v s => K v (s.wT st.t)) := by
    rw [hm]
    revert hk hself
    generalize opR P o st = R
    intro hk hself
    cases R with
    | fail => exact hk.elim
    | ok p v st' =>
      simp only [Res.setT, Res.ok.injEq, true_and] at hself
      refine ⟨hk.1, ?_⟩
      show K v (st'.wT st.t)
      rw [hself]
      exact hk.2
    | elem p es k n st' =>
      simp only [Res.setT, Res.elem.injEq, true_and] at hself
      refine ⟨hk.1, fun x hx => ⟨(hk.2 x hx).1, ?_⟩⟩
      show K _ (st'.wT st.t)
      rw [hself]
      exact (hk.2 x hx).2
    | byte p s k st' =>
      simp only [Res.setT, Res.byte.injEq, true_and] at hself
      refine ⟨hk.1, fun x hx => ?_⟩
      show K _ (st'.wT st.t)
      rw [hself]
      exact hk.2 x hx
    | call g args st' => trivial
    | panic x st' => trivial
  have := op_sound (P := P) (o := o) (a := a) (st := st.wT (maskT G st.t)) h ht key
  cases this with
  | value v s M' w' u hK hr hI hc hv _ =>
    have := next' v (s.wT st.t) M' w' u hK rfl hI hc hv
    unfold Oper.wp
    rcases hr with hr | ⟨hr, rfl⟩
    · rw [hr]; exact this
    · rw [hr]; exact this
  | enter g args s vs hRe hr hv _ _ =>
    rw [hm] at hRe
    cases hop : opR P o st with
    | call g' args' st'' =>
      rw [hop] at hRe hk
      simp only [Res.setT, Res.call.injEq] at hRe
      obtain ⟨rfl, rfl, _⟩ := hRe
      obtain rfl := opR_call_st hop
      obtain ⟨hent, hcalls⟩ := hE.h g' h hv hk
      unfold Oper.wp
      rw [hr hent]
      refine Calls.mono hcalls (fun e w' he => ?_)
      cases e with
      | returned v =>
        obtain ⟨x, b', r', M', hK, hI, hc, hx⟩ := he
        exact next' x { st'' with b := b', r := r' } M' w' v hK rfl hI hc hx
      | panicked chain =>
        obtain ⟨x, b', r', M', u, hK, rfl, hI, hc, hx⟩ := he
        exact panics x { st'' with b := b', r := r' } M' w' u hK hI hc hx
      | outgrown => exact he.elim
    | _ => rw [hop] at hRe; cases hRe
  | panic x s u hRe hr hv =>
    rw [hm] at hRe
    cases hop : opR P o st with
    | panic x' st'' =>
      rw [hop] at hRe hk
      simp only [Res.setT, Res.panic.injEq] at hRe
      obtain ⟨rfl, _⟩ := hRe
      obtain rfl := opR_panic_st hop
      unfold Oper.wp
      rw [hr]
      exact panics x' st'' M w u hk h (.refl _ _ _) hv
    | _ => rw [hop] at hRe; cases hRe

theorem put_put_len {dst : Option Tmp} {v : AV} : (st.put dst v).b = st.b ∧ (st.put dst v).r = st.r := by cases dst <;> exact ⟨rfl, rfl⟩
theorem put_defers {dst : Option Tmp} {u : Value} : (a.put dst u).defers = a.defers := by cases dst <;> rfl

theorem At.put {dst : Option Tmp} {v : AV} {u : Value} {M' : Mem} {w' : World} {st' : St} (ht : st'.t = st.t) (hI : Inv w0 F M' st'.b st'.r w') (hR : RG w' M' st'.r G a.tmps st.t) (hd : dl (a.put dst u)) (hc : Chg W0 M0 r0 w' M' st'.r) (hv : RepA w' M' st'.r u v) :
    At dl w0 F W0 M0 r0 G (st'.put dst v) (a.put dst u) w' := by
  refine ⟨M', ?_, ?_, hd, ?_⟩
  · rw [put_put_len.1, put_put_len.2]; exact hI
  · rw [put_put_len.2]
    rw [← ht] at hR
    exact hR.put hv
  · rw [put_put_len.2]; exact hc

theorem gval_spec {ops : Array Oper} {g : Nat} {gd : Tmp} {x : Bool} {M : Mem} (hR : RG w M st.r G a.tmps st.t) (h : gval ops.toList st g = some (gd, x)) (hv : valid G gd) :
    yielded ops a.tmps g = some x ∧ st.t.getD gd .undef = .d (.bool x) ∧ gd < st.t.length := by
  unfold gval at h
  split at h
  · rename_i o ho
    split at h
    · rename_i d hd
      split at h
      · rename_i y hy
        split at h
        · rename_i hlt
          injection h with h
          injection h with h1 h2
          subst h1 h2
          refine ⟨?_, hy, hlt⟩
          have hrep := hR.2 d hlt hv
          rw [hy] at hrep
          have hd' := hrep.d_inv
          have hs : d < a.tmps.size := by rw [hR.1]; exact hlt
          have ho' : ops[g]? = some o := by simpa using ho
          unfold yielded
          simp only [ho', Option.bind_some, hd, Array.getElem?_eq_getElem hs]
          have e : a.tmps.getD d undef = a.tmps[d] := by simp [Array.getD, hs]
          rw [e] at hd'
          generalize a.tmps[d] = u at hd'
          cases hd'
          rfl
        · cases h
      · cases h
    · cases h
  · cases h

theorem opK_sound (hE : E.Ok P) {ops : Array Oper} {o : Oper} (hkd : ∀ (a : Act) u, dl a → dl (a.put o.dst u)) {K : List (Nat × Bool) → St → Prop} {KP : AV → St → Prop} {next : Act → World → Prop} {Q : Exit → Act → World → Prop}
    {X : List (Nat × Bool)} (hX : ∀ d ∈ o.looksAt ops, valid X d) (h : At dl w0 F W0 M0 r0 (X ++ G) st a w) (hk : opK P E ops.toList o G st K KP)
    (next' : ∀ G st a w, At dl w0 F W0 M0 r0 (X ++ G) st a w → K G st → next a w)
    (panics : ∀ x st u a w, AtP dl w0 F W0 M0 r0 x st u a w → KP x st → Q (.panic [{ v := u, recovered := false }]) a w) :
    if Region.wanted o (yielded ops a.tmps) then o.wp P a w next Q else next (a.put o.dst undef) w := by
  obtain ⟨M, hI, hR, hd, hC⟩ := h
  unfold opK at hk
  have hneed : ∀ st, need G o.op st → need (X ++ G) o.op st := fun st => need_valid (fun d hd hv => valid_append.2 ⟨hX d (looks_op hd), hv⟩)
  have hadd : ∀ dst g d, valid (X ++ addG dst g G) d → valid (addG dst g (X ++ G)) d := fun dst g d h => by
    rw [valid_append, valid_addG_iff] at h
    rw [valid_addG_iff, valid_append]
    exact ⟨⟨h.1, h.2.1⟩, h.2.2⟩
  -- running it
  have run : ∀ (E : Env), E.Ok P → ∀ (st1 : St) (K1 : AV → St → Prop), st1.b = st.b → st1.r = st.r → RG w M st.r (X ++ G) a.tmps st1.t → need G o.op st1 → runK E (opR P o st1) K1 KP →
      (∀ v st' M' w' u, K1 v st' → st'.t = st1.t → Inv w0 F M' st'.b st'.r w' → Chg w M st.r w' M' st'.r → RepA w' M' st'.r u v → next (a.put o.dst u) w') → o.wp P a w next Q := by
    intro E hE st1 K1 hb hr hR1 hn hk1 hnext
    refine run_sound (st := st1) (M := M) hE (by rw [hb, hr]; exact hI) (by rw [hr]; exact hR1) (hneed _ hn) hk1 (fun v st' M' w' u h1 h2 h3 h4 h5 => hnext v st' M' w' u h1 h2 h3 (by rw [hr] at h4; exact h4) h5) (fun x st' M' w' u h1 h2 h3 h4 => ?_)
    rw [hr] at h3
    exact panics x st' u a w' ⟨M', h2, h4, hd, hC.trans h3⟩ h1
  cases hg : o.guard with
  | none =>
    simp only [hg] at hk
    have hw : Region.wanted o (yielded ops a.tmps) = true := by simp [Region.wanted, hg]
    rw [hw, if_pos rfl]
    refine run E hE st _ rfl rfl hR hk.1 hk.2 (fun v st' M' w' u h1 h2 h3 h4 h5 => ?_)
    exact next' G _ _ _ (At.put h2 h3 (hR.mono h4) (hkd _ _ hd) (hC.trans h4) h5) h1
  | some gp =>
    obtain ⟨gi, pol⟩ := gp
    simp only [hg] at hk
    cases hgv : gval ops.toList st gi with
    | none => rw [hgv] at hk; exact hk.elim
    | some gx =>
      obtain ⟨gd, x⟩ := gx
      rw [hgv] at hk
      obtain ⟨hval, hk⟩ := hk
      obtain ⟨hy, hx, hlt⟩ := gval_spec hR hgv (valid_append.2 ⟨hX gd (looks_guard hg (gval_dst hgv)), hval⟩)
      have hw : Region.wanted o (yielded ops a.tmps) = (x == pol) := by
        simp only [Region.wanted, hg, hy]
        cases x <;> cases pol <;> rfl
      rw [hw]
      -- either way
      have split_ok : splitK P E o gd x pol G st K KP → if (x == pol) = true then o.wp P a w next Q else next (a.put o.dst undef) w := by
        intro hs
        have self : ∀ c, x = c → st.put (some gd) (.d (.bool c)) = st := by
          intro c e
          subst e
          have : st.t.set gd (.d (.bool x)) = st.t := by
            apply List.ext_getElem?
            intro i
            by_cases e : gd = i
            · subst e
              have h2 : st.t[gd] = .d (.bool x) := by simpa [List.getD, hlt] using hx
              simp [hlt, h2]
            · simp [e]
          simp only [St.put, this]
        by_cases e : x = pol
        · have e' : (x == pol) = true := by simp [e]
          rw [e', if_pos rfl]
          obtain ⟨hn, hr⟩ := hs.1 e
          rw [self pol e] at hn hr
          refine run E hE st _ rfl rfl hR hn hr (fun v st' M' w' u h1 h2 h3 h4 h5 => ?_)
          exact next' G _ _ _ (At.put h2 h3 (hR.mono h4) (hkd _ _ hd) (hC.trans h4) h5) h1
        · have e' : (x == pol) = false := by simp [e]
          have e2 : x = !pol := by cases x <;> cases pol <;> simp_all
          rw [e', if_neg (by simp)]
          have hs2 := hs.2 e2
          rw [self _ e2] at hs2
          exact next' G _ _ _ (At.put rfl hI hR (hkd _ _ hd) hC (.undef _)) hs2
      -- not wanted, and reckoned all the same
      have skip_ok : ∀ v, (x == pol) = false → K (addG o.dst (x == pol) G) (st.put o.dst v) → next (a.put o.dst undef) w := by
        intro v e hK
        refine next' _ _ _ _ ⟨M, ?_, ?_, hkd _ _ hd, ?_⟩ hK
        · rw [put_put_len.1, put_put_len.2]; exact hI
        · rw [put_put_len.2, e]; exact (hR.skip).le (hadd _ _)
        · rw [put_put_len.2]; exact hC
      have fin : ∀ (v : AV) (st' : St) (M' : Mem) (w' : World) (u : Value), K (addG o.dst (x == pol) G) (st.put o.dst v) → st'.b = st.b → st'.r = st.r → Inv w0 F M' st'.b st'.r w' → Chg w M st.r w' M' st'.r → RepA w' M' st'.r u v → next (a.put o.dst u) w' := by
        intro v st' M' w' u hK hb hr h3 h4 h5
        rw [hb, hr] at h3
        rw [hr] at h4 h5
        exact next' _ _ _ _ (At.put (st' := st) (st := st) rfl h3 (((hR.mono h4).more).le (hadd _ _)) (hkd _ _ hd) (hC.trans h4) h5) hK
      unfold guardK at hk
      split at hk
      · rename_i p v st' _ hop
        obtain ⟨h1, ⟨hb, hr⟩, h3⟩ := hk
        cases e : (x == pol) with
        | true =>
          obtain ⟨hn, hp⟩ := h1 e
          rw [if_pos rfl]
          refine run E hE st (fun v' s => v' = v ∧ s.b = st.b ∧ s.r = st.r) rfl rfl hR hn (by rw [hop]; exact ⟨hp, rfl, hb, hr⟩) (fun v' s M' w' u q1 _ q3 q4 q5 => ?_)
          obtain ⟨rfl, q6, q7⟩ := q1
          exact fin _ s M' w' u h3 q6 q7 q3 q4 q5
        | false =>
          rw [if_neg (by simp)]
          exact skip_ok v e h3
      · rename_i p es k n st' _ hop
        obtain ⟨h1, hst, y, hy1, hy2, h3⟩ := hk
        cases e : (x == pol) with
        | true =>
          obtain ⟨hn, hp⟩ := h1 e
          rw [if_pos rfl]
          refine run E hE st (fun v' s => v' = .cptr y ∧ s.b = st.b ∧ s.r = st.r) rfl rfl hR hn (by
            rw [hop]
            refine ⟨hp, fun z hz => ⟨?_, ?_, hst.1, hst.2⟩⟩
            · rw [← hy1 z hz]; exact hy2 e
            · rw [hy1 z hz]) (fun v' s M' w' u q1 _ q3 q4 q5 => ?_)
          obtain ⟨rfl, q6, q7⟩ := q1
          exact fin _ s M' w' u h3 q6 q7 q3 q4 q5
        | false =>
          rw [if_neg (by simp)]
          exact skip_ok _ e h3
      · rename_i p s k st' _ hop
        obtain ⟨h1, hst, h3⟩ := hk
        cases e : (x == pol) with
        | true =>
          obtain ⟨hn, hp⟩ := h1 e
          rw [if_pos rfl]
          refine run E hE st (fun v' q => v' = .d (.int .u8 ((s.getD k 0).toNat : Int)) ∧ q.b = st.b ∧ q.r = st.r) rfl rfl hR hn (by
            rw [hop]
            refine ⟨hp, fun c hc => ⟨?_, hst.1, hst.2⟩⟩
            simp [List.getD, hc]) (fun v' s M' w' u q1 _ q3 q4 q5 => ?_)
          obtain ⟨rfl, q6, q7⟩ := q1
          exact fin _ s M' w' u h3 q6 q7 q3 q4 q5
        | false =>
          rw [if_neg (by simp)]
          exact skip_ok _ e h3
      · rename_i f args st' _ hop
        split at hk
        · rename_i d ds hdt hds
          obtain ⟨h1, h3⟩ := hk
          cases e : (x == pol) with
          | true =>
            obtain ⟨hn, hp⟩ := h1 e
            rw [if_pos rfl]
            have hst := opR_call_st hop
            have hE1 : Env.Ok P { E with H := fun g => if g = f then d.handler else E.H g } := by
              refine ⟨fun g => ?_, hE.dt⟩
              by_cases eg : g = f
              · subst eg
                simp only [if_pos]
                exact hE.dt g d hdt
              · simp only [if_neg eg]
                exact hE.h g
            refine run _ hE1 st (fun v' s => v' = (d ds).2 ∧ s.b = st.b ∧ s.r = st.r) rfl rfl hR hn (by
              rw [hop]
              show (if f = f then d.handler else E.H f) args st'.b st'.r _
              rw [if_pos rfl]
              exact ⟨ds, hds, hp, rfl, by rw [hst], by rw [hst]⟩) (fun v' s M' w' u q1 _ q3 q4 q5 => ?_)
            obtain ⟨rfl, q6, q7⟩ := q1
            exact fin _ s M' w' u h3 q6 q7 q3 q4 q5
          | false =>
            rw [if_neg (by simp)]
            exact skip_ok _ e h3
        · exact split_ok hk
      · exact split_ok hk

theorem clean_spec : ∀ (G : List (Nat × Bool)) (st : St) (M : Mem) (w : World), RG w M st.r G a.tmps st.t → (clean G st).b = st.b ∧ (clean G st).r = st.r ∧ Rept w M st.r a.tmps (clean G st).t
  | [], st, M, w, h => ⟨rfl, rfl, h.1, fun i hi => h.2 i hi (fun p hp => absurd hp (by simp))⟩
  | (d, g) :: G, st, M, w, h => by
    have main : ∀ G' : List (Nat × Bool), (clean G' st).b = st.b ∧ (clean G' st).r = st.r ∧ (clean G' st).t.length = st.t.length ∧ ∀ i, ((∃ p ∈ G', p.1 = i) → (clean G' st).t.getD i .undef = .undef) ∧ ((¬ ∃ p ∈ G', p.1 = i) → (clean G' st).t.getD i .undef = st.t.getD i .undef) := by
      intro G'
      induction G' with
      | nil => exact ⟨rfl, rfl, rfl, fun i => ⟨fun ⟨p, hp, _⟩ => absurd hp (by simp), fun _ => rfl⟩⟩
      | cons q G' ih =>
        obtain ⟨d, g⟩ := q
        obtain ⟨h1, h2, h3, h4⟩ := ih
        refine ⟨h1, h2, by simpa [clean, St.put] using h3, fun i => ?_⟩
        show (_ → ((clean G' st).t.set d .undef).getD i .undef = _) ∧ (_ → ((clean G' st).t.set d .undef).getD i .undef = _)
        by_cases e : d = i
        · subst e
          refine ⟨fun _ => ?_, fun hn => absurd ⟨(d, g), List.mem_cons_self .., rfl⟩ hn⟩
          rcases Nat.lt_or_ge d (clean G' st).t.length with h5 | h5
          · exact getD_set_self _ _ _ _ h5
          · simp [List.getD, h5]
        · rw [getD_set_ne _ _ _ _ _ e]
          refine ⟨fun ⟨p, hp, hpe⟩ => (h4 i).1 ?_, fun hn => (h4 i).2 fun ⟨p, hp, hpe⟩ => hn ⟨p, List.mem_cons_of_mem _ hp, hpe⟩⟩
          rcases List.mem_cons.1 hp with rfl | hp
          · exact absurd hpe e
          · exact ⟨p, hp, hpe⟩
    obtain ⟨h1, h2, h3, h4⟩ := main ((d, g) :: G)
    refine ⟨h1, h2, by rw [h3]; exact h.1, fun i hi => ?_⟩
    rw [h3] at hi
    by_cases e : ∃ p ∈ (d, g) :: G, p.1 = i
    · rw [(h4 i).1 e]; exact .undef _
    · rw [(h4 i).2 e]
      exact h.2 i hi (fun p hp hpe => absurd ⟨p, hp, hpe⟩ e)

theorem At.clean (h : At dl w0 F W0 M0 r0 G st a w) : At dl w0 F W0 M0 r0 [] (clean G st) a w := by
  obtain ⟨M, hI, hR, hd, hC⟩ := h
  obtain ⟨h1, h2, h3⟩ := clean_spec G st M w hR
  refine ⟨M, by rw [h1, h2]; exact hI, ?_, hd, by rw [h2]; exact hC⟩
  rw [h2]
  exact ⟨h3.1, fun i hi _ => h3.2 i hi⟩

theorem opsK_sound (hE : E.Ok P) {ops : Array Oper} {K : St → Prop} {KP : AV → St → Prop} {Q : Exit → Act → World → Prop}
    (next' : ∀ st a w, At dl w0 F W0 M0 r0 [] st a w → K st → Q .normal a w)
    (panics : ∀ x st u a w, AtP dl w0 F W0 M0 r0 x st u a w → KP x st → Q (.panic [{ v := u, recovered := false }]) a w) :
    ∀ (l : List Oper), (∀ o ∈ l, ∀ (a : Act) u, dl a → dl (a.put o.dst u)) → ∀ (G : List (Nat × Bool)) (st : St) (a : Act) (w : World), At dl w0 F W0 M0 r0 G st a w → opsK P E ops.toList l G st K KP → wpList P ops Q l a w
  | [], _, G, st, a, w, h, hk => next' _ a w h.clean hk
  | o :: l, hkd, G, st, a, w, h, hk => by
    have ih := opsK_sound (ops := ops) hE next' panics l (fun o ho => hkd o (List.mem_cons_of_mem _ ho))
    have := opK_sound (X := []) (Q := Q) (next := wpList P ops Q l) hE (hkd o (List.mem_cons_self ..)) (fun d _ => by simp [valid]) h hk (fun G st a w h hk => ih G st a w h hk) panics
    unfold wpList
    split
    · rename_i hw
      rw [if_pos hw] at this
      exact .inl this
    · rename_i hw
      rw [if_neg hw] at this
      exact this
end
end Go.PE
