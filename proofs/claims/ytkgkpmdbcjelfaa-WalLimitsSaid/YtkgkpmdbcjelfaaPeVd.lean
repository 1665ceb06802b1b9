/- A function that defers a closure which may recover (see PeU, PeV). -/
import Derived.Test.YtkgkpmdbcjelfaaPeWb
import Derived.Recover
set_option linter.unusedVariables false
set_option linter.unusedSimpArgs false
namespace Go.PE
open Go

/-- What is asked of the closure when the function leaves: gt: the closure's frame, behind its recover. -/
def afterD (P : Program) (E : Env) (pl : Nat → List (Nat × Bool × List Nat)) (fn : Func) (cr : Code) (gt : List AV) (st : St) (K : Out → List (List AV) → List Arr → Prop) : Prop :=
  evalK P E pl cr ⟨gt, st.b, st.r⟩ fun e s => match e with
    | .normal => resK P ⟨st.t, s.b, s.r⟩ fn.results.toList fun vs => K (.ret (oneV vs)) s.b s.r
    | .ret => resK P ⟨st.t, s.b, s.r⟩ fn.results.toList fun vs => K (.ret (oneV vs)) s.b s.r
    | _ => False
def gtOf (caps : List AV) (n a1 a2 : Nat) (rv : AV) : List AV := ((caps ++ List.replicate (n - caps.length) AV.undef).set a1 rv).set a2 rv
/-- ss: the temporaries that lead to the results. -/
def deferK (P : Program) (E : Env) (pl : Nat → List (Nat × Bool × List Nat)) (fn : Func) (c0 c2 : Code) (d : Tmp) (co : List Operand) (ss : List Nat) (n a1 a2 : Nat) (cr : Code) (st : St) (K : Out → List (List AV) → List Arr → Prop) : Prop :=
  evalK P E pl c0 st fun e st1 => match e with
    | .normal => d < st1.t.length ∧ evalK P E pl c2 { st1 with t := st1.t.set d .undef } fun e st => match e with
      | .normal => afterD P E pl fn cr (gtOf (co.map st1.ev) n a1 a2 (.d .nilI)) ⟨keepT ss 0 st1.t, st.b, st.r⟩ K
      | .ret => afterD P E pl fn cr (gtOf (co.map st1.ev) n a1 a2 (.d .nilI)) ⟨keepT ss 0 st1.t, st.b, st.r⟩ K
      | .panic x => afterD P E pl fn cr (gtOf (co.map st1.ev) n a1 a2 x) ⟨keepT ss 0 st1.t, st.b, st.r⟩ K
      | .exit _ => False
    | _ => False
/-- No operation writes to these temporaries. -/
def noDst (ss : List Nat) : Code → Bool
  | .seq x y => noDst ss x && noDst ss y
  | .cond _ x y => noDst ss x && noDst ss y
  | .block _ x => noDst ss x
  | .loop x => noDst ss x
  | .region _ ops _ => ops.toList.all fun o => match o.dst with | some d => !ss.contains d | none => true
  | _ => true
def fixA (dd : Deferred) (ss : List Nat) (n : Nat) (ts : Array Value) (a : Act) : Prop := a.defers = [dd] ∧ a.tmps.size = n ∧ ∀ s ∈ ss, a.tmps.getD s undef = ts.getD s undef
theorem noDst_keeps {dd : Deferred} {ss : List Nat} {n : Nat} {ts : Array Value} : ∀ c : Code, noDst ss c = true → Keeps (fixA dd ss n ts) c := by
  intro c
  induction c with
  | seq x y ihx ihy =>
    intro h
    simp only [noDst, Bool.and_eq_true] at h
    exact ⟨ihx h.1, ihy h.2⟩
  | cond c x y ihx ihy =>
    intro h
    simp only [noDst, Bool.and_eq_true] at h
    exact ⟨ihx h.1, ihy h.2⟩
  | block i x ih => exact fun h => ih h
  | loop x ih => exact fun h => ih h
  | region i ops b =>
    intro h o ho a u hd
    have h1 := List.all_eq_true.1 h o ho
    obtain ⟨h2, h3, h4⟩ := hd
    refine ⟨put_defers.trans h2, ?_, fun s hs => ?_⟩
    · cases o.dst <;> simpa [Act.put] using h3
    · rw [← h4 s hs]
      cases hdst : o.dst with
      | none => rfl
      | some d =>
        rw [hdst] at h1
        refine agetD_set_ne _ _ _ _ (fun e => ?_)
        subst e
        simp at h1
        exact h1 hs
  | _ => exact fun _ => trivial
theorem keepT_get (ks : List Nat) : ∀ (t : List AV) (k i : Nat), i < t.length → (keepT ks k t).getD i .undef = if ks.contains (k + i) then t.getD i .undef else .undef
  | [], _, i, h => absurd h (by simp)
  | v :: l, k, 0, _ => by simp [keepT]
  | v :: l, k, i + 1, h => by
    have := keepT_get ks l (k + 1) i (by simpa using h)
    simp only [keepT, List.getD_cons_succ, this]
    rw [show k + 1 + i = k + (i + 1) by omega]
theorem keepT_length (ks : List Nat) : ∀ (t : List AV) (k : Nat), (keepT ks k t).length = t.length
  | [], _ => rfl
  | v :: l, k => by simp [keepT, keepT_length ks l]

section
variable {P : Program} {E : Env} {pl : Nat → List (Nat × Bool × List Nat)} {w0 : World} {F : List Nat} {M : Mem} {w : World}

/-- The closure, run behind a body that leaves. -/
theorem closure_calls (hE : E.Ok P) (hm : P.follows .mixedOrders = true) {g : FuncId} {gn : Func} {id : Nat} {a1 a2 ty1 ty2 : Nat} {p1 p2 : String} {ar1 ar2 : Array Edge} {cr : Code}
    (hg : P.funcs[g]? = some gn) (hgb : gn.body = some (.seq (.region id #[⟨some a1, .call ⟨.builtin .recover, #[], #[]⟩, ty1, p1, ar1, none⟩, ⟨some a2, .assign (.tmp a1), ty2, p2, ar2, none⟩] false) cr)) (hgr : gn.results = #[])
    (hdr : drawsB pl cr = true) {W0 : World} {M0 : Mem} {r0 : List Arr} {b : List (List AV)} {r : List Arr} (hI : Inv w0 F M b r w) (hC : Chg W0 M0 r0 w M r) {tmps : Array Value} {tS : List AV} (hT : Rept w M r tmps tS)
    {caps : Array Value} {cs : List AV} (hlt : a1 < gn.ntmps) (hcapM : RepL w M r caps cs)
    (u u' : FrameMode) (rv : Value) (rx : AV) (hrvM : RepA w M r rv rx)
    (hrec : ∀ (c₀ : Frame) (l : List Frame), c₀.mode = u → (match recoverD (c₀ :: l) with | some (v, l') => v = rv ∧ l' = { c₀ with mode := u' } :: l | none => rv = .nilIface ∧ u' = u))
    {fn : Func} {K : Out → List (List AV) → List Arr → Prop} (hk : afterD P E pl fn cr (gtOf cs gn.ntmps a1 a2 rx) ⟨tS, b, r⟩ K) (hset : settle u' = .returning) {R : Ending → World → Prop}
    (hR : ∀ v w', EndQ w0 F M0 r0 W0 K (.returned v) w' → R (.returned v) w') :
    CallsD P g caps u w fun
      | .returned _, u', w' => Leaves P fn tmps R [] (settle u') w'
      | .panicked chain, u', w' => Leaves P fn tmps R [] (raised u' chain) w'
      | .outgrown, _, w' => R .outgrown w' := by
  refine callsD_of_wpS hg hgb (fun c₀ l hu => ?_)
  refine wpS_seq (wpS_region ?_)
  have hsz : a1 < (caps ++ Array.replicate (gn.ntmps - caps.size) undef).size := by simp; omega
  -- the closure's frame behind recover
  have hrep : Rept w M r ((((caps ++ Array.replicate (gn.ntmps - caps.size) undef).setIfInBounds a1 rv)).setIfInBounds a2 rv) (gtOf cs gn.ntmps a1 a2 rx) := by
    have h0 : Rept w M r (caps ++ Array.replicate (gn.ntmps - caps.size) undef) (cs ++ List.replicate (gn.ntmps - cs.length) .undef) := by
      refine ⟨by simp [hcapM.1], fun i hi => ?_⟩
      rcases Nat.lt_or_ge i cs.length with h1 | h1
      · have h2 : i < caps.size := by rw [hcapM.1]; exact h1
        have e1 : (caps ++ Array.replicate (gn.ntmps - caps.size) undef).getD i undef = caps.getD i undef := by
          simp [Array.getD, h2, Nat.lt_add_right _ h2, Array.getElem_append_left]
        rw [e1, getD_append_lt _ _ _ _ h1]
        exact hcapM.2 i h1
      · have e : (cs ++ List.replicate (gn.ntmps - cs.length) AV.undef).getD i .undef = .undef := by
          simp only [List.getD, List.getElem?_append_right h1, List.getElem?_replicate]
          split <;> rfl
        rw [e]
        exact .undef _
    have hset : ∀ (ts : Array Value) (t : List AV) (k : Nat), Rept w M r ts t → Rept w M r (ts.setIfInBounds k rv) (t.set k rx) := by
      intro ts t k h
      refine ⟨by simpa using h.1, fun i hi => ?_⟩
      simp only [List.length_set] at hi
      by_cases e : k = i
      · subst e
        rw [getD_set_self _ _ _ _ hi, agetD_set_self _ _ _ (by rw [h.1]; exact hi)]
        exact hrvM
      · rw [getD_set_ne _ _ _ _ _ e, agetD_set_ne _ _ _ _ e]
        exact h.2 i hi
    exact hset _ _ _ (hset _ _ _ h0)
  have hnext : ∀ l', l' = { c₀ with mode := u' } :: l →
      cr.wpS P (bodyPostS P gn c₀ l fun e u' w' => match e with
        | .returned _ => Leaves P fn tmps R [] (settle u') w'
        | .panicked chain => Leaves P fn tmps R [] (raised u' chain) w'
        | .outgrown => R .outgrown w') ⟨((caps ++ Array.replicate (gn.ntmps - caps.size) undef).setIfInBounds a1 rv).setIfInBounds a2 rv, []⟩ l' w := by
    intro l' hl'
    subst hl'
    refine wpS_of_wp (Go.wp_mono (evalK_sound (dl := fun a => a.defers = []) (w0 := w0) (F := F) (W0 := w) (M0 := M) (r0 := r) hE hm cr (keeps_defers [] cr) hdr _ ⟨gtOf cs gn.ntmps a1 a2 rx, b, r⟩ _ w ⟨M, hI, ⟨hrep.1, fun i hi _ => hrep.2 i hi⟩, rfl, .refl _ _ _⟩ hk) (fun e a' w' hq => ?_))
    have fin : ∀ s, At (fun a => a.defers = []) w0 F w M r [] s a' w' → (resK P ⟨tS, s.b, s.r⟩ fn.results.toList fun vs => K (.ret (oneV vs)) s.b s.r) → a'.defers = [] ∧ ∃ v, (results gn a'.tmps).run P w' = .ok v w' ∧ Leaves P fn tmps R [] (settle u') w' := by
      intro s hs hres
      obtain ⟨M', hI', hRG', hd', hC'⟩ := hs
      refine ⟨hd', .tuple #[], by simp [results, hgr], ?_⟩
      rw [hset]
      obtain ⟨v, xs, hr, hK, hv⟩ := results_run (a := ⟨tmps, []⟩) (st := ⟨tS, s.b, s.r⟩) hI' (hT.mono hC') hres
      exact ⟨v, hr, hR v w' ⟨_, _, _, M', hK, hI', hC.trans hC', hv⟩⟩
    cases e with
    | normal =>
      obtain ⟨s, hs, hres⟩ := hq
      obtain ⟨h1, v, h2, h3⟩ := fin s hs hres
      exact ⟨h1, u', rfl, v, h2, h3⟩
    | ret =>
      obtain ⟨s, hs, hres⟩ := hq
      obtain ⟨h1, v, h2, h3⟩ := fin s hs hres
      exact ⟨h1, u', rfl, v, h2, h3⟩
    | panic ch =>
      obtain ⟨s, x, v, rfl, hs, hres⟩ := hq
      exact hres.elim
    | exit i =>
      obtain ⟨s, hs, hres⟩ := hq
      exact hres.elim
    | goto l => exact hq.elim
    | outgrown => exact hq.elim
  have hr := hrec c₀ l hu
  have hrange : List.range 2 = [0, 1] := rfl
  have hget : ∀ (ts : Array Value) (v : Value), a1 < ts.size → (ts.setIfInBounds a1 v).getD a1 undef = v := fun ts v h => agetD_set_self ts a1 v h
  cases hrc : recoverD (c₀ :: l) with
  | none =>
    rw [hrc] at hr
    obtain ⟨rfl, rfl⟩ := hr
    have hn := hnext (c₀ :: l) (by rw [← hu])
    have hif : a1 < caps.size + (gn.ntmps - caps.size) := by omega
    simp only [List.size_toArray, List.length_cons, List.length_nil, Nat.reduceAdd, hrange]
    simp [wpOpsS, Region.wanted, execOp, resolve, invoke, builtin, hrc, Oper.upon, Act.put, Act.eval, hif, Exit.thenS]
    exact hn
  | some p =>
    obtain ⟨v, l'⟩ := p
    rw [hrc] at hr
    obtain ⟨rfl, hl'⟩ := hr
    have hn := hnext l' hl'
    have hif : a1 < caps.size + (gn.ntmps - caps.size) := by omega
    simp only [List.size_toArray, List.length_cons, List.length_nil, Nat.reduceAdd, hrange]
    simp [wpOpsS, Region.wanted, execOp, resolve, invoke, builtin, hrc, Oper.upon, Act.put, Act.eval, hif, Exit.thenS]
    exact hn

/-- A function that defers such a closure. -/
theorem defer_sound (hE : E.Ok P) (hm : P.follows .mixedOrders = true) {g : FuncId} {gn : Func} {id : Nat} {a1 a2 ty1 ty2 : Nat} {p1 p2 : String} {ar1 ar2 : Array Edge} {cr : Code}
    (hg : P.funcs[g]? = some gn) (hgb : gn.body = some (.seq (.region id #[⟨some a1, .call ⟨.builtin .recover, #[], #[]⟩, ty1, p1, ar1, none⟩, ⟨some a2, .assign (.tmp a1), ty2, p2, ar2, none⟩] false) cr)) (hgr : gn.results = #[])
    (hgn : (gn.name == "runtime.NumGoroutine") = false) (hdrg : drawsB pl cr = true) (hlt : a1 < gn.ntmps)
    {f : FuncId} {fn : Func} {c0 c2 : Code} {i1 : Nat} {d : Tmp} {co : Array Operand} {t1 t2 : TypeId} {q1 q2 : String} {e1 e2 : Array Edge} {ats : Array TypeId}
    (hf : P.funcs[f]? = some fn) (hb : fn.body = some (.seq c0 (.seq (.region i1 #[⟨some d, .makeFunc (.func g) #[] co, t1, q1, e1, none⟩, ⟨none, .defer ⟨.value (.tmp d), #[], ats⟩, t2, q2, e2, none⟩] false) c2)))
    (hdr0 : drawsB pl c0 = true) (hdr2 : drawsB pl c2 = true) (ss : List Nat) (hss : noDst ss c2 = true) (hds : ss.contains d = false)
    {b : List (List AV)} {r : List Arr} {vs : Array Value} {args : List AV} {K : Out → List (List AV) → List Arr → Prop} (h : Inv w0 F M b r w) (hv : RepL w M r vs args)
    (hk : deferK P E pl fn c0 c2 d co.toList ss gn.ntmps a1 a2 cr ⟨args ++ List.replicate (fn.ntmps - args.length) .undef, b, r⟩ K) : Calls P f vs w (EndQ w0 F M r w K) := by
  refine calls_of_wp_defers hf hb ?_
  have hat : At (fun a => a.defers = []) w0 F w M r [] ⟨args ++ List.replicate (fn.ntmps - args.length) .undef, b, r⟩ { tmps := vs ++ Array.replicate (fn.ntmps - vs.size) undef, defers := [] } w := by
    refine ⟨M, h, ⟨by simp [hv.1], fun i hi _ => ?_⟩, rfl, .refl _ _ _⟩
    rcases Nat.lt_or_ge i args.length with h1 | h1
    · have e1 : (vs ++ Array.replicate (fn.ntmps - vs.size) undef).getD i undef = vs.getD i undef := by
        have h2 : i < vs.size := by rw [hv.1]; exact h1
        simp [Array.getD, h2, Nat.lt_add_right _ h2, Array.getElem_append_left]
      show RepA w M r ((vs ++ Array.replicate (fn.ntmps - vs.size) undef).getD i undef) ((args ++ _).getD i .undef)
      rw [e1, getD_append_lt _ _ _ _ h1]
      exact hv.2 i h1
    · have e : (args ++ List.replicate (fn.ntmps - args.length) AV.undef).getD i .undef = .undef := by
        simp only [List.getD, List.getElem?_append_right h1, List.getElem?_replicate]
        split <;> rfl
      show RepA w M r _ ((args ++ _).getD i .undef)
      rw [e]
      exact .undef _
  refine wp_seq (Go.wp_mono (evalK_sound hE hm c0 (keeps_defers [] c0) hdr0 _ _ _ w hat hk) (fun e a1' w1 hq => ?_))
  cases e with
  | normal =>
    obtain ⟨st1, ⟨M1, hI1, hR1, hd1, hC1⟩, hdl, hk⟩ := hq
    have hR1' : Rept w1 M1 st1.r a1'.tmps st1.t := ⟨hR1.1, fun i hi => hR1.2 i hi (fun p hp => absurd hp (by simp))⟩
    have hcap := RepL.ofMap hR1' co
    generalize hcv : co.map a1'.eval = caps at hcap
    have hent := enters_of hg hgn (by rw [hgb]; rfl)
    let dd : Deferred := { target := .fn (.func g) caps, args := #[] }
    have hrange : List.range 2 = [0, 1] := rfl
    refine wp_seq (wp_region ?_)
    have goal2 : c2.wp P (bodyPostD P fn (EndQ w0 F M r w K)) ⟨a1'.tmps.setIfInBounds d (.func (.func g) #[] caps), [dd]⟩ w1 := by
      have hat2 : At (fixA dd ss a1'.tmps.size a1'.tmps) w0 F w1 M1 st1.r [] { st1 with t := st1.t.set d .undef } ⟨a1'.tmps.setIfInBounds d (.func (.func g) #[] caps), [dd]⟩ w1 := by
        refine ⟨M1, hI1, ⟨by simpa using hR1.1, fun i hi _ => ?_⟩, ⟨rfl, by simp, fun s hs => agetD_set_ne _ _ _ _ (fun e => ?_)⟩, .refl _ _ _⟩
        · simp only [List.length_set] at hi
          show RepA w1 M1 st1.r ((a1'.tmps.setIfInBounds d _).getD i undef) ((st1.t.set d .undef).getD i .undef)
          by_cases e : d = i
          · subst e
            rw [getD_set_self _ _ _ _ hi]
            exact .undef _
          · rw [getD_set_ne _ _ _ _ _ e, agetD_set_ne _ _ _ _ e]
            exact hR1'.2 i hi
        · subst e
          rw [List.contains_iff_mem.2 hs] at hds
          cases hds
      refine Go.wp_mono (evalK_sound hE hm c2 (noDst_keeps c2 hss) hdr2 _ _ _ w1 hat2 hk) (fun e a2' w2 hq => ?_)
      have hT : ∀ (M2 : Mem) (r2 : List Arr), Chg w1 M1 st1.r w2 M2 r2 → fixA dd ss a1'.tmps.size a1'.tmps a2' → Rept w2 M2 r2 a2'.tmps (keepT ss 0 st1.t) := by
        intro M2 r2 hC hfix
        refine ⟨by rw [hfix.2.1, hR1.1, keepT_length], fun i hi => ?_⟩
        rw [keepT_length] at hi
        rw [keepT_get _ _ _ _ hi, Nat.zero_add]
        split
        · rename_i hc
          rw [hfix.2.2 i (List.contains_iff_mem.1 hc)]
          exact (hR1'.2 i hi).mono hC
        · exact .undef _
      have hcapM : ∀ (M2 : Mem) (r2 : List Arr), Chg w1 M1 st1.r w2 M2 r2 → RepL w2 M2 r2 caps (co.toList.map st1.ev) := fun M2 r2 hC => ⟨hcap.1, fun i hi => (hcap.2 i hi).mono hC⟩
      have hinv : ∀ w2 : World, (invoke (.fn (.func g) caps) #[]).run P w2 = .ok (.enter g caps) w2 := by
        intro w2
        have := hent caps w2
        simpa [invoke] using this
      have retc : ∀ st, At (fixA dd ss a1'.tmps.size a1'.tmps) w0 F w1 M1 st1.r [] st a2' w2 → afterD P E pl fn cr (gtOf (co.toList.map st1.ev) gn.ntmps a1 a2 (.d .nilI)) ⟨keepT ss 0 st1.t, st.b, st.r⟩ K →
          Leaves P fn a2'.tmps (EndQ w0 F M r w K) a2'.defers .returning w2 := by
        intro st ⟨M2, hI2, hR2, hd2, hC2⟩ hk2
        rw [hd2.1]
        refine leaves_cons (by simp) (hinv w2) ?_
        refine closure_calls hE hm hg hgb hgr hdrg hI2 hC2 (hT M2 st.r hC2 hd2) hlt (hcapM M2 st.r hC2) .returning .returning .nilIface (.d .nilI) (.d _ _ .nilI) (fun c₀ l hu => ?_) hk2 rfl (fun v w' he => ?_)
        · simp [recoverD, hu]
        · obtain ⟨x, b', r', M', hK, hI', hC', hx⟩ := he
          exact ⟨x, b', r', M', hK, hI', hC1.trans hC', hx⟩
      cases e with
      | normal =>
        obtain ⟨st, hst, hk2⟩ := hq
        exact retc st hst hk2
      | ret =>
        obtain ⟨st, hst, hk2⟩ := hq
        exact retc st hst hk2
      | panic ch =>
        obtain ⟨st, x, u, rfl, ⟨M2, hI2, hx2, hd2, hC2⟩, hk2⟩ := hq
        show Leaves P fn a2'.tmps (EndQ w0 F M r w K) a2'.defers (.panicking _) w2
        rw [hd2.1]
        refine leaves_cons (by simp) (hinv w2) ?_
        refine closure_calls hE hm hg hgb hgr hdrg hI2 hC2 (hT M2 st.r hC2 hd2) hlt (hcapM M2 st.r hC2) (.panicking [{ v := u, recovered := false }]) (.panicking [{ v := u, recovered := true }]) u x hx2 (fun c₀ l hu => ?_) hk2 ?_ (fun v w' he => ?_)
        · simp [recoverD, hu]
        · simp [settle]
        · obtain ⟨x, b', r', M', hK, hI', hC', hx⟩ := he
          exact ⟨x, b', r', M', hK, hI', hC1.trans hC', hx⟩
      | exit i =>
        obtain ⟨st, hst, hk2⟩ := hq
        exact hk2.elim
      | goto l => exact hq.elim
      | outgrown => exact hq.elim
    have hdt : d < a1'.tmps.size := by rw [hR1.1]; exact hdl
    have hmf : (Instr.makeFunc (.func g) #[] (co.map a1'.eval)).run P w1 = .ok (.func (.func g) #[] caps) w1 := by rw [hcv]; rfl
    have hd1' : a1'.defers = [] := hd1
    simp only [List.size_toArray, List.length_cons, List.length_nil, Nat.reduceAdd, hrange]
    simp [wpOps, Oper.wp, Region.wanted, execOp, resolve, Deferred.ofValue, Oper.upon, Act.put, Act.eval, hdt, Exit.then, hmf, hd1']
    exact .inl (.inl goal2)
  | exit i =>
    obtain ⟨st1, hst, hk⟩ := hq
    exact hk.elim
  | ret =>
    obtain ⟨st1, hst, hk⟩ := hq
    exact hk.elim
  | panic ch =>
    obtain ⟨st, x, u, rfl, hst, hk⟩ := hq
    exact hk.elim
  | goto l => exact hq.elim
  | outgrown => exact hq.elim
end

/-! ### how such a function is run -/
def dQ2 (P : Program) (rs : List ResultVar) (tS : List AV) (K : Out → Prop) (e : Ex) (s : St) : Prop := match e with
  | .normal => resK P ⟨tS, s.b, s.r⟩ rs fun vs => @uK s.r (oneV vs) ⟨fun x => K (.ret x)⟩
  | .ret => resK P ⟨tS, s.b, s.r⟩ rs fun vs => @uK s.r (oneV vs) ⟨fun x => K (.ret x)⟩
  | .panic _ => False
  | .exit _ => False
def dQ1 (cx : Kt Cx) (rs : List ResultVar) (caps tS : List AV) (n a1 a2 : Nat) (cr : Code) (K : Out → Prop) (e : Ex) (st : St) : Prop := match e with
  | .normal => @eK cx ⟨gtOf caps n a1 a2 (.d .nilI), st.b, st.r⟩ ⟨cr⟩ ⟨dQ2 cx.v.P rs tS K⟩
  | .ret => @eK cx ⟨gtOf caps n a1 a2 (.d .nilI), st.b, st.r⟩ ⟨cr⟩ ⟨dQ2 cx.v.P rs tS K⟩
  | .panic x => @eK cx ⟨gtOf caps n a1 a2 x, st.b, st.r⟩ ⟨cr⟩ ⟨dQ2 cx.v.P rs tS K⟩
  | .exit _ => False
def dQ0 (cx : Kt Cx) (rs : List ResultVar) (c2 : Code) (d : Tmp) (co : List Operand) (ss : List Nat) (n a1 a2 : Nat) (cr : Code) (K : Out → Prop) (e : Ex) (st : St) : Prop := match e with
  | .normal => d < st.t.length ∧ @eK cx ⟨st.t.set d .undef, st.b, st.r⟩ ⟨c2⟩ ⟨dQ1 cx rs (co.map st.ev) (keepT ss 0 st.t) n a1 a2 cr K⟩
  | .ret => False
  | .panic _ => False
  | .exit _ => False
section
variable {P : Program} {cx : Kt Cx} {rs : List ResultVar} {caps tS : List AV} {n a1 a2 : Nat} {cr c2 : Code} {K : Out → Prop} {s st : St} {d : Tmp} {co : List Operand} {ss : List Nat}
theorem dQ2_normal : dQ2 P rs tS K .normal s = resK P ⟨tS, s.b, s.r⟩ rs fun vs => @uK s.r (oneV vs) ⟨fun x => K (.ret x)⟩ := rfl
theorem dQ2_ret : dQ2 P rs tS K .ret s = resK P ⟨tS, s.b, s.r⟩ rs fun vs => @uK s.r (oneV vs) ⟨fun x => K (.ret x)⟩ := rfl
theorem dQ1_normal : dQ1 cx rs caps tS n a1 a2 cr K .normal st = @eK cx ⟨gtOf caps n a1 a2 (.d .nilI), st.b, st.r⟩ ⟨cr⟩ ⟨dQ2 cx.v.P rs tS K⟩ := rfl
theorem dQ1_ret : dQ1 cx rs caps tS n a1 a2 cr K .ret st = @eK cx ⟨gtOf caps n a1 a2 (.d .nilI), st.b, st.r⟩ ⟨cr⟩ ⟨dQ2 cx.v.P rs tS K⟩ := rfl
theorem dQ1_panic (x : AV) : dQ1 cx rs caps tS n a1 a2 cr K (.panic x) st = @eK cx ⟨gtOf caps n a1 a2 x, st.b, st.r⟩ ⟨cr⟩ ⟨dQ2 cx.v.P rs tS K⟩ := rfl
theorem dQ0_normal : dQ0 cx rs c2 d co ss n a1 a2 cr K .normal st = (d < st.t.length ∧ @eK cx ⟨st.t.set d .undef, st.b, st.r⟩ ⟨c2⟩ ⟨dQ1 cx rs (co.map st.ev) (keepT ss 0 st.t) n a1 a2 cr K⟩) := rfl
theorem gtOf_eq (rv : AV) : gtOf caps n a1 a2 rv = ((caps ++ List.replicate (n - caps.length) AV.undef).set a1 rv).set a2 rv := rfl
end
theorem FPure.runD {P : Program} (l : List (FuncId × Known)) (pl : Nat → List (Nat × Bool × List Nat)) (hl : ∀ p ∈ l, KnownOk P p.1 p.2) (hm : P.follows .mixedOrders = true)
    {g : FuncId} {gn : Func} {id : Nat} {a1 a2 ty1 ty2 : Nat} {p1 p2 : String} {ar1 ar2 : Array Edge} {cr : Code}
    (hg : P.funcs[g]? = some gn) (hgb : gn.body = some (.seq (.region id #[⟨some a1, .call ⟨.builtin .recover, #[], #[]⟩, ty1, p1, ar1, none⟩, ⟨some a2, .assign (.tmp a1), ty2, p2, ar2, none⟩] false) cr)) (hgr : gn.results = #[])
    (hgn : (gn.name == "runtime.NumGoroutine") = false) (hdrg : drawsB pl cr = true) (ng : Nat) (hng : gn.ntmps = ng) (hlt : a1 < ng)
    {f : FuncId} {fn : Func} {c0 c2 : Code} {i1 : Nat} {d : Tmp} {co : List Operand} {t1 t2 : TypeId} {q1 q2 : String} {e1 e2 : Array Edge} {ats : Array TypeId} {s : Spec}
    (hf : P.funcs[f]? = some fn) (hn : (fn.name == "runtime.NumGoroutine") = false)
    (hb : fn.body = some (.seq c0 (.seq (.region i1 #[⟨some d, .makeFunc (.func g) #[] co.toArray, t1, q1, e1, none⟩, ⟨none, .defer ⟨.value (.tmp d), #[], ats⟩, t2, q2, e2, none⟩] false) c2)))
    (hdr0 : drawsB pl c0 = true) (hdr2 : drawsB pl c2 = true) (ss : List Nat) (hss : noDst ss c2 = true) (hds : ss.contains d = false) (n : Nat) (hnt : fn.ntmps = n) (rs : List ResultVar) (hrs : fn.results = rs.toArray)
    (h : ∀ ds K, s ds K → @eK ⟨⟨P, l, pl, []⟩⟩ ⟨ds.map .d ++ List.replicate (n - (ds.map AV.d).length) .undef, [], []⟩ ⟨c0⟩ ⟨dQ0 ⟨⟨P, l, pl, []⟩⟩ rs c2 d co ss ng a1 a2 cr K⟩) : FPure P f s := by
  intro w no vs ds K hno hv hs
  have h1 := h ds K hs
  refine ⟨enters_of hf hn (by rw [hb]; rfl), Calls.mono (defer_sound (E := mkEnv l) (pl := pl) (env_ok hl) hm hg hgb hgr hgn hdrg (by rw [hng]; exact hlt) hf hb hdr0 hdr2 ss hss hds (mno_inv hno) hv
    (K := fun o _ r => match o with | .ret v => outK r v fun x => K (.ret x) | .panic v => outK r v fun x => K (.panic x)) ?_) (fun e w' he => ?_)⟩
  · unfold deferK
    rw [hnt, hng]
    have e2 : ∀ tS : List AV, (fun (e : Ex) (s : St) => (match e with
        | .normal => resK P ⟨tS, s.b, s.r⟩ rs.toArray.toList fun vs => outK s.r (oneV vs) fun x => K (.ret x)
        | .ret => resK P ⟨tS, s.b, s.r⟩ rs.toArray.toList fun vs => outK s.r (oneV vs) fun x => K (.ret x)
        | _ => False : Prop)) = dQ2 P rs tS K := by
      intro tS
      funext e s
      cases e <;> rfl
    have e3 : ∀ (tS gt : List AV) (st : St), afterD P (mkEnv l) pl fn cr gt ⟨tS, st.b, st.r⟩ (fun o _ r => match o with | .ret v => outK r v fun x => K (.ret x) | .panic v => outK r v fun x => K (.panic x)) = @eK ⟨⟨P, l, pl, []⟩⟩ ⟨gt, st.b, st.r⟩ ⟨cr⟩ ⟨dQ2 P rs tS K⟩ := by
      intro tS gt st
      unfold afterD
      rw [hrs]
      show evalK P (mkEnv l) pl cr ⟨gt, st.b, st.r⟩ _ = evalK P (mkEnv l) pl cr ⟨gt, st.b, st.r⟩ (dQ2 P rs tS K)
      rw [← e2 tS]
    have e4 : (fun (e : Ex) (st1 : St) => (match e with
        | .normal => d < st1.t.length ∧ evalK P (mkEnv l) pl c2 { st1 with t := st1.t.set d .undef } fun e st => match e with
          | .normal => afterD P (mkEnv l) pl fn cr (gtOf (co.toArray.toList.map st1.ev) ng a1 a2 (.d .nilI)) ⟨keepT ss 0 st1.t, st.b, st.r⟩ (fun o _ r => match o with | .ret v => outK r v fun x => K (.ret x) | .panic v => outK r v fun x => K (.panic x))
          | .ret => afterD P (mkEnv l) pl fn cr (gtOf (co.toArray.toList.map st1.ev) ng a1 a2 (.d .nilI)) ⟨keepT ss 0 st1.t, st.b, st.r⟩ (fun o _ r => match o with | .ret v => outK r v fun x => K (.ret x) | .panic v => outK r v fun x => K (.panic x))
          | .panic x => afterD P (mkEnv l) pl fn cr (gtOf (co.toArray.toList.map st1.ev) ng a1 a2 x) ⟨keepT ss 0 st1.t, st.b, st.r⟩ (fun o _ r => match o with | .ret v => outK r v fun x => K (.ret x) | .panic v => outK r v fun x => K (.panic x))
          | .exit _ => False
        | _ => False : Prop)) = dQ0 ⟨⟨P, l, pl, []⟩⟩ rs c2 d co ss ng a1 a2 cr K := by
      funext e st1
      cases e with
      | normal =>
        show (d < st1.t.length ∧ _) = (d < st1.t.length ∧ _)
        congr 1
        show evalK P (mkEnv l) pl c2 _ _ = evalK P (mkEnv l) pl c2 _ _
        congr 1
        funext e st
        cases e with
        | normal => exact e3 _ _ st
        | ret => exact e3 _ _ st
        | panic x => exact e3 _ _ st
        | exit i => rfl
      | _ => rfl
    exact e4 ▸ h1
  · cases e with
    | returned v =>
      obtain ⟨x, b', r', M', hK, hI, hC, hx⟩ := he
      simp only [outK] at hK
      split at hK
      · rename_i y hy
        obtain ⟨h1, h2⟩ := toO_rep hI hx hy
        rw [hC.no] at h1
        exact ⟨y, hK, hI.keep, h1, h2⟩
      · exact hK.elim
    | panicked ch =>
      obtain ⟨x, b', r', M', u, hK, rfl, hI, hC, hx⟩ := he
      simp only [outK] at hK
      split at hK
      · rename_i y hy
        obtain ⟨h1, h2⟩ := toO_rep hI hx hy
        rw [hC.no] at h1
        exact ⟨y, u, hK, rfl, hI.keep, h1, h2⟩
      · exact hK.elim
    | outgrown => exact he.elim
end Go.PE
