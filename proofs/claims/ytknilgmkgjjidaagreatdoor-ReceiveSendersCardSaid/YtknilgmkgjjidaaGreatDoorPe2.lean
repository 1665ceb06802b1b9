/- Joined: PeK, PeL, PeM, PeN, PeO, PeP, PeQ, PeR, PeS, PeSb, PeSc, PeX, PeY, PeZ, PeZb, PeT. -/
import Derived.Test.YtknilgmkgjjidaaGreatDoorPe1
import Derived.Lib.Strings
import Derived.Laws.MakeOwn
import Derived.Lib.AppendZeros
import Derived.Tactics
import Derived.Orders
import Derived.Lib.SlBytesConst
import Derived.Great.BuildSlice
import Derived.Deep.LoopGhost
section
/- The evaluator is right, 7: slices, conversions, builtins (see PeA, PeD). -/
set_option linter.unusedVariables false
set_option linter.unusedSimpArgs false
namespace Go.PE
open Go

section
variable {P : Program} {w0 : World} {F : List Nat} {M : Mem} {st : St} {w : World} {K : AV → St → Prop}

theorem bin_sound {op : BinOp} {t : TypeId} {x y : Operand} {a b : AV} {u v : Value} (h : Inv w0 F M st.b st.r w) (hx : RepA w M st.r u a) (hy : RepA w M st.r v b) (hs : (binR P op (isC x || isC y) t a b st).sem K) :
    OpOk P w0 F M st.t st.r w (do eqGuard op t x y u v; binOp op t u v) K := by
  unfold binR at hs
  split at hs
  · have e1 := hx.d_inv
    have e2 := hy.d_inv
    cases e1; cases e2
    exact int_sound h hs
  · have e1 := hx.d_inv
    have e2 := hy.d_inv
    cases e1; cases e2
    exact str_sound h hs
  · split at hs
    · exact eq_sound (neg := false) h hx.d_inv hy.d_inv hs
    · exact eq_sound (neg := true) h hx.d_inv hy.d_inv hs
    · exact hs.elim
  · rename_i es
    split at hs
    · rename_i hk
      obtain ⟨e, hu⟩ := kd_slice hk
      have hr := hx.d_inv
      cases hy
      cases hr with
      | list A n c sz _ f hn hc hz ha h1 hrep =>
        have heq : (Op.equal t (.slice A n c) (.slice none 0 0)).run P w = .ok A.isNone w := by
          show (Op.equalIn (9999 + 1) t _ _).run P w = _
          rw [Op.equalIn]
          cases A <;> simp [run_underlying hu]
        have hne : es ≠ [] → A.isNone = false := by
          intro h0
          have : 0 < n := by rw [hn]; exact List.length_pos_iff.2 h0
          obtain ⟨a, e, -⟩ := ha this
          rw [e]; rfl
        split at hs
        · simp only [Res.sem, true_and] at hs
          exact ok_stay h (hs A.isNone hne) (u := .bool A.isNone) (by simp [eqGuard, binOp, heq]) (.d _ _ (.bool _))
        · simp only [Res.sem, true_and] at hs
          exact ok_stay h (hs (!A.isNone) (fun h0 => by rw [hne h0]; rfl)) (u := .bool (!A.isNone)) (by simp [eqGuard, binOp, heq]) (.d _ _ (.bool _))
        · exact hs.elim
    · exact hs.elim
  · split at hs
    · rename_i hk
      obtain ⟨e, hu⟩ := kd_slice hk
      cases hx
      cases hy
      have heq : (Op.equal t (.slice none 0 0) (.slice none 0 0)).run P w = .ok true w := by
        show (Op.equalIn (9999 + 1) t _ _).run P w = _
        rw [Op.equalIn]
        simp [run_underlying hu]
      split at hs
      · simp only [Res.sem, true_and] at hs
        exact ok_stay h hs (u := .bool true) (by simp [eqGuard, binOp, heq]) (.d _ _ (.bool _))
      · simp only [Res.sem, true_and] at hs
        exact ok_stay h hs (u := .bool false) (by simp [eqGuard, binOp, heq]) (.d _ _ (.bool _))
      · exact hs.elim
    · exact hs.elim
  · exact hs.elim

theorem bound_run {d : Int} {o : Option AV} {u : Option Value} {l : Int} (h : boundA d o = some l) (hr : ∀ a v, o = some a → u = some v → RepA w M st.r v a) (hn : o.isSome = u.isSome) :
    (u = none ∧ l = d) ∨ ∃ k, u = some (.int k l) := by
  cases o with
  | none =>
    cases u with
    | none => simp [boundA] at h; exact .inl ⟨rfl, h.symm⟩
    | some v => simp at hn
  | some a =>
    cases u with
    | none => simp at hn
    | some v =>
      have := hr a v rfl rfl
      unfold boundA at h
      split at h
      · rename_i e; cases e
      · rename_i k n e
        injection e with e
        subst e
        injection h with h
        subst h
        have := this.d_inv
        cases this
        exact .inr ⟨k, rfl⟩
      · cases h

theorem run_bounds (isSlice : Bool) (n c : Nat) (lo hi : Option Value) (l h : Int) (hl : (lo = none ∧ l = 0) ∨ ∃ k, lo = some (.int k l)) (hh : (hi = none ∧ h = n) ∨ ∃ k, hi = some (.int k h)) (h0 : 0 ≤ l) (h1 : l ≤ h) (h2 : h ≤ n) (h3 : n ≤ c) :
    (Instr.sliceBounds isSlice n c lo hi none).run P w = .ok (l.toNat, h.toNat, c) w := by
  have a1 : ∀ k, (Instr.sliceBound (.int k h) c (if isSlice then .sliceAcap else .sliceAlen)).run P w = .ok h.toNat w := fun k => by
    have : 0 ≤ h ∧ h ≤ (c : Int) := by omega
    simp [Instr.sliceBound, asIntOf, this]
  have a2 : ∀ k, (Instr.sliceBound (.int k l) h.toNat .sliceB).run P w = .ok l.toNat w := fun k => by
    have : 0 ≤ l ∧ l ≤ ((h.toNat : Nat) : Int) := by omega
    simp only [Instr.sliceBound, asIntOf, Sem.run_bind, Sem.run_pure, Result.andThen_ok]
    rw [if_pos this]; rfl
  rcases hl with ⟨rfl, rfl⟩ | ⟨kl, rfl⟩ <;> rcases hh with ⟨rfl, rfl⟩ | ⟨kh, rfl⟩
  · simp [Instr.sliceBounds]
  · simp only [Instr.sliceBounds, Sem.run_bind, Sem.run_pure, Result.andThen_ok, a1]; rfl
  · have a3 := a2 kl
    simp only [Int.toNat_natCast] at a3 ⊢
    simp [Instr.sliceBounds, a3]
  · have a3 := a2 kl
    simp only [Instr.sliceBounds, Sem.run_bind, Sem.run_pure, Result.andThen_ok, a1]
    simp [a3]

theorem list_slice {ok : Addr → Prop} {u : Value} {es : List (List D)} (hr : Rep w ok u (.list es)) {n c : Nat} {A : Option Addr} (hu : u = .slice A n c) (l h sz : Nat) (h1 : l ≤ h) (h2 : h ≤ es.length) (hsz : ∀ e ∈ es, e.length = sz) :
    Rep w ok (.slice (if c = l then A else A.map (·.add (l * sz))) (h - l) (c - l)) (.list ((es.take h).drop l)) := by
  cases hr with
  | list A' n' c' sz' es' f hn hc hz ha hone hrep =>
    injection hu with e1 e2 e3
    subst e1; subst e2; subst e3
    subst hn
    have hlen : ((es.take h).drop l).length = h - l := by simp; omega
    have hget : ∀ i, i < h - l → ((es.take h).drop l).getD i [] = es.getD (l + i) [] := fun i hi => by
      simp only [List.getD, List.getElem?_drop, List.getElem?_take]
      rw [if_pos (by omega)]
    have hszz : 0 < es.length → sz' = sz := fun h0 => by
      have e1 := hz 0 h0
      have e2 : es.getD 0 [] = es[0] := by simp [List.getD, h0]
      rw [e2, hsz _ (List.getElem_mem h0)] at e1
      exact e1.symm
    refine .list _ _ _ sz' _ (fun i j => f (l + i) j) hlen.symm ⟨by have := hc.1; omega, by have := hc.2; omega⟩ (fun i hi => by rw [hget i hi]; exact hz _ (by omega)) (fun h0 => ?_)
      (fun i j hi hj => hone _ _ (by omega) hj) (fun i j hi hj => by rw [hget i hi]; exact hrep _ _ (by omega) hj)
    obtain ⟨a, rfl, hsp, hcell⟩ := ha (by omega)
    have hcl : ¬ c' = l := by have := hc.1; omega
    refine ⟨a.add (l * sz), by rw [if_neg hcl]; rfl, by unfold Addr.add; split <;> simp [hsp], fun i j hi hj => ?_⟩
    rw [add_lit' a hsp, ← hszz (by omega)]
    have := hcell (l + i) j (by omega) hj
    rwa [show l * sz' + (i * sz' + j) = (l + i) * sz' + j by rw [Nat.add_mul]; omega]

theorem run_bounds3 (n c : Nat) (lo : Option Value) (k k' : IntKind) (l h q : Int) (hl : (lo = none ∧ l = 0) ∨ ∃ k, lo = some (.int k l)) (h0 : 0 ≤ l) (h1 : l ≤ h) (h2 : h ≤ q) (h3 : q ≤ c) :
    (Instr.sliceBounds true n c lo (some (.int k h)) (some (.int k' q))).run P w = .ok (l.toNat, h.toNat, q.toNat) w := by
  have a0 : (Instr.sliceBound (.int k' q) c .slice3Acap).run P w = .ok q.toNat w := by
    have : 0 ≤ q ∧ q ≤ (c : Int) := by omega
    simp [Instr.sliceBound, asIntOf, this]
  have a1 : (Instr.sliceBound (.int k h) q.toNat .slice3B).run P w = .ok h.toNat w := by
    have : 0 ≤ h ∧ h ≤ ((q.toNat : Nat) : Int) := by omega
    simp only [Instr.sliceBound, asIntOf, Sem.run_bind, Sem.run_pure, Result.andThen_ok]
    rw [if_pos this]; rfl
  have a2 : ∀ k, (Instr.sliceBound (.int k l) h.toNat .slice3C).run P w = .ok l.toNat w := fun k => by
    have : 0 ≤ l ∧ l ≤ ((h.toNat : Nat) : Int) := by omega
    simp only [Instr.sliceBound, asIntOf, Sem.run_bind, Sem.run_pure, Result.andThen_ok]
    rw [if_pos this]; rfl
  rcases hl with ⟨rfl, rfl⟩ | ⟨kl, rfl⟩
  · simp [Instr.sliceBounds, a0, a1]
  · have a3 := a2 kl
    simp [Instr.sliceBounds, a0, a1, a3]
theorem list_cap {ok : Addr → Prop} {u : Value} {es : List (List D)} (hr : Rep w ok u (.list es)) {n c : Nat} {A : Option Addr} (hu : u = .slice A n c) (h q : Nat) (h1 : h ≤ es.length) (h2 : h ≤ q) (h3 : q ≤ maxLen) :
    Rep w ok (.slice A h q) (.list (es.take h)) := by
  cases hr with
  | list A' n' c' sz' es' f hn hc hz ha hone hrep =>
    injection hu with e1 e2 e3
    subst e1; subst e2; subst e3
    subst hn
    have hget : ∀ i, i < h → (es.take h).getD i [] = es.getD i [] := fun i hi => by
      simp only [List.getD, List.getElem?_take]
      rw [if_pos hi]
    exact .list _ _ _ sz' _ f (by simp; omega) ⟨h2, h3⟩ (fun i hi => by rw [hget i hi]; exact hz _ (by omega)) (fun h0 => by
      obtain ⟨a, e, hsp, hcell⟩ := ha (by omega)
      exact ⟨a, e, hsp, fun i j hi hj => hcell i j (by omega) hj⟩) (fun i j hi hj => hone _ _ (by omega) hj) (fun i j hi hj => by rw [hget i hi]; exact hrep _ _ (by omega) hj)
theorem slice_sound {t : TypeId} {x : AV} {lo hi mx : Option AV} {u : Value} {ulo uhi umx : Option Value} (h : Inv w0 F M st.b st.r w) (hx : RepA w M st.r u x)
    (hlo : ∀ a v, lo = some a → ulo = some v → RepA w M st.r v a) (hln : lo.isSome = ulo.isSome) (hhi : ∀ a v, hi = some a → uhi = some v → RepA w M st.r v a) (hhn : hi.isSome = uhi.isSome) (hmx : ∀ a v, mx = some a → umx = some v → RepA w M st.r v a) (hmn : mx.isSome = umx.isSome)
    (hs : (sliceR P t x lo hi mx st).sem K) : OpOk P w0 F M st.t st.r w (Instr.sliceAt t u ulo uhi umx) K := by
  unfold sliceR at hs
  split at hs
  · -- data
    rename_i es
    have hmx : umx = none := by cases umx <;> simp_all
    subst hmx
    split at hs
    · rename_i l hh hl hh'
      split at hs
      · split at hs
        · rename_i e n y hsl
          obtain ⟨inf, z, hu, hin, hz, hzs, hp, _, rfl, _⟩ := sl_spec hsl
          simp only [Res.sem] at hs
          obtain ⟨⟨⟨h0, h1, h2⟩, hsz⟩, hK⟩ := hs
          have hr := hx.d_inv
          have hr' := hr
          cases hr with
          | list A m c sz _ f hn hc hzz ha hone hrep =>
            subst hn
            have hb := run_bounds (P := P) (w := w) true es.length c ulo uhi l hh (bound_run hl hlo hln) (bound_run hh' hhi hhn) h0 h1 h2 hc.1
            refine ok_stay h hK (u := .slice (if c = l.toNat then A else A.map (·.add (l.toNat * inf.size))) (hh.toNat - l.toNat) (c - l.toNat)) ?_ (.d _ _ (list_slice hr' rfl l.toNat hh.toNat inf.size (by omega) (by omega) hsz))
            simp [Instr.sliceAt, run_underlying hu, Instr.slice, hb, sizeOf, typeInfo, hin]
        · exact hs.elim
      · exact hs.elim
    · exact hs.elim
  · rename_i id m
    have hmx : umx = none := by cases umx <;> simp_all
    subst hmx
    split at hs
    · rename_i A hA
      split at hs
      · rename_i l hh hl hh'
        split at hs
        · rename_i e n y hsl
          obtain ⟨inf, z, hu, hin, hz, hzs, hp, _, rfl, _⟩ := sl_spec hsl
          split at hs
          · exact hs.elim
          rename_i hnz
          simp only [Res.sem] at hs
          obtain ⟨⟨⟨h0, h1, h2⟩, hm, hsz⟩, hK⟩ := hs
          obtain ⟨hI, hc⟩ := h.share1 id
          have hsh : ∃ A', (share1 st.r id)[id]? = some A' ∧ A'.es = A.es ∧ A'.sh = true ∧ A'.sz = A.sz := by
            unfold share1
            rw [hA]
            exact ⟨_, set_at hA, rfl, rfl, rfl⟩
          obtain ⟨A', hA', ee, es', ez⟩ := hsh
          have hr := hI.rowData id A' hA' es' (by rw [ez]; exact hnz)
          rw [ee] at hr
          cases hx with
          | arr _ _ _ h1' hv =>
            obtain ⟨A2, hA2, _, hv⟩ := hv
            rw [hA] at hA2
            injection hA2 with hA2
            subst hA2
            have e := hv hm
            rw [← e] at hr
            obtain ⟨_, hel, _⟩ := h.row id A hA
            rw [Arr.w_of hnz] at hel
            have hr' := hr
            cases hr with
            | list B m' c sz _ f hn hcc hzz ha hone hrep =>
              have hn' : m' = A.es.length := hn
              subst hn'
              have hb := run_bounds (P := P) (w := w) true A.es.length c ulo uhi l hh (bound_run (st := st) hl hlo hln) (bound_run (st := st) hh' hhi hhn) h0 h1 h2 hcc.1
              refine OpOk.chg hc (ok_stay (st := { st with r := share1 st.r id }) hI hK (u := .slice (if c = l.toNat then B else B.map (·.add (l.toNat * inf.size))) (hh.toNat - l.toNat) (c - l.toNat)) ?_
                (.d _ _ (list_slice hr' rfl l.toNat hh.toNat inf.size (by omega) (by omega) (fun e he => by rw [hel e he, hsz]))))
              simp [Instr.sliceAt, run_underlying hu, Instr.slice, hb, sizeOf, typeInfo, hin]
        · exact hs.elim
      · exact hs.elim
    · exact hs.elim
  · rename_i s
    have hmx : umx = none := by cases umx <;> simp_all
    subst hmx
    split at hs
    · rename_i l hh hl hh'
      split at hs
      · rename_i hk
        have hu := kd_string hk
        simp only [Res.sem] at hs
        obtain ⟨⟨h0, h1, h2⟩, hK⟩ := hs
        have hr := hx.d_inv
        cases hr with
        | str s =>
          have hsz : s.data.toList.length = s.size := by simp
          rw [hsz] at h2 hh'
          have hb := run_bounds (P := P) (w := w) false s.size s.size ulo uhi l hh (bound_run hl hlo hln) (bound_run hh' hhi hhn) h0 h1 h2 (Nat.le_refl _)
          refine ok_stay h hK (u := .string (s.extract l.toNat hh.toNat)) ?_ (str_rep _ ?_)
          · simp [Instr.sliceAt, run_underlying hu, Instr.slice, hb]
          · rw [Lib.extract_data, List.drop_take]
      · exact hs.elim
    · exact hs.elim
  · have hmx : umx = none := by cases umx <;> simp_all
    subst hmx
    split at hs
    · rename_i l hh hl hh'
      split at hs
      · rename_i p hsl
        obtain ⟨e, n, y⟩ := p
        obtain ⟨inf, z, hu, hin, hz, hzs, hp, _, rfl, _⟩ := sl_spec hsl
        simp only [Res.sem] at hs
        obtain ⟨⟨rfl, rfl⟩, hK⟩ := hs
        cases hx
        have hb := run_bounds (P := P) (w := w) true 0 0 ulo uhi 0 0 (bound_run (st := st) hl hlo hln) (bound_run (st := st) hh' hhi hhn) (by omega) (by omega) (by omega) (Nat.le_refl _)
        refine ok_stay h hK (u := .slice none 0 0) ?_ .nilS
        simp [Instr.sliceAt, run_underlying hu, Instr.slice, hb, sizeOf, typeInfo, hin]
      · exact hs.elim
    · exact hs.elim
  · rename_i mv
    obtain ⟨um, rfl⟩ : ∃ v, umx = some v := by
      cases umx with
      | none => simp at hmn
      | some v => exact ⟨v, rfl⟩
    have hmr := hmx _ _ rfl rfl
    unfold slice3R at hs
    split at hs
    · rename_i es kq q
      have hmr := hmr.d_inv
      cases hmr
      split at hs
      · rename_i l hh hl hh'
        split at hs
        · rename_i e n y hsl
          obtain ⟨inf, z, hu, hin, hz, hzs, hp, _, rfl, _⟩ := sl_spec hsl
          split at hs
          · rename_i hk6
            simp only [Res.sem] at hs
            obtain ⟨⟨⟨h0, h1, h2, h3⟩, hsz⟩, hK⟩ := hs
            have hr := hx.d_inv
            have hr' := hr
            have hbh := bound_run (st := st) hh' hhi hhn
            have huh : uhi.isSome = true := by rw [← hhn]; exact hk6.2
            obtain ⟨kh, rfl⟩ : ∃ k, uhi = some (.int k hh) := by
              rcases hbh with ⟨e, _⟩ | h
              · rw [e] at huh; cases huh
              · exact h
            cases hr with
            | list A m c sz _ f hn hc hzz ha hone hrep =>
              subst hn
              have hb := run_bounds3 (P := P) (w := w) es.length c ulo kh kq l hh q (bound_run hl hlo hln) h0 h1 h2 (by have := hc.1; omega)
              have hcap := list_cap hr' rfl hh.toNat q.toNat (by omega) (by omega) (by have := hc.1; have := hc.2; omega)
              have hfin := list_slice hcap rfl l.toNat hh.toNat inf.size (by omega) (by simp; omega) (fun e he => hsz e (List.mem_of_mem_take he))
              rw [List.take_take, Nat.min_self] at hfin
              refine ok_stay h hK (u := .slice (if q.toNat = l.toNat then A else A.map (·.add (l.toNat * inf.size))) (hh.toNat - l.toNat) (q.toNat - l.toNat)) ?_ (by
                by_cases hq : hh = q
                · rw [if_pos hq]
                  subst hq
                  exact .full _ _ _ hfin
                · rw [if_neg hq]
                  exact .d _ _ hfin)
              simp [Instr.sliceAt, run_underlying hu, Instr.slice, hb, sizeOf, typeInfo, hin]
          · exact hs.elim
        · exact hs.elim
      · exact hs.elim
    · exact hs.elim
  · exact hs.elim

theorem not_iface {t : TypeId} (h3 : kd? P t ≠ 3) (h9 : kd? P t ≠ 9) : ∃ d, P.underlying t = some d ∧ ∀ ms, d ≠ .interface ms := by
  cases hu : P.underlying t with
  | none => simp [kd?, hu] at h9
  | some d =>
    refine ⟨d, rfl, fun ms e => ?_⟩
    subst e
    simp [kd?, hu] at h3
theorem assert_sound {ty xt : TypeId} {ok : Bool} {x : AV} {u : Value} (h : Inv w0 F M st.b st.r w) (hx : RepA w M st.r u x) (hs : (assertR P ty ok x st).sem K) : OpOk P w0 F M st.t st.r w (Instr.typeAssert u xt ty ok) K := by
  unfold assertR at hs
  split at hs
  · rename_i t d
    split at hs
    · rename_i hk
      obtain ⟨h3, h9, rfl⟩ := hk
      obtain ⟨dd, hu, hni⟩ := not_iface h3 h9
      simp only [Res.sem, true_and] at hs
      have hr := hx.d_inv
      cases hr with
      | iface _ v _ hv =>
        refine ok_stay h hs (u := .tuple #[v, .bool true]) ?_ (.tup _ _ rfl (fun i hi => ?_))
        · have hm : ∀ (A : Array (String × TypeId) → Sem Value) (B : Sem Value), (match dd with | .interface want => A want | _ => B) = B := by
            intro A B
            cases dd with
            | interface ms => exact absurd rfl (hni ms)
            | _ => rfl
          simp only [Instr.typeAssert, Sem.run_bind, run_underlying hu, Result.andThen_ok]
          cases dd with
          | interface ms => exact absurd rfl (hni ms)
          | _ => simp
        · have : i = 0 ∨ i = 1 := by simp at hi; omega
          rcases this with rfl | rfl
          · exact .d _ _ hv
          · exact .d _ _ (.bool true)
    · exact hs.elim
  · split at hs
    · rename_i h9
      split at hs
      · rename_i k hk
        simp only [Res.sem, true_and] at hs
        have hr := hx.d_inv
        cases hr
        obtain ⟨dd, hu⟩ : ∃ d, P.underlying ty = some d := by
          cases hu : P.underlying ty with
          | none => simp [kd?, hu] at h9
          | some d => exact ⟨d, rfl⟩
        have hz : (zeroValue ty).run P w = .ok (.int k 0) w := by
          unfold zi? at hk
          split at hk
          · rename_i i hi
            split at hk
            · rename_i k' n hzz
              split at hk
              · rename_i hn
                injection hk with hk
                subst hk hn
                simp [zeroValue, typeInfo, hi, hzz]
              · cases hk
            · cases hk
          · cases hk
        refine ok_stay h hs (u := .tuple #[.int k 0, .bool false]) ?_ (.tup _ _ rfl (fun i hi => ?_))
        · simp only [Instr.typeAssert, Sem.run_bind, run_underlying hu, Result.andThen_ok]
          cases dd <;> simp [hz]
        · have : i = 0 ∨ i = 1 := by simp at hi; omega
          rcases this with rfl | rfl
          · exact .d _ _ (.int _ _)
          · exact .d _ _ (.bool false)
      · exact hs.elim
    · exact hs.elim
  · exact hs.elim

theorem bytes_spec : ∀ {es : List (List D)} {l : List UInt8}, bytesD es = some l → ∃ ns : List Int, es = ns.map (fun n => [.int .u8 n]) ∧ l = ns.map fun n => UInt8.ofNat n.toNat
  | [], l, h => by simp [bytesD] at h; subst h; exact ⟨[], rfl, rfl⟩
  | e :: es, l, h => by
    unfold bytesD at h
    split at h
    · rename_i e1; cases e1
    · rename_i n l' e1
      injection e1 with e1 e2
      subst e1; subst e2
      simp only [Option.map_eq_some_iff] at h
      obtain ⟨l2, h2, rfl⟩ := h
      obtain ⟨ns, rfl, rfl⟩ := bytes_spec h2
      exact ⟨n :: ns, rfl, rfl⟩
    · cases h

theorem kd_some {t : TypeId} (h : kd? P t ≠ 9) : (P.underlying t).isSome = true := by
  cases hu : P.underlying t with
  | none => simp [kd?, hu] at h
  | some d => rfl

theorem conv_sound {s t : TypeId} {x : AV} {u : Value} (h : Inv w0 F M st.b st.r w) (hx : RepA w M st.r u x) (hs : (convR P s t x st).sem K) : OpOk P w0 F M st.t st.r w (convert s t u) K := by
  unfold convR at hs
  split at hs
  · exact hs.elim
  rename_i h9
  have hex := kd_some h9
  split at hs
  · split at hs
    · rename_i k hk
      have hu := kd_int hk
      simp only [Res.sem, true_and] at hs
      have := hx.d_inv
      cases this
      obtain ⟨ds, hds⟩ := Option.isSome_iff_exists.1 hex
      exact ok_stay h hs (u := .int k _) (by simp [convert, run_underlying hds, run_underlying hu, Conv.intToInt]) (.d _ _ (.int _ _))
    · exact hs.elim
  · split at hs
    · rename_i hk
      have h1 := kd_string hk.1
      have h2 := kd_string hk.2
      simp only [Res.sem, true_and] at hs
      have hr := hx.d_inv
      cases hr
      exact ok_stay h hs (u := .string _) (by simp [convert, run_underlying h1, run_underlying h2]) hx
    · exact hs.elim
  · split at hs
    · rename_i hk
      have hd := kd_string hk
      have hr1 : ∀ k, k < [x].length → RepA w M st.r u ([x].getD k .undef) := fun k hk => by
        have e : k = 0 := by simpa using hk
        subst e
        exact hx
      obtain ⟨ds, hs, hl, hI, hc, hrep⟩ := toDR_sound h (fun _ => u) hr1 hs
      split at hs
      · rename_i es e n y hsl
        obtain ⟨inf, z, hu, hin, hz, hzs, hp, _, rfl, _⟩ := sl_spec hsl
        split at hs
        · rename_i hk8
          have he8 : P.underlying e = some (.int .u8) := kd_int (k := .u8) (by rw [hk8]; rfl)
          split at hs
          · rename_i l hb
            simp only [Res.sem, true_and] at hs
            obtain ⟨ns, rfl, rfl⟩ := bytes_spec hb
            have hd0 := hrep 0 (by simp)
            refine OpOk.chg hc (ok_stay (st := { st with r := share st.r (arrIdsL [x]) }) hI hs (u := .string (strOfNums ns)) ?_ (str_rep _ (by simp [strOfNums])))
            have hd0' : Rep w (Okc M (share st.r (arrIdsL [x]))) u (.list (ns.map fun n => [.int .u8 n])) := hd0
            cases hd0' with
            | list A m c sz _ f hn hcc hzz ha hone hrr =>
              have hm : m = ns.length := by simpa using hn
              subst hm
              rcases Nat.eq_zero_or_pos ns.length with h0 | h0
              · have hnil : ns = [] := List.eq_nil_of_length_eq_zero h0
                subst hnil
                rw [run_convert_bytes_string w s t e A _ c hu he8 hd]
                cases A <;> simp [Conv.bytesToString, loadCells, loadCellsFrom, strOfNums] <;> rfl
              · obtain ⟨a, rfl, hsp, hcell⟩ := ha h0
                obtain ⟨b, o, sp⟩ := a
                simp at hsp
                subst hsp
                have hgd : ∀ i, i < ns.length → (ns.map fun n => [D.int .u8 n]).getD i [] = [D.int .u8 (ns.getD i 0)] := fun i hi => by simp [List.getD, hi]
                have hsz : sz = 1 := by rw [← hzz 0 h0, hgd 0 h0]; rfl
                subst hsz
                refine run_convert_bytes_arg (w := w) s e hu he8 b o ns.length c ns rfl (fun i hi => ?_) t hd
                have h1 := (hcell i 0 hi (by omega)).1
                have h2 := hrr i 0 hi (by omega)
                rw [hgd i hi] at h2
                rw [Addr.add_lit] at h1
                generalize f i 0 = v at h1 h2
                have h2' : Rep w (Okc M (share st.r (arrIdsL [x]))) v (.int .u8 (ns.getD i 0)) := h2
                cases h2'
                simpa using h1
          · exact hs.elim
        · exact hs.elim
      · exact hs.elim
    · exact hs.elim

theorem len_sound {t : TypeId} {x : AV} {u : Value} (h : Inv w0 F M st.b st.r w) (hx : RepA w M st.r u x) (hs : (lenR P t x st).sem K) : OpOk P w0 F M st.t st.r w (Builtin.len_ #[t] 0 #[u]) K := by
  have hslice : kd? P t = 6 → ∀ A n c, (Builtin.len_ #[t] 0 #[.slice A n c]).run P w = .ok (.int .i64 n) w := fun hk A n c => by
    obtain ⟨e, hu⟩ := kd_slice hk
    simp [Builtin.len_, run_underlying hu, goInt]
  unfold lenR at hs
  split at hs
  · split at hs
    · rename_i hk
      simp only [Res.sem, true_and] at hs
      have hr := hx.d_inv
      cases hr with
      | list A n c sz es f hn hc hz ha h1 hr =>
        subst hn
        exact ok_stay h hs (hslice hk _ _ _) (.d _ _ (.int _ _))
    · exact hs.elim
  · split at hs
    · rename_i hk
      simp only [Res.sem, true_and] at hs
      cases hx
      exact ok_stay h hs (hslice hk _ _ _) (.d _ _ (.int _ _))
    · exact hs.elim
  · split at hs
    · rename_i hk
      split at hs
      · rename_i A hA
        simp only [Res.sem] at hs
        cases hx with
        | arr _ _ _ h1 hv =>
          obtain ⟨A2, hA2, _, hv⟩ := hv
          rw [hA] at hA2
          injection hA2 with hA2
          subst hA2
          have e := hv hs.1
          obtain ⟨_, _, xs, ho, _⟩ := h.row _ A hA
          rcases ho.2 with ⟨e1, e2⟩ | ⟨g, cap, cur, o, e1, _⟩
          · rw [e, e1]
            refine ok_stay h hs.2 (u := .int .i64 _) (by rw [hslice hk, hs.1, e2]) (.d _ _ (.int _ _))
          · rw [e, e1]
            refine ok_stay h hs.2 (u := .int .i64 _) (by rw [hslice hk, hs.1]) (.d _ _ (.int _ _))
      · exact hs.elim
    · exact hs.elim
  · split at hs
    · rename_i hk
      have hu := kd_string hk
      simp only [Res.sem, true_and] at hs
      have hr := hx.d_inv
      cases hr
      refine ok_stay h hs (u := .int .i64 _) (by simp [Builtin.len_, run_underlying hu, goInt]) (.d _ _ (.int _ _))
    · exact hs.elim
  · split at hs
    · rename_i hk
      simp only [Res.sem, true_and] at hs
      cases hx
      exact ok_stay h hs (hslice hk _ _ _) (.d _ _ (.int _ _))
    · exact hs.elim
  · split at hs
    · rename_i hk
      simp only [Res.sem, true_and] at hs
      cases hx with
      | full A n es hr =>
        cases hr with
        | list A n c sz es f hn hc hz ha h1 hr =>
          subst hn
          exact ok_stay h hs (hslice hk _ _ _) (.d _ _ (.int _ _))
    · exact hs.elim
  · exact hs.elim

theorem mm_sound {mx : Bool} {x y : AV} {u v : Value} {ats : Array TypeId} {t : TypeId} (h : Inv w0 F M st.b st.r w) (hx : RepA w M st.r u x) (hy : RepA w M st.r v y) (hs : (mmR mx x y st).sem K) :
    OpOk P w0 F M st.t st.r w (if mx then Builtin.max_ ats t #[u, v] else Builtin.min_ ats t #[u, v]) K := by
  unfold mmR at hs
  split at hs
  · rename_i k a k' b
    simp only [Res.sem, true_and] at hs
    have e1 := hx.d_inv
    have e2 := hy.d_inv
    cases e1; cases e2
    cases mx
    · refine ok_stay h hs (u := .int k (min a b)) ?_ (.d _ _ (.int _ _))
      simp [Builtin.min_, Builtin.min2]
      rw [Int.min_def]
      split <;> split <;> first | rfl | omega
    · refine ok_stay h hs (u := .int k (max a b)) ?_ (.d _ _ (.int _ _))
      simp [Builtin.max_, Builtin.max2]
      rw [Int.max_def]
      split <;> split <;> first | rfl | omega
  · rename_i a b
    cases mx
    · simp only [Res.sem, true_and, Bool.false_eq_true, if_false] at hs
      have e1 := hx.d_inv
      have e2 := hy.d_inv
      cases e1 with
      | str s =>
        cases e2 with
        | str s' =>
          have ea : s.toList = s.data.toList := ByteArray.toList_eq s
          have eb : s'.toList = s'.data.toList := ByteArray.toList_eq s'
          cases e : (Op.bytesLess s.data.toList s'.data.toList || decide (s.data.toList = s'.data.toList))
          · rw [e] at hs
            refine ok_stay h hs (u := .string s') ?_ (str_rep _ (by simp))
            have e' : (Op.stringOp .leq s s').run P w = .ok (.bool false) w := by simp only [Op.stringOp, ea, eb, beq_dec, e]; rfl
            simp [Builtin.min_, Builtin.min2, e', asBool]
          · rw [e] at hs
            refine ok_stay h hs (u := .string s) ?_ (str_rep _ (by simp))
            have e' : (Op.stringOp .leq s s').run P w = .ok (.bool true) w := by simp only [Op.stringOp, ea, eb, beq_dec, e]; rfl
            simp [Builtin.min_, Builtin.min2, e', asBool]
    · simp only [Res.sem, true_and, if_true] at hs
      have e1 := hx.d_inv
      have e2 := hy.d_inv
      cases e1 with
      | str s =>
        cases e2 with
        | str s' =>
          have ea : s.toList = s.data.toList := ByteArray.toList_eq s
          have eb : s'.toList = s'.data.toList := ByteArray.toList_eq s'
          cases e : Op.bytesLess s.data.toList s'.data.toList
          · rw [e] at hs
            refine ok_stay h hs (u := .string s) ?_ (str_rep _ (by simp))
            have e' : (Op.stringOp .geq s s').run P w = .ok (.bool true) w := by simp only [Op.stringOp, ea, eb, beq_dec, e]; rfl
            simp [Builtin.max_, Builtin.max2, e', asBool]
          · rw [e] at hs
            refine ok_stay h hs (u := .string s') ?_ (str_rep _ (by simp))
            have e' : (Op.stringOp .geq s s').run P w = .ok (.bool false) w := by simp only [Op.stringOp, ea, eb, beq_dec, e]; rfl
            simp [Builtin.max_, Builtin.max2, e', asBool]
  · exact hs.elim
end
end Go.PE
end

section
/- The evaluator is right, 8: append, make (see PeA, PeD). -/
set_option linter.unusedVariables false
set_option linter.unusedSimpArgs false
namespace Go.PE
open Go

section
variable {P : Program} {w0 : World} {F : List Nat} {M : Mem} {st : St} {w : World} {K : AV → St → Prop}

/-- What is appended, as cells. -/
def SrcOk (P : Program) (w : World) (M : Mem) (r : List Arr) (n : Nat) (tx : TypeId) (u : Value) (news : List (List D)) : Prop :=
  ∃ vals, Src P n tx u news.length vals w ∧ (∀ e ∈ news, e.length = n) ∧ ∀ k j, k < news.length → j < n → Rep w (Okc M r) (vals.getD (k * n + j) undef) ((news.getD k []).getD j .nilI)

theorem list_src {ok : Addr → Prop} {u : Value} {es : List (List D)} (hr : Rep w ok u (.list es)) (n : Nat) (hn : ∀ e ∈ es, e.length = n) {tx : TypeId} (hk : ∃ e', P.underlying tx = some (.slice e')) :
    ∃ vals, Src P n tx u es.length vals w ∧ ∀ k j, k < es.length → j < n → Rep w ok (vals.getD (k * n + j) undef) ((es.getD k []).getD j .nilI) := by
  obtain ⟨e', hk⟩ := hk
  cases hr with
  | list A m c sz _ f hm hc hz ha h1 hrep =>
    subst hm
    rcases Nat.eq_zero_or_pos es.length with h0 | h0
    · have hnil : es = [] := List.eq_nil_of_length_eq_zero h0
      subst hnil
      refine ⟨[], ?_, fun k j hk => absurd hk (by simp)⟩
      cases A with
      | none => exact Src.ofNil (w := w) hk c
      | some a => exact Src.ofSlice (w := w) hk a 0 c [] (by simp) (fun j u h => by simp at h) (fun u hu => by cases hu)
    · have hsz : sz = n := by
        have e1 := hz 0 h0
        have e2 : es.getD 0 [] = es[0] := by simp [List.getD, h0]
        rw [e2, hn _ (List.getElem_mem h0)] at e1
        exact e1.symm
      subst hsz
      obtain ⟨a, rfl, hsp, hcell⟩ := ha h0
      have hlens : ∀ v ∈ (List.range es.length).map (fun i => (List.range sz).map (f i)), v.length = sz := fun v hv => by
        obtain ⟨i, _, rfl⟩ := List.mem_map.1 hv
        simp
      have hget : ∀ k j, k < es.length → j < sz → (((List.range es.length).map (fun i => (List.range sz).map (f i))).flatten).getD (k * sz + j) undef = f k j := fun k j hk' hj => by
        rw [getD_flat sz (by omega) _ k j undef hlens (by simpa using hk') hj]
        simp [List.getD, hk', hj]
      have hlen : (((List.range es.length).map (fun i => (List.range sz).map (f i))).flatten).length = es.length * sz := by
        rw [List.length_flatten]
        have : ((List.range es.length).map (fun i => (List.range sz).map (f i))).map List.length = List.replicate es.length sz := by
          apply List.ext_getElem
          · simp
          · intro i h1 h2; simp
        rw [this]; simp
      have hdec : ∀ q, q < es.length * sz → ∃ k j, k < es.length ∧ j < sz ∧ q = k * sz + j := fun q hq => by
        have hp : 0 < sz := by
          rcases Nat.eq_zero_or_pos sz with h | h
          · subst h; simp at hq
          · exact h
        exact ⟨q / sz, q % sz, Nat.div_lt_of_lt_mul (by rw [Nat.mul_comm]; exact hq), Nat.mod_lt _ hp, by rw [Nat.mul_comm]; exact (Nat.div_add_mod q sz).symm⟩
      refine ⟨_, Src.ofSlice (w := w) hk a es.length c _ hlen (fun q u hq => ?_) (fun u hu => ?_), fun k j hk' hj => by rw [hget k j hk' hj]; exact hrep k j hk' hj⟩
      · have hq' := (List.getElem?_eq_some_iff.1 hq).1
        rw [hlen] at hq'
        obtain ⟨k, j, hk', hj, rfl⟩ := hdec q hq'
        have e1 := hget k j hk' hj
        simp only [List.getD, hq, Option.getD_some] at e1
        rw [e1]
        exact (hcell k j hk' hj).1
      · obtain ⟨q, hq, rfl⟩ := List.getElem_of_mem hu
        have hq' := hq
        rw [hlen] at hq'
        obtain ⟨k, j, hk', hj, e⟩ := hdec q hq'
        have e1 := hget k j hk' hj
        rw [← e] at e1
        simp only [List.getD, List.getElem?_eq_getElem hq, Option.getD_some] at e1
        rw [e1]
        exact h1 k j hk' hj

theorem src_ok {tx : TypeId} {n : Nat} {y : AV} {u : Value} {p : Prop} {news : List (List D)} (h : Inv w0 F M st.b st.r w) (hy : RepA w M st.r u y) (hs : srcA P tx n y st = some (p, news)) (hp : p) : SrcOk P w M st.r n tx u news := by
  unfold srcA at hs
  split at hs
  · split at hs
    · rename_i hk
      obtain ⟨e', hk⟩ := kd_slice hk
      simp only [Option.some.injEq, Prod.mk.injEq] at hs
      obtain ⟨_, rfl⟩ := hs
      cases hy
      exact ⟨[], Src.ofNil (w := w) hk 0, (fun e he => by cases he), fun k j hk => absurd hk (by simp)⟩
    · cases hs
  · split at hs
    · rename_i hk
      simp only [Option.some.injEq, Prod.mk.injEq] at hs
      obtain ⟨rfl, rfl⟩ := hs
      obtain ⟨vals, h1, h2⟩ := list_src (P := P) hy.d_inv n hp (kd_slice hk)
      exact ⟨vals, h1, hp, h2⟩
    · cases hs
  · split at hs
    · rename_i hk
      obtain ⟨e', hk⟩ := kd_slice hk
      split at hs
      · rename_i id m _ A hA
        split at hs
        · cases hs
        rename_i hnz
        simp only [Option.some.injEq, Prod.mk.injEq] at hs
        obtain ⟨rfl, rfl⟩ := hs
        obtain ⟨hm, hn⟩ := hp
        cases hy with
        | arr _ _ _ h1 hv =>
          obtain ⟨A2, hA2, _, hv⟩ := hv
          rw [hA] at hA2
          injection hA2 with hA2
          subst hA2
          have e := hv hm
          obtain ⟨hz, he, xs, ho, hx1, hxr⟩ := h.row _ A hA
          rw [Arr.w_of hnz] at he ho hxr
          subst hn
          refine ⟨xs, ?_, he, fun k j hk hj => (hxr k j hk hj).data hnz⟩
          rw [e]
          rcases ho.2 with ⟨e1, e2⟩ | ⟨g, cap, cur, o, e1, _⟩
          · have hxs : xs = [] := List.eq_nil_of_length_eq_zero (by rw [ho.1, e2]; simp)
            rw [e1, hxs, e2]
            exact Src.ofNil (w := w) hk 0
          · rw [e1]
            exact Src.ofSlice (w := w) hk _ _ _ xs ho.1 (fun j v hj => by
              have := ho.cells (g := g) (by rw [e1]; rfl) j v hj
              rw [e1] at this
              rw [Addr.add_mid]
              exact this) hx1
      · cases hs
    · cases hs
  · split at hs
    · rename_i hk
      have hu := kd_string hk
      simp only [Option.some.injEq, Prod.mk.injEq] at hs
      obtain ⟨rfl, rfl⟩ := hs
      subst hp
      have hr := hy.d_inv
      cases hr with
      | str s =>
        have hl : (s.data.toList.map byteCell).length = s.size := by simp
        refine ⟨byteCells s, by rw [hl]; exact Src.ofString (w := w) hu s, fun e he => ?_, fun k j hk hj => ?_⟩
        · obtain ⟨c, _, rfl⟩ := List.mem_map.1 he
          rfl
        · have hj0 : j = 0 := by omega
          subst hj0
          have hk' : k < s.data.toList.length := by simpa using hk
          have e1 : (byteCells s).getD (k * 1 + 0) undef = .int .u8 (s.data.toList[k].toNat : Int) := by
            simp only [byteCells, List.getD, Nat.mul_one, Nat.add_zero, List.getElem?_map, List.getElem?_eq_getElem hk', Option.map_some, Option.getD_some]
          have e2 : ((s.data.toList.map byteCell).getD k []).getD 0 .nilI = .int .u8 (s.data.toList[k].toNat : Int) := by
            have : (s.data.toList.map byteCell).getD k [] = byteCell s.data.toList[k] := by simp only [List.getD, List.getElem?_map, List.getElem?_eq_getElem hk', Option.map_some, Option.getD_some]
            rw [this]
            rfl
          rw [e1, e2]
          exact .int _ _
    · cases hs
  · cases hs

theorem lnkA_spec {r : List Arr} {x : AV} {id m : Nat} {A : Arr} (h : lnkA r x = some (id, m, A)) : x = .arr id m ∧ r[id]? = some A ∧ A.sz = 0 := by
  unfold lnkA at h
  split at h
  · split at h
    · rename_i B hB
      split at h
      · rename_i h0
        simp only [Option.some.injEq, Prod.mk.injEq] at h
        obtain ⟨rfl, rfl, rfl⟩ := h
        exact ⟨rfl, hB, h0⟩
      · cases h
    · cases h
  · cases h
theorem srcL_ok {tx : TypeId} {y : AV} {u : Value} {p : Prop} {news : List (List D)} {A : Arr} (h0 : A.sz = 0) (h : Inv w0 F M st.b st.r w) (hy : RepA w M st.r u y) (hs : srcL P tx st.r y = some (p, news)) (hp : p) :
    ∃ vals, Src P 1 tx u news.length vals w ∧ (∀ e ∈ news, e.length = 1) ∧ ∀ k j, k < news.length → j < 1 → RepC w M st.r A (vals.getD (k * 1 + j) undef) ((news.getD k []).getD j .nilI) := by
  unfold srcL at hs
  split at hs
  · split at hs
    · rename_i id m hk
      obtain ⟨e', hk⟩ := kd_slice hk
      split at hs
      · rename_i B hB
        simp only [Option.some.injEq, Prod.mk.injEq] at hs
        obtain ⟨rfl, rfl⟩ := hs
        obtain ⟨hm, hn⟩ := hp
        have hw : B.w = 1 := by
          unfold Arr.w
          split
          · rfl
          · omega
        cases hy with
        | arr _ _ _ h1 hv =>
          obtain ⟨A2, hA2, _, hv⟩ := hv
          rw [hB] at hA2
          injection hA2 with hA2
          subst hA2
          have e := hv hm
          obtain ⟨hz, he, xs, ho, hx1, hxr⟩ := h.row _ B hB
          rw [hw] at he ho hxr
          refine ⟨xs, ?_, he, fun k j hk hj => ?_⟩
          · rw [e]
            rcases ho.2 with ⟨e1, e2⟩ | ⟨g, cap, cur, o, e1, _⟩
            · have hxs : xs = [] := List.eq_nil_of_length_eq_zero (by simp [ho.1, e2])
              rw [e1, hxs, e2]
              exact Src.ofNil (w := w) hk 0
            · rw [e1]
              exact Src.ofSlice (w := w) hk _ _ _ xs ho.1 (fun j v hj => by
              have := ho.cells (g := g) (by rw [e1]; rfl) j v hj
              rw [e1] at this
              rw [Addr.add_mid]
              exact this) hx1
          · rcases hxr k j hk hj with h3 | ⟨_, h3⟩
            · exact .inl h3
            · exact .inr ⟨h0, h3⟩
      · cases hs
    · cases hs
  · cases hs

theorem const_toD {r : List Arr} {ok : Addr → Prop} (v : Value) {d : D} (h : toD r (constA v) = some d) : Rep w ok v d := by
  unfold constA at h
  split at h <;> simp [toD] at h <;> subst h
  · exact .int _ _
  · exact .bool _
  · exact .str _
  · exact .nilI
  · exact .list none 0 0 0 [] (fun _ _ => undef) rfl ⟨Nat.le_refl _, Nat.zero_le _⟩ (fun i hi => absurd hi (by omega)) (fun h => absurd h (by omega)) (fun i _ hi => absurd hi (by omega)) (fun i _ hi => absurd hi (by omega))
  · exact .raw _ trivial
  · exact .raw _ trivial
  · exact .raw _ trivial
theorem Nat.mul_add_mod_of_lt' {k n j : Nat} (h : j < n) : (k * n + j) % n = j := by
  rw [Nat.mul_comm, Nat.mul_add_mod, Nat.mod_eq_of_lt h]

theorem const_toDL {r : List Arr} {ok : Addr → Prop} : ∀ (l : List Value) {ds : List D}, toDL r (l.map constA) = some ds → ds.length = l.length ∧ ∀ i, i < l.length → Rep w ok (l.getD i undef) (ds.getD i .nilI)
  | [], ds, h => by simp [toDL] at h; subst h; exact ⟨rfl, fun i hi => absurd hi (by simp)⟩
  | v :: l, ds, h => by
    simp only [List.map_cons, toDL] at h
    split at h
    · rename_i d ds' h1 h2
      injection h with h
      subst h
      obtain ⟨hl, hr⟩ := const_toDL (ok := ok) l h2
      refine ⟨by simp [hl], fun i hi => ?_⟩
      cases i with
      | zero => exact const_toD v h1
      | succ i => exact hr i (by simpa using hi)
    · cases h

theorem zeros_sound {t tx ty e : TypeId} {inf : TypeInfo} {z : Value} {x y : AV} {u v : Value} (hu : P.underlying t = some (.slice e)) (hin : P.info? e = some inf) (hz : inf.zero = some z) (hzs : z.cells.size = inf.size) (hp : 0 < inf.size) (hb0 : 0 < inf.bytes)
    (h : Inv w0 F M st.b st.r w) (hx : RepA w M st.r u x) (hy : RepA w M st.r v y) (hs : (zerosR P tx e inf.size inf.bytes x y st).sem K) :
    OpOk P w0 F M st.t st.r w (Builtin.append_ #[t, tx] ty #[u, v]) K := by
  unfold zerosR at hs
  split at hs
  case h_2 => exact hs.elim
  rename_i kk k
  split at hs
  case h_2 => exact hs.elim
  rename_i ki zl hki hzl
  have htx := kd_int hki
  obtain ⟨i2, zv, hi2, hzv, rfl⟩ := zero_spec hzl
  rw [hin] at hi2
  injection hi2 with hi2
  subst hi2
  rw [hz] at hzv
  injection hzv with hzv
  subst hzv
  split at hs
  case h_2 => exact hs.elim
  rename_i ds hds
  simp only [Res.sem] at hs
  obtain ⟨⟨h0, h2, h3⟩, hK⟩ := hs
  have e2 := hy.d_inv
  cases e2
  cases hx
  obtain ⟨n, rfl⟩ : ∃ n : Nat, k = n := ⟨k.toNat, by omega⟩
  have hn0 : 0 < n := by omega
  have hnb : n * inf.bytes ≤ 140737488355328 := by
    have : ((n * inf.bytes : Nat) : Int) ≤ 140737488355328 := by simpa using h2
    omega
  have hnl : n ≤ 140737488355328 := Nat.le_trans (Nat.le_mul_of_pos_right _ hb0) hnb
  obtain ⟨hdl0, hdr⟩ := const_toDL (w := w) (ok := Okc M st.r) z.cells.toList hds
  have hdl : ds.length = inf.size := by rw [hdl0]; simpa using hzs
  have hr := Lib.run_append_nil_zeros (P := P) w t tx ty e inf z kk ki hu htx hin hz n hn0 hp (by omega) (by omega)
  have hge := grownCap_ge w n 0 e
  have hcm : grownCap w n 0 e ≤ maxLen := grownCap_le_maxLen w n 0 e (by simp only [maxLen]; omega)
  have hxl : (Builtin.zeroCells z.cells n).toList.length = n * inf.size := by
    rw [Array.length_toList, size_zeroCells, hzs]
  have hxg : ∀ q, q < n * inf.size → (Builtin.zeroCells z.cells n).toList[q]? = some (z.cells.toList.getD (q % inf.size) undef) := fun q hq => by
    have hm : q % inf.size < z.cells.size := by rw [hzs]; exact Nat.mod_lt _ hp
    have hq' : q < n * z.cells.size := by rw [hzs]; exact hq
    simp only [Builtin.zeroCells, Array.getElem?_toList, Array.getElem?_map, Array.getElem?_range, if_pos hq', Option.map_some]
    rw [hzs]
    simp [Array.getElem!_eq_getD, Array.getD, List.getD, hm]
  have hone : ∀ j, j < inf.size → (z.cells.toList.getD j undef).oneCell' = true := fun j hj => by
    have hj' : j < z.cells.toList.length := by simpa [hzs] using hj
    refine (hdr j hj').one ?_
    have e1 : ds.getD j .nilI = ds[j]'(by omega) := by
      have hj2 : j < ds.length := by omega
      simp [List.getD, hj2]
    rw [e1]
    exact List.all_eq_true.1 h3 _ (List.getElem_mem _)
  refine newRow_okR h (A := ⟨inf.size, e, List.replicate n ds, false⟩) hp (fun e' he' => by rw [(List.mem_replicate.1 he').2]; exact hdl) (w' := w.drew.alloc (.cells (Builtin.zeroCells z.cells n ++ Builtin.zeroCells z.cells (grownCap w n 0 e - n)) e)) ⟨rfl, rfl, rfl, by simp, fun k hk _ => heap_alloc_old w.drew _ hk⟩
    (u := .slice (some ⟨w.heap.size, 0, none⟩) n (grownCap w n 0 e)) (xs := (Builtin.zeroCells z.cells n).toList) ?_ (fun x hx => ?_) (fun k j hk hj => ?_) (fun g hg => by simp [Value.ownBlock] at hg; omega) hr (by simpa using hK)
  · simp only [List.length_replicate]
    refine ⟨hxl, .inr ⟨w.heap.size, _, _, 0, rfl, heap_alloc_new w.drew _, hge, hcm, ?_, ?_⟩⟩
    · rw [Nat.zero_add]
      simp only [Array.size_append, size_zeroCells, hzs, ← Nat.add_mul]
      refine Nat.le_of_eq ?_
      congr 1
      omega
    · rw [List.drop_zero]
      simp only [Array.toList_append]
      rw [← hxl]
      exact List.take_left
  · obtain ⟨q, hq, rfl⟩ := List.getElem_of_mem hx
    have hq' := hq
    rw [hxl] at hq'
    have e1 := hxg q hq'
    rw [List.getElem?_eq_getElem hq] at e1
    injection e1 with e1
    rw [e1]
    exact hone _ (Nat.mod_lt _ hp)
  · have hk' : k < n := by simpa using hk
    have hj' : j < inf.size := hj
    have hq : k * inf.size + j < n * inf.size := by
      calc k * inf.size + j < k * inf.size + inf.size := Nat.add_lt_add_left hj' _
        _ = (k + 1) * inf.size := by rw [Nat.add_mul, Nat.one_mul]
        _ ≤ n * inf.size := Nat.mul_le_mul_right _ hk'
    have e1 : (Builtin.zeroCells z.cells n).toList.getD (k * inf.size + j) undef = z.cells.toList.getD j undef := by
      have := hxg _ hq
      simp only [List.getD, this, Option.getD_some]
      rw [Nat.mul_add_mod_of_lt' hj']
    have e2 : (List.replicate n ds).getD k [] = ds := by simp [List.getD, hk']
    show Rep w _ ((Builtin.zeroCells z.cells n).toList.getD (k * inf.size + j) undef) (((List.replicate n ds).getD k []).getD j .nilI)
    rw [e1, e2]
    exact hdr j (by simpa [hzs] using hj')
theorem append_sound {t tx ty : TypeId} {x y : AV} {u v : Value} (h : Inv w0 F M st.b st.r w) (hx : RepA w M st.r u x) (hy : RepA w M st.r v y) (hs : (appendR P t tx x y st).sem K) :
    OpOk P w0 F M st.t st.r w (Builtin.append_ #[t, tx] ty #[u, v]) K := by
  unfold appendR at hs
  split at hs
  · rename_i e n by_ hsl
    obtain ⟨inf, z, hu, hin, hz, hzs, hp, hb0, rfl, rfl⟩ := sl_spec hsl
    split at hs
    · rename_i id m A hlk
      obtain ⟨rfl, hA, hA0⟩ := lnkA_spec hlk
      have hw : A.w = 1 := if_pos hA0
      split at hs
      · rename_i p2 news hsrc
        simp only [Res.sem] at hs
        obtain ⟨⟨hpp, hsz, hm, hety, hby⟩, hK⟩ := hs
        obtain ⟨vals, hS, hne, hrep⟩ := srcL_ok hA0 h hy hsrc hpp
        cases hx with
        | arr _ _ _ h1 hv =>
          obtain ⟨A2, hA2, _, hv⟩ := hv
          rw [hA] at hA2
          injection hA2 with hA2
          subst hA2
          have e := hv hm
          subst e
          obtain ⟨hzz, he, xs, ho, hx1, hxr⟩ := h.row _ A hA
          subst hety
          rw [hw] at ho hxr
          obtain ⟨v', w', hr, ho', hb, hm0⟩ := run_append_src (P := P) w t tx ty A.ety inf z hu hin hz hzs (by omega) (M.row id) A.es.length xs (by rw [hsz]; exact ho) v news.length vals (by rw [hsz]; exact hS) hb0 hby
          rw [hsz] at ho' hb
          obtain ⟨hI, hc, hrw⟩ := h.append id A hA news v' xs vals (by rw [hw]; exact ho) hx1 (by rw [hw]; exact hxr) (by rw [hw]; exact ho') (by rw [hw]; exact hb) (by rw [hw]; exact hne) hm0 hS.one (by rw [hw]; exact hrep)
          refine ⟨_, _, _, _, v', hK, hr, hI, hc, .arr _ _ _ ?_ ⟨_, set_at hA, Nat.le_refl _, fun _ => hrw.symm⟩, rfl⟩
          rcases ho'.2 with ⟨rfl, _⟩ | ⟨g, cap, cur, o, rfl, _⟩ <;> rfl
      · exact hs.elim
    split at hs
    · rename_i p news hsrc
      split at hs
      · simp only [Res.sem] at hs
        obtain ⟨⟨hpp, hby⟩, hK⟩ := hs
        obtain ⟨vals, hS, hne, hrep⟩ := src_ok h hy hsrc hpp
        cases hx
        obtain ⟨v', w', hr, ho, hb, hm0⟩ := run_append_src (P := P) w t tx ty e inf z hu hin hz hzs hp (.slice none 0 0) 0 [] (rowAt_nil w e inf.size) v news.length vals hS hb0 (by simpa using hby)
        have hg : w.grownBy w' none := by
          rcases hb with ⟨_, _, hb, _⟩ | ⟨_, hb⟩ <;> exact hb
        have ho' : rowAt w' e inf.size v' news.length vals := by simpa using ho
        refine newRow_okR h (A := ⟨inf.size, e, news, false⟩) hp hne hg ho' hS.one hrep (fun g hg => ?_) hr hK
        rcases hb with ⟨hb, _⟩ | ⟨hb, _⟩
        · rw [hb] at hg; simp [Value.ownBlock] at hg
        · rw [hb] at hg; injection hg with hg; omega
      · rename_i id m _
        split at hs
        · rename_i A hA
          split at hs
          · exact hs.elim
          rename_i hnz
          simp only [Res.sem] at hs
          obtain ⟨⟨hpp, hm, hsz, hety, hby⟩, hK⟩ := hs
          rw [← Arr.w_of hnz] at hsz
          obtain ⟨vals, hS, hne, hrep⟩ := src_ok h hy hsrc hpp
          cases hx with
          | arr _ _ _ h1 hv =>
            obtain ⟨A2, hA2, _, hv⟩ := hv
            rw [hA] at hA2
            injection hA2 with hA2
            subst hA2
            have e := hv hm
            subst e
            obtain ⟨hzz, he, xs, ho, hx1, hxr⟩ := h.row _ A hA
            subst hety
            rw [← hsz] at hS hne hrep hp
            obtain ⟨v', w', hr, ho', hb, hm0⟩ := run_append_src (P := P) w t tx ty A.ety inf z hu hin hz hzs (by omega) (M.row id) A.es.length xs (by rw [← hsz]; exact ho) v news.length vals (by rw [← hsz]; exact hS) hb0 hby
            rw [← hsz] at ho' hb
            obtain ⟨hI, hc, hrw⟩ := h.append id A hA news v' xs vals ho hx1 hxr ho' hb hne hm0 hS.one (fun k j hk hj => .inl (hrep k j hk hj))
            refine ⟨_, _, _, _, v', hK, hr, hI, hc, .arr _ _ _ ?_ ⟨_, set_at hA, Nat.le_refl _, fun _ => hrw.symm⟩, rfl⟩
            rcases ho'.2 with ⟨rfl, _⟩ | ⟨g, cap, cur, o, rfl, _⟩ <;> rfl
        · exact hs.elim
      · rename_i es _
        simp only [Res.sem] at hs
        obtain ⟨⟨hpp, hm0, hel, hby⟩, hK⟩ := hs
        obtain ⟨vals, hS, hne, hrep⟩ := src_ok h hy hsrc hpp
        cases hx with
        | full A n _ hrx =>
          obtain ⟨olds, hO, hrepO⟩ := list_src (P := P) hrx inf.size hel ⟨e, hu⟩
          have hn : n = es.length := by
            cases hrx with
            | list _ _ _ _ _ _ hn => exact hn
          subst hn
          have hsm : es.length + news.length ≤ 140737488355328 := Nat.le_trans (Nat.le_mul_of_pos_right _ hb0) hby
          have h63 : es.length + news.length ≤ maxLen := by simp only [maxLen]; omega
          have hr := run_append_grow_src (P := P) w t tx ty e inf z hu hin hz A es.length es.length olds hO.cellsD v news.length vals hS (by omega) (by omega) (growslice_fits (by omega) hby)
          have hge := grownCap_ge w (es.length + news.length) es.length e
          have hcm : grownCap w (es.length + news.length) es.length e ≤ maxLen := grownCap_le_maxLen w (es.length + news.length) es.length e h63
          have hlo := hO.newsLen
          have hln := hS.newsLen
          have hlen : (olds ++ vals).length = (es.length + news.length) * inf.size := by rw [List.length_append, hlo, hln, Nat.add_mul]
          refine newRow_okR h (A := ⟨inf.size, e, es ++ news, false⟩) hp (fun x hx => ?_) (w' := w.drew.alloc (.cells ((olds ++ vals).toArray ++ Builtin.zeroCells z.cells (grownCap w (es.length + news.length) es.length e - (es.length + news.length))) e)) ⟨rfl, rfl, rfl, by simp, fun k hk _ => heap_alloc_old w.drew _ hk⟩
            (u := .slice (some ⟨w.heap.size, 0, none⟩) (es.length + news.length) (grownCap w (es.length + news.length) es.length e)) (xs := olds ++ vals) ?_ (fun x hx => ?_) (fun k j hk hj => ?_) (fun g hg => by simp [Value.ownBlock] at hg; omega) hr (by simpa using hK)
          · rcases List.mem_append.1 hx with hx | hx
            · exact hel x hx
            · exact hne x hx
          · rw [List.length_append]
            refine ⟨hlen, .inr ⟨w.heap.size, _, _, 0, rfl, heap_alloc_new w.drew _, hge, hcm, ?_, ?_⟩⟩
            · rw [Nat.zero_add]
              simp only [Array.size_append, List.size_toArray, size_zeroCells, hzs, hlen, ← Nat.add_mul]
              refine Nat.le_of_eq ?_
              congr 1
              omega
            · rw [List.drop_zero]
              simp only [Array.toList_append]
              rw [← hlen]
              exact List.take_left
          · rcases List.mem_append.1 hx with hx | hx
            · exact hO.one x hx
            · exact hS.one x hx
          · rw [List.length_append] at hk
            rcases Nat.lt_or_ge k es.length with h1 | h1
            · have hq : k * inf.size + j < olds.length := by
                rw [hlo]
                calc k * inf.size + j < k * inf.size + inf.size := Nat.add_lt_add_left hj _
                  _ = (k + 1) * inf.size := by rw [Nat.add_mul, Nat.one_mul]
                  _ ≤ es.length * inf.size := Nat.mul_le_mul_right _ h1
              rw [getD_append_lt _ _ _ _ hq, getD_append_lt _ _ _ _ h1]
              exact hrepO k j h1 hj
            · have e1 : (olds ++ vals).getD (k * inf.size + j) undef = vals.getD ((k - es.length) * inf.size + j) undef := by
                have hmul := Nat.mul_le_mul_right inf.size h1
                simp only [List.getD]
                rw [List.getElem?_append_right (by rw [hlo]; omega), hlo]
                congr 2
                rw [Nat.sub_mul]
                omega
              have e2 : (es ++ news).getD k [] = news.getD (k - es.length) [] := by
                simp only [List.getD]
                rw [List.getElem?_append_right h1]
              show Rep w _ ((olds ++ vals).getD (k * inf.size + j) undef) (((es ++ news).getD k []).getD j .nilI)
              rw [e1, e2]
              exact hrep _ j (by omega) hj
      · exact hs.elim
    · exact zeros_sound hu hin hz hzs hp hb0 h hx hy hs
  · exact hs.elim

theorem run_copy_src (w : World) (dT sT ty elem : TypeId) (i : TypeInfo) (hu : P.underlying dT = some (.slice elem)) (hi : P.info? elem = some i) (g o dLen dCap : Nat) (cur : Array Value) (t : TypeId) (x : Value) (n : Nat) (news : List Value) (hs : Src P i.size sT x n news w)
    (hg : w.heap[g]? = some (.cells cur t (0, 0))) (hn : n ≤ dLen) (hfit : o + 0 + news.length ≤ cur.size) :
    (Builtin.copy_ #[dT, sT] ty #[.slice (some ⟨g, o, none⟩) dLen dCap, x]).run P w = .ok (goInt n) (w.setRow g (cur.toList.take o ++ news ++ cur.toList.drop (o + news.length)).toArray) := by
  have hst := run_storeCells_at P g o t news 0 cur w hg hfit hs.one
  simp only [Nat.add_zero] at hst
  have hmin : Nat.min n dLen = n := Nat.min_eq_left hn
  simp [Builtin.copy_, run_underlying hu, sizeOf, typeInfo, hi, hs.len, hmin, hs.cells, hst]
theorem copy_sound {t tx ty : TypeId} {x y : AV} {u v : Value} (h : Inv w0 F M st.b st.r w) (hx : RepA w M st.r u x) (hy : RepA w M st.r v y) (hs : (copyR P t tx x y st).sem K) :
    OpOk P w0 F M st.t st.r w (Builtin.copy_ #[t, tx] ty #[u, v]) K := by
  unfold copyR at hs
  split at hs
  case h_2 => exact hs.elim
  rename_i e n by_ hsl
  obtain ⟨inf, z, hu, hin, hz, hzs, hp, hb0, rfl, rfl⟩ := sl_spec hsl
  split at hs
  case h_2 => exact hs.elim
  rename_i p news hsrc
  split at hs
  case h_2 => exact hs.elim
  rename_i id m
  split at hs
  case h_2 => exact hs.elim
  rename_i A hA
  split at hs
  case isTrue => exact hs.elim
  rename_i hnz
  simp only [Res.sem] at hs
  obtain ⟨⟨hpp, hm, hsz, hle, hsh⟩, hK⟩ := hs
  obtain ⟨vals, hS, hne, hrep⟩ := src_ok h hy hsrc hpp
  have hw := Arr.w_of hnz
  cases hx with
  | arr _ _ _ h1 hv =>
    obtain ⟨A2, hA2, _, hv⟩ := hv
    rw [hA] at hA2
    injection hA2 with hA2
    subst hA2
    have e1 := hv hm
    subst e1
    obtain ⟨hzz, he, xs, ho, hx1, hxr⟩ := h.row _ A hA
    rw [hw, hsz] at he ho hxr
    have hvl := hS.newsLen
    have hxl : xs.length = A.es.length * inf.size := ho.1
    have hmul := Nat.mul_le_mul_right inf.size hle
    rcases ho.2 with ⟨e1, e2⟩ | ⟨g, cap, cur, o, e1, hh, hnc, hcm, hcs, htk⟩
    · have hn0 : news = [] := List.eq_nil_of_length_eq_zero (by omega)
      subst hn0
      have hA0 : A.es = [] := List.eq_nil_of_length_eq_zero e2
      have hr : (Builtin.copy_ #[t, tx] ty #[M.row id, v]).run P w = .ok (goInt 0) w := by
        have hc := hS.cells
        have hv0 : vals = [] := List.eq_nil_of_length_eq_zero (by simpa using hvl)
        rw [e1]
        simp only [List.length_nil] at hS
        have hl0 := hS.len
        rw [hv0] at hc
        simp only [List.length_nil] at hc
        have hc2 : (Builtin.firstCells inf.size (Nat.min 0 0) v).run P w = .ok #[] w := hc
        simp [Builtin.copy_, run_underlying hu, hl0, sizeOf, typeInfo, hin]
        have hc3 : (Builtin.firstCells inf.size 0 v).run P w = .ok #[] w := hc
        rw [hc3]
        rfl
      have hset : st.r.set id { A with es := [] ++ A.es.drop 0 } = st.r := by
        have : { A with es := [] ++ A.es.drop 0 } = A := by simp
        rw [this]
        exact List.ext_getElem? (fun i => by
          rw [List.getElem?_set]
          split
          · rename_i hi
            subst hi
            split
            · exact hA.symm
            · rename_i hn
              exact absurd (List.getElem?_eq_some_iff.1 hA).1 hn
          · rfl)
      refine ⟨.d (.int .i64 (([] : List (List D)).length : Nat)), _, M, w, _, hK, hr, ?_, ?_, .d _ _ (.int _ _), rfl⟩
      · show Inv w0 F M st.b (st.r.set id { A with es := [] ++ A.es.drop 0 }) w
        rw [hset]
        exact h
      · show Chg w M st.r w M (st.r.set id { A with es := [] ++ A.es.drop 0 })
        rw [hset]
        exact Chg.refl _ _ _
    · have hr := run_copy_src (P := P) w t tx ty e inf hu hin g o A.es.length cap cur A.ety v news.length vals hS hh hle (by
        have := Nat.mul_le_mul_right inf.size hnc
        rw [hvl]; omega)
      have hxs : cur.toList.take o ++ (vals ++ xs.drop vals.length) ++ cur.toList.drop (o + A.es.length * A.sz) = cur.toList.take o ++ vals ++ cur.toList.drop (o + vals.length) := by
        have := splice_at cur.toList o 0 vals.length (A.es.length * A.sz) vals (vals ++ xs.drop vals.length) (by
          rw [List.take_zero, List.nil_append, Nat.zero_add, List.append_assoc]
          congr 1
          rw [hsz, ← htk, List.drop_take]
          have := List.take_append_drop (A.es.length * inf.size - vals.length) ((cur.toList.drop o).drop vals.length)
          rw [List.drop_drop, List.drop_drop, show o + vals.length + (A.es.length * inf.size - vals.length) = o + A.es.length * inf.size by omega] at this
          rw [List.drop_drop, List.drop_drop]
          exact this)
        simpa using this
      obtain ⟨hI, hC⟩ := h.setRowElemsD id A hA hnz hsh g cap cur o e1 hh (by rw [hsz]; exact hcs) hnc hcm (vals ++ xs.drop vals.length) (news ++ A.es.drop news.length) (by simp; omega) (fun q hq => by
          rw [hsz]
          rcases List.mem_append.1 hq with h2 | h2
          · exact hne q h2
          · exact he q (List.mem_of_mem_drop h2)) (by rw [hsz]; simp; omega)
        (fun x hx => by
          rcases List.mem_append.1 hx with h2 | h2
          · exact hS.one x h2
          · exact hx1 x (List.mem_of_mem_drop h2))
        (fun k j hk hj => by
          rw [hsz] at hj ⊢
          rcases Nat.lt_or_ge k news.length with hkn | hkn
          · have hlt : k * inf.size + j < vals.length := by
              rw [hvl]
              calc k * inf.size + j < k * inf.size + inf.size := Nat.add_lt_add_left hj _
                _ = (k + 1) * inf.size := by rw [Nat.add_mul, Nat.one_mul]
                _ ≤ news.length * inf.size := Nat.mul_le_mul_right _ hkn
            rw [getD_append_lt _ _ _ _ hlt, getD_append_lt _ _ _ _ hkn]
            exact hrep k j hkn hj
          · have hk2 : k < A.es.length := by simp at hk; omega
            have hge : vals.length ≤ k * inf.size + j := by rw [hvl]; exact Nat.le_trans (Nat.mul_le_mul_right _ hkn) (Nat.le_add_right _ _)
            have e5 : (vals ++ xs.drop vals.length).getD (k * inf.size + j) undef = xs.getD (k * inf.size + j) undef := by
              simp only [List.getD, List.getElem?_append_right hge, List.getElem?_drop, show vals.length + (k * inf.size + j - vals.length) = k * inf.size + j by omega]
            have e6 : (news ++ A.es.drop news.length).getD k [] = A.es.getD k [] := by
              simp only [List.getD, List.getElem?_append_right hkn, List.getElem?_drop, show news.length + (k - news.length) = k by omega]
            rw [e5, e6]
            exact (hxr k j hk2 hj).data hnz)
      rw [hxs] at hI hC
      rw [e1]
      exact ⟨_, _, M, _, _, hK, hr, hI, hC, .d _ _ (.int _ _), rfl⟩
theorem cap_sound {x : AV} {u : Value} {t ty : TypeId} (h : Inv w0 F M st.b st.r w) (hx : RepA w M st.r u x) (hs : (capR P t x st).sem K) : OpOk P w0 F M st.t st.r w (Builtin.cap_ #[t] ty #[u]) K := by
  unfold capR at hs
  split at hs
  · split at hs
    · rename_i hk
      obtain ⟨e', hk⟩ := kd_slice hk
      simp only [Res.sem, true_and] at hs
      cases hx
      refine ok_stay h hs (u := .int .i64 0) ?_ (.d _ _ (.int _ _))
      simp [Builtin.cap_, run_underlying hk, goInt]
    · exact hs.elim
  · exact hs.elim

theorem mkSlice_sound {t : TypeId} {l c : AV} {u v : Value} (h : Inv w0 F M st.b st.r w) (hx : RepA w M st.r u l) (hy : RepA w M st.r v c) (hs : (mkSliceR P t l c st).sem K) : OpOk P w0 F M st.t st.r w (Instr.makeSlice t u v) K := by
  unfold mkSliceR at hs
  split at hs
  · rename_i e n by_ k a k' b hsl
    obtain ⟨inf, z, hu, hin, hz, hzs, hp, hb0, rfl, rfl⟩ := sl_spec hsl
    split at hs
    · rename_i zl hzl
      obtain ⟨i2, zv, hi2, hzv, rfl⟩ := zero_spec hzl
      rw [hin] at hi2
      injection hi2 with hi2
      subst hi2
      rw [hz] at hzv
      injection hzv with hzv
      subst hzv
      split at hs
      · rename_i ds hds
        simp only [Res.sem] at hs
        obtain ⟨⟨h0, h1, h2, h3⟩, hK⟩ := hs
        have e1 := hx.d_inv
        have e2 := hy.d_inv
        cases e1; cases e2
        obtain ⟨hdl0, hdr⟩ := const_toDL (w := w) (ok := Okc M st.r) z.cells.toList hds
        have hdl : ds.length = inf.size := by rw [hdl0]; simpa using hzs
        have hbl : b ≤ 140737488355328 := by
          have : (1 : Int) ≤ (inf.bytes : Int) := by omega
          have h4 : b * 1 ≤ b * (inf.bytes : Int) := Int.mul_le_mul_of_nonneg_left this (by omega)
          omega
        have hr := run_make (P := P) w t e inf z hu hin hz k k' a b h0 h1 (by rw [Int.mul_comm]; omega) (by omega)
        have hmg : ∀ q, q < b.toNat * inf.size → (madeCells z.cells (b.toNat * inf.size)).toList[q]? = some (z.cells.toList.getD (q % inf.size) undef) := fun q hq => by
          have hm : q % inf.size < z.cells.size := by rw [hzs]; exact Nat.mod_lt _ hp
          have hm' : q % z.cells.size < z.cells.size := by rw [hzs] at hm ⊢; exact hm
          simp only [madeCells, Array.getElem?_toList, Array.getElem?_map, Array.getElem?_range, if_pos hq, Option.map_some]
          rw [hzs]
          simp [Array.getElem!_eq_getD, Array.getD, List.getD, hm]
        have hab : a.toNat ≤ b.toNat := by omega
        have habm := Nat.mul_le_mul_right inf.size hab
        have hxl : ((madeCells z.cells (b.toNat * inf.size)).toList.take (a.toNat * inf.size)).length = a.toNat * inf.size := by
          rw [List.length_take, Array.length_toList, size_madeCells]; omega
        have hxg : ∀ q, q < a.toNat * inf.size → ((madeCells z.cells (b.toNat * inf.size)).toList.take (a.toNat * inf.size))[q]? = some (z.cells.toList.getD (q % inf.size) undef) := fun q hq => by
          rw [List.getElem?_take, if_pos hq, hmg q (by omega)]
        have hone : ∀ j, j < inf.size → (z.cells.toList.getD j undef).oneCell' = true := fun j hj => by
          have hj' : j < z.cells.toList.length := by simpa [hzs] using hj
          refine (hdr j hj').one ?_
          have e1 : ds.getD j .nilI = ds[j]'(by omega) := by
            have hj2 : j < ds.length := by omega
            simp [List.getD, hj2]
          rw [e1]
          exact List.all_eq_true.1 h3 _ (List.getElem_mem _)
        refine newRow_ok h (A := ⟨inf.size, e, List.replicate a.toNat ds, false⟩) hp (fun e' he' => by rw [(List.mem_replicate.1 he').2]; exact hdl) (World.grownBy_alloc w _ none)
          (u := .slice (some ⟨w.heap.size, 0, none⟩) a.toNat b.toNat) (xs := (madeCells z.cells (b.toNat * inf.size)).toList.take (a.toNat * inf.size)) ?_ (fun x hx => ?_) (fun k j hk hj => ?_) (fun g hg => by simp [Value.ownBlock] at hg; omega) hr (by simpa using hK)
        · simp only [List.length_replicate]
          refine ⟨hxl, .inr ⟨w.heap.size, b.toNat, _, rfl, Nat.zero_le _, heap_alloc_new w _, hab, by simp only [maxLen]; omega, size_madeCells _ _, rfl⟩⟩
        · obtain ⟨q, hq, rfl⟩ := List.getElem_of_mem hx
          have hq' := hq
          rw [hxl] at hq'
          have e1 := hxg q hq'
          rw [List.getElem?_eq_getElem hq] at e1
          injection e1 with e1
          rw [e1]
          exact hone _ (Nat.mod_lt _ hp)
        · have hk' : k < a.toNat := by simpa using hk
          have hj' : j < inf.size := hj
          have hq : k * inf.size + j < a.toNat * inf.size := by
            calc k * inf.size + j < k * inf.size + inf.size := Nat.add_lt_add_left hj' _
              _ = (k + 1) * inf.size := by rw [Nat.add_mul, Nat.one_mul]
              _ ≤ a.toNat * inf.size := Nat.mul_le_mul_right _ hk'
          have e1 : (List.take (a.toNat * inf.size) (madeCells z.cells (b.toNat * inf.size)).toList).getD (k * inf.size + j) undef = z.cells.toList.getD j undef := by
            have := hxg _ hq
            simp only [List.getD, this, Option.getD_some]
            rw [Nat.mul_add_mod_of_lt' hj']
          have e2 : (List.replicate a.toNat ds).getD k [] = ds := by simp [List.getD, hk']
          show Rep w _ ((List.take (a.toNat * inf.size) (madeCells z.cells (b.toNat * inf.size)).toList).getD (k * inf.size + j) undef) (((List.replicate a.toNat ds).getD k []).getD j .nilI)
          rw [e1, e2]
          exact hdr j (by simpa [hzs] using hj')
      · exact hs.elim
    · exact hs.elim
  · exact hs.elim
end
end Go.PE
end

section
/- The evaluator is right, 9: every operation (see PeA, PeD). -/
set_option linter.unusedVariables false
set_option linter.unusedSimpArgs false
namespace Go.PE
open Go

section
variable {P : Program} {w0 : World} {F : List Nat} {M : Mem} {st : St} {w : World} {K : AV → St → Prop}

theorem index_sound {t : TypeId} {x i : AV} {u v : Value} (h : Inv w0 F M st.b st.r w) (hx : RepA w M st.r u x) (hi : RepA w M st.r v i) (hs : (indexR P t x i st).sem K) : OpOk P w0 F M st.t st.r w (Instr.index t u v) K := by
  unfold indexR at hs
  split at hs
  · rename_i s k kk
    split at hs
    · rename_i hk
      have hu := kd_string hk
      simp only [Res.sem] at hs
      obtain ⟨⟨h0, h1⟩, hK⟩ := hs
      have e1 := hx.d_inv
      have e2 := hi.d_inv
      cases e2
      cases e1 with
      | str s =>
        have hlt : kk.toNat < s.data.toList.length := by omega
        have hK' := hK _ (List.getElem?_eq_getElem hlt)
        have hlt' : kk.toNat < s.size := by simpa using hlt
        refine ok_stay h hK' (u := .int .u8 (s.data.toList[kk.toNat].toNat : Int)) ?_ (.d _ _ (.int _ _))
        have e3 : (if 0 ≤ kk then s[kk.toNat]? else none) = some s.data.toList[kk.toNat] := by
          rw [if_pos h0]
          have : s[kk.toNat]? = some (s[kk.toNat]'hlt') := getElem?_pos s kk.toNat hlt'
          rw [this]
          rfl
        simp only [Instr.index, asIntOf, Sem.run_bind, Sem.run_pure, Result.andThen_ok, run_underlying hu]
        rw [e3]
        rfl
    · exact hs.elim
  · exact hs.elim

/-- Values, one for one. -/
def RepL (w : World) (M : Mem) (r : List Arr) (vs : Array Value) (as : List AV) : Prop := vs.size = as.length ∧ ∀ i, i < as.length → RepA w M r (vs.getD i undef) (as.getD i .undef)

theorem RepL.ofMap {r : List Arr} {a : Act} {st : St} (ht : Rept w M r a.tmps st.t) (xs : Array Operand) : RepL w M r (xs.map a.eval) (xs.toList.map st.ev) := by
  refine ⟨by simp, fun i hi => ?_⟩
  have hi' : i < xs.size := by simpa using hi
  have e1 : (xs.map a.eval).getD i undef = a.eval xs[i] := by simp [Array.getD, hi']
  have e2 : (xs.toList.map st.ev).getD i .undef = st.ev xs[i] := by simp [List.getD, hi']
  rw [e1, e2]
  exact ev_rep ht _
theorem RepL.append {r : List Arr} {vs us : Array Value} {as bs : List AV} (h : RepL w M r vs as) (k : RepL w M r us bs) : RepL w M r (vs ++ us) (as ++ bs) := by
  refine ⟨by simp [h.1, k.1], fun i hi => ?_⟩
  simp at hi
  rcases Nat.lt_or_ge i as.length with h1 | h1
  · have h2 : i < vs.size := by rw [h.1]; exact h1
    have e1 : (vs ++ us).getD i undef = vs.getD i undef := by simp [Array.getD, h2, Nat.lt_add_right _ h2, Array.getElem_append_left]
    rw [e1, getD_append_lt _ _ _ _ h1]
    exact h.2 i h1
  · have hv := h.1
    have hu := k.1
    have h2 : ¬ i < vs.size := by omega
    have h3 : i - vs.size < us.size := by omega
    have e1 : (vs ++ us).getD i undef = us.getD (i - vs.size) undef := by
      have h4 : i < vs.size + us.size := by omega
      simp [Array.getD, h4, h3, Array.getElem_append_right (show vs.size ≤ i by omega)]
    have e2 : (as ++ bs).getD i .undef = bs.getD (i - as.length) .undef := by
      simp only [List.getD, List.getElem?_append_right h1]
    rw [e1, e2, hv]
    exact k.2 _ (by omega)
theorem RepL.cons {r : List Arr} {v : Value} {us : Array Value} {a : AV} {bs : List AV} (h : RepA w M r v a) (k : RepL w M r us bs) : RepL w M r (#[v] ++ us) (a :: bs) := by
  have h1 : RepL w M r #[v] [a] := by
    refine ⟨rfl, fun i hi => ?_⟩
    have e : i = 0 := by simpa using hi
    subst e
    exact h
  exact h1.append k

/-- The function has a body of its own. -/
def Enters (P : Program) (f : FuncId) : Prop := ∀ (args : Array Value) (w : World), (callFunc f args).run P w = .ok (.enter f args) w

theorem enters_of {f : FuncId} {fn : Func} (hf : P.funcs[f]? = some fn) (hn : (fn.name == "runtime.NumGoroutine") = false) (hb : fn.body.isNone = false) : Enters P f := by
  intro args w
  have h1 : ¬ fn.name = "runtime.NumGoroutine" := by simpa using hn
  have h2 : ¬ fn.body = none := by
    intro h
    rw [h] at hb
    cases hb
  simp [callFunc, hf, h1, h2]

theorem meth_spec {t : TypeId} {name : String} {f : FuncId} (h : meth? P t name = some f) (v : Value) (fuel : Nat) : (method (fuel + 1) t v name).run P w = .ok (f, v) w := by
  unfold meth? at h
  split at h
  · rename_i i hi
    split at h
    · rename_i m hm
      split at h
      · rename_i f' e d h1 h2 h3
        injection h with h
        subst h
        simp [method, typeInfo, hi, hm, h1, follow, h2, receiverAt, run_underlying h3, Place.get]
      · cases h
      · rename_i f' d hnp h1 h2 h3
        injection h with h
        subst h
        simp only [method, Sem.run_bind, typeInfo, run_program, hi, Sem.run_pure, Result.andThen_ok, hm, h1, follow, h2, receiverAt, run_underlying h3]
        cases d with
        | pointer e => exact (hnp e rfl).elim
        | _ => simp [Place.get]
      · cases h
    · cases h
  · cases h
end
end Go.PE
end

section
/- The evaluator is right, 10: an operation as a whole (see PeA, PeD). -/
set_option linter.unusedVariables false
set_option linter.unusedSimpArgs false
namespace Go.PE
open Go

/-- What an operation's run comes to. -/
inductive OpRuns (P : Program) (w0 : World) (F : List Nat) (M : Mem) (t : List AV) (r : List Arr) (w : World) (s : Sem Next) (R : Res) (K : AV → St → Prop) : Prop where
  | value (v : AV) (st' : St) (M' : Mem) (w' : World) (u : Value) (hK : K v st') (hr : s.run P w = .ok (.value u) w' ∨ (s.run P w = .ok .skip w' ∧ u = undef)) (hI : Inv w0 F M' st'.b st'.r w') (hc : Chg w M r w' M' st'.r) (hv : RepA w' M' st'.r u v) (ht : st'.t = t)
  | enter (g : FuncId) (args : List AV) (st' : St) (vs : Array Value) (hR : R = .call g args st') (hr : Enters P g → s.run P w = .ok (.enter g vs) w) (hv : RepL w M r vs args) (hb : st'.b = st'.b ∧ st'.t = t) (hs : st'.r = r)
  | panic (x : AV) (st' : St) (u : Value) (hR : R = .panic x st') (hr : s.run P w = .halt (.panic u) w) (hv : RepA w M r u x)

section
variable {P : Program} {w0 : World} {F : List Nat} {M : Mem} {st : St} {w : World} {K : AV → St → Prop}

/-- Continue from a result: what it asks. -/
def Res.go (R : Res) (K : AV → St → Prop) : Prop :=
  match R with
  | .call _ _ _ => True
  | .panic _ _ => True
  | R => R.sem K

theorem ok_runs {s : Sem Value} {R : Res} (h : OpOk P w0 F M st.t st.r w s K) : OpRuns P w0 F M st.t st.r w (do pure (.value (← s))) R K := by
  obtain ⟨v, st', M', w', u, hK, hr, hI, hc, hv, ht⟩ := h
  exact .value v st' M' w' u hK (.inl (by simp [hr])) hI hc hv ht

theorem value_callee {a : Act} (h : Rept w M st.r a.tmps st.t) {f : Operand} {g : FuncId} {first caps : List AV} (hf : st.ev f = .fn (.func g) first caps) :
    ∃ vs us, a.eval f = .func (.func g) vs us ∧ RepL w M st.r vs first ∧ RepL w M st.r us caps := by
  have := ev_rep h f
  rw [hf] at this
  generalize a.eval f = u at this
  cases this with
  | fn _ vs us _ _ hs hs' h1 h2 => exact ⟨vs, us, rfl, ⟨hs, h1⟩, ⟨hs', h2⟩⟩

theorem builtin_sound {c : Call} {b : Builtin} {ty : TypeId} {a : Act} (h : Inv w0 F M st.b st.r w) (ht : Rept w M st.r a.tmps st.t) (hc : c.callee = .builtin b)
    (hs : (builtinR P b c.argTypes.toList (c.args.toList.map st.ev) st).sem K) {R : Res} :
    OpRuns P w0 F M st.t st.r w (do let d ← resolve a.eval c ty; invoke d.target d.args) R K := by
  have e : ∀ (w : World), (do let d ← resolve a.eval c ty; invoke d.target d.args : Sem Next).run P w = (builtin b c.argTypes ty (c.args.map fun | .const _ => true | _ => false) (c.args.map a.eval)).run P w := fun w => by
    simp [resolve, hc, invoke]
    rfl
  have lift : ∀ {s : Sem Value}, (builtin b c.argTypes ty (c.args.map fun | .const _ => true | _ => false) (c.args.map a.eval)) = (do pure (.value (← s))) → OpOk P w0 F M st.t st.r w s K → OpRuns P w0 F M st.t st.r w (do let d ← resolve a.eval c ty; invoke d.target d.args) R K := by
    intro s hs h
    obtain ⟨v, st', M', w', u, hK, hr, hI, hc, hv, ht⟩ := h
    exact .value v st' M' w' u hK (.inl (by rw [e, hs]; simp [hr])) hI hc hv ht
  obtain ⟨callee, args, ats⟩ := c
  obtain ⟨args, rfl⟩ : ∃ l : List Operand, args = l.toArray := ⟨args.toList, by simp⟩
  obtain ⟨ats, rfl⟩ : ∃ l : List TypeId, ats = l.toArray := ⟨ats.toList, by simp⟩
  simp only at hc
  subst hc
  unfold builtinR at hs
  split at hs
  · rename_i t x h1 h2
    have e1 : ats = [t] := by simpa using h1
    subst e1
    obtain ⟨o, rfl, rfl⟩ : ∃ o, args = [o] ∧ st.ev o = x := by
      match args, h2 with
      | [o], h2 => exact ⟨o, rfl, by simpa using h2⟩
    refine lift (s := Builtin.len_ #[t] ty #[a.eval o]) (by simp [builtin]) ?_
    have e2 : Builtin.len_ #[t] ty #[a.eval o] = Builtin.len_ #[t] 0 #[a.eval o] := rfl
    rw [e2]
    exact len_sound h (ev_rep ht o) hs
  · rename_i t tx x y h1 h2
    have e1 : ats = [t, tx] := by simpa using h1
    subst e1
    obtain ⟨o, q, rfl, rfl, rfl⟩ : ∃ o q, args = [o, q] ∧ st.ev o = x ∧ st.ev q = y := by
      match args, h2 with
      | [o, q], h2 =>
        simp at h2
        exact ⟨o, q, rfl, h2.1, h2.2⟩
    exact lift (s := Builtin.append_ #[t, tx] ty #[a.eval o, a.eval q]) (by simp [builtin]) (append_sound h (ev_rep ht o) (ev_rep ht q) hs)
  · rename_i t tx x y h1 h2
    have e1 : ats = [t, tx] := by simpa using h1
    subst e1
    obtain ⟨o, q, rfl, rfl, rfl⟩ : ∃ o q, args = [o, q] ∧ st.ev o = x ∧ st.ev q = y := by
      match args, h2 with
      | [o, q], h2 =>
        simp at h2
        exact ⟨o, q, rfl, h2.1, h2.2⟩
    exact lift (s := Builtin.copy_ #[t, tx] ty #[a.eval o, a.eval q]) (by simp [builtin]) (copy_sound h (ev_rep ht o) (ev_rep ht q) hs)
  · rename_i t x h1 h2
    have e1 : ats = [t] := by simpa using h1
    subst e1
    obtain ⟨o, rfl, rfl⟩ : ∃ o, args = [o] ∧ st.ev o = x := by
      match args, h2 with
      | [o], h2 => exact ⟨o, rfl, by simpa using h2⟩
    exact lift (s := Builtin.cap_ #[t] ty #[a.eval o]) (by simp [builtin]) (cap_sound h (ev_rep ht o) hs)
  · rename_i x y h2
    obtain ⟨o, q, rfl, rfl, rfl⟩ : ∃ o q, args = [o, q] ∧ st.ev o = x ∧ st.ev q = y := by
      match args, h2 with
      | [o, q], h2 =>
        simp at h2
        exact ⟨o, q, rfl, h2.1, h2.2⟩
    exact lift (s := Builtin.min_ ats.toArray ty #[a.eval o, a.eval q]) (by simp [builtin]) (mm_sound (mx := false) (ats := ats.toArray) (t := ty) h (ev_rep ht o) (ev_rep ht q) hs)
  · rename_i x y h2
    obtain ⟨o, q, rfl, rfl, rfl⟩ : ∃ o q, args = [o, q] ∧ st.ev o = x ∧ st.ev q = y := by
      match args, h2 with
      | [o, q], h2 =>
        simp at h2
        exact ⟨o, q, rfl, h2.1, h2.2⟩
    exact lift (s := Builtin.max_ ats.toArray ty #[a.eval o, a.eval q]) (by simp [builtin]) (mm_sound (mx := true) (ats := ats.toArray) (t := ty) h (ev_rep ht o) (ev_rep ht q) hs)
  · exact hs.elim

theorem call_sound {c : Call} {ty : TypeId} {a : Act} (h : Inv w0 F M st.b st.r w) (ht : Rept w M st.r a.tmps st.t) (hs : (callR P c st).go K) :
    OpRuns P w0 F M st.t st.r w (do let d ← resolve a.eval c ty; invoke d.target d.args) (callR P c st) K := by
  cases hc : c.callee with
  | builtin b =>
    have e : callR P c st = builtinR P b c.argTypes.toList (c.args.toList.map st.ev) st := by simp only [callR, hc]
    rw [e] at hs ⊢
    refine builtin_sound h ht hc ?_
    have hnc : ∀ g args st', builtinR P b c.argTypes.toList (c.args.toList.map st.ev) st ≠ .call g args st' := by
      intro g args st' he
      unfold builtinR lenR appendR zerosR copyR capR mmR at he
      repeat' (split at he)
      all_goals cases he
    have hnp : ∀ v st', builtinR P b c.argTypes.toList (c.args.toList.map st.ev) st ≠ .panic v st' := by
      intro v st' he
      unfold builtinR lenR appendR zerosR copyR capR mmR at he
      repeat' (split at he)
      all_goals cases he
    revert hs hnc hnp
    generalize builtinR P b c.argTypes.toList (c.args.toList.map st.ev) st = R
    intro hs hnc hnp
    cases R with
    | call g args st' => exact absurd rfl (hnc g args st')
    | panic v st' => exact absurd rfl (hnp v st')
    | _ => exact hs
  | value f =>
    have hR : callR P c st = (match st.ev f with
      | .fn (.func g) first caps => .call g (first ++ c.args.toList.map st.ev ++ caps) st
      | _ => .fail) := by simp only [callR, hc]; rfl
    rw [hR] at hs ⊢
    split at hs
    · rename_i g first caps hf
      obtain ⟨vs, us, hev, h1, h2⟩ := value_callee ht hf
      refine .enter g (first ++ c.args.toList.map st.ev ++ caps) st (vs ++ c.args.map a.eval ++ us) rfl (fun hE => ?_) ((h1.append (RepL.ofMap ht c.args)).append h2) ⟨rfl, rfl⟩ rfl
      simp only [resolve, hc, Deferred.ofValue, hev, invoke, Sem.run_bind, Sem.run_pure, Result.andThen_ok]
      simpa using hE _ w
    · exact hs.elim
  | invoke recv name =>
    have hR : callR P c st = invokeR P (st.ev recv) name (c.args.toList.map st.ev) st := by simp only [callR, hc]
    rw [hR] at hs ⊢
    have hrecv := ev_rep ht recv
    unfold invokeR at hs ⊢
    have run : ∀ (t : TypeId) (v : Value) (f : FuncId), a.eval recv = .iface t v → meth? P t name = some f → Enters P f → (do let d ← resolve a.eval c ty; invoke d.target d.args : Sem Next).run P w = .ok (.enter f (#[v] ++ c.args.map a.eval)) w := by
      intro t v f he hm hE
      have hme := fun k => meth_spec (P := P) (w := w) hm v k
      have hfu : P.types.size + Made.depth = (P.types.size + 99) + 1 := rfl
      have e1 : (#[Value.iface t v] ++ Array.map a.eval c.args)[0]? = some (.iface t v) := by rw [Array.getElem?_append_left (by simp)]; rfl
      have e2 : (#[Value.iface t v] ++ Array.map a.eval c.args).extract 1 (#[Value.iface t v] ++ Array.map a.eval c.args).size = c.args.map a.eval := by
        apply Array.ext'
        simp [List.take_of_length_le]
      simp only [resolve, hc, Sem.run_bind, Sem.run_pure, Result.andThen_ok, invoke, he, e1, e2, callMethod, run_program]
      rw [hfu, hme]
      simp only [Result.andThen_ok]
      exact hE _ w
    split at hs
    · rename_i t d hx
      rw [hx] at hrecv
      split at hs
      · rename_i f hm
        have hr := hrecv.d_inv
        generalize hu : a.eval recv = u at hr
        cases hr with
        | iface _ v _ hv =>
          refine .enter f (.d d :: c.args.toList.map st.ev) st (#[v] ++ c.args.map a.eval) rfl (run t v f hu hm) (RepL.cons (.d _ _ hv) (RepL.ofMap ht c.args)) ⟨rfl, rfl⟩ rfl
      · exact hs.elim
    · rename_i t x hx
      rw [hx] at hrecv
      split at hs
      · rename_i f hm
        generalize hu : a.eval recv = u at hrecv
        cases hrecv with
        | iface _ v _ hv =>
          refine .enter f (x :: c.args.toList.map st.ev) st (#[v] ++ c.args.map a.eval) rfl (run t v f hu hm) (RepL.cons hv (RepL.ofMap ht c.args)) ⟨rfl, rfl⟩ rfl
      · exact hs.elim
    · exact hs.elim
end
end Go.PE
end

section
/- The evaluator is right, 11: every operation (see PeA, PeD). -/
set_option linter.unusedVariables false
set_option linter.unusedSimpArgs false
namespace Go.PE
open Go

/-- Neither a call nor a panic. -/
def Res.plain : Res → Bool
  | .call _ _ _ | .panic _ _ => false
  | _ => true
theorem go_sem {R : Res} {K : AV → St → Prop} (h : R.plain = true) (k : R.go K) : R.sem K := by
  cases R <;> first | exact k | cases h

theorem plain_toDR {l : List AV} {st : St} {f : List D → St → Res} (h : ∀ ds st, (f ds st).plain = true) : (toDR l st f).plain = true := by
  unfold toDR
  repeat' split
  all_goals first | rfl | exact h _ _

section
variable {P : Program}
theorem pl_assign (t v st) : (assignR P t v st).plain = true := by unfold assignR; repeat' split
                                                                   all_goals rfl
theorem pl_pick (a b c st) : (pickR a b c st).plain = true := by unfold pickR; repeat' split
                                                                 all_goals rfl
theorem pl_alloc (t st) : (allocR P t st).plain = true := by unfold allocR; repeat' split
                                                             all_goals rfl
theorem pl_build (t ps st) : (buildR P t ps st).plain = true := by unfold buildR; repeat' split
                                                                   all_goals rfl
theorem pl_bslice (t n ps st) : (bsliceR P t n ps st).plain = true := by
  unfold bsliceR
  split
  · split
    · rfl
    · split
      · rfl
      · exact plain_toDR (fun _ _ => rfl)
  · rfl
theorem pl_load (t a st) : (loadR P t a st).plain = true := by unfold loadR; repeat' split
                                                               all_goals rfl
theorem pl_store (t a v st) : (storeR P t a v st).plain = true := by
  unfold storeR
  split
  · split <;> rfl
  · split
    · split <;> rfl
    · refine plain_toDR (fun _ _ => ?_)
      split
      · split <;> rfl
      · rfl
  · rfl
theorem pl_nilCheck (x st) : (nilCheckR x st).plain = true := by unfold nilCheckR; repeat' split
                                                                 all_goals rfl
theorem pl_int (op k a k' b st) : (intR op k a k' b st).plain = true := by unfold intR; repeat' split
                                                                           all_goals rfl
theorem pl_str (op a b st) : (strR op a b st).plain = true := by unfold strR; repeat' split
                                                                 all_goals rfl
theorem pl_eq (n c t x y st) : (eqR P n c t x y st).plain = true := by
  unfold eqR
  repeat' split
  all_goals rfl
theorem pl_bin (op c t x y st) : (binR P op c t x y st).plain = true := by
  unfold binR
  repeat' split
  all_goals first | rfl | exact pl_int _ _ _ _ _ _ | exact pl_str _ _ _ _ | exact pl_eq _ _ _ _ _ _
theorem pl_un (op x st) : (unR op x st).plain = true := by unfold unR; repeat' split
                                                           all_goals rfl
theorem pl_conv (s t x st) : (convR P s t x st).plain = true := by
  unfold convR
  repeat' split
  all_goals first | rfl | (refine plain_toDR (fun _ _ => ?_); repeat' split) 
  all_goals rfl
theorem pl_mkIf (t x st) : (mkIfR P t x st).plain = true := by unfold mkIfR; repeat' split
                                                               all_goals rfl
theorem pl_mkSlice (t x y st) : (mkSliceR P t x y st).plain = true := by unfold mkSliceR; repeat' split
                                                                         all_goals rfl
theorem pl_slice3 (t x l h m st) : (slice3R P t x l h m st).plain = true := by unfold slice3R; repeat' split
                                                                               all_goals rfl
theorem pl_slice (t x l h m st) : (sliceR P t x l h m st).plain = true := by
  unfold sliceR
  repeat' split
  all_goals first | rfl | exact pl_slice3 _ _ _ _ _ _
theorem pl_fieldAddr (t f x st) : (fieldAddrR P t f x st).plain = true := by unfold fieldAddrR; repeat' split
                                                                             all_goals rfl
theorem pl_field (t x f st) : (fieldR P t x f st).plain = true := by unfold fieldR; repeat' split
                                                                     all_goals rfl
theorem pl_indexAddr (t x i st) : (indexAddrR P t x i st).plain = true := by unfold indexAddrR; repeat' split
                                                                             all_goals rfl
theorem pl_index (t x i st) : (indexR P t x i st).plain = true := by unfold indexR; repeat' split
                                                                     all_goals rfl
theorem pl_assert (ty ok x st) : (assertR P ty ok x st).plain = true := by
  unfold assertR
  repeat' split
  all_goals rfl
theorem pl_extract (x i st) : (extractR x i st).plain = true := by unfold extractR; repeat' split
                                                                   all_goals rfl

variable {w0 : World} {F : List Nat} {M : Mem} {st : St} {w : World} {K : AV → St → Prop}

theorem op_sound {o : Oper} {a : Act} (h : Inv w0 F M st.b st.r w) (ht : Rept w M st.r a.tmps st.t) (hs : (opR P o st).go K) :
    OpRuns P w0 F M st.t st.r w (execOp a.eval o) (opR P o st) K := by
  have E : ∀ x, RepA w M st.r (a.eval x) (st.ev x) := fun x => ev_rep ht x
  have hopt : ∀ (x : Option Operand) (b : AV) (v : Value), x.map st.ev = some b → x.map a.eval = some v → RepA w M st.r v b := by
    intro x b v h1 h2
    cases x with
    | none => cases h1
    | some x =>
      injection h1 with h1
      injection h2 with h2
      subst h1 h2
      exact E x
  have hcopy : ∀ u x, RepA w M st.r u x → K x st → ∀ R, OpRuns P w0 F M st.t st.r w (pure (.value u)) R K := fun u x hx hK R => .value x st M w u hK (.inl rfl) h (.refl _ _ _) hx rfl
  obtain ⟨d, op, ty, p, ar, g⟩ := o
  cases op with
  | move x => exact hcopy _ _ (E x) hs.2 _
  | assign x =>
    have := ok_runs (R := opR P ⟨d, .assign x, ty, p, ar, g⟩ st) (assign_sound h (E x) (go_sem (pl_assign _ _ _) hs))
    simpa [execOp] using this
  | pick c x y =>
    have := ok_runs (P := P) (R := opR P ⟨d, .pick c x y, ty, p, ar, g⟩ st) (pick_sound h (E c) (E x) (E y) (go_sem (pl_pick _ _ _ _) hs))
    simpa [execOp] using this
  | alloc t => exact ok_runs (alloc_sound h (go_sem (pl_alloc _ _) hs))
  | box t x => exact ok_runs (box_sound h (E x) hs)
  | build t ps => exact ok_runs (build_sound h ht (go_sem (pl_build _ _ _) hs))
  | buildSlice t n ps => exact ok_runs (bslice_sound h ht (go_sem (pl_bslice _ _ _ _) hs))
  | load t x => exact ok_runs (load_sound h (E x) (go_sem (pl_load _ _ _) hs))
  | store t x y =>
    obtain ⟨v, st', M', w', hK, hr, hI, hc, hv, hst⟩ := store_sound h (E x) (E y) (go_sem (pl_store _ _ _ _) hs)
    exact .value v st' M' w' undef hK (.inr ⟨by simp [execOp, hr], rfl⟩) hI hc hv hst
  | nilCheck x =>
    obtain ⟨u, hK, hr, hu⟩ := nilCheck_sound (o := ⟨d, .nilCheck x, ty, p, ar, g⟩) rfl (E x) (go_sem (pl_nilCheck _ _) hs)
    exact .value _ st M w u hK (.inl hr) h (.refl _ _ _) hu rfl
  | binOp op t x y e => exact ok_runs (bin_sound h (E x) (E y) (go_sem (pl_bin _ _ _ _ _ _) hs))
  | unOp op t x => exact ok_runs (un_sound h (E x) (go_sem (pl_un _ _ _) hs))
  | convert s t x => exact ok_runs (conv_sound h (E x) (go_sem (pl_conv _ _ _ _) hs))
  | makeInterface t x => exact ok_runs (mkIf_sound h (E x) (go_sem (pl_mkIf _ _ _) hs))
  | makeFunc f xs ys =>
    refine .value _ st M w (.func f (xs.map a.eval) (ys.map a.eval)) hs.2 (.inl rfl) h (.refl _ _ _) ?_ rfl
    have h1 := RepL.ofMap ht xs
    have h2 := RepL.ofMap ht ys
    exact .fn _ _ _ _ _ h1.1 h2.1 h1.2 h2.2
  | makeSlice t x y => exact ok_runs (mkSlice_sound h (E x) (E y) (go_sem (pl_mkSlice _ _ _ _) hs))
  | slice t x lo hi mx => exact ok_runs (slice_sound h (E x) (hopt lo) (by simp) (hopt hi) (by simp) (hopt mx) (by simp) (go_sem (pl_slice _ _ _ _ _ _) hs))
  | fieldAddr t x f => exact ok_runs (fieldAddr_sound h (E x) (go_sem (pl_fieldAddr _ _ _ _) hs))
  | field t x f => exact ok_runs (field_sound h (E x) (go_sem (pl_field _ _ _ _) hs))
  | indexAddr t x i => exact ok_runs (indexAddr_sound h (E x) (E i) (go_sem (pl_indexAddr _ _ _ _) hs))
  | index t x i => exact ok_runs (index_sound h (E x) (E i) (go_sem (pl_index _ _ _ _) hs))
  | typeAssert x xt ty ok => exact ok_runs (assert_sound h (E x) (go_sem (pl_assert _ _ _ _) hs))
  | extract x i => exact ok_runs (extract_sound h (E x) (go_sem (pl_extract _ _ _) hs))
  | call c => exact call_sound h ht hs
  | panic x =>
    have hx := E x
    have e : opR P ⟨d, .panic x, ty, p, ar, g⟩ st = panicR (st.ev x) st := rfl
    rw [e] at hs ⊢
    have hrun : ∀ (t : TypeId) (v : Value), a.eval x = .iface t v → (execOp a.eval ⟨d, .panic x, ty, p, ar, g⟩).run P w = .halt (.panic (.iface t v)) w := by
      intro t v e
      simp [execOp, e, Instr.panic]
    unfold panicR at hs ⊢
    split at hs
    · rename_i t y he
      rw [he] at hx
      generalize hu : a.eval x = u at hx
      have := hx.d_inv
      cases this with
      | iface _ v _ hv => exact .panic _ st (.iface t v) rfl (hrun t v hu) (.d _ _ (.iface _ _ _ hv))
    · rename_i t y he
      rw [he] at hx
      generalize hu : a.eval x = u at hx
      cases hx with
      | iface _ v _ hv => exact .panic _ st (.iface t v) rfl (hrun t v hu) (.iface _ _ _ hv)
    · exact hs.elim
  | _ => exact hs.elim
end
end Go.PE
end

section
/- The evaluator: an operation looks at temporaries only through its operands (see PeA, PeD). -/
set_option linter.unusedVariables false
set_option linter.unusedSimpArgs false
namespace Go.PE
open Go

def St.wT (st : St) (t : List AV) : St := { st with t := t }
def Res.setT (t : List AV) : Res → Res
  | .fail => .fail
  | .ok p v st => .ok p v (st.wT t)
  | .elem p es k n st => .elem p es k n (st.wT t)
  | .byte p s k st => .byte p s k (st.wT t)
  | .any p q st => .any p q (st.wT t)
  | .call g args st => .call g args (st.wT t)
  | .panic v st => .panic v (st.wT t)

section
variable {P : Program} (t' : List AV) (st : St)

theorem setT_ite {p : Prop} [Decidable p] (a b : Res) : (if p then a else b).setT t' = if p then a.setT t' else b.setT t' := by split <;> rfl

theorem toDR_t (l : List AV) (f g : List D → St → Res) (h : ∀ ds (st : St), g ds (st.wT t') = (f ds st).setT t') : toDR l (st.wT t') g = (toDR l st f).setT t' := by
  unfold toDR
  have e : (st.wT t').r = st.r := rfl
  rw [e]
  cases toDL st.r l with
  | none => rfl
  | some ds => exact h ds { st with r := share st.r (arrIdsL l) }
theorem int_t (op k a k' b) : intR op k a k' b (st.wT t') = (intR op k a k' b st).setT t' := by
  unfold intR; repeat' split
  all_goals rfl
theorem str_t (op a b) : strR op a b (st.wT t') = (strR op a b st).setT t' := by
  unfold strR; repeat' split
  all_goals rfl
theorem eq_t (n c t x y) : eqR P n c t x y (st.wT t') = (eqR P n c t x y st).setT t' := by
  unfold eqR
  repeat' split
  all_goals rfl
theorem bin_t (op c t x y) : binR P op c t x y (st.wT t') = (binR P op c t x y st).setT t' := by
  unfold binR
  repeat' split
  all_goals first | rfl | exact int_t _ _ _ _ _ _ _ | exact str_t _ _ _ _ _ | exact eq_t _ _ _ _ _ _ _
theorem un_t (op x) : unR op x (st.wT t') = (unR op x st).setT t' := by
  unfold unR; repeat' split
  all_goals rfl
theorem load_t (t a) : loadR P t a (st.wT t') = (loadR P t a st).setT t' := by
  unfold loadR
  have e : (st.wT t').b = st.b := rfl
  have e2 : (st.wT t').r = st.r := rfl
  rw [e, e2]
  repeat' split
  all_goals rfl
theorem store_t (t a v) : storeR P t a v (st.wT t') = (storeR P t a v st).setT t' := by
  unfold storeR
  have e : (st.wT t').b = st.b := rfl
  rw [e]
  split
  · split <;> rfl
  · rename_i n id m i off _
    have e3 : lkd (st.wT t').r id = lkd st.r id := rfl
    rw [e3]
    split
    · have e4 : (st.wT t').r = st.r := rfl
      rw [e4]
      split <;> rfl
    · refine toDR_t t' st _ _ _ (fun ds st => ?_)
      have e2 : (st.wT t').r = st.r := rfl
      rw [e2]
      split
      · split <;> rfl
      · rfl
  · rfl
theorem fieldAddr_t (t f a) : fieldAddrR P t f a (st.wT t') = (fieldAddrR P t f a st).setT t' := by
  unfold fieldAddrR
  have e2 : (st.wT t').r = st.r := rfl
  rw [e2]
  repeat' split
  all_goals rfl
theorem indexAddr_t (t x i) : indexAddrR P t x i (st.wT t') = (indexAddrR P t x i st).setT t' := by
  unfold indexAddrR
  have e2 : (st.wT t').r = st.r := rfl
  rw [e2]
  repeat' split
  all_goals rfl
theorem index_t (t x i) : indexR P t x i (st.wT t') = (indexR P t x i st).setT t' := by
  unfold indexR; repeat' split
  all_goals rfl
theorem field_t (t x f) : fieldR P t x f (st.wT t') = (fieldR P t x f st).setT t' := by
  unfold fieldR; repeat' split
  all_goals rfl
theorem slice3_t (t x l h m) : slice3R P t x l h m (st.wT t') = (slice3R P t x l h m st).setT t' := by
  unfold slice3R; repeat' split
  all_goals rfl
theorem slice_t (t x l h m) : sliceR P t x l h m (st.wT t') = (sliceR P t x l h m st).setT t' := by
  unfold sliceR
  have e2 : (st.wT t').r = st.r := rfl
  rw [e2]
  repeat' split
  all_goals first | rfl | exact slice3_t _ _ _ _ _ _ _
theorem assign_t (t v) : assignR P t v (st.wT t') = (assignR P t v st).setT t' := by
  unfold assignR; repeat' split
  all_goals rfl
theorem alloc_t (t) : allocR P t (st.wT t') = (allocR P t st).setT t' := by
  unfold allocR; repeat' split
  all_goals rfl
theorem build_t (t ps) : buildR P t ps (st.wT t') = (buildR P t ps st).setT t' := by
  unfold buildR; repeat' split
  all_goals rfl
theorem bslice_t (t n ps) : bsliceR P t n ps (st.wT t') = (bsliceR P t n ps st).setT t' := by
  unfold bsliceR
  have e0 : (st.wT t').r = st.r := rfl
  rw [e0]
  split
  · split
    · rfl
    · split
      · rfl
      · exact toDR_t t' st _ _ _ (fun ds st => rfl)
  · rfl
theorem mkSlice_t (t l c) : mkSliceR P t l c (st.wT t') = (mkSliceR P t l c st).setT t' := by
  unfold mkSliceR; repeat' split
  all_goals rfl
theorem mkIf_t (t x) : mkIfR P t x (st.wT t') = (mkIfR P t x st).setT t' := by
  unfold mkIfR; repeat' split
  all_goals rfl
theorem assert_t (ty ok x) : assertR P ty ok x (st.wT t') = (assertR P ty ok x st).setT t' := by
  unfold assertR; repeat' split
  all_goals rfl
theorem extract_t (x i) : extractR x i (st.wT t') = (extractR x i st).setT t' := by
  unfold extractR; repeat' split
  all_goals rfl
theorem nilCheck_t (x) : nilCheckR x (st.wT t') = (nilCheckR x st).setT t' := by
  unfold nilCheckR
  have e2 : (st.wT t').r = st.r := rfl
  rw [e2]
  repeat' split
  all_goals rfl
theorem pick_t (c a b) : pickR c a b (st.wT t') = (pickR c a b st).setT t' := by
  unfold pickR; repeat' split
  all_goals rfl
theorem conv_t (s t x) : convR P s t x (st.wT t') = (convR P s t x st).setT t' := by
  unfold convR
  repeat' split
  all_goals first
    | rfl
    | (refine toDR_t t' st _ _ _ (fun ds st => ?_)
       repeat' split
       all_goals rfl)
theorem len_t (t x) : lenR P t x (st.wT t') = (lenR P t x st).setT t' := by
  unfold lenR
  have e2 : (st.wT t').r = st.r := rfl
  rw [e2]
  repeat' split
  all_goals rfl
theorem zeros_t (tx e n b x y) : zerosR P tx e n b x y (st.wT t') = (zerosR P tx e n b x y st).setT t' := by
  unfold zerosR
  repeat' split
  all_goals rfl
theorem append_t (t tx x y) : appendR P t tx x y (st.wT t') = (appendR P t tx x y st).setT t' := by
  unfold appendR
  have e1 : ∀ n, srcA P tx n y (st.wT t') = srcA P tx n y st := fun n => rfl
  have e2 : (st.wT t').r = st.r := rfl
  simp only [e1, e2, zeros_t]
  repeat' split
  all_goals rfl
theorem copy_t (t tx x y) : copyR P t tx x y (st.wT t') = (copyR P t tx x y st).setT t' := by
  unfold copyR
  have e1 : ∀ n, srcA P tx n y (st.wT t') = srcA P tx n y st := fun n => rfl
  have e2 : (st.wT t').r = st.r := rfl
  simp only [e1, e2]
  repeat' split
  all_goals rfl
theorem cap_t (t x) : capR P t x (st.wT t') = (capR P t x st).setT t' := by
  unfold capR; repeat' split
  all_goals rfl
theorem mm_t (m x y) : mmR m x y (st.wT t') = (mmR m x y st).setT t' := by
  unfold mmR; repeat' split
  all_goals rfl
theorem builtin_t (b ats args) : builtinR P b ats args (st.wT t') = (builtinR P b ats args st).setT t' := by
  unfold builtinR
  split
  · exact len_t _ _ _ _
  · exact append_t _ _ _ _ _ _
  · exact copy_t _ _ _ _ _ _
  · exact cap_t _ _ _ _
  · exact mm_t _ _ _ _ _
  · exact mm_t _ _ _ _ _
  · rfl
theorem invoke_t (r n args) : invokeR P r n args (st.wT t') = (invokeR P r n args st).setT t' := by
  unfold invokeR; repeat' split
  all_goals rfl
theorem panic_t (x) : panicR x (st.wT t') = (panicR x st).setT t' := by
  unfold panicR; repeat' split
  all_goals rfl

theorem opR_t (o : Oper) (h : ∀ x ∈ o.op.operands, (st.wT t').ev x = st.ev x) : opR P o (st.wT t') = (opR P o st).setT t' := by
  have hl : ∀ xs : Array Operand, (∀ x ∈ xs, (st.wT t').ev x = st.ev x) → xs.toList.map (st.wT t').ev = xs.toList.map st.ev := by
    intro xs hx
    exact List.map_congr_left (fun x hm => hx x (by simpa using hm))
  have hp : ∀ ps : Array (Nat × Operand), (∀ x ∈ (ps.toList.map (·.2)).toArray, (st.wT t').ev x = st.ev x) → (ps.toList.map fun p => (p.1, (st.wT t').ev p.2)) = ps.toList.map fun p => (p.1, st.ev p.2) := by
    intro ps hx
    refine List.map_congr_left (fun p hm => ?_)
    rw [hx p.2 (by simp only [List.mem_toArray]; exact List.mem_map_of_mem hm)]
  have ho : ∀ x : Option Operand, (∀ y ∈ x.toArray, (st.wT t').ev y = st.ev y) → x.map (st.wT t').ev = x.map st.ev := by
    intro x hx
    cases x with
    | none => rfl
    | some y => simp [hx y (by simp)]
  obtain ⟨d, op, ty, p, ar, g⟩ := o
  cases op with
  | move x => simp only [opR, h x (by simp [Op.operands])]; rfl
  | assign x => simp only [opR, h x (by simp [Op.operands]), assign_t]
  | pick c x y => simp only [opR, h c (by simp [Op.operands]), h x (by simp [Op.operands]), h y (by simp [Op.operands]), pick_t]
  | alloc t => simp only [opR, alloc_t]
  | box t x => simp only [opR, h x (by simp [Op.operands])]; rfl
  | build t ps => simp only [opR, hp ps (fun x hx => h x (by simpa [Op.operands] using hx)), build_t]
  | buildSlice t n ps => simp only [opR, hp ps (fun x hx => h x (by simpa [Op.operands] using hx)), bslice_t]
  | load t x => simp only [opR, h x (by simp [Op.operands]), load_t]
  | store t x y => simp only [opR, h x (by simp [Op.operands]), h y (by simp [Op.operands]), store_t]
  | nilCheck x => simp only [opR, h x (by simp [Op.operands]), nilCheck_t]
  | binOp op t x y e => simp only [opR, h x (by simp [Op.operands]), h y (by simp [Op.operands]), bin_t]
  | unOp op t x => simp only [opR, h x (by simp [Op.operands]), un_t]
  | convert s t x => simp only [opR, h x (by simp [Op.operands]), conv_t]
  | makeInterface t x => simp only [opR, h x (by simp [Op.operands]), mkIf_t]
  | makeFunc f xs ys =>
    simp only [opR, hl xs (fun x hx => h x (by simp [Op.operands, hx])), hl ys (fun x hx => h x (by simp [Op.operands, hx]))]
    rfl
  | makeSlice t x y => simp only [opR, h x (by simp [Op.operands]), h y (by simp [Op.operands]), mkSlice_t]
  | slice t x lo hi mx =>
    simp only [opR, h x (by simp [Op.operands]), ho lo (fun y hy => h y (by simp only [Op.operands, Array.mem_append]; exact .inl (.inl (.inr hy)))), ho hi (fun y hy => h y (by simp only [Op.operands, Array.mem_append]; exact .inl (.inr hy))),
      ho mx (fun y hy => h y (by simp only [Op.operands, Array.mem_append]; exact .inr hy)), slice_t]
  | fieldAddr t x f => simp only [opR, h x (by simp [Op.operands]), fieldAddr_t]
  | field t x f => simp only [opR, h x (by simp [Op.operands]), field_t]
  | indexAddr t x i => simp only [opR, h x (by simp [Op.operands]), h i (by simp [Op.operands]), indexAddr_t]
  | index t x i => simp only [opR, h x (by simp [Op.operands]), h i (by simp [Op.operands]), index_t]
  | typeAssert x xt ty ok => simp only [opR, h x (by simp [Op.operands]), assert_t]
  | extract x i => simp only [opR, h x (by simp [Op.operands]), extract_t]
  | call c =>
    obtain ⟨callee, args, ats⟩ := c
    have hargs : args.toList.map (st.wT t').ev = args.toList.map st.ev := hl args (fun x hx => h x (by simp [Op.operands, Call.operands, hx]))
    cases callee with
    | builtin b => simp only [opR, callR, hargs, builtin_t]
    | value f =>
      have hf := h f (by simp [Op.operands, Call.operands])
      simp only [opR, callR, hargs, hf]
      split <;> rfl
    | invoke recv n =>
      have hf := h recv (by simp [Op.operands, Call.operands])
      simp only [opR, callR, hargs, hf, invoke_t]
  | panic x => simp only [opR, h x (by simp [Op.operands]), panic_t]
  | _ => rfl
end
end Go.PE
end

section
/- The evaluator of code: what it asks (see PeA, PeD). -/
set_option linter.unusedVariables false
set_option linter.unusedSimpArgs false
namespace Go.PE
open Go

/-! ### calls -/
inductive Out where
  | ret (x : AV)
  | panic (x : AV)

/-- What a call asks, so that after it K holds. -/
abbrev Handler := List AV → List (List AV) → List Arr → (Out → List (List AV) → List Arr → Prop) → Prop

/-- How a call ends. -/
def EndQ (w0 : World) (F : List Nat) (M : Mem) (r : List Arr) (w : World) (K : Out → List (List AV) → List Arr → Prop) : Ending → World → Prop
  | .returned v, w' => ∃ x b' r' M', K (.ret x) b' r' ∧ Inv w0 F M' b' r' w' ∧ Chg w M r w' M' r' ∧ RepA w' M' r' v x
  | .panicked chain, w' => ∃ x b' r' M' u, K (.panic x) b' r' ∧ chain = [{ v := u, recovered := false }] ∧ Inv w0 F M' b' r' w' ∧ Chg w M r w' M' r' ∧ RepA w' M' r' u x
  | .outgrown, _ => False

def HOk (P : Program) (f : FuncId) (h : Handler) : Prop :=
  ∀ ⦃w0 : World⦄ ⦃F : List Nat⦄ ⦃M : Mem⦄ ⦃b : List (List AV)⦄ ⦃r : List Arr⦄ ⦃w : World⦄ ⦃vs : Array Value⦄ ⦃args : List AV⦄ ⦃K : Out → List (List AV) → List Arr → Prop⦄,
    Inv w0 F M b r w → RepL w M r vs args → h args b r K → Enters P f ∧ Calls P f vs w (EndQ w0 F M r w K)

/-- A function of data: what it asks, what it gives. -/
abbrev Det := List D → Prop × AV
def Det.handler (h : Det) : Handler := fun args b r K => ∃ ds, allD args = some ds ∧ (h ds).1 ∧ K (.ret (h ds).2) b r

structure Env where
  H : FuncId → Handler
  Dt : FuncId → Option Det

structure Env.Ok (P : Program) (E : Env) : Prop where
  h : ∀ f, HOk P f (E.H f)
  dt : ∀ f d, E.Dt f = some d → HOk P f d.handler

/-! ### operations -/
def St.put (st : St) (dst : Option Tmp) (v : AV) : St :=
  match dst with
  | some d => { st with t := st.t.set d v }
  | none => st

def valid (G : List (Nat × Bool)) (d : Nat) : Prop := ∀ p ∈ G, p.1 = d → p.2 = true
def validO (G : List (Nat × Bool)) : Operand → Prop
  | .tmp d => valid G d
  | _ => True
def needL (G : List (Nat × Bool)) (xs : List Operand) : Prop := ∀ x ∈ xs, validO G x
def need (G : List (Nat × Bool)) (o : Op) (st : St) : Prop :=
  match o with
  | .pick c a b => match st.ev c with
    | .d (.bool e) => validO G c ∧ (e = true → validO G a) ∧ (e = false → validO G b)
    | _ => needL G [c, a, b]
  | o => needL G o.operands.toList

/-- The value of a row's element: whatever it is, where there is none. -/
def elemG (g : Bool) (es : List (List D)) (k n : Nat) (F : List D → Prop) : Prop :=
  ∃ x : List D, (∀ y, es[k]? = some y → x = y) ∧ (g = true → x.length = n) ∧ F x

def elemK (es : List (List D)) (k n : Nat) (F : List D → Prop) : Prop := ∀ x, es[k]? = some x → x.length = n ∧ F x
def byteK (s : List UInt8) (k : Nat) (F : UInt8 → Prop) : Prop := ∀ c, s[k]? = some c → F c

def anyK (q : Bool → Prop) (F : Bool → Prop) : Prop := ∀ b, q b → F b

def runK (E : Env) (R : Res) (K : AV → St → Prop) (KP : AV → St → Prop) : Prop :=
  match R with
  | .fail => False
  | .ok p v st => p ∧ K v st
  | .elem p es k n st => p ∧ elemK es k n fun x => K (.cptr x) st
  | .byte p s k st => p ∧ byteK s k fun c => K (.d (.int .u8 (c.toNat : Int))) st
  | .any p q st => p ∧ anyK q fun b => K (.d (.bool b)) st
  | .call f args st => E.H f args st.b st.r fun o b r => match o with
    | .ret x => K x { st with b := b, r := r }
    | .panic x => KP x { st with b := b, r := r }
  | .panic x st => KP x st

/-- Operations that may be reckoned whether they are wanted or not. -/
def stillOp : Op → Bool
  | .alloc _ | .box _ _ | .buildSlice _ _ _ | .store _ _ _ | .makeSlice _ _ _ | .panic _ => false
  | .call c => match c.callee with
    | .builtin .len | .builtin .min | .builtin .max => true
    | .builtin _ => false
    | _ => true
  | _ => true

def gval (L : List Oper) (st : St) (g : Nat) : Option (Tmp × Bool) :=
  match L[g]? with
  | some o => match o.dst with
    | some d => match st.t.getD d .undef with
      | .d (.bool x) => if d < st.t.length then some (d, x) else none
      | _ => none
    | none => none
  | none => none

def addG (dst : Option Tmp) (g : Bool) (G : List (Nat × Bool)) : List (Nat × Bool) :=
  match dst with
  | some d => (d, g) :: G
  | none => G

/-- Either way. -/
def splitK (P : Program) (E : Env) (o : Oper) (gd : Tmp) (x pol : Bool) (G : List (Nat × Bool)) (st : St) (K : List (Nat × Bool) → St → Prop) (KP : AV → St → Prop) : Prop :=
  (x = pol → need G o.op (st.put (some gd) (.d (.bool pol))) ∧ runK E (opR P o (st.put (some gd) (.d (.bool pol)))) (fun v st => K G (st.put o.dst v)) KP) ∧
  (x = !pol → K G ((st.put (some gd) (.d (.bool !pol))).put o.dst .undef))

def guardK (P : Program) (E : Env) (o : Oper) (gd : Tmp) (x pol : Bool) (R : Res) (G : List (Nat × Bool)) (st : St) (K : List (Nat × Bool) → St → Prop) (KP : AV → St → Prop) : Prop :=
  match stillOp o.op, R with
  | true, .ok p v st' => ((x == pol) = true → need G o.op st ∧ p) ∧ (st'.b = st.b ∧ st'.r = st.r) ∧ K (addG o.dst (x == pol) G) (st.put o.dst v)
  | true, .elem p es k n st' => ((x == pol) = true → need G o.op st ∧ p) ∧ (st'.b = st.b ∧ st'.r = st.r) ∧ elemG (x == pol) es k n fun y => K (addG o.dst (x == pol) G) (st.put o.dst (.cptr y))
  | true, .byte p s k st' => ((x == pol) = true → need G o.op st ∧ p) ∧ (st'.b = st.b ∧ st'.r = st.r) ∧ K (addG o.dst (x == pol) G) (st.put o.dst (.d (.int .u8 ((s.getD k 0).toNat : Int))))
  | true, .call f args _ => match E.Dt f, allD args with
    | some h, some ds => ((x == pol) = true → need G o.op st ∧ (h ds).1) ∧ K (addG o.dst (x == pol) G) (st.put o.dst (h ds).2)
    | _, _ => splitK P E o gd x pol G st K KP
  | _, _ => splitK P E o gd x pol G st K KP

def opK (P : Program) (E : Env) (L : List Oper) (o : Oper) (G : List (Nat × Bool)) (st : St) (K : List (Nat × Bool) → St → Prop) (KP : AV → St → Prop) : Prop :=
  match o.guard with
  | none => need G o.op st ∧ runK E (opR P o st) (fun v st => K G (st.put o.dst v)) KP
  | some (gi, pol) => match gval L st gi with
    | some (gd, x) => valid G gd ∧ guardK P E o gd x pol (opR P o st) G st K KP
    | none => False

/-- Are all entries for it true? -/
def vG : List (Nat × Bool) → Nat → Bool
  | [], _ => true
  | (d, g) :: G, i => (if d = i then g else true) && vG G i
def gX (g x pol : Bool) : Bool := if g = true then x else !pol
/-- In the order of the text: what was passed over holds as no guard. -/
def opN (P : Program) (E : Env) (L : List Oper) (o : Oper) (G : List (Nat × Bool)) (st : St) (K : List (Nat × Bool) → St → Prop) (KP : AV → St → Prop) : Prop :=
  match o.guard with
  | none => need G o.op st ∧ runK E (opR P o st) (fun v st => K G (st.put o.dst v)) KP
  | some (gi, pol) => match gval L st gi with
    | some (gd, x) => guardK P E o gd (gX (vG G gd) x pol) pol (opR P o st) G st K KP
    | none => False
def nodupN : List Nat → Bool
  | [] => true
  | x :: l => !l.contains x && nodupN l

def clean : List (Nat × Bool) → St → St
  | [], st => st
  | (d, _) :: G, st => (clean G st).put (some d) .undef

def opsK (P : Program) (E : Env) (L : List Oper) : List Oper → List (Nat × Bool) → St → (St → Prop) → (AV → St → Prop) → Prop
  | [], G, st, K, _ => K (clean G st)
  | o :: l, G, st, K, KP => opN P E L o G st (fun G st => opsK P E L l G st K KP) KP

/-! ### loops -/
/-- s says no more than s'. -/
def leV : List AV → List AV → Prop
  | [], [] => True
  | _ :: l, .undef :: m => leV l m
  | .nilS :: l, y :: m => (y = .nilS ∨ y = .d (.list [])) ∧ leV l m
  | x :: l, y :: m => x = y ∧ leV l m
  | _, _ => False
def leB : List (List AV) → List (List AV) → Prop
  | _, [] => True
  | c :: l, d :: m => leV c d ∧ leB l m
  | [], _ :: _ => False
def leR0 : List Arr → List Arr → Prop
  | _, [] => True
  | A :: l, B :: m => A = B ∧ leR0 l m
  | [], _ :: _ => False
/-- The rows that rows lead to are there. -/
def refsL (nr : Nat) (es : List (List D)) : Prop := ∀ e ∈ es, ∀ id n, e = [.ref id n] → id < nr
def idsR (nr : Nat) : List Arr → Prop
  | [] => True
  | A :: l => if A.sz = 0 then refsL nr A.es ∧ idsR nr l else idsR nr l
def leR (l m : List Arr) : Prop := leR0 l m ∧ idsR m.length m
mutual
def idsA (nb nr : Nat) : AV → Bool
  | .undef | .d _ | .nilS | .cptr _ | .full _ => true
  | .agg cs | .tup cs => idsL nb nr cs
  | .arr id _ | .eptr id _ _ _ => decide (id < nr)
  | .ptr id _ | .bsl id _ => decide (id < nb)
  | .iface _ x => idsA nb nr x
  | .fn _ a b => idsL nb nr a && idsL nb nr b
def idsL (nb nr : Nat) : List AV → Bool
  | [] => true
  | x :: l => idsA nb nr x && idsL nb nr l
end
def idsB (nb nr : Nat) : List (List AV) → Bool
  | [] => true
  | c :: l => idsL nb nr c && idsB nb nr l
structure St.le (st s : St) : Prop where
  t : leV st.t s.t
  b : leB st.b s.b
  r : leR st.r s.r
  it : idsL s.b.length s.r.length s.t = true
  ib : idsB s.b.length s.r.length s.b = true

/-! ### rows that are lent for a round -/
/-- No operation writes to these temporaries. -/
def noDst (ss : List Nat) : Code → Bool
  | .seq x y => noDst ss x && noDst ss y
  | .cond _ x y => noDst ss x && noDst ss y
  | .block _ x => noDst ss x
  | .loop x => noDst ss x
  | .region _ ops _ => ops.toList.all fun o => match o.dst with | some d => !ss.contains d | none => true
  | _ => true
def lendS (s : St) : St := { s with r := lendR s.r }
def sameR : List Arr → List Arr → Prop
  | _, [] => True
  | A :: l, B :: m => A = { B with sh := true } ∧ sameR l m
  | [], _ :: _ => False
def flatA : AV → Bool
  | .d (.int _ _) => true
  | .d (.bool _) => true
  | .d (.str _) => true
  | _ => false
def backT (ks : List Nat) : Nat → List AV → List AV → List AV
  | d, x :: l, y :: m => (if ks.contains d then x else if flatA y = true then y else .undef) :: backT ks (d + 1) l m
  | _, _, _ => []
def flatL : List AV → Bool
  | [] => true
  | x :: l => flatA x && flatL l
def flatB : List (List AV) → Bool
  | [] => true
  | c :: l => flatL c && flatB l
def sameB : List (List AV) → List (List AV) → Prop
  | _, [] => True
  | c :: l, d :: m => c = d ∧ sameB l m
  | [], _ :: _ => False
/-- After a round in which all rows were lent: what was not written is as it was, and of the rest what is plain. -/
def backS (ks : List Nat) (s0 s : St) : St := ⟨backT ks 0 s0.t s.t, s0.b, s0.r⟩

/-! ### a row that is sliced, and stays a row -/
mutual
/-- The row is not led to. -/
def freeA (id : Nat) : AV → Bool
  | .undef | .d _ | .nilS | .cptr _ | .ptr _ _ | .bsl _ _ | .full _ => true
  | .agg cs | .tup cs => freeL id cs
  | .arr i _ | .eptr i _ _ _ => !(i == id)
  | .iface _ x => freeA id x
  | .fn _ a b => freeL id a && freeL id b
def freeL (id : Nat) : List AV → Bool
  | [] => true
  | x :: l => freeA id x && freeL id l
end
def freeB (id : Nat) : List (List AV) → Bool
  | [] => true
  | c :: l => freeL id c && freeB id l
/-- What leads to the row is forgotten. -/
def forgetT (id : Nat) : List AV → List AV
  | [] => []
  | x :: l => (if freeA id x = true then x else .undef) :: forgetT id l
/-- Where a region is cut: the operation there slices a row that stays a row; rows below nrP are not cut. -/
def cutAt (pl : Nat → List (Nat × Bool × List Nat)) (id : Nat) : Option Nat := match pl (id + 200000) with
  | (i, _, _) :: _ => some i
  | [] => none
def nrP (pl : Nat → List (Nat × Bool × List Nat)) : Nat := match pl 300000 with
  | (i, _, _) :: _ => i
  | [] => 0
def cutR (P : Program) (nr : Nat) (o : Oper) (st : St) : Option (Prop × St) := match o with
  | ⟨some d, .slice t x lo hi none, _, _, _, none⟩ => match st.ev x with
    | .arr id m => match st.r[id]? with
      | some A => match boundA 0 (lo.map st.ev), boundA A.es.length (hi.map st.ev), sl? P t with
        | some l, some h, some (_, n, _) => some ((d < st.t.length ∧ nr ≤ id ∧ m = A.es.length ∧ (0 ≤ l ∧ l ≤ h ∧ h ≤ A.es.length) ∧ (n = A.sz ∧ ¬ A.sz = 0 ∧ A.sh = false) ∧ freeB id st.b = true ∧ anyL st.r = false),
            ⟨(forgetT id st.t).set d (.arr id (h - l).toNat), st.b, st.r.set id { A with es := (A.es.take h.toNat).drop l.toNat }⟩)
        | _, _, _ => none
      | none => none
    | _ => none
  | _ => none
/-- So many rounds at most. -/
def iterK (f : St → (Ex → St → Prop) → Prop) : Nat → St → (Ex → St → Prop) → Prop
  | 0, _, _ => False
  | n + 1, st, Q => f st fun e st => match e with
    | .normal => iterK f n st Q
    | e => Q e st

/-! ### regions whose order is drawn -/
/-- A call of a function of data that is known: it may come up at any time. -/
def detRk (h : Option Det) (ds : Option (List D)) (R : Res) (st : St) : Res := match h, ds with
  | some h, some ds => .ok (h ds).1 (h ds).2 st
  | _, _ => R
def detR (E : Env) (R : Res) : Res := match R with
  | .call f args st => detRk (E.Dt f) (allD args) (.call f args st) st
  | R => R
def stillV (P : Program) (E : Env) (o : Oper) (g : Bool) (G : List (Nat × Bool)) (st : St) (F : AV → Prop) : Prop :=
  match detR E (opR P o st) with
  | .ok p v st' => (g = true → need G o.op st ∧ p) ∧ (st'.b = st.b ∧ st'.r = st.r) ∧ F v
  | .elem p es k n st' => (g = true → need G o.op st ∧ p) ∧ (st'.b = st.b ∧ st'.r = st.r) ∧ elemG g es k n fun y => F (.cptr y)
  | .byte p s k st' => (g = true → need G o.op st ∧ p) ∧ (st'.b = st.b ∧ st'.r = st.r) ∧ F (.d (.int .u8 ((s.getD k 0).toNat : Int)))
  | _ => g = false ∧ F .undef
def stillK (P : Program) (E : Env) (L : List Oper) (o : Oper) (G : List (Nat × Bool)) (st : St) (K : List (Nat × Bool) → St → Prop) : Prop :=
  match o.guard with
  | none => stillV P E o true G st fun v => K G (st.put o.dst v)
  | some (gi, pol) => match gval L st gi with
    | some (gd, x) => stillV P E o (gX (vG G gd) x pol == pol) G st fun v => K (addG o.dst (gX (vG G gd) x pol == pol) G) (st.put o.dst v)
    | none => False
/-- Reckoned ahead, and still right. -/
def pendV (P : Program) (E : Env) (o : Oper) (g : Bool) (G : List (Nat × Bool)) (st : St) : Prop :=
  (∀ d, o.dst = some d → (valid G d ↔ g = true)) ∧
  (g = true → need G o.op st ∧ (detR E (opR P o st)).sem fun v st' => (∀ d, o.dst = some d → d < st.t.length → v = st.t.getD d .undef) ∧ st'.b = st.b ∧ st'.r = st.r)
def pendO (P : Program) (E : Env) (L : List Oper) (o : Oper) (G : List (Nat × Bool)) (st : St) : Prop :=
  match o.guard with
  | none => pendV P E o true G st
  | some (gi, pol) => match gval L st gi with
    | some (gd, x) => pendV P E o (gX (vG G gd) x pol == pol) G st
    | none => False
def pendL (P : Program) (E : Env) (L : List Oper) (G : List (Nat × Bool)) (st : St) : List Nat → Prop
  | [] => True
  | i :: l => (match L[i]? with | some o => pendO P E L o G st | none => False) ∧ pendL P E L G st l

def planK (P : Program) (E : Env) (L : List Oper) : List (Nat × Bool × List Nat) → List (Nat × Bool) → St → (St → Prop) → (AV → St → Prop) → Prop
  | [], G, st, K, _ => K (clean G st)
  | (i, ch, rc) :: l, G, st, K, KP => match L[i]? with
    | some o => match ch with
      | true => opN P E L o G st (fun G st => pendL P E L G st rc ∧ planK P E L l G st K KP) KP
      | false => stillK P E L o G st (fun G st => planK P E L l G st K KP)
    | none => False

/-! ### the end of a row, cleared: slice, then clear -/
def kindL : List Oper → Nat
  | ⟨_, .buildSlice _ _ _, _, _, _, _⟩ :: ⟨_, .convert s t _, _, _, _, _⟩ :: _ => if s = t then 2 else 0
  | [_, _, _, ⟨_, .call ⟨.builtin .clear, _, _⟩, _, _, _, _⟩] => 1
  | _ => 0
/-- Bytes of a constant text: a row, converted to its own type. -/
def bytesC : List (Nat × Operand) → Nat → Option (List Int)
  | [], _ => some []
  | (i, .const (.int .u8 x)) :: l, k => if i = k then (bytesC l (k + 1)).map (x :: ·) else none
  | _ :: _, _ => none
def litR (P : Program) (l : List Oper) (st : St) : Option (Prop × St) :=
  match l with
  | [⟨some a, .buildSlice t n ps, _, _, _, none⟩, ⟨some b, .convert t1 t2 (.tmp a'), _, _, _, none⟩] => match sl? P t, bytesC ps.toList 0 with
    | some (e, 1, _), some xs => if kd? P e = 14 then some ((a' = a ∧ t1 = t ∧ t2 = t ∧ n = xs.length ∧ xs.length ≤ 16777216 ∧ 0 < xs.length ∧ a < st.t.length), ⟨(st.t.set a .undef).set b (.d (.list (xs.map fun x => [.int .u8 x]))), st.b, st.r⟩) else none
    | _, _ => none
  | _ => none
def clearR (P : Program) (l : List Oper) (st : St) : Option (Prop × St) :=
  match l with
  | [⟨some c, .slice t x (some y) none none, _, _, _, none⟩, ⟨none, .call ⟨.builtin .clear, as, ts⟩, _, _, _, none⟩] =>
    match as.toList, ts.toList, st.ev x, st.ev y, sl? P t with
    | [.tmp c'], [t'], .arr id m, .d (.int _ k), some (e, n, _) => match sl? P t', st.r[id]?, zero? P e with
      | some (e', _, _), some A, some z => match toDL [] z with
        | some ds => some (((c' = c ∧ c < st.t.length ∧ e' = e) ∧ m = A.es.length ∧ 0 ≤ k ∧ k ≤ m ∧ n = A.sz ∧ A.ety = e ∧ A.sh = false ∧ ds.all oneD = true), ⟨st.t.set c .undef, st.b, st.r.set id { A with es := A.es.take k.toNat ++ List.replicate (m - k.toNat) ds }⟩)
        | none => none
      | _, _, _ => none
    | _, _, _, _, _ => none
  | _ => none
def clearK (P : Program) (l : List Oper) (st : St) (K : St → Prop) : Prop := match clearR P l st with
  | some q => q.1 ∧ K q.2
  | none => False

/-! ### code -/
/-- The data of a cell of a row: a row of the call is told by what it holds; it must be shared (ids). -/
def resC (r : List Arr) (ids : List Nat) : List D → Option (List D)
  | [.ref id n] => match r[id]? with | some A => if A.sz = 0 then none else if n = A.es.length ∧ id ∈ ids then some [.list A.es] else none | none => none
  | e => some e
def resL (r : List Arr) (ids : List Nat) : List (List D) → Option (List (List D))
  | [] => some []
  | e :: l => match resC r ids e, resL r ids l with | some x, some y => some (x :: y) | _, _ => none
/-- Ahead of a region, nothing is done: a row of slices may hold rows of the call from now on (true), or holds data again (false). -/
def ghostK : List (Nat × Bool × List Nat) → St → (St → Prop) → Prop
  | [], st, F => F st
  | (id, true, _) :: l, st, F => match st.r[id]? with
    | some A => A.sz ≤ 1 ∧ ghostK l { st with r := st.r.set id { A with sz := 0 } } F
    | none => False
  | (id, false, ids) :: l, st, F => match st.r[id]? with
    | some A => match resL st.r ids A.es with
      | some es => A.sz = 0 ∧ ghostK l { st with r := (share st.r (id :: ids)).set id { A with sz := 1, es := es, sh := true } } F
      | none => False
    | none => False
def evalK (P : Program) (E : Env) (pl : Nat → List (Nat × Bool × List Nat)) : Code → St → (Ex → St → Prop) → Prop
  | .skip, st, Q => Q .normal st
  | .label _, st, Q => Q .normal st
  | .seq x y, st, Q => evalK P E pl x st fun e st => match e with
    | .normal => evalK P E pl y st Q
    | e => Q e st
  | .cond c x y, st, Q => match st.ev c with
    | .d (.bool e) => (e = true → evalK P E pl x st Q) ∧ (e = false → evalK P E pl y st Q)
    | _ => False
  | .block id x, st, Q => evalK P E pl x st fun e st => match e with
    | .exit i => if i = id then Q .normal st else Q (.exit i) st
    | e => Q e st
  | .exit i, st, Q => Q (.exit i) st
  | .ret, st, Q => Q .ret st
  | .loop x, st, Q => (∃ (α : Type) (S : α → St) (μ : α → Nat) (a0 : α), st.le (S a0) ∧ (∀ a, (S a).b.length = st.b.length ∧ st.r.length ≤ (S a).r.length) ∧
      ∀ a, evalK P E pl x (S a) fun e st => match e with
        | .normal => ∃ a', μ a' < μ a ∧ st.le (S a')
        | e => Q e st) ∨
    (∃ n, iterK (fun st Q => evalK P E pl x st Q) n st Q) ∨
    ∃ (α : Type) (S : α → St) (μ : α → Nat) (a0 : α) (ks : List Nat), (∀ i, pl (i + 200000) = []) ∧ noDst ks x = true ∧ st.le (S a0) ∧ (∀ a, (flatB (S a).b = true ∧ (S a).b.length = st.b.length) ∧ st.r.length ≤ (S a).r.length) ∧
      ∀ a, evalK P E pl x (lendS (S a)) fun e s => match e with
        | .normal => ∃ a', μ a' < μ a ∧ (sameR s.r (S a).r ∧ sameB s.b (S a).b) ∧ (backS ks (S a) s).le (S a')
        | .exit i => (sameR s.r (S a).r ∧ sameB s.b (S a).b) ∧ Q (.exit i) (backS ks (S a) s)
        | .ret => Q .ret s
        | .panic v => Q (.panic v) s
  | .region id ops false, st, Q => ghostK (pl (id + 100000)) st fun st => match cutAt pl id with
    | some i => opsK P E ops.toList (ops.toList.take i) [] st (fun st => match ops.toList[i]? with
        | some o => match cutR P (nrP pl) o st with
          | some q => q.1 ∧ opsK P E ops.toList (ops.toList.drop (i + 1)) [] q.2 (fun st => Q .normal st) fun x st => Q (.panic x) st
          | none => False
        | none => False) fun x st => Q (.panic x) st
    | none => match kindL ops.toList with
    | 0 => opsK P E ops.toList ops.toList [] st (fun st => Q .normal st) fun x st => Q (.panic x) st
    | 2 => match litR P (ops.toList.take 2) st with
      | some q => q.1 ∧ opsK P E ops.toList (ops.toList.drop 2) [] q.2 (fun st => Q .normal st) fun x st => Q (.panic x) st
      | none => False
    | _ => opsK P E ops.toList (ops.toList.take 2) [] st (fun st => clearK P (ops.toList.drop 2) st fun st => Q .normal st) fun x st => Q (.panic x) st
  | .region id ops true, st, Q => ghostK (pl (id + 100000)) st fun st => planK P E ops.toList (pl id) [] st (fun st => Q .normal st) fun x st => Q (.panic x) st
  | _, _, _ => False
end Go.PE
end

section
/- The evaluator of code is right, 1: operations (see PeQ). -/
set_option linter.unusedVariables false
set_option linter.unusedSimpArgs false
namespace Go.PE
open Go

theorem St.wT_wT (st : St) (t t' : List AV) : (st.wT t).wT t' = st.wT t' := rfl
theorem St.wT_t (st : St) : st.wT st.t = st := rfl

theorem opR_self {P : Program} (o : Oper) (st : St) : (opR P o st).setT st.t = opR P o st := by
  have := opR_t (P := P) st.t st o (fun _ _ => rfl)
  exact this.symm

theorem plain_call {R : Res} (h : R.plain = true) {g : FuncId} {args : List AV} {st' : St} : R ≠ .call g args st' := by
  intro e; rw [e] at h; cases h
theorem plain_panic {R : Res} (h : R.plain = true) {x : AV} {st' : St} : R ≠ .panic x st' := by
  intro e; rw [e] at h; cases h

theorem pl_builtin {P : Program} (b : Builtin) (ats : List TypeId) (args : List AV) (st : St) : (builtinR P b ats args st).plain = true := by
  unfold builtinR lenR appendR zerosR copyR capR mmR
  repeat' split
  all_goals rfl

theorem opR_call_st {P : Program} {o : Oper} {st st' : St} {g : FuncId} {args : List AV} (h : opR P o st = .call g args st') : st' = st := by
  obtain ⟨d, op, ty, p, ar, gd⟩ := o
  cases op with
  | call c =>
    obtain ⟨callee, cargs, ats⟩ := c
    cases callee with
    | builtin b => exact absurd h (plain_call (pl_builtin _ _ _ _))
    | value f =>
      simp only [opR, callR] at h
      split at h
      · injection h with _ _ h; exact h.symm
      · cases h
    | invoke recv n =>
      simp only [opR, callR, invokeR] at h
      repeat' (split at h)
      all_goals first | cases h; done | (injection h with _ _ h; exact h.symm)
  | panic x =>
    simp only [opR, panicR] at h
    repeat' (split at h)
    all_goals cases h
  | move x => cases h
  | assign x => exact absurd h (plain_call (pl_assign _ _ _))
  | pick c x y => exact absurd h (plain_call (pl_pick _ _ _ _))
  | alloc t => exact absurd h (plain_call (pl_alloc _ _))
  | box t x => cases h
  | build t ps => exact absurd h (plain_call (pl_build _ _ _))
  | buildSlice t n ps => exact absurd h (plain_call (pl_bslice _ _ _ _))
  | load t x => exact absurd h (plain_call (pl_load _ _ _))
  | store t x y => exact absurd h (plain_call (pl_store _ _ _ _))
  | nilCheck x => exact absurd h (plain_call (pl_nilCheck _ _))
  | binOp op t x y e => exact absurd h (plain_call (pl_bin _ _ _ _ _ _))
  | unOp op t x => exact absurd h (plain_call (pl_un _ _ _))
  | convert s t x => exact absurd h (plain_call (pl_conv _ _ _ _))
  | makeInterface t x => exact absurd h (plain_call (pl_mkIf _ _ _))
  | makeFunc f xs ys => cases h
  | makeSlice t x y => exact absurd h (plain_call (pl_mkSlice _ _ _ _))
  | slice t x lo hi mx => exact absurd h (plain_call (pl_slice _ _ _ _ _ _))
  | fieldAddr t x f => exact absurd h (plain_call (pl_fieldAddr _ _ _ _))
  | field t x f => exact absurd h (plain_call (pl_field _ _ _ _))
  | indexAddr t x i => exact absurd h (plain_call (pl_indexAddr _ _ _ _))
  | index t x i => exact absurd h (plain_call (pl_index _ _ _ _))
  | typeAssert x xt ty ok => exact absurd h (plain_call (pl_assert _ _ _ _))
  | extract x i => exact absurd h (plain_call (pl_extract _ _ _))
  | _ => cases h

theorem opR_panic_st {P : Program} {o : Oper} {st st' : St} {x : AV} (h : opR P o st = .panic x st') : st' = st := by
  obtain ⟨d, op, ty, p, ar, gd⟩ := o
  cases op with
  | call c =>
    obtain ⟨callee, cargs, ats⟩ := c
    cases callee with
    | builtin b => exact absurd h (plain_panic (pl_builtin _ _ _ _))
    | value f =>
      simp only [opR, callR] at h
      split at h <;> cases h
    | invoke recv n =>
      simp only [opR, callR, invokeR] at h
      repeat' (split at h)
      all_goals cases h
  | panic x =>
    simp only [opR, panicR] at h
    repeat' (split at h)
    all_goals first | cases h; done | (injection h with _ h; exact h.symm)
  | move x => cases h
  | assign x => exact absurd h (plain_panic (pl_assign _ _ _))
  | pick c x y => exact absurd h (plain_panic (pl_pick _ _ _ _))
  | alloc t => exact absurd h (plain_panic (pl_alloc _ _))
  | box t x => cases h
  | build t ps => exact absurd h (plain_panic (pl_build _ _ _))
  | buildSlice t n ps => exact absurd h (plain_panic (pl_bslice _ _ _ _))
  | load t x => exact absurd h (plain_panic (pl_load _ _ _))
  | store t x y => exact absurd h (plain_panic (pl_store _ _ _ _))
  | nilCheck x => exact absurd h (plain_panic (pl_nilCheck _ _))
  | binOp op t x y e => exact absurd h (plain_panic (pl_bin _ _ _ _ _ _))
  | unOp op t x => exact absurd h (plain_panic (pl_un _ _ _))
  | convert s t x => exact absurd h (plain_panic (pl_conv _ _ _ _))
  | makeInterface t x => exact absurd h (plain_panic (pl_mkIf _ _ _))
  | makeFunc f xs ys => cases h
  | makeSlice t x y => exact absurd h (plain_panic (pl_mkSlice _ _ _ _))
  | slice t x lo hi mx => exact absurd h (plain_panic (pl_slice _ _ _ _ _ _))
  | fieldAddr t x f => exact absurd h (plain_panic (pl_fieldAddr _ _ _ _))
  | field t x f => exact absurd h (plain_panic (pl_field _ _ _ _))
  | indexAddr t x i => exact absurd h (plain_panic (pl_indexAddr _ _ _ _))
  | index t x i => exact absurd h (plain_panic (pl_index _ _ _ _))
  | typeAssert x xt ty ok => exact absurd h (plain_panic (pl_assert _ _ _ _))
  | extract x i => exact absurd h (plain_panic (pl_extract _ _ _))
  | _ => cases h

/-! ### masks -/
open Classical in
noncomputable def maskT (G : List (Nat × Bool)) (t : List AV) : List AV := (List.range t.length).map fun i => if valid G i then t.getD i .undef else .undef

theorem maskT_len (G : List (Nat × Bool)) (t : List AV) : (maskT G t).length = t.length := by simp [maskT]
theorem maskT_valid {G : List (Nat × Bool)} {t : List AV} {i : Nat} (h : valid G i) : (maskT G t).getD i .undef = t.getD i .undef := by
  rcases Nat.lt_or_ge i t.length with h1 | h1
  · simp [maskT, List.getD, h1, h]
  · have h2 : (maskT G t).length ≤ i := by rw [maskT_len]; exact h1
    simp [List.getD, List.getElem?_eq_none h1, List.getElem?_eq_none h2]
theorem maskT_not {G : List (Nat × Bool)} {t : List AV} {i : Nat} (h : ¬ valid G i) : (maskT G t).getD i .undef = .undef := by
  rcases Nat.lt_or_ge i t.length with h1 | h1
  · simp [maskT, List.getD, h1, h]
  · have h2 : (maskT G t).length ≤ i := by rw [maskT_len]; exact h1
    simp [List.getD, List.getElem?_eq_none h2]

/-- The frame, where not every temporary need be good. -/
def RG (w : World) (M : Mem) (r : List Arr) (G : List (Nat × Bool)) (tmps : Array Value) (t : List AV) : Prop :=
  tmps.size = t.length ∧ ∀ i, i < t.length → valid G i → RepA w M r (tmps.getD i undef) (t.getD i .undef)

theorem RG.rept {w : World} {M : Mem} {r : List Arr} {G : List (Nat × Bool)} {tmps : Array Value} {t : List AV} (h : RG w M r G tmps t) : Rept w M r tmps (maskT G t) := by
  refine ⟨by rw [maskT_len]; exact h.1, fun i hi => ?_⟩
  rw [maskT_len] at hi
  by_cases hv : valid G i
  · rw [maskT_valid hv]; exact h.2 i hi hv
  · rw [maskT_not hv]; exact .undef _
theorem RG.mono {w w' : World} {M M' : Mem} {r r' : List Arr} {G : List (Nat × Bool)} {tmps : Array Value} {t : List AV} (c : Chg w M r w' M' r') (h : RG w M r G tmps t) : RG w' M' r' G tmps t :=
  ⟨h.1, fun i hi hv => (h.2 i hi hv).mono c⟩

theorem getD_set_self {α : Type} (l : List α) (i : Nat) (v x : α) (h : i < l.length) : (l.set i v).getD i x = v := by simp [List.getD, h]
theorem getD_set_ne {α : Type} (l : List α) (i j : Nat) (v x : α) (h : i ≠ j) : (l.set i v).getD j x = l.getD j x := by simp [List.getD, h]
theorem agetD_set_self (l : Array Value) (i : Nat) (v : Value) (h : i < l.size) : (l.setIfInBounds i v).getD i undef = v := by simp [Array.getD, h]
theorem agetD_set_ne (l : Array Value) (i j : Nat) (v : Value) (h : i ≠ j) : (l.setIfInBounds i v).getD j undef = l.getD j undef := by
  simp only [Array.getD, Array.size_setIfInBounds]
  split
  · exact Array.getElem_setIfInBounds_ne (by assumption) h
  · rfl

theorem RG.put {w : World} {M : Mem} {r : List Arr} {G : List (Nat × Bool)} {a : Act} {st : St} {dst : Option Tmp} {u : Value} {v : AV} (h : RG w M r G a.tmps st.t) (hv : RepA w M r u v) :
    RG w M r G (a.put dst u).tmps (st.put dst v).t := by
  cases dst with
  | none => exact h
  | some d =>
    refine ⟨by simpa [Act.put, St.put] using h.1, fun i hi hg => ?_⟩
    simp only [St.put, List.length_set] at hi
    show RepA w M r ((a.tmps.setIfInBounds d u).getD i undef) ((st.t.set d v).getD i .undef)
    by_cases e : d = i
    · subst e
      rw [getD_set_self _ _ _ _ hi, agetD_set_self _ _ _ (by rw [h.1]; exact hi)]
      exact hv
    · rw [getD_set_ne _ _ _ _ _ e, agetD_set_ne _ _ _ _ e]
      exact h.2 i hi hg

theorem valid_addG {dst : Option Tmp} {g : Bool} {G : List (Nat × Bool)} {i : Nat} (h : valid (addG dst g G) i) : valid G i ∧ (dst = some i → g = true) := by
  cases dst with
  | none => exact ⟨h, fun e => nomatch e⟩
  | some d =>
    refine ⟨fun p hp e => h p (List.mem_cons_of_mem _ hp) e, fun e => ?_⟩
    injection e with e
    exact h (d, g) (List.mem_cons_self ..) e

/-- A slot that holds anything, behind a guard that fails. -/
theorem RG.skip {w : World} {M : Mem} {r : List Arr} {G : List (Nat × Bool)} {a : Act} {st : St} {dst : Option Tmp} {u : Value} {v : AV} (h : RG w M r G a.tmps st.t) : RG w M r (addG dst false G) (a.put dst u).tmps (st.put dst v).t := by
  cases dst with
  | none => exact h
  | some d =>
    refine ⟨by simpa [Act.put, St.put] using h.1, fun i hi hg => ?_⟩
    simp only [St.put, List.length_set] at hi
    show RepA w M r ((a.tmps.setIfInBounds d u).getD i undef) ((st.t.set d v).getD i .undef)
    obtain ⟨hg1, hg2⟩ := valid_addG hg
    by_cases e : d = i
    · subst e
      cases hg2 rfl
    · rw [getD_set_ne _ _ _ _ _ e, agetD_set_ne _ _ _ _ e]
      exact h.2 i hi hg1
theorem RG.more {w : World} {M : Mem} {r : List Arr} {G : List (Nat × Bool)} {dst : Option Tmp} {g : Bool} {tmps : Array Value} {t : List AV} (h : RG w M r G tmps t) : RG w M r (addG dst g G) tmps t :=
  ⟨h.1, fun i hi hg => h.2 i hi (valid_addG hg).1⟩

theorem ev_mask {G : List (Nat × Bool)} {st : St} {x : Operand} (h : validO G x) : (st.wT (maskT G st.t)).ev x = st.ev x := by
  cases x with
  | tmp d => exact maskT_valid h
  | _ => rfl

theorem opR_mask {P : Program} {G : List (Nat × Bool)} {o : Oper} {st : St} (h : need G o.op st) : opR P o (st.wT (maskT G st.t)) = (opR P o st).setT (maskT G st.t) := by
  have gen : needL G o.op.operands.toList → opR P o (st.wT (maskT G st.t)) = (opR P o st).setT (maskT G st.t) := by
    intro hn
    exact opR_t _ _ _ (fun x hx => ev_mask (hn x (by simpa using hx)))
  obtain ⟨d, op, ty, p, ar, gd⟩ := o
  cases op with
  | pick c a b =>
    simp only [need] at h
    split at h
    · rename_i e he
      obtain ⟨hc, ha, hb⟩ := h
      have hc' := ev_mask (st := st) hc
      simp only [opR, hc', he, pickR, Res.setT]
      cases e with
      | true => simp [ev_mask (st := st) (ha rfl)]
      | false => simp [ev_mask (st := st) (hb rfl)]
    · exact gen (by simpa [Op.operands] using h)
  | _ => exact gen h

theorem need_valid {G G' : List (Nat × Bool)} {o : Op} {st : St} (h : ∀ d, .tmp d ∈ o.operands → valid G d → valid G' d) (hn : need G o st) : need G' o st := by
  have hO : ∀ x ∈ o.operands, validO G x → validO G' x := by
    intro x hx hv
    cases x with
    | tmp d => exact h d hx hv
    | _ => exact hv
  have hL : needL G o.operands.toList → needL G' o.operands.toList := fun hl x hx => hO x (by simpa using hx) (hl x hx)
  cases o with
  | pick c a b =>
    simp only [need] at hn ⊢
    have hc := hO c (by simp [Op.operands])
    have ha := hO a (by simp [Op.operands])
    have hb := hO b (by simp [Op.operands])
    split at hn
    · exact ⟨hc hn.1, fun e => ha (hn.2.1 e), fun e => hb (hn.2.2 e)⟩
    · intro x hx
      simp at hx
      rcases hx with rfl | rfl | rfl
      · exact hc (hn _ (by simp))
      · exact ha (hn _ (by simp))
      · exact hb (hn _ (by simp))
  | _ => exact hL hn

theorem looks_op {ops : Array Oper} {o : Oper} {d : Tmp} (h : .tmp d ∈ o.op.operands) : d ∈ o.looksAt ops := by
  unfold Oper.looksAt
  refine List.mem_append_left _ (List.mem_filterMap.2 ⟨.tmp d, by simpa using h, rfl⟩)
theorem looks_guard {ops : Array Oper} {o : Oper} {g : Nat} {b : Bool} {d : Tmp} (h : o.guard = some (g, b)) (hd : (ops[g]?).bind (·.dst) = some d) : d ∈ o.looksAt ops := by
  unfold Oper.looksAt
  refine List.mem_append_right _ ?_
  simp [h, hd]
theorem gval_dst {ops : Array Oper} {st : St} {g : Nat} {d : Tmp} {x : Bool} (h : gval ops.toList st g = some (d, x)) : (ops[g]?).bind (·.dst) = some d := by
  unfold gval at h
  split at h
  · rename_i o ho
    split at h
    · rename_i d' hd
      split at h
      · split at h
        · injection h with h
          injection h with h1 h2
          subst h1
          have : ops[g]? = some o := by simpa using ho
          simp [this, hd]
        · cases h
      · cases h
    · cases h
  · cases h

theorem valid_append {X G : List (Nat × Bool)} {d : Nat} : valid (X ++ G) d ↔ valid X d ∧ valid G d :=
  ⟨fun h => ⟨fun p hp e => h p (List.mem_append_left _ hp) e, fun p hp e => h p (List.mem_append_right _ hp) e⟩, fun h p hp e => (List.mem_append.1 hp).elim (fun h1 => h.1 p h1 e) (fun h1 => h.2 p h1 e)⟩
theorem valid_addG_iff {dst : Option Tmp} {g : Bool} {G : List (Nat × Bool)} {d : Nat} : valid (addG dst g G) d ↔ valid G d ∧ (dst = some d → g = true) := by
  refine ⟨valid_addG, fun h => ?_⟩
  cases dst with
  | none => exact h.1
  | some e =>
    intro p hp hpe
    rcases List.mem_cons.1 hp with rfl | hp
    · exact h.2 (by rw [← hpe])
    · exact h.1 p hp hpe

theorem RG.le {w : World} {M : Mem} {r : List Arr} {G G' : List (Nat × Bool)} {tmps : Array Value} {t : List AV} (h : RG w M r G tmps t) (hg : ∀ d, valid G' d → valid G d) : RG w M r G' tmps t :=
  ⟨h.1, fun i hi hv => h.2 i hi (hg i hv)⟩
end Go.PE
end

section
/- The evaluator of code is right, 2: a region in the order of the text (see PeQ). -/
set_option linter.unusedVariables false
set_option linter.unusedSimpArgs false
namespace Go.PE
open Go

/-- Where a walk stands: behind the start (W0, M0, r0). -/
def At (dl : Act → Prop) (w0 : World) (F : List Nat) (W0 : World) (M0 : Mem) (r0 : List Arr) (G : List (Nat × Bool)) (st : St) (a : Act) (w : World) : Prop :=
  ∃ M, Inv w0 F M st.b st.r w ∧ RG w M st.r G a.tmps st.t ∧ dl a ∧ Chg W0 M0 r0 w M st.r
/-- Where it stands when it panics. -/
def AtP (dl : Act → Prop) (w0 : World) (F : List Nat) (W0 : World) (M0 : Mem) (r0 : List Arr) (x : AV) (st : St) (u : Value) (a : Act) (w : World) : Prop :=
  ∃ M, Inv w0 F M st.b st.r w ∧ RepA w M st.r u x ∧ dl a ∧ Chg W0 M0 r0 w M st.r

section
variable {dl : Act → Prop} {P : Program} {E : Env} {w0 : World} {F : List Nat} {W0 : World} {M0 : Mem} {r0 : List Arr} {G : List (Nat × Bool)} {st : St} {a : Act} {w : World}

theorem run_sound (hE : E.Ok P) {M : Mem} {o : Oper} {K KP : AV → St → Prop} {next : Act → World → Prop} {Q : Exit → Act → World → Prop}
    (h : Inv w0 F M st.b st.r w) (hR : RG w M st.r G a.tmps st.t) (hn : need G o.op st) (hk : runK E (opR P o st) K KP)
    (next' : ∀ v st' M' w' u, K v st' → st'.t = st.t → Inv w0 F M' st'.b st'.r w' → Chg w M st.r w' M' st'.r → RepA w' M' st'.r u v → next (a.put o.dst u) w')
    (panics : ∀ x st' M' w' u, KP x st' → Inv w0 F M' st'.b st'.r w' → Chg w M st.r w' M' st'.r → RepA w' M' st'.r u x → Q (.panic [{ v := u, recovered := false }]) a w') :
    o.wp P a w next Q := by
  have hm := opR_mask (P := P) hn
  have hself := opR_self (P := P) o st
  have ht : Rept w M (st.wT (maskT G st.t)).r a.tmps (st.wT (maskT G st.t)).t := hR.rept
  have key : (opR P o (st.wT (maskT G st.t))).go (fun v s => K v (s.wT st.t)) := by
    rw [hm]
    revert hk hself
    generalize opR P o st = R
    intro hk hself
    cases R with
    | fail => exact hk.elim
    | ok p v st' =>
      simp only [Res.setT, Res.ok.injEq, true_and] at hself
      refine ⟨hk.1, ?_⟩
      show K v (st'.wT st.t)
      rw [hself]
      exact hk.2
    | elem p es k n st' =>
      simp only [Res.setT, Res.elem.injEq, true_and] at hself
      refine ⟨hk.1, fun x hx => ⟨(hk.2 x hx).1, ?_⟩⟩
      show K _ (st'.wT st.t)
      rw [hself]
      exact (hk.2 x hx).2
    | byte p s k st' =>
      simp only [Res.setT, Res.byte.injEq, true_and] at hself
      refine ⟨hk.1, fun x hx => ?_⟩
      show K _ (st'.wT st.t)
      rw [hself]
      exact hk.2 x hx
    | any p q st' =>
      simp only [Res.setT, Res.any.injEq, true_and] at hself
      refine ⟨hk.1, fun x hx => ?_⟩
      show K _ (st'.wT st.t)
      rw [hself]
      exact hk.2 x hx
    | call g args st' => trivial
    | panic x st' => trivial
  have := op_sound (P := P) (o := o) (a := a) (st := st.wT (maskT G st.t)) h ht key
  cases this with
  | value v s M' w' u hK hr hI hc hv _ =>
    have := next' v (s.wT st.t) M' w' u hK rfl hI hc hv
    unfold Oper.wp
    rcases hr with hr | ⟨hr, rfl⟩
    · rw [hr]; exact this
    · rw [hr]; exact this
  | enter g args s vs hRe hr hv _ _ =>
    rw [hm] at hRe
    cases hop : opR P o st with
    | call g' args' st'' =>
      rw [hop] at hRe hk
      simp only [Res.setT, Res.call.injEq] at hRe
      obtain ⟨rfl, rfl, _⟩ := hRe
      obtain rfl := opR_call_st hop
      obtain ⟨hent, hcalls⟩ := hE.h g' h hv hk
      unfold Oper.wp
      rw [hr hent]
      refine Calls.mono hcalls (fun e w' he => ?_)
      cases e with
      | returned v =>
        obtain ⟨x, b', r', M', hK, hI, hc, hx⟩ := he
        exact next' x { st'' with b := b', r := r' } M' w' v hK rfl hI hc hx
      | panicked chain =>
        obtain ⟨x, b', r', M', u, hK, rfl, hI, hc, hx⟩ := he
        exact panics x { st'' with b := b', r := r' } M' w' u hK hI hc hx
      | outgrown => exact he.elim
    | _ => rw [hop] at hRe; cases hRe
  | panic x s u hRe hr hv =>
    rw [hm] at hRe
    cases hop : opR P o st with
    | panic x' st'' =>
      rw [hop] at hRe hk
      simp only [Res.setT, Res.panic.injEq] at hRe
      obtain ⟨rfl, _⟩ := hRe
      obtain rfl := opR_panic_st hop
      unfold Oper.wp
      rw [hr]
      exact panics x' st'' M w u hk h (.refl _ _ _) hv
    | _ => rw [hop] at hRe; cases hRe

theorem put_put_len {dst : Option Tmp} {v : AV} : (st.put dst v).b = st.b ∧ (st.put dst v).r = st.r := by cases dst <;> exact ⟨rfl, rfl⟩
theorem put_defers {dst : Option Tmp} {u : Value} : (a.put dst u).defers = a.defers := by cases dst <;> rfl

theorem At.put {dst : Option Tmp} {v : AV} {u : Value} {M' : Mem} {w' : World} {st' : St} (ht : st'.t = st.t) (hI : Inv w0 F M' st'.b st'.r w') (hR : RG w' M' st'.r G a.tmps st.t) (hd : dl (a.put dst u)) (hc : Chg W0 M0 r0 w' M' st'.r) (hv : RepA w' M' st'.r u v) :
    At dl w0 F W0 M0 r0 G (st'.put dst v) (a.put dst u) w' := by
  refine ⟨M', ?_, ?_, hd, ?_⟩
  · rw [put_put_len.1, put_put_len.2]; exact hI
  · rw [put_put_len.2]
    rw [← ht] at hR
    exact hR.put hv
  · rw [put_put_len.2]; exact hc

theorem gval_spec {ops : Array Oper} {g : Nat} {gd : Tmp} {x : Bool} {M : Mem} (hR : RG w M st.r G a.tmps st.t) (h : gval ops.toList st g = some (gd, x)) (hv : valid G gd) :
    yielded ops a.tmps g = some x ∧ st.t.getD gd .undef = .d (.bool x) ∧ gd < st.t.length := by
  unfold gval at h
  split at h
  · rename_i o ho
    split at h
    · rename_i d hd
      split at h
      · rename_i y hy
        split at h
        · rename_i hlt
          injection h with h
          injection h with h1 h2
          subst h1 h2
          refine ⟨?_, hy, hlt⟩
          have hrep := hR.2 d hlt hv
          rw [hy] at hrep
          have hd' := hrep.d_inv
          have hs : d < a.tmps.size := by rw [hR.1]; exact hlt
          have ho' : ops[g]? = some o := by simpa using ho
          unfold yielded
          simp only [ho', Option.bind_some, hd, Array.getElem?_eq_getElem hs]
          have e : a.tmps.getD d undef = a.tmps[d] := by simp [Array.getD, hs]
          rw [e] at hd'
          generalize a.tmps[d] = u at hd'
          cases hd'
          rfl
        · cases h
      · cases h
    · cases h
  · cases h

theorem opK_sound (hE : E.Ok P) {ops : Array Oper} {o : Oper} (hkd : ∀ (a : Act) u, dl a → dl (a.put o.dst u)) {K : List (Nat × Bool) → St → Prop} {KP : AV → St → Prop} {next : Act → World → Prop} {Q : Exit → Act → World → Prop}
    {X : List (Nat × Bool)} (hX : ∀ d ∈ o.looksAt ops, valid X d) (h : At dl w0 F W0 M0 r0 (X ++ G) st a w) (hk : opK P E ops.toList o G st K KP)
    (next' : ∀ G1 st1 a1 w1, ((∃ u, a1 = a.put o.dst u) ∧ (G1 = G ∨ G1 = addG o.dst true G ∨ (G1 = addG o.dst false G ∧ a1 = a.put o.dst undef))) → At dl w0 F W0 M0 r0 (X ++ G1) st1 a1 w1 → K G1 st1 → next a1 w1)
    (panics : ∀ x st u a w, AtP dl w0 F W0 M0 r0 x st u a w → KP x st → Q (.panic [{ v := u, recovered := false }]) a w) :
    if Region.wanted o (yielded ops a.tmps) then o.wp P a w next Q else next (a.put o.dst undef) w := by
  obtain ⟨M, hI, hR, hd, hC⟩ := h
  unfold opK at hk
  have hneed : ∀ st, need G o.op st → need (X ++ G) o.op st := fun st => need_valid (fun d hd hv => valid_append.2 ⟨hX d (looks_op hd), hv⟩)
  have hadd : ∀ dst g d, valid (X ++ addG dst g G) d → valid (addG dst g (X ++ G)) d := fun dst g d h => by
    rw [valid_append, valid_addG_iff] at h
    rw [valid_addG_iff, valid_append]
    exact ⟨⟨h.1, h.2.1⟩, h.2.2⟩
  -- running it
  have run : ∀ (E : Env), E.Ok P → ∀ (st1 : St) (K1 : AV → St → Prop), st1.b = st.b → st1.r = st.r → RG w M st.r (X ++ G) a.tmps st1.t → need G o.op st1 → runK E (opR P o st1) K1 KP →
      (∀ v st' M' w' u, K1 v st' → st'.t = st1.t → Inv w0 F M' st'.b st'.r w' → Chg w M st.r w' M' st'.r → RepA w' M' st'.r u v → next (a.put o.dst u) w') → o.wp P a w next Q := by
    intro E hE st1 K1 hb hr hR1 hn hk1 hnext
    refine run_sound (st := st1) (M := M) hE (by rw [hb, hr]; exact hI) (by rw [hr]; exact hR1) (hneed _ hn) hk1 (fun v st' M' w' u h1 h2 h3 h4 h5 => hnext v st' M' w' u h1 h2 h3 (by rw [hr] at h4; exact h4) h5) (fun x st' M' w' u h1 h2 h3 h4 => ?_)
    rw [hr] at h3
    exact panics x st' u a w' ⟨M', h2, h4, hd, hC.trans h3⟩ h1
  cases hg : o.guard with
  | none =>
    simp only [hg] at hk
    have hw : Region.wanted o (yielded ops a.tmps) = true := by simp [Region.wanted, hg]
    rw [hw, if_pos rfl]
    refine run E hE st _ rfl rfl hR hk.1 hk.2 (fun v st' M' w' u h1 h2 h3 h4 h5 => ?_)
    exact next' G _ _ _ ⟨⟨_, rfl⟩, .inl rfl⟩ (At.put h2 h3 (hR.mono h4) (hkd _ _ hd) (hC.trans h4) h5) h1
  | some gp =>
    obtain ⟨gi, pol⟩ := gp
    simp only [hg] at hk
    cases hgv : gval ops.toList st gi with
    | none => rw [hgv] at hk; exact hk.elim
    | some gx =>
      obtain ⟨gd, x⟩ := gx
      rw [hgv] at hk
      obtain ⟨hval, hk⟩ := hk
      obtain ⟨hy, hx, hlt⟩ := gval_spec hR hgv (valid_append.2 ⟨hX gd (looks_guard hg (gval_dst hgv)), hval⟩)
      have hw : Region.wanted o (yielded ops a.tmps) = (x == pol) := by
        simp only [Region.wanted, hg, hy]
        cases x <;> cases pol <;> rfl
      rw [hw]
      -- either way
      have split_ok : splitK P E o gd x pol G st K KP → if (x == pol) = true then o.wp P a w next Q else next (a.put o.dst undef) w := by
        intro hs
        have self : ∀ c, x = c → st.put (some gd) (.d (.bool c)) = st := by
          intro c e
          subst e
          have : st.t.set gd (.d (.bool x)) = st.t := by
            apply List.ext_getElem?
            intro i
            by_cases e : gd = i
            · subst e
              have h2 : st.t[gd] = .d (.bool x) := by simpa [List.getD, hlt] using hx
              simp [hlt, h2]
            · simp [e]
          simp only [St.put, this]
        by_cases e : x = pol
        · have e' : (x == pol) = true := by simp [e]
          rw [e', if_pos rfl]
          obtain ⟨hn, hr⟩ := hs.1 e
          rw [self pol e] at hn hr
          refine run E hE st _ rfl rfl hR hn hr (fun v st' M' w' u h1 h2 h3 h4 h5 => ?_)
          exact next' G _ _ _ ⟨⟨_, rfl⟩, .inl rfl⟩ (At.put h2 h3 (hR.mono h4) (hkd _ _ hd) (hC.trans h4) h5) h1
        · have e' : (x == pol) = false := by simp [e]
          have e2 : x = !pol := by cases x <;> cases pol <;> simp_all
          rw [e', if_neg (by simp)]
          have hs2 := hs.2 e2
          rw [self _ e2] at hs2
          exact next' G _ _ _ ⟨⟨_, rfl⟩, .inl rfl⟩ (At.put rfl hI hR (hkd _ _ hd) hC (.undef _)) hs2
      -- not wanted, and reckoned all the same
      have skip_ok : ∀ v, (x == pol) = false → K (addG o.dst (x == pol) G) (st.put o.dst v) → next (a.put o.dst undef) w := by
        intro v e hK
        refine next' _ _ _ _ ⟨⟨_, rfl⟩, .inr (.inr ⟨by rw [e], rfl⟩)⟩ ⟨M, ?_, ?_, hkd _ _ hd, ?_⟩ hK
        · rw [put_put_len.1, put_put_len.2]; exact hI
        · rw [put_put_len.2, e]; exact (hR.skip).le (hadd _ _)
        · rw [put_put_len.2]; exact hC
      have fin : (x == pol) = true → ∀ (v : AV) (st' : St) (M' : Mem) (w' : World) (u : Value), K (addG o.dst (x == pol) G) (st.put o.dst v) → st'.b = st.b → st'.r = st.r → Inv w0 F M' st'.b st'.r w' → Chg w M st.r w' M' st'.r → RepA w' M' st'.r u v → next (a.put o.dst u) w' := by
        intro ex v st' M' w' u hK hb hr h3 h4 h5
        rw [hb, hr] at h3
        rw [hr] at h4 h5
        exact next' _ _ _ _ ⟨⟨_, rfl⟩, .inr (.inl (by rw [ex]))⟩ (At.put (st' := st) (st := st) rfl h3 (((hR.mono h4).more).le (hadd _ _)) (hkd _ _ hd) (hC.trans h4) h5) hK
      unfold guardK at hk
      split at hk
      · rename_i p v st' _ hop
        obtain ⟨h1, ⟨hb, hr⟩, h3⟩ := hk
        cases e : (x == pol) with
        | true =>
          obtain ⟨hn, hp⟩ := h1 e
          rw [if_pos rfl]
          refine run E hE st (fun v' s => v' = v ∧ s.b = st.b ∧ s.r = st.r) rfl rfl hR hn (by rw [hop]; exact ⟨hp, rfl, hb, hr⟩) (fun v' s M' w' u q1 _ q3 q4 q5 => ?_)
          obtain ⟨rfl, q6, q7⟩ := q1
          exact fin e _ s M' w' u h3 q6 q7 q3 q4 q5
        | false =>
          rw [if_neg (by simp)]
          exact skip_ok v e h3
      · rename_i p es k n st' _ hop
        obtain ⟨h1, hst, y, hy1, hy2, h3⟩ := hk
        cases e : (x == pol) with
        | true =>
          obtain ⟨hn, hp⟩ := h1 e
          rw [if_pos rfl]
          refine run E hE st (fun v' s => v' = .cptr y ∧ s.b = st.b ∧ s.r = st.r) rfl rfl hR hn (by
            rw [hop]
            refine ⟨hp, fun z hz => ⟨?_, ?_, hst.1, hst.2⟩⟩
            · rw [← hy1 z hz]; exact hy2 e
            · rw [hy1 z hz]) (fun v' s M' w' u q1 _ q3 q4 q5 => ?_)
          obtain ⟨rfl, q6, q7⟩ := q1
          exact fin e _ s M' w' u h3 q6 q7 q3 q4 q5
        | false =>
          rw [if_neg (by simp)]
          exact skip_ok _ e h3
      · rename_i p s k st' _ hop
        obtain ⟨h1, hst, h3⟩ := hk
        cases e : (x == pol) with
        | true =>
          obtain ⟨hn, hp⟩ := h1 e
          rw [if_pos rfl]
          refine run E hE st (fun v' q => v' = .d (.int .u8 ((s.getD k 0).toNat : Int)) ∧ q.b = st.b ∧ q.r = st.r) rfl rfl hR hn (by
            rw [hop]
            refine ⟨hp, fun c hc => ⟨?_, hst.1, hst.2⟩⟩
            simp [List.getD, hc]) (fun v' s M' w' u q1 _ q3 q4 q5 => ?_)
          obtain ⟨rfl, q6, q7⟩ := q1
          exact fin e _ s M' w' u h3 q6 q7 q3 q4 q5
        | false =>
          rw [if_neg (by simp)]
          exact skip_ok _ e h3
      · rename_i f args st' _ hop
        split at hk
        · rename_i d ds hdt hds
          obtain ⟨h1, h3⟩ := hk
          cases e : (x == pol) with
          | true =>
            obtain ⟨hn, hp⟩ := h1 e
            rw [if_pos rfl]
            have hst := opR_call_st hop
            have hE1 : Env.Ok P { E with H := fun g => if g = f then d.handler else E.H g } := by
              refine ⟨fun g => ?_, hE.dt⟩
              by_cases eg : g = f
              · subst eg
                simp only [if_pos]
                exact hE.dt g d hdt
              · simp only [if_neg eg]
                exact hE.h g
            refine run _ hE1 st (fun v' s => v' = (d ds).2 ∧ s.b = st.b ∧ s.r = st.r) rfl rfl hR hn (by
              rw [hop]
              show (if f = f then d.handler else E.H f) args st'.b st'.r _
              rw [if_pos rfl]
              exact ⟨ds, hds, hp, rfl, by rw [hst], by rw [hst]⟩) (fun v' s M' w' u q1 _ q3 q4 q5 => ?_)
            obtain ⟨rfl, q6, q7⟩ := q1
            exact fin e _ s M' w' u h3 q6 q7 q3 q4 q5
          | false =>
            rw [if_neg (by simp)]
            exact skip_ok _ e h3
        · exact split_ok hk
      · exact split_ok hk


/-! ### in the order of the text -/
theorem vG_iff : ∀ {G : List (Nat × Bool)} {i : Nat}, vG G i = true ↔ valid G i
  | [], i => by simp [vG, valid]
  | (d, g) :: G, i => by
    have ih := vG_iff (G := G) (i := i)
    simp only [vG, Bool.and_eq_true, ih]
    constructor
    · rintro ⟨h1, h2⟩ p hp e
      rcases List.mem_cons.1 hp with rfl | hp
      · have e : d = i := e
        rw [if_pos e] at h1
        exact h1
      · exact h2 p hp e
    · intro h
      refine ⟨?_, fun p hp e => h p (List.mem_cons_of_mem _ hp) e⟩
      by_cases e : d = i
      · simpa [e] using h (d, g) List.mem_cons_self e
      · simp [e]
/-- What was passed over holds nothing. -/
def RU (G : List (Nat × Bool)) (tmps : Array Value) : Prop := ∀ p ∈ G, p.2 = false → tmps.getD p.1 undef = undef
theorem guardK_skip {o : Oper} {gd : Tmp} {x pol : Bool} {R : Res} {K : List (Nat × Bool) → St → Prop} {KP : AV → St → Prop} (hk : guardK P E o gd x pol R G st K KP) (hx : (x == pol) = false) :
    (∃ v, K (addG o.dst false G) (st.put o.dst v)) ∨ K G ((st.put (some gd) (.d (.bool !pol))).put o.dst .undef) := by
  have e2 : x = !pol := by cases x <;> cases pol <;> simp_all
  unfold guardK at hk
  split at hk
  · have h3 := hk.2.2
    rw [hx] at h3
    exact .inl ⟨_, h3⟩
  · obtain ⟨_, _, y, _, _, h3⟩ := hk
    rw [hx] at h3
    exact .inl ⟨_, h3⟩
  · have h3 := hk.2.2
    rw [hx] at h3
    exact .inl ⟨_, h3⟩
  · split at hk
    · have h3 := hk.2
      rw [hx] at h3
      exact .inl ⟨_, h3⟩
    · exact .inr (hk.2 e2)
  · exact .inr (hk.2 e2)
theorem RU.put {tmps : Array Value} {dst : Option Tmp} {u : Value} {a : Act} (hu : RU G a.tmps) (hd : ∀ d, dst = some d → ∀ p ∈ G, p.1 ≠ d) : RU G (a.put dst u).tmps := by
  intro p hp e
  cases dst with
  | none => exact hu p hp e
  | some d =>
    show (a.tmps.setIfInBounds d u).getD p.1 undef = undef
    rw [agetD_set_ne _ _ _ _ (fun h => hd d rfl p hp h.symm)]
    exact hu p hp e
theorem RU.skip {dst : Option Tmp} {a : Act} (hu : RU G a.tmps) (hd : ∀ d, dst = some d → ∀ p ∈ G, p.1 ≠ d) : RU (addG dst false G) (a.put dst undef).tmps := by
  cases dst with
  | none => exact hu
  | some d =>
    intro p hp e
    rcases List.mem_cons.1 hp with rfl | hp
    · show (a.tmps.setIfInBounds d undef).getD d undef = undef
      rcases Nat.lt_or_ge d a.tmps.size with h | h
      · exact agetD_set_self _ _ _ h
      · simp [Array.getD, Nat.not_lt.2 h]
    · exact RU.put (tmps := a.tmps) hu hd p hp e
theorem RU.more {dst : Option Tmp} {a : Act} {u : Value} (hu : RU G a.tmps) (hd : ∀ d, dst = some d → ∀ p ∈ G, p.1 ≠ d) : RU (addG dst true G) (a.put dst u).tmps := by
  cases dst with
  | none => exact hu
  | some d =>
    intro p hp e
    rcases List.mem_cons.1 hp with rfl | hp
    · cases e
    · exact RU.put (tmps := a.tmps) hu hd p hp e
theorem addG_mem {dst : Option Tmp} {g : Bool} {p : Nat × Bool} (h : p ∈ addG dst g G) : p ∈ G ∨ some p.1 = dst := by
  cases dst with
  | none => exact .inl h
  | some d =>
    rcases List.mem_cons.1 h with rfl | h
    · exact .inr rfl
    · exact .inl h
theorem opN_sound (hE : E.Ok P) {ops : Array Oper} {o : Oper} (hkd : ∀ (a : Act) u, dl a → dl (a.put o.dst u)) {K : List (Nat × Bool) → St → Prop} {KP : AV → St → Prop} {next : Act → World → Prop} {Q : Exit → Act → World → Prop}
    (hd : ∀ d, o.dst = some d → ∀ p ∈ G, p.1 ≠ d) (h : At dl w0 F W0 M0 r0 G st a w) (hu : RU G a.tmps) (hk : opN P E ops.toList o G st K KP)
    (next' : ∀ G1 st1 a1 w1, (∀ p ∈ G1, p ∈ G ∨ some p.1 = o.dst) → RU G1 a1.tmps → At dl w0 F W0 M0 r0 G1 st1 a1 w1 → K G1 st1 → next a1 w1)
    (panics : ∀ x st u a w, AtP dl w0 F W0 M0 r0 x st u a w → KP x st → Q (.panic [{ v := u, recovered := false }]) a w) :
    if Region.wanted o (yielded ops a.tmps) then o.wp P a w next Q else next (a.put o.dst undef) w := by
  have key : opK P E ops.toList o G st K KP → if Region.wanted o (yielded ops a.tmps) then o.wp P a w next Q else next (a.put o.dst undef) w := fun hk =>
    opK_sound (X := []) (Q := Q) (next := next) hE hkd (fun d _ => by simp [valid]) h hk (fun G1 st1 a1 w1 hG hat hK => by
      obtain ⟨⟨u, rfl⟩, hG⟩ := hG
      rcases hG with rfl | rfl | ⟨rfl, e⟩
      · exact next' _ _ _ _ (fun p hp => .inl hp) (RU.put (tmps := a.tmps) hu hd) hat hK
      · exact next' _ _ _ _ (fun p hp => addG_mem hp) (RU.more hu hd) hat hK
      · rw [e] at hat ⊢
        exact next' _ _ _ _ (fun p hp => addG_mem hp) (RU.skip hu hd) hat hK) panics
  unfold opN at hk
  cases hg : o.guard with
  | none =>
    refine key ?_
    unfold opK
    rw [hg] at hk ⊢
    exact hk
  | some gp =>
    obtain ⟨gi, pol⟩ := gp
    rw [hg] at hk
    simp only at hk
    cases hgv : gval ops.toList st gi with
    | none => rw [hgv] at hk; exact hk.elim
    | some gx =>
      obtain ⟨gd, x⟩ := gx
      rw [hgv] at hk
      simp only at hk
      cases hv : vG G gd with
      | true =>
        rw [hv] at hk
        refine key ?_
        unfold opK
        rw [hg]
        simp only
        rw [hgv]
        exact ⟨vG_iff.1 hv, hk⟩
      | false =>
        rw [hv] at hk
        have hnv : ¬ valid G gd := fun hh => by rw [vG_iff.2 hh] at hv; cases hv
        have hex : ∃ p ∈ G, p.1 = gd ∧ p.2 = false := by
          refine Classical.byContradiction fun hn => hnv fun p hp e => ?_
          cases hp2 : p.2 with
          | true => rfl
          | false => exact absurd ⟨p, hp, e, hp2⟩ hn
        obtain ⟨p, hp, rfl, hp2⟩ := hex
        have hund := hu p hp hp2
        have hgd : (ops[gi]?).bind (·.dst) = some p.1 := gval_dst hgv
        have hnw : Region.wanted o (yielded ops a.tmps) = false := by
          have hy : yielded ops a.tmps gi = none := by
            unfold yielded
            rw [hgd]
            simp only [Option.bind_some]
            rcases Nat.lt_or_ge p.1 a.tmps.size with h1 | h1
            · have e : a.tmps.getD p.1 undef = a.tmps[p.1] := by simp [Array.getD, h1]
              rw [Array.getElem?_eq_getElem h1, ← e, hund]
              rfl
            · rw [Array.getElem?_eq_none h1]
          simp only [Region.wanted, hg, hy]
          rfl
        rw [hnw, if_neg (by simp)]
        obtain ⟨M, hI, hR, hdl, hC⟩ := h
        rcases guardK_skip hk (by unfold gX; cases pol <;> rfl) with ⟨v, hK⟩ | hK
        · refine next' _ _ _ _ (fun p hp => addG_mem hp) (RU.skip hu hd) ⟨M, ?_, ?_, hkd _ _ hdl, ?_⟩ hK
          · rw [put_put_len.1, put_put_len.2]; exact hI
          · rw [put_put_len.2]; exact hR.skip
          · rw [put_put_len.2]; exact hC
        · refine next' G _ _ _ (fun p hp => .inl hp) (RU.put (tmps := a.tmps) hu hd) ⟨M, ?_, ?_, hkd _ _ hdl, ?_⟩ hK
          · rw [put_put_len.1, put_put_len.2]; exact hI
          · rw [put_put_len.2]
            have hR2 : RG w M st.r G a.tmps (st.put (some p.1) (.d (.bool !pol))).t := by
              refine ⟨by simpa [St.put] using hR.1, fun i hi hvi => ?_⟩
              have hne : p.1 ≠ i := fun e => hnv (e ▸ hvi)
              simp only [St.put, List.length_set] at hi
              show RepA w M st.r (a.tmps.getD i undef) ((st.t.set p.1 _).getD i .undef)
              rw [getD_set_ne _ _ _ _ _ hne]
              exact hR.2 i hi hvi
            exact hR2.put (.undef _)
          · rw [put_put_len.2]; exact hC
/-- A guard that was passed over. -/
theorem notWanted {ops : Array Oper} {o : Oper} {tmps : Array Value} {gi : Nat} {pol : Bool} {gd : Tmp} (hg : o.guard = some (gi, pol)) (hgd : (ops[gi]?).bind (·.dst) = some gd) (hund : tmps.getD gd undef = undef) : Region.wanted o (yielded ops tmps) = false := by
  have hy : yielded ops tmps gi = none := by
    unfold yielded
    rw [hgd]
    simp only [Option.bind_some]
    rcases Nat.lt_or_ge gd tmps.size with h1 | h1
    · have e : tmps.getD gd undef = tmps[gd] := by simp [Array.getD, h1]
      rw [Array.getElem?_eq_getElem h1, ← e, hund]
      rfl
    · rw [Array.getElem?_eq_none h1]
  simp only [Region.wanted, hg, hy]
  rfl
/-- In an order that is drawn: what was passed over holds as no guard, if it has come up. -/
theorem opN_soundX (hE : E.Ok P) {ops : Array Oper} {o : Oper} (hkd : ∀ (a : Act) u, dl a → dl (a.put o.dst u)) {K : List (Nat × Bool) → St → Prop} {KP : AV → St → Prop} {next : Act → World → Prop} {Q : Exit → Act → World → Prop}
    {X : List (Nat × Bool)} (hX : ∀ d ∈ o.looksAt ops, valid X d) (h : At dl w0 F W0 M0 r0 (X ++ G) st a w) (hu : ∀ gi pol gd, o.guard = some (gi, pol) → (ops[gi]?).bind (·.dst) = some gd → vG G gd = false → a.tmps.getD gd undef = undef) (hk : opN P E ops.toList o G st K KP)
    (next' : ∀ G1 st1 a1 w1, ((∃ u, a1 = a.put o.dst u) ∧ (G1 = G ∨ G1 = addG o.dst true G ∨ (G1 = addG o.dst false G ∧ a1 = a.put o.dst undef))) → At dl w0 F W0 M0 r0 (X ++ G1) st1 a1 w1 → K G1 st1 → next a1 w1)
    (panics : ∀ x st u a w, AtP dl w0 F W0 M0 r0 x st u a w → KP x st → Q (.panic [{ v := u, recovered := false }]) a w) :
    if Region.wanted o (yielded ops a.tmps) then o.wp P a w next Q else next (a.put o.dst undef) w := by
  have key : opK P E ops.toList o G st K KP → if Region.wanted o (yielded ops a.tmps) then o.wp P a w next Q else next (a.put o.dst undef) w := fun hk =>
    opK_sound (Q := Q) (next := next) hE hkd hX h hk next' panics
  unfold opN at hk
  cases hg : o.guard with
  | none =>
    refine key ?_
    unfold opK
    rw [hg] at hk ⊢
    exact hk
  | some gp =>
    obtain ⟨gi, pol⟩ := gp
    rw [hg] at hk
    simp only at hk
    cases hgv : gval ops.toList st gi with
    | none => rw [hgv] at hk; exact hk.elim
    | some gx =>
      obtain ⟨gd, x⟩ := gx
      rw [hgv] at hk
      simp only at hk
      have hgd : (ops[gi]?).bind (·.dst) = some gd := gval_dst hgv
      cases hv : vG G gd with
      | true =>
        rw [hv] at hk
        refine key ?_
        unfold opK
        rw [hg]
        simp only
        rw [hgv]
        exact ⟨vG_iff.1 hv, hk⟩
      | false =>
        rw [hv] at hk
        have hnv : ¬ valid G gd := fun hh => by rw [vG_iff.2 hh] at hv; cases hv
        have hund := hu gi pol gd hg hgd hv
        have hnw : Region.wanted o (yielded ops a.tmps) = false := notWanted hg hgd hund
        rw [hnw, if_neg (by simp)]
        obtain ⟨M, hI, hR, hdl, hC⟩ := h
        rcases guardK_skip hk (by unfold gX; cases pol <;> rfl) with ⟨v, hK⟩ | hK
        · refine next' _ _ _ _ ⟨⟨_, rfl⟩, .inr (.inr ⟨rfl, rfl⟩)⟩ ⟨M, ?_, ?_, hkd _ _ hdl, ?_⟩ hK
          · rw [put_put_len.1, put_put_len.2]; exact hI
          · rw [put_put_len.2]
            refine (hR.skip (dst := o.dst) (v := v)).le (fun d hv => ?_)
            rw [valid_append, valid_addG_iff] at hv
            rw [valid_addG_iff, valid_append]
            exact ⟨⟨hv.1, hv.2.1⟩, hv.2.2⟩
          · rw [put_put_len.2]; exact hC
        · refine next' G _ _ _ ⟨⟨_, rfl⟩, .inl rfl⟩ ⟨M, ?_, ?_, hkd _ _ hdl, ?_⟩ hK
          · rw [put_put_len.1, put_put_len.2]; exact hI
          · rw [put_put_len.2]
            have hR2 : RG w M st.r (X ++ G) a.tmps (st.put (some gd) (.d (.bool !pol))).t := by
              refine ⟨by simpa [St.put] using hR.1, fun i hi hvi => ?_⟩
              have hne : gd ≠ i := fun e => hnv (e ▸ (valid_append.1 hvi).2)
              simp only [St.put, List.length_set] at hi
              show RepA w M st.r (a.tmps.getD i undef) ((st.t.set gd _).getD i .undef)
              rw [getD_set_ne _ _ _ _ _ hne]
              exact hR.2 i hi hvi
            exact hR2.put (.undef _)
          · rw [put_put_len.2]; exact hC
theorem nodup_cons {o : Oper} {l : List Oper} (h : nodupN ((o :: l).filterMap (·.dst)) = true) : nodupN (l.filterMap (·.dst)) = true ∧ ∀ d, o.dst = some d → ∀ o' ∈ l, o'.dst ≠ some d := by
  cases hd : o.dst with
  | none =>
    simp only [List.filterMap_cons, hd] at h
    exact ⟨h, fun d e => by cases e⟩
  | some d =>
    simp only [List.filterMap_cons, hd, nodupN, Bool.and_eq_true, Bool.not_eq_true'] at h
    refine ⟨h.2, fun d' e o' ho' ho'd => ?_⟩
    injection e with e
    subst e
    have : d ∈ l.filterMap (·.dst) := List.mem_filterMap.2 ⟨o', ho', ho'd⟩
    have h1 := h.1
    rw [List.contains_iff_mem.2 this] at h1
    cases h1
theorem nodup_take : ∀ (n : Nat) (l : List Oper), nodupN (l.filterMap (·.dst)) = true → nodupN ((l.take n).filterMap (·.dst)) = true
  | 0, l, _ => rfl
  | n + 1, [], _ => rfl
  | n + 1, o :: l, h => by
    obtain ⟨h1, h2⟩ := nodup_cons h
    have ih := nodup_take n l h1
    rw [List.take_succ_cons]
    cases hd : o.dst with
    | none => simpa [List.filterMap_cons, hd] using ih
    | some d =>
      simp only [List.filterMap_cons, hd, nodupN, Bool.and_eq_true, Bool.not_eq_true']
      refine ⟨?_, ih⟩
      cases hc : List.contains ((l.take n).filterMap (·.dst)) d with
      | false => rfl
      | true =>
        obtain ⟨o', ho', hod⟩ := List.mem_filterMap.1 (List.contains_iff_mem.1 hc)
        exact absurd hod (h2 d hd o' (List.mem_of_mem_take ho'))
theorem nodup_drop : ∀ (n : Nat) (l : List Oper), nodupN (l.filterMap (·.dst)) = true → nodupN ((l.drop n).filterMap (·.dst)) = true
  | 0, l, h => h
  | n + 1, [], _ => rfl
  | n + 1, o :: l, h => nodup_drop n l (nodup_cons h).1

theorem clean_spec : ∀ (G : List (Nat × Bool)) (st : St) (M : Mem) (w : World), RG w M st.r G a.tmps st.t → (clean G st).b = st.b ∧ (clean G st).r = st.r ∧ Rept w M st.r a.tmps (clean G st).t
  | [], st, M, w, h => ⟨rfl, rfl, h.1, fun i hi => h.2 i hi (fun p hp => absurd hp (by simp))⟩
  | (d, g) :: G, st, M, w, h => by
    have main : ∀ G' : List (Nat × Bool), (clean G' st).b = st.b ∧ (clean G' st).r = st.r ∧ (clean G' st).t.length = st.t.length ∧ ∀ i, ((∃ p ∈ G', p.1 = i) → (clean G' st).t.getD i .undef = .undef) ∧ ((¬ ∃ p ∈ G', p.1 = i) → (clean G' st).t.getD i .undef = st.t.getD i .undef) := by
      intro G'
      induction G' with
      | nil => exact ⟨rfl, rfl, rfl, fun i => ⟨fun ⟨p, hp, _⟩ => absurd hp (by simp), fun _ => rfl⟩⟩
      | cons q G' ih =>
        obtain ⟨d, g⟩ := q
        obtain ⟨h1, h2, h3, h4⟩ := ih
        refine ⟨h1, h2, by simpa [clean, St.put] using h3, fun i => ?_⟩
        show (_ → ((clean G' st).t.set d .undef).getD i .undef = _) ∧ (_ → ((clean G' st).t.set d .undef).getD i .undef = _)
        by_cases e : d = i
        · subst e
          refine ⟨fun _ => ?_, fun hn => absurd ⟨(d, g), List.mem_cons_self .., rfl⟩ hn⟩
          rcases Nat.lt_or_ge d (clean G' st).t.length with h5 | h5
          · exact getD_set_self _ _ _ _ h5
          · simp [List.getD, h5]
        · rw [getD_set_ne _ _ _ _ _ e]
          refine ⟨fun ⟨p, hp, hpe⟩ => (h4 i).1 ?_, fun hn => (h4 i).2 fun ⟨p, hp, hpe⟩ => hn ⟨p, List.mem_cons_of_mem _ hp, hpe⟩⟩
          rcases List.mem_cons.1 hp with rfl | hp
          · exact absurd hpe e
          · exact ⟨p, hp, hpe⟩
    obtain ⟨h1, h2, h3, h4⟩ := main ((d, g) :: G)
    refine ⟨h1, h2, by rw [h3]; exact h.1, fun i hi => ?_⟩
    rw [h3] at hi
    by_cases e : ∃ p ∈ (d, g) :: G, p.1 = i
    · rw [(h4 i).1 e]; exact .undef _
    · rw [(h4 i).2 e]
      exact h.2 i hi (fun p hp hpe => absurd ⟨p, hp, hpe⟩ e)

theorem At.clean (h : At dl w0 F W0 M0 r0 G st a w) : At dl w0 F W0 M0 r0 [] (clean G st) a w := by
  obtain ⟨M, hI, hR, hd, hC⟩ := h
  obtain ⟨h1, h2, h3⟩ := clean_spec G st M w hR
  refine ⟨M, by rw [h1, h2]; exact hI, ?_, hd, by rw [h2]; exact hC⟩
  rw [h2]
  exact ⟨h3.1, fun i hi _ => h3.2 i hi⟩

theorem opsK_soundT (hE : E.Ok P) {ops : Array Oper} {K : St → Prop} {KP : AV → St → Prop} {Q : Exit → Act → World → Prop} (tl : List Oper)
    (next' : ∀ st a w, At dl w0 F W0 M0 r0 [] st a w → K st → wpList P ops Q tl a w)
    (panics : ∀ x st u a w, AtP dl w0 F W0 M0 r0 x st u a w → KP x st → Q (.panic [{ v := u, recovered := false }]) a w) :
    ∀ (l : List Oper), (∀ o ∈ l, ∀ (a : Act) u, dl a → dl (a.put o.dst u)) → nodupN (l.filterMap (·.dst)) = true → ∀ (G : List (Nat × Bool)) (st : St) (a : Act) (w : World), (∀ o ∈ l, ∀ d, o.dst = some d → ∀ p ∈ G, p.1 ≠ d) → RU G a.tmps → At dl w0 F W0 M0 r0 G st a w → opsK P E ops.toList l G st K KP → wpList P ops Q (l ++ tl) a w
  | [], _, _, G, st, a, w, _, _, h, hk => next' _ a w h.clean hk
  | o :: l, hkd, hnd, G, st, a, w, hG, hu, h, hk => by
    obtain ⟨hnd1, hnd2⟩ := nodup_cons hnd
    have ih := opsK_soundT (ops := ops) hE tl next' panics l (fun o ho => hkd o (List.mem_cons_of_mem _ ho)) hnd1
    have := opN_sound (Q := Q) (next := wpList P ops Q (l ++ tl)) hE (hkd o (List.mem_cons_self ..)) (hG o (List.mem_cons_self ..)) h hu hk (fun G1 st1 a1 w1 hg hu1 h hk => ih G1 st1 a1 w1 (fun o' ho' d hd p hp e => by
      rcases hg p hp with h1 | h1
      · exact hG o' (List.mem_cons_of_mem _ ho') d hd p h1 e
      · exact hnd2 p.1 h1.symm o' ho' (by rw [hd, e])) hu1 h hk) panics
    rw [List.cons_append]
    unfold wpList
    split
    · rename_i hw
      rw [if_pos hw] at this
      exact .inl this
    · rename_i hw
      rw [if_neg hw] at this
      exact this
theorem opsK_sound (hE : E.Ok P) {ops : Array Oper} {K : St → Prop} {KP : AV → St → Prop} {Q : Exit → Act → World → Prop}
    (next' : ∀ st a w, At dl w0 F W0 M0 r0 [] st a w → K st → Q .normal a w)
    (panics : ∀ x st u a w, AtP dl w0 F W0 M0 r0 x st u a w → KP x st → Q (.panic [{ v := u, recovered := false }]) a w)
    (l : List Oper) (hkd : ∀ o ∈ l, ∀ (a : Act) u, dl a → dl (a.put o.dst u)) (hnd : nodupN (l.filterMap (·.dst)) = true) (st : St) (a : Act) (w : World) (h : At dl w0 F W0 M0 r0 [] st a w) (hk : opsK P E ops.toList l [] st K KP) : wpList P ops Q l a w := by
  have := opsK_soundT (ops := ops) (Q := Q) hE [] next' panics l hkd hnd [] st a w (fun _ _ _ _ p hp => absurd hp (by simp)) (fun p hp => absurd hp (by simp)) h hk
  rwa [List.append_nil] at this
end
end Go.PE
end

section
/- The evaluator of code is right, 2b: the end of a row that is cleared (see PeQ). -/
set_option linter.unusedVariables false
set_option linter.unusedSimpArgs false
namespace Go.PE
open Go

theorem zeroCells_get {z : Array Value} {n q : Nat} (hq : q < n * z.size) : (Builtin.zeroCells z n).toList[q]? = some (z.toList.getD (q % z.size) undef) := by
  have hz : 0 < z.size := by
    rcases Nat.eq_zero_or_pos z.size with h | h
    · rw [h] at hq; omega
    · exact h
  have hm : q % z.size < z.size := Nat.mod_lt _ hz
  simp only [Builtin.zeroCells, Array.getElem?_toList, Array.getElem?_map, Array.getElem?_range, if_pos hq, Option.map_some]
  simp [Array.getElem!_eq_getD, Array.getD, List.getD, hm]
section
variable {dl : Act → Prop} {P : Program} {w0 : World} {F : List Nat} {W0 : World} {M0 : Mem} {r0 : List Arr} {st : St} {a : Act} {w : World}

/-- Clearing what lies behind the first k elements of a row. -/
theorem clear_run {M : Mem} {id k : Nat} {A : Arr} {e y : Nat} {t' : TypeId} {z : List AV} {ds : List D} (h : Inv w0 F M st.b st.r w) (hA : st.r[id]? = some A) (hk : k ≤ A.es.length) (hsl : sl? P t' = some (e, A.sz, y)) (hz : zero? P e = some z) (hd : toDL [] z = some ds)
    (hety : A.ety = e) (hsh : A.sh = false) (h1 : ds.all oneD = true) (B : Option Addr) (c : Nat) (hv : M.row id = .slice B A.es.length c) :
    ∃ w', (Builtin.clear_ #[t'] 0 #[.slice (if c = k then B else B.map (·.add (k * A.sz))) (A.es.length - k) (c - k)]).run P w = .ok (.tuple #[]) w' ∧
      Inv w0 F M st.b (st.r.set id { A with es := A.es.take k ++ List.replicate (A.es.length - k) ds }) w' ∧ Chg w M st.r w' M (st.r.set id { A with es := A.es.take k ++ List.replicate (A.es.length - k) ds }) := by
  obtain ⟨inf, zv0, hu, hin, hz0, hzs, hp, _, hsz, _⟩ := sl_spec hsl
  obtain ⟨i2, zv, hi2, hzv, rfl⟩ := zero_spec hz
  rw [hin] at hi2
  injection hi2 with hi2
  subst hi2
  rw [hz0] at hzv
  injection hzv with hzv
  subst hzv
  obtain ⟨hdl0, hdr⟩ := const_toDL (w := w) (ok := Okc M st.r) zv0.cells.toList hd
  have hdl : ds.length = A.sz := by rw [hdl0, hsz]; simpa using hzs
  rcases Nat.lt_or_ge k A.es.length with hlt | hge
  · obtain ⟨hz1, he, xs, ho, hx1, hxrc⟩ := h.row id A hA
    have hnz : A.sz ≠ 0 := by omega
    have hw := Arr.w_of hnz
    rw [hw] at hz1 he ho hxrc
    have hxr := fun k j hk hj => (hxrc k j hk hj).data hnz
    have hxl : xs.length = A.es.length * A.sz := ho.1
    rcases ho.2 with ⟨e1, e2⟩ | ⟨g, cap, cur, o, e1, hh, hnc, hcm, hcs, htk⟩
    · omega
    rw [hv] at e1
    injection e1 with e1 e3 e4
    subst e1 e4
    have hck : ¬ c = k := by omega
    rw [if_neg hck]
    have hzl : (Builtin.zeroCells zv0.cells (A.es.length - k)).toList.length = (A.es.length - k) * A.sz := by
      rw [Array.length_toList, size_zeroCells, hzs, hsz]
    have hkm := Nat.mul_le_mul_right A.sz hk
    have hcm2 := Nat.mul_le_mul_right A.sz hnc
    have hsub : (A.es.length - k) * A.sz = A.es.length * A.sz - k * A.sz := Nat.sub_mul ..
    have hzg : ∀ q, q < (A.es.length - k) * A.sz → (Builtin.zeroCells zv0.cells (A.es.length - k)).toList[q]? = some (zv0.cells.toList.getD (q % A.sz) undef) := fun q hq => by
      have := zeroCells_get (z := zv0.cells) (n := A.es.length - k) (q := q) (by rw [hzs, ← hsz]; exact hq)
      rwa [hzs, ← hsz] at this
    have hone : ∀ j, j < A.sz → (zv0.cells.toList.getD j undef).oneCell' = true := fun j hj => by
      have hj' : j < zv0.cells.toList.length := by rw [← hdl0, hdl]; exact hj
      refine (hdr j hj').one ?_
      have e1 : ds.getD j .nilI = ds[j]'(by omega) := by
        have hj2 : j < ds.length := by omega
        simp [List.getD, hj2]
      rw [e1]
      exact List.all_eq_true.1 h1 _ (List.getElem_mem _)
    have hz1l : ∀ v ∈ (Builtin.zeroCells zv0.cells (A.es.length - k)).toList, v.oneCell' = true := fun v hv => by
      obtain ⟨q, hq, rfl⟩ := List.getElem_of_mem hv
      have hq' := hq
      rw [hzl] at hq'
      have e1 := hzg q hq'
      rw [List.getElem?_eq_getElem hq] at e1
      injection e1 with e1
      rw [e1]
      exact hone _ (Nat.mod_lt _ hz1)
    have hst := run_storeCells_at (P := P) g (o + k * A.sz) A.ety (Builtin.zeroCells zv0.cells (A.es.length - k)).toList 0 cur w hh (by rw [hzl]; omega) hz1l
    have hrun : (Builtin.clear_ #[t'] 0 #[.slice (some ⟨g, o + k * A.sz, none⟩) (A.es.length - k) (c - k)]).run P w = .ok (.tuple #[]) (w.setRow g (cur.toList.take (o + k * A.sz) ++ (Builtin.zeroCells zv0.cells (A.es.length - k)).toList ++ cur.toList.drop (o + k * A.sz + (Builtin.zeroCells zv0.cells (A.es.length - k)).toList.length)).toArray) := by
      have hzr : (zeroValue e).run P w = .ok zv0 w := by simp [zeroValue, typeInfo, hin, hz0]
      obtain ⟨n1, hn1⟩ : ∃ n1, A.es.length - k = n1 + 1 := ⟨A.es.length - k - 1, by omega⟩
      rw [hn1] at hst ⊢
      simp only [Nat.add_zero] at hst
      simp [Builtin.clear_, run_underlying hu, hzr, hst]
    have hxs : cur.toList.take o ++ (xs.take (k * A.sz) ++ (Builtin.zeroCells zv0.cells (A.es.length - k)).toList) ++ cur.toList.drop (o + A.es.length * A.sz) = cur.toList.take (o + k * A.sz) ++ (Builtin.zeroCells zv0.cells (A.es.length - k)).toList ++ cur.toList.drop (o + k * A.sz + (Builtin.zeroCells zv0.cells (A.es.length - k)).toList.length) := by
      refine splice_at _ _ _ _ _ _ _ ?_
      rw [← htk, List.take_take, Nat.min_eq_left hkm, hzl, hsub, show k * A.sz + (A.es.length * A.sz - k * A.sz) = A.es.length * A.sz by omega]
    have hxtl : (xs.take (k * A.sz)).length = k * A.sz := by rw [List.length_take, hxl, Nat.min_eq_left hkm]
    obtain ⟨hI, hC⟩ := h.setRowElemsD id A hA hnz hsh g c cur o hv hh hcs hnc hcm (xs.take (k * A.sz) ++ (Builtin.zeroCells zv0.cells (A.es.length - k)).toList) (A.es.take k ++ List.replicate (A.es.length - k) ds)
      (by simp; omega) (fun q hq => by
        rcases List.mem_append.1 hq with h2 | h2
        · exact he q (List.mem_of_mem_take h2)
        · rw [(List.mem_replicate.1 h2).2, hdl]) (by rw [List.length_append, hxtl, hzl]; omega)
      (fun x hx => by
        rcases List.mem_append.1 hx with h2 | h2
        · exact hx1 x (List.mem_of_mem_take h2)
        · exact hz1l x h2)
      (fun q j hq hj => by
        have hql : q < A.es.length := by simp at hq; omega
        have hkl : (A.es.take k).length = k := by simp; omega
        rcases Nat.lt_or_ge q k with hqk | hqk
        · have hlt2 : q * A.sz + j < k * A.sz := by
            calc q * A.sz + j < q * A.sz + A.sz := Nat.add_lt_add_left hj _
              _ = (q + 1) * A.sz := by rw [Nat.add_mul, Nat.one_mul]
              _ ≤ k * A.sz := Nat.mul_le_mul_right _ hqk
          have e5 : (xs.take (k * A.sz) ++ (Builtin.zeroCells zv0.cells (A.es.length - k)).toList).getD (q * A.sz + j) undef = xs.getD (q * A.sz + j) undef := by
            simp only [List.getD, List.getElem?_append_left (by rw [hxtl]; exact hlt2), List.getElem?_take, if_pos hlt2]
          have e6 : (A.es.take k ++ List.replicate (A.es.length - k) ds).getD q [] = A.es.getD q [] := by
            simp only [List.getD, List.getElem?_append_left (by rw [hkl]; exact hqk), List.getElem?_take, if_pos hqk]
          rw [e5, e6]
          exact hxr q j hql hj
        · have hge2 : k * A.sz ≤ q * A.sz := Nat.mul_le_mul_right _ hqk
          have hin2 : q * A.sz + j - k * A.sz < (A.es.length - k) * A.sz := by
            have : q * A.sz + j < A.es.length * A.sz := by
              calc q * A.sz + j < q * A.sz + A.sz := Nat.add_lt_add_left hj _
                _ = (q + 1) * A.sz := by rw [Nat.add_mul, Nat.one_mul]
                _ ≤ A.es.length * A.sz := Nat.mul_le_mul_right _ hql
            omega
          have hmod : (q * A.sz + j - k * A.sz) % A.sz = j := by
            rw [show q * A.sz + j - k * A.sz = j + (q - k) * A.sz by rw [Nat.sub_mul]; omega, Nat.add_mul_mod_self_right, Nat.mod_eq_of_lt hj]
          have e5 : (xs.take (k * A.sz) ++ (Builtin.zeroCells zv0.cells (A.es.length - k)).toList).getD (q * A.sz + j) undef = zv0.cells.toList.getD j undef := by
            simp only [List.getD, List.getElem?_append_right (show (xs.take (k * A.sz)).length ≤ q * A.sz + j by rw [hxtl]; omega), hxtl, hzg _ hin2, hmod]
            rfl
          have e6 : (A.es.take k ++ List.replicate (A.es.length - k) ds).getD q [] = ds := by
            simp only [List.getD, List.getElem?_append_right (show (A.es.take k).length ≤ q by rw [hkl]; exact hqk), hkl, List.getElem?_replicate, if_pos (show q - k < A.es.length - k by omega)]
            rfl
          rw [e5, e6]
          exact hdr j (by rw [← hdl0, hdl]; exact hj))
    refine ⟨_, ?_, hI, hC⟩
    rw [hxs]
    have : (Option.map (fun x => x.add (k * A.sz)) (some (⟨g, o, none⟩ : Addr))) = some ⟨g, o + k * A.sz, none⟩ := by simp [Addr.add_mid]
    rw [this]
    exact hrun
  · have hkm : k = A.es.length := by omega
    subst hkm
    have e1 : { A with es := A.es.take A.es.length ++ List.replicate (A.es.length - A.es.length) ds } = A := by simp
    rw [e1]
    have e2 : st.r.set id A = st.r := by
      refine List.ext_getElem? (fun i => ?_)
      by_cases e : i = id
      · subst e; rw [set_at hA, hA]
      · rw [set_ne e]
    rw [e2, Nat.sub_self]
    refine ⟨w, ?_, h, Chg.refl _ _ _⟩
    generalize (if c = A.es.length then B else B.map (·.add (A.es.length * A.sz))) = B'
    cases B' <;> simp [Builtin.clear_, run_underlying hu]

theorem clearK_sound {ops : Array Oper} {l : List Oper} {K : St → Prop} {Q : Exit → Act → World → Prop} (next' : ∀ st a w, At dl w0 F W0 M0 r0 [] st a w → K st → Q .normal a w)
    (hkd : ∀ o ∈ l, ∀ (a : Act) u, dl a → dl (a.put o.dst u)) (h : At dl w0 F W0 M0 r0 [] st a w) (hk : clearK P l st K) : wpList P ops Q l a w := by
  unfold clearK at hk
  split at hk
  case h_2 => exact hk.elim
  rename_i q hq
  obtain ⟨hp, hk⟩ := hk
  unfold clearR at hq
  split at hq
  case h_2 => cases hq
  rename_i c t x y ty1 p1 ar1 as ts ty2 p2 ar2
  split at hq
  case h_2 => cases hq
  rename_i c' t' id m kk k e n by1 has hts hx hy hsl
  split at hq
  case h_2 => cases hq
  rename_i e' n' by2 A z hsl' hA hz
  split at hq
  case h_2 => cases hq
  rename_i ds hds
  injection hq with hq
  subst hq
  obtain ⟨⟨rfl, hc, rfl⟩, hm, h0, h1, rfl, hety, hsh, h2⟩ := hp
  obtain ⟨M, hI, hR, hd, hC⟩ := h
  have ht : Rept w M st.r a.tmps st.t := ⟨hR.1, fun i hi => hR.2 i hi (fun p hp => absurd hp (by simp))⟩
  have rx := ev_rep (a := a) ht x
  have ry := ev_rep (a := a) ht y
  rw [hx] at rx
  rw [hy] at ry
  have ry := ry.d_inv
  obtain ⟨kn, rfl⟩ := Int.eq_ofNat_of_zero_le h0
  have hkn : kn ≤ A.es.length := by omega
  obtain ⟨inf, zv0, hu, hin, hz0, hzs, hpp, _, hsz, _⟩ := sl_spec hsl
  obtain ⟨inf2, zv2, hu2, hin2, hz2, hzs2, hpp2, _, hsz2, _⟩ := sl_spec hsl'
  have hn2 : n' = A.sz := by
    rw [hin] at hin2
    injection hin2 with hin2
    rw [hsz2, hsz, hin2]
  subst hn2
  generalize hu1 : a.eval x = u1 at rx
  generalize hu2' : a.eval y = u2 at ry
  cases ry
  cases rx with
  | arr _ _ _ h1' hv =>
    obtain ⟨A2, hA2, _, hv⟩ := hv
    rw [hA] at hA2
    injection hA2 with hA2
    subst hA2
    have eu := hv hm
    subst eu
    obtain ⟨hz1, he, xs, ho, hx1, hxr⟩ := hI.row id A hA
    obtain ⟨B, cp, hrow, hcp⟩ : ∃ B cp, M.row id = .slice B A.es.length cp ∧ A.es.length ≤ cp := by
      rcases ho.2 with ⟨e1, e2⟩ | ⟨g, cap, cur, o, e1, hh, hnc, hcm, hcs, htk⟩
      · exact ⟨none, 0, by rw [e1, e2], by omega⟩
      · exact ⟨_, _, e1, hnc⟩
    have hb := run_bounds (P := P) (w := w) true A.es.length cp (some (.int kk kn)) none (kn : Int) (A.es.length : Int) (.inr ⟨_, rfl⟩) (.inl ⟨rfl, rfl⟩) (by omega) (by omega) (by omega) hcp
    have r3 : (execOp a.eval ⟨some c', .slice t x (some y) none none, ty1, p1, ar1, none⟩).run P w = .ok (.value (.slice (if cp = kn then B else B.map (·.add (kn * A.sz))) (A.es.length - kn) (cp - kn))) w := by
      have : (Instr.sliceAt t (M.row id) (some (.int kk kn)) none none).run P w = .ok (.slice (if cp = kn then B else B.map (·.add (kn * A.sz))) (A.es.length - kn) (cp - kn)) w := by
        rw [hrow]
        simp [Instr.sliceAt, run_underlying hu, Instr.slice, hb, sizeOf, typeInfo, hin, hsz]
      simp [execOp, hu1, hu2', this]
    obtain ⟨w', r4, hI', hC'⟩ := clear_run hI hA hkn hsl' hz hds hety hsh h2 B cp hrow
    generalize (Value.slice (if cp = kn then B else B.map (·.add (kn * A.sz))) (A.es.length - kn) (cp - kn)) = u3 at r3 r4
    have hcs : c' < a.tmps.size := by rw [hR.1]; exact hc
    have hev : (a.put (some c') u3).eval (.tmp c') = u3 := by
      simp [Act.put, Act.eval, Array.getD, hcs]
    have r4' : (execOp (a.put (some c') u3).eval ⟨none, .call ⟨.builtin .clear, as, ts⟩, ty2, p2, ar2, none⟩).run P w = .ok (.value (.tuple #[])) w' := by
      obtain ⟨as, rfl⟩ : ∃ l : List Operand, as = l.toArray := ⟨as.toList, by simp⟩
      obtain ⟨ts, rfl⟩ : ∃ l : List TypeId, ts = l.toArray := ⟨ts.toList, by simp⟩
      simp only at has hts
      subst has hts
      have e5 : (Builtin.clear_ #[t'] ty2 #[u3]).run P w = .ok (.tuple #[]) w' := r4
      simp [execOp, resolve, invoke, builtin, hev, e5]
    have hfin : At dl w0 F W0 M0 r0 [] ⟨st.t.set c' .undef, st.b, st.r.set id { A with es := A.es.take ((kn : Int)).toNat ++ List.replicate (m - ((kn : Int)).toNat) ds }⟩ ((a.put (some c') u3).put none (.tuple #[])) w' := by
      rw [Int.toNat_natCast, hm]
      refine ⟨M, hI', ?_, hkd _ (List.mem_cons_of_mem _ (List.mem_cons_self ..)) _ _ (hkd _ (List.mem_cons_self ..) _ _ hd), hC.trans hC'⟩
      exact RG.put (st := ⟨st.t, st.b, st.r.set id { A with es := A.es.take kn ++ List.replicate (A.es.length - kn) ds }⟩) (dst := some c') (hR.mono hC') (.undef _)
    unfold wpList
    rw [if_pos (show Region.wanted _ _ = true from rfl)]
    refine .inl ?_
    unfold Oper.wp
    rw [r3, Oper.upon_value]
    unfold wpList
    rw [if_pos (show Region.wanted _ _ = true from rfl)]
    refine .inl ?_
    unfold Oper.wp
    rw [r4', Oper.upon_value]
    unfold wpList
    exact next' _ _ _ hfin hk

theorem bytesC_spec : ∀ {l : List (Nat × Operand)} {k : Nat} {xs : List Int}, bytesC l k = some xs → l = (xs.zipIdx k).map fun p => (p.2, Operand.const (.int .u8 p.1))
  | [], k, xs, h => by
    injection h with h
    subst h
    rfl
  | (i, o) :: l, k, xs, h => by
    match o, h with
    | .const (.int .u8 x), h =>
      simp only [bytesC] at h
      split at h
      · rename_i e
        subst e
        simp only [Option.map_eq_some_iff] at h
        obtain ⟨ys, hy, rfl⟩ := h
        rw [List.zipIdx_cons, List.map_cons, ← bytesC_spec hy]
      · cases h
theorem kd_u8 {t : TypeId} (h : kd? P t = 14) : P.underlying t = some (.int .u8) := by
  have : ik (kd? P t) = some .u8 := by rw [h]; rfl
  exact kd_int this
theorem flat_u8 : ∀ xs : List Int, ((xs.map (Value.int .u8)).flatMap fun v => v.cells.toList) = xs.map (Value.int .u8)
  | [] => rfl
  | x :: xs => by
    rw [List.map_cons, List.flatMap_cons, flat_u8 xs]
    rfl
theorem litK_sound {ops : Array Oper} {l rest : List Oper} {Q : Exit → Act → World → Prop} {q : Prop × St}
    (hkd : ∀ o ∈ l, ∀ (a : Act) u, dl a → dl (a.put o.dst u)) (h : At dl w0 F W0 M0 r0 [] st a w) (hq : litR P l st = some q) (hp : q.1) (next' : ∀ a w, At dl w0 F W0 M0 r0 [] q.2 a w → wpList P ops Q rest a w) : wpList P ops Q (l ++ rest) a w := by
  unfold litR at hq
  split at hq
  case h_2 => cases hq
  rename_i t1 c t n ps ty1 p1 ar1 b t2 t3 c' ty2 p2 ar2
  clear t1
  split at hq
  case h_2 => cases hq
  rename_i e by1 xs hsl hxs
  split at hq
  case isFalse => cases hq
  rename_i hk8
  injection hq with hq
  subst hq
  obtain ⟨ec, et2, et3, en, hlen, hpos, hc⟩ := hp
  subst ec et2 et3 en
  obtain ⟨M, hI, hR, hd, hC⟩ := h
  obtain ⟨inf, z, hu, hin, hz, hzs, hpp, _, hsz, _⟩ := sl_spec hsl
  have he := kd_u8 hk8
  obtain ⟨l, rfl⟩ : ∃ l : List (Nat × Operand), ps = l.toArray := ⟨ps.toList, by simp⟩
  simp only at hxs
  have hl := bytesC_spec hxs
  have hparts : (l.toArray.map fun p => (p.1, a.eval p.2)).toList = ((xs.map (Value.int .u8)).zipIdx 0).map fun x => (x.2, x.1) := by
    rw [hl]
    simp [List.zipIdx_map, Act.eval, Function.comp_def]
  have hcells := flat_u8 xs
  have r3 : (Instr.buildSlice t3 xs.length (l.toArray.map fun p => (p.1, a.eval p.2))).run P w = .ok (.slice (some ⟨w.heap.size, 0, none⟩) xs.length xs.length) (w.alloc (.cells (xs.map (Value.int .u8)).toArray e)) := by
    have := run_buildSlice (P := P) w t3 e xs.length (l.toArray.map fun p => (p.1, a.eval p.2)) (xs.map (Value.int .u8)).toArray inf z hu hin hz (by rw [← hsz]; omega) (by rw [← hsz]; omega) (by
      rw [hparts]
      have := Great.fill_whole (s := inf.size) hpp (xs.map (Value.int .u8)) ((Array.range (xs.length * inf.size)).map (z.cells[· % z.cells.size]!)) (fun v hv => by
        obtain ⟨x, _, rfl⟩ := List.mem_map.1 hv
        rw [← hsz]
        rfl) (by simp)
      rw [hcells] at this
      exact this)
    exact this
  have r4 := Lib.run_convert_bytes_const (P := P) w t3 e (xs.map (Value.int .u8)).toArray xs.length xs.length hu he
  have hg : w.grownBy (w.alloc (.cells (xs.map (Value.int .u8)).toArray e ((xs.map (Value.int .u8)).toArray.size, (xs.map (Value.int .u8)).toArray.size + 1))) none := World.grownBy_alloc w _ _
  obtain ⟨hI', hC'⟩ := hI.grow hg
  generalize hw2 : (w.alloc (.cells (xs.map (Value.int .u8)).toArray e ((xs.map (Value.int .u8)).toArray.size, (xs.map (Value.int .u8)).toArray.size + 1))) = w2 at r4 hI' hC' hg
  have hrep : Rep w2 (Okc M st.r) (.slice (some ⟨w.heap.size, 0, none⟩) xs.length xs.length) (.list (xs.map fun x => [.int .u8 x])) := by
    refine .list _ _ _ 1 _ (fun i j => Value.int .u8 (xs.getD i 0)) (by simp) ⟨Nat.le_refl _, by simp only [maxLen]; omega⟩ (fun i hi => ?_) (fun _ => ⟨_, rfl, rfl, fun i j hi hj => ⟨?_, ?_⟩⟩) (fun i j _ _ => rfl) (fun i j hi hj => ?_)
    · simp [List.getD, hi]
    · have hj0 : j = 0 := by omega
      subst hj0
      rw [Addr.add_lit, ← hw2]
      have hnew := heap_alloc_new w (.cells (xs.map (Value.int .u8)).toArray e ((xs.map (Value.int .u8)).toArray.size, (xs.map (Value.int .u8)).toArray.size + 1))
      simp only [World.cell?, hnew]
      simp [List.getD, hi]
    · rw [Addr.add_lit]
      refine ⟨⟨fun k hk e => ?_, fun hno => ?_⟩, fun k A hA hb => ?_⟩
      · have := hI.box_lt hk
        simp only at e
        omega
      · have := (hI.no _ hno).1
        have := hI.keep.size
        simp only at *
        omega
      · have := hI.row_lt hb
        simp only at this
        omega
    · have hj0 : j = 0 := by omega
      subst hj0
      have : ((xs.map fun x => [D.int .u8 x]).getD i []).getD 0 .nilI = .int .u8 (xs.getD i 0) := by simp [List.getD, hi]
      rw [this]
      exact .int _ _
  have hcs : c' < a.tmps.size := by rw [hR.1]; exact hc
  have hev : (a.put (some c') (.slice (some ⟨w.heap.size, 0, none⟩) xs.length xs.length)).eval (.tmp c') = .slice (some ⟨w.heap.size, 0, none⟩) xs.length xs.length := by
    simp [Act.put, Act.eval, Array.getD, hcs]
  have hfin : At dl w0 F W0 M0 r0 [] ⟨(st.t.set c' .undef).set b (.d (.list (xs.map fun x => [.int .u8 x]))), st.b, st.r⟩ ((a.put (some c') (.slice (some ⟨w.heap.size, 0, none⟩) xs.length xs.length)).put (some b) (.slice (some ⟨w.heap.size, 0, none⟩) xs.length xs.length)) w2 := by
    refine ⟨M, hI', ?_, hkd _ (List.mem_cons_of_mem _ (List.mem_cons_self ..)) _ _ (hkd _ (List.mem_cons_self ..) _ _ hd), hC.trans hC'⟩
    have h1 := RG.put (st := ⟨st.t, st.b, st.r⟩) (dst := some c') (u := .slice (some ⟨w.heap.size, 0, none⟩) xs.length xs.length) (v := .undef) (hR.mono hC') (.undef _)
    exact RG.put (st := ⟨st.t.set c' .undef, st.b, st.r⟩) (dst := some b) h1 (.d _ _ hrep)
  rw [List.cons_append, List.cons_append, List.nil_append]
  unfold wpList
  rw [if_pos (show Region.wanted _ _ = true from rfl)]
  refine .inl ?_
  unfold Oper.wp
  have r3' : (execOp a.eval ⟨some c', .buildSlice t3 xs.length l.toArray, ty1, p1, ar1, none⟩).run P w = .ok (.value (.slice (some ⟨w.heap.size, 0, none⟩) xs.length xs.length)) (w.alloc (.cells (xs.map (Value.int .u8)).toArray e)) := by
    have e1 : (execOp a.eval ⟨some c', .buildSlice t3 xs.length l.toArray, ty1, p1, ar1, none⟩).run P w = (do pure (Next.value (← Instr.buildSlice t3 xs.length (l.toArray.map fun p => (p.1, a.eval p.2)))) : Sem Next).run P w := rfl
    rw [e1, Sem.run_bind, r3]
    rfl
  rw [r3', Oper.upon_value]
  unfold wpList
  rw [if_pos (show Region.wanted _ _ = true from rfl)]
  refine .inl ?_
  unfold Oper.wp
  rw [show (execOp (a.put (some c') (.slice (some ⟨w.heap.size, 0, none⟩) xs.length xs.length)).eval ⟨some b, .convert t3 t3 (.tmp c'), ty2, p2, ar2, none⟩).run P (w.alloc (.cells (xs.map (Value.int .u8)).toArray e)) = .ok (.value (.slice (some ⟨w.heap.size, 0, none⟩) xs.length xs.length)) w2 by simp [execOp, hev, r4], Oper.upon_value]
  exact next' _ _ hfin
end
end Go.PE
end

section
/- The evaluator of code is right, 2c: a row that is sliced, and stays a row (see PeQ). -/
set_option linter.unusedVariables false
set_option linter.unusedSimpArgs false
namespace Go.PE
open Go

theorem anyL_get : ∀ {r : List Arr} {i : Nat} {A : Arr}, anyL r = false → r[i]? = some A → A.sz ≠ 0
  | [], i, A, _, h => by simp at h
  | B :: r, 0, A, hn, h => by
    simp only [List.getElem?_cons_zero, Option.some.injEq] at h
    subst h
    intro h0
    simp [anyL, h0] at hn
  | B :: r, i + 1, A, hn, h => by
    have : anyL r = false := by
      unfold anyL at hn
      split at hn
      · cases hn
      · exact hn
    exact anyL_get this (by simpa using h)
theorem freeL_get {id : Nat} : ∀ {l : List AV} {i : Nat}, freeL id l = true → i < l.length → freeA id (l.getD i .undef) = true
  | [], i, _, hi => absurd hi (by simp)
  | x :: l, 0, h, _ => by
    simp only [freeL, Bool.and_eq_true] at h
    exact h.1
  | x :: l, i + 1, h, hi => by
    simp only [freeL, Bool.and_eq_true] at h
    simpa [List.getD] using freeL_get h.2 (by simpa using hi)
theorem freeB_get {id : Nat} : ∀ {b : List (List AV)} {i : Nat} {c : List AV}, freeB id b = true → b[i]? = some c → freeL id c = true
  | [], i, c, _, h => by simp at h
  | x :: b, 0, c, h, hc => by
    simp only [List.getElem?_cons_zero, Option.some.injEq] at hc
    subst hc
    simp only [freeB, Bool.and_eq_true] at h
    exact h.1
  | x :: b, i + 1, c, h, hc => by
    simp only [freeB, Bool.and_eq_true] at h
    exact freeB_get h.2 (by simpa using hc)
theorem forgetT_len (id : Nat) : ∀ l : List AV, (forgetT id l).length = l.length
  | [] => rfl
  | x :: l => by simp [forgetT, forgetT_len id l]
theorem forgetT_get (id : Nat) : ∀ (l : List AV) (i : Nat), i < l.length → (forgetT id l).getD i .undef = if freeA id (l.getD i .undef) = true then l.getD i .undef else .undef
  | [], i, hi => absurd hi (by simp)
  | x :: l, 0, _ => by simp [forgetT]
  | x :: l, i + 1, hi => by simpa [forgetT] using forgetT_get id l i (by simpa using hi)

def cutV (B : Option Addr) (cp l k sz : Nat) : Value := .slice (if cp = l then B else B.map (·.add (l * sz))) (k - l) (cp - l)
theorem cutV_own (B : Option Addr) (cp l k sz n : Nat) : (cutV B cp l k sz).ownBlock = (Value.slice B n cp).ownBlock := by
  unfold cutV
  cases B with
  | none => split <;> rfl
  | some a =>
    split
    · rfl
    · show some (a.add (l * sz)).block = some a.block
      unfold Addr.add
      split <;> rfl

section
variable {w0 : World} {F : List Nat} {M : Mem} {b : List (List AV)} {r : List Arr} {w : World}

theorem Inv.reslice (h : Inv w0 F M b r w) (id : Nat) (A : Arr) (hA : r[id]? = some A) (hnz : A.sz ≠ 0) (hsh : A.sh = false) (l k : Nat) (hlk : l ≤ k) (hk : k ≤ A.es.length) (B : Option Addr) (cp : Nat) (hv : M.row id = .slice B A.es.length cp)
    (hfb : freeB id b = true) (hln : anyL r = false) :
    Inv w0 F ⟨M.bb, M.av.set id (cutV B cp l k A.sz), M.no⟩ b (r.set id { A with es := (A.es.take k).drop l }) w ∧
    (∀ v x, freeA id x = true → RepA w M r v x → RepA w ⟨M.bb, M.av.set id (cutV B cp l k A.sz), M.no⟩ (r.set id { A with es := (A.es.take k).drop l }) v x) ∧
    (∀ a, Okc M r a → Okc ⟨M.bb, M.av.set id (cutV B cp l k A.sz), M.no⟩ (r.set id { A with es := (A.es.take k).drop l }) a) ∧
    Mem.row ⟨M.bb, M.av.set id (cutV B cp l k A.sz), M.no⟩ id = cutV B cp l k A.sz := by
  have hid : id < r.length := (List.getElem?_eq_some_iff.1 hA).1
  have hid' : id < M.av.length := by rw [h.lr]; exact hid
  have hrow := Mem.row_set (M := M) (v := cutV B cp l k A.sz) hid'
  have hnew : Mem.row ⟨M.bb, M.av.set id (cutV B cp l k A.sz), M.no⟩ id = cutV B cp l k A.sz := by rw [hrow]; simp
  have hset := set_cases (B := { A with es := (A.es.take k).drop l }) hA
  have hown : ∀ i, (Mem.row ⟨M.bb, M.av.set id (cutV B cp l k A.sz), M.no⟩ i).ownBlock = (M.row i).ownBlock := by
    intro i
    rw [hrow]
    split
    · rename_i e
      rw [e, hv]
      exact cutV_own _ _ _ _ _ _
    · rfl
  have hok : ∀ a, Okc M r a → Okc ⟨M.bb, M.av.set id (cutV B cp l k A.sz), M.no⟩ (r.set id { A with es := (A.es.take k).drop l }) a := by
    intro a ho
    refine ⟨ho.1, fun i A' hi hb => ?_⟩
    rw [hown] at hb
    rcases hset i A' hi with ⟨rfl, rfl⟩ | ⟨hne, hi'⟩
    · have := (ho.2 i A hA hb).1
      rw [hsh] at this
      cases this
    · rw [hrow, if_neg hne]
      exact ho.2 i A' hi' hb
  have hdat : ∀ {v : Value} {x : D}, Rep w (Okc M r) v x → Rep w (Okc ⟨M.bb, M.av.set id (cutV B cp l k A.sz), M.no⟩ (r.set id { A with es := (A.es.take k).drop l })) v x := fun hr => hr.mono fun a u ho hc => ⟨hc, hok a ho⟩
  have hrep : ∀ v x, freeA id x = true → RepA w M r v x → RepA w ⟨M.bb, M.av.set id (cutV B cp l k A.sz), M.no⟩ (r.set id { A with es := (A.es.take k).drop l }) v x := by
    intro v x hf hx
    induction hx with
    | undef v => exact .undef v
    | d v x hx => exact .d v x (hdat hx)
    | agg vs cs hs h1 _ ih => exact .agg vs cs hs h1 (fun i hi => ih i hi (freeL_get (by simpa [freeA] using hf) hi))
    | nilS => exact .nilS
    | arr v i n h1 hx =>
      have hne : i ≠ id := by simpa [freeA] using hf
      obtain ⟨A2, e, h2, h3⟩ := hx
      exact .arr v i n h1 ⟨A2, by rw [set_ne hne]; exact e, h2, fun e3 => by rw [hrow, if_neg hne]; exact h3 e3⟩
    | ptr i off hx => exact .ptr i off hx
    | bsl i n hx hn => exact .bsl i n hx hn
    | full A n es h => exact .full A n es (hdat h)
    | cptr a cs f hsp hcell h1 hx => exact .cptr a cs f hsp (fun j hj => ⟨(hcell j hj).1, hok _ (hcell j hj).2⟩) h1 (fun j hj => hdat (hx j hj))
    | eptr v i n q off h1 hx =>
      have hne : i ≠ id := by simpa [freeA] using hf
      obtain ⟨A2, e, h2, h3⟩ := hx
      exact .eptr v i n q off h1 ⟨A2, by rw [set_ne hne]; exact e, h2, fun e3 => by rw [hrow, if_neg hne]; exact h3 e3⟩
    | tup vs cs hs _ ih => exact .tup vs cs hs (fun i hi => ih i hi (freeL_get (by simpa [freeA] using hf) hi))
    | iface t v x _ ih => exact .iface t v x (ih (by simpa [freeA] using hf))
    | fn f vs us cs ds hs hs' _ _ ih ih' =>
      have : freeL id cs = true ∧ freeL id ds = true := by simpa [freeA] using hf
      exact .fn f vs us cs ds hs hs' (fun i hi => ih i hi (freeL_get this.1 hi)) (fun i hi => ih' i hi (freeL_get this.2 hi))
  refine ⟨⟨h.keep, h.lb, by simp [h.lr], fun i cells hi => ?_, fun i A' hA' => ?_, h.fb, fun i g hi => h.fr i g (by rw [← hown]; exact hi), h.dbb, fun i j g hi hj e1 e2 => ?_, fun i j hi e => h.dbr i j hi (by rw [← hown]; exact e), fun a ha => ⟨(h.no a ha).1, fun i e => (h.no a ha).2 i (by rw [← hown]; exact e)⟩⟩, hrep, hok, hnew⟩
  · obtain ⟨cs, ty, hh, hs, h1, hr⟩ := h.box i cells hi
    exact ⟨cs, ty, hh, hs, h1, fun j hj => hrep _ _ (freeL_get (freeB_get hfb hi) hj) (hr j hj)⟩
  · rcases hset i A' hA' with ⟨rfl, rfl⟩ | ⟨hne, hA''⟩
    · obtain ⟨hz, he, xs, ho, h1, hr⟩ := h.row i A hA
      have hw := Arr.w_of hnz
      have hxl : xs.length = A.es.length * A.w := ho.1
      have hkm := Nat.mul_le_mul_right A.w hk
      have hlm := Nat.mul_le_mul_right A.w hlk
      have hel : ((A.es.take k).drop l).length = k - l := by simp; omega
      have hsub : (k - l) * A.w = k * A.w - l * A.w := Nat.sub_mul ..
      have hxl' : ((xs.take (k * A.w)).drop (l * A.w)).length = (k - l) * A.w := by
        rw [List.length_drop, List.length_take, hxl, Nat.min_eq_left hkm, hsub]
      rw [hnew]
      refine ⟨hz, fun e hm => he e (List.mem_of_mem_take (List.mem_of_mem_drop hm)), (xs.take (k * A.w)).drop (l * A.w), ?_, fun x hx => h1 x (List.mem_of_mem_take (List.mem_of_mem_drop hx)), fun q j hq hj => ?_⟩
      · show rowAt w A.ety A.w (cutV B cp l k A.sz) ((A.es.take k).drop l).length _
        rw [hel]
        refine ⟨hxl', ?_⟩
        rcases ho.2 with ⟨e1, e2⟩ | ⟨g, cap, cur, o, e1, hh, hnc, hcm, hcs, htk⟩
        · rw [hv] at e1
          injection e1 with e3 e4 e5
          subst e3 e5
          left
          unfold cutV
          have hl0 : l = 0 := by omega
          have hk0 : k = 0 := by omega
          subst hl0 hk0
          exact ⟨by simp, rfl⟩
        · rw [hv] at e1
          injection e1 with e3 e4 e5
          subst e3 e5
          right
          unfold cutV
          by_cases hc : cp = l
          · have hkl : k = l := by omega
            rw [if_pos hc, hkl, hc, Nat.sub_self]
            refine ⟨g, 0, cur, o, rfl, hh, Nat.le_refl _, Nat.zero_le _, by omega, ?_⟩
            rw [Nat.zero_mul, List.take_zero]
            symm
            exact List.eq_nil_of_length_eq_zero (by rw [List.length_drop, List.length_take]; omega)
          · rw [if_neg hc]
            refine ⟨g, cp - l, cur, o + l * A.sz, by simp [Addr.add_mid], hh, by omega, by omega, ?_, ?_⟩
            · have h3 := Nat.mul_le_mul_right A.w (show l ≤ cp by omega)
              have h4 : (cp - l) * A.w = cp * A.w - l * A.w := Nat.sub_mul ..
              rw [← hw]
              omega
            · rw [← htk, List.take_take, Nat.min_eq_left hkm, List.drop_take, ← hw, hsub, List.drop_drop]
      · show RepC w _ _ _ _ _
        have hq' : q < k - l := by
          have : q < ((A.es.take k).drop l).length := hq
          omega
        have e5 : ((xs.take (k * A.w)).drop (l * A.w)).getD (q * A.w + j) undef = xs.getD ((l + q) * A.w + j) undef := by
          have hlt : l * A.w + (q * A.w + j) < k * A.w := by
            calc l * A.w + (q * A.w + j) < l * A.w + (q * A.w + A.w) := by have : j < A.w := hj; omega
              _ = (l + q + 1) * A.w := by rw [Nat.add_mul, Nat.add_mul, Nat.one_mul]; omega
              _ ≤ k * A.w := Nat.mul_le_mul_right _ (by omega)
          have hix : l * A.w + (q * A.w + j) = (l + q) * A.w + j := by rw [Nat.add_mul]; omega
          rw [hix] at hlt
          simp only [List.getD, List.getElem?_drop, List.getElem?_take, hix, if_pos hlt]
        have e6 : ((A.es.take k).drop l).getD q [] = A.es.getD (l + q) [] := by
          simp only [List.getD, List.getElem?_drop, List.getElem?_take, if_pos (show l + q < k by omega)]
        show RepC w _ _ A (((xs.take (k * A.w)).drop (l * A.w)).getD (q * A.w + j) undef) ((((A.es.take k).drop l).getD q []).getD j .nilI)
        rw [e5, e6]
        exact .inl (hdat ((hr (l + q) j (by omega) hj).data hnz))
    · obtain ⟨hz, he, xs, ho, h1, hr⟩ := h.row i A' hA''
      rw [hrow, if_neg hne]
      exact ⟨hz, he, xs, ho, h1, fun q j hq hj => .inl (hdat ((hr q j hq hj).data (anyL_get hln hA'')))⟩
  · rw [hown] at e1 e2
    simp at hi hj
    exact h.drr i j g hi hj e1 e2
end

section
variable {dl : Act → Prop} {P : Program} {w0 : World} {F : List Nat} {W0 : World} {M0 : Mem} {r0 : List Arr} {st : St} {a : Act} {w : World}
theorem cut_sound {ops : Array Oper} {rest : List Oper} {o : Oper} {Q : Exit → Act → World → Prop} {q : Prop × St} {nr : Nat} (hnr : r0.length ≤ nr) (hkd : ∀ (a : Act) u, dl a → dl (a.put o.dst u)) (h : At dl w0 F W0 M0 r0 [] st a w)
    (hq : cutR P nr o st = some q) (hp : q.1) (next' : ∀ a w, At dl w0 F W0 M0 r0 [] q.2 a w → wpList P ops Q rest a w) : wpList P ops Q (o :: rest) a w := by
  unfold cutR at hq
  split at hq
  case h_2 => cases hq
  rename_i d t x lo hi ty p ar
  split at hq
  case h_2 => cases hq
  rename_i id m hx
  split at hq
  case h_2 => cases hq
  rename_i A hA
  split at hq
  case h_2 => cases hq
  rename_i l k e n by_ hl hk hsl
  injection hq with hq
  subst hq
  obtain ⟨hd1, hid, hm, ⟨h0, h1, h2⟩, ⟨hn, hnz, hsh⟩, hfb, hln⟩ := hp
  obtain ⟨M, hI, hR, hdl, hC⟩ := h
  obtain ⟨inf, z, hu, hin, hz, hzs, hpz, _, rfl, _⟩ := sl_spec hsl
  have hT : Rept w M st.r a.tmps st.t := ⟨hR.1, fun i hi => hR.2 i hi (fun p hp => absurd hp (by simp))⟩
  have rx := ev_rep hT x
  rw [hx] at rx
  generalize hu1 : a.eval x = u1 at rx
  cases rx with
  | arr _ _ _ h1' hv =>
    obtain ⟨A2, hA2, _, hv⟩ := hv
    rw [hA] at hA2
    injection hA2 with hA2
    subst hA2
    have eu := hv hm
    obtain ⟨hz1, he, xs, ho, hx1, hxr⟩ := hI.row id A hA
    obtain ⟨B, cp, hrow, hcp⟩ : ∃ B cp, M.row id = .slice B A.es.length cp ∧ A.es.length ≤ cp := by
      rcases ho.2 with ⟨e1, e2⟩ | ⟨g, cap, cur, o, e1, hh, hnc, hcm, hcs, htk⟩
      · exact ⟨none, 0, by rw [e1, e2], by omega⟩
      · exact ⟨_, _, e1, hnc⟩
    have hlo : ∀ (y : AV) (v : Value), lo.map st.ev = some y → lo.map a.eval = some v → RepA w M st.r v y := by
      intro y v e1 e2
      cases lo with
      | none => cases e1
      | some o =>
        injection e1 with e1
        injection e2 with e2
        subst e1 e2
        exact ev_rep hT o
    have hhi : ∀ (y : AV) (v : Value), hi.map st.ev = some y → hi.map a.eval = some v → RepA w M st.r v y := by
      intro y v e1 e2
      cases hi with
      | none => cases e1
      | some o =>
        injection e1 with e1
        injection e2 with e2
        subst e1 e2
        exact ev_rep hT o
    have hb := run_bounds (P := P) (w := w) true A.es.length cp (lo.map a.eval) (hi.map a.eval) l k (bound_run (st := st) hl hlo (by simp)) (bound_run (st := st) hk hhi (by simp)) h0 h1 h2 hcp
    have r3 : (execOp a.eval ⟨some d, .slice t x lo hi none, ty, p, ar, none⟩).run P w = .ok (.value (cutV B cp l.toNat k.toNat A.sz)) w := by
      have : (Instr.sliceAt t u1 (lo.map a.eval) (hi.map a.eval) none).run P w = .ok (cutV B cp l.toNat k.toNat A.sz) w := by
        rw [eu, hrow]
        simp [Instr.sliceAt, run_underlying hu, Instr.slice, hb, sizeOf, typeInfo, hin, cutV, ← hn]
      cases lo <;> cases hi <;> simp_all [execOp]
    obtain ⟨hI', hrep, hok, hnew⟩ := hI.reslice id A hA hnz hsh l.toNat k.toNat (by omega) (by omega) B cp hrow hfb hln
    have hfin : At dl w0 F W0 M0 r0 [] ⟨(forgetT id st.t).set d (.arr id (k - l).toNat), st.b, st.r.set id { A with es := (A.es.take k.toNat).drop l.toNat }⟩ (a.put (some d) (cutV B cp l.toNat k.toNat A.sz)) w := by
      refine ⟨_, hI', ?_, hkd a _ hdl, ⟨fun c u ho hc => ?_, hC.lb, hC.blk, fun i A' hA' => ?_, hC.no⟩⟩
      · have hbase : RG w ⟨M.bb, M.av.set id (cutV B cp l.toNat k.toNat A.sz), M.no⟩ (st.r.set id { A with es := (A.es.take k.toNat).drop l.toNat }) [] a.tmps (forgetT id st.t) := by
          refine ⟨by rw [forgetT_len]; exact hR.1, fun i hi _ => ?_⟩
          rw [forgetT_len] at hi
          rw [forgetT_get id _ i hi]
          split
          · rename_i hf
            exact hrep _ _ hf (hT.2 i hi)
          · exact .undef _
        have hval : RepA w ⟨M.bb, M.av.set id (cutV B cp l.toNat k.toNat A.sz), M.no⟩ (st.r.set id { A with es := (A.es.take k.toNat).drop l.toNat }) (cutV B cp l.toNat k.toNat A.sz) (.arr id (k - l).toNat) := by
          have hlen : ((A.es.take k.toNat).drop l.toNat).length = (k - l).toNat := by simp; omega
          exact .arr _ _ _ rfl ⟨_, set_at hA, by show (k - l).toNat ≤ ((A.es.take k.toNat).drop l.toNat).length; omega, fun _ => hnew.symm⟩
        exact RG.put (st := ⟨forgetT id st.t, st.b, st.r.set id { A with es := (A.es.take k.toNat).drop l.toNat }⟩) (dst := some d) hbase hval
      · obtain ⟨h3, h4⟩ := hC.cell c u ho hc
        exact ⟨h3, hok c h4⟩
      · have hne : i ≠ id := by
          have := (List.getElem?_eq_some_iff.1 hA').1
          omega
        obtain ⟨A3, e3, l3, z3, q3⟩ := hC.row i A' hA'
        refine ⟨A3, by rw [set_ne hne]; exact e3, l3, z3, fun e => ?_⟩
        have hid' : id < M.av.length := by rw [hI.lr]; exact (List.getElem?_eq_some_iff.1 hA).1
        rw [Mem.row_set (M := M) (v := cutV B cp l.toNat k.toNat A.sz) hid', if_neg hne]
        exact q3 e
    unfold wpList
    rw [if_pos (show Region.wanted _ _ = true from rfl)]
    refine .inl ?_
    unfold Oper.wp
    rw [r3, Oper.upon_value]
    exact next' _ _ hfin
end
end Go.PE
end

section
/- The evaluator: a region whose order is drawn (see PeQ). Operations that only look may be reckoned ahead; the others come up one at a time. -/
set_option linter.unusedVariables false
set_option linter.unusedSimpArgs false
namespace Go.PE
open Go

/-! ### what is checked ahead -/
def depsOf (ops : Array Oper) (i : Nat) : List Nat := match ops[i]? with | some o => (o.after.toList.filter (Region.binds .any)).map (·.on) | none => []
def dstOf (ops : Array Oper) (i : Nat) : Option Tmp := (ops[i]?).bind (·.dst)
def looksOf (ops : Array Oper) (i : Nat) : List Tmp := match ops[i]? with | some o => o.looksAt ops | none => []
def hits (d : Option Tmp) (l : List Tmp) : Bool := match d with | some d => l.contains d | none => false
def planB (ops : Array Oper) : List Nat → List Nat → List (Nat × Bool × List Nat) → Bool
  | V, _, [] => (List.range ops.size).all fun i => V.contains i
  | V, pend, (i, ch, rc) :: l =>
    let pend' := if ch then pend.filter fun p => !(depsOf ops i).contains p else pend
    decide (i < ops.size) && !V.contains i && (depsOf ops i).all (fun k => V.contains k) && !hits (dstOf ops i) (looksOf ops i) &&
    pend'.all (fun p => !hits (dstOf ops i) (looksOf ops p) && ((dstOf ops i).isNone || dstOf ops i != dstOf ops p) && (!hits (dstOf ops p) (looksOf ops i) || (depsOf ops i).contains p)) &&
    (if ch then (List.range ops.size).all (fun k => V.contains k || k == i || !(depsOf ops k).all fun j => V.contains j) && pend'.all (fun p => rc.contains p) else true) &&
    planB ops (i :: V) (if ch then pend' else i :: pend') l
/-- Nothing waits for what stands behind it in the text. -/
def backB (ops : Array Oper) : Bool := (List.range ops.size).all fun i => (depsOf ops i).all fun k => decide (k < i)
/-- Every region of the code that draws has a plan that is good. -/
def drawsB (pl : Nat → List (Nat × Bool × List Nat)) : Code → Bool
  | .seq x y => drawsB pl x && drawsB pl y
  | .cond _ x y => drawsB pl x && drawsB pl y
  | .block _ x => drawsB pl x
  | .loop x => drawsB pl x
  | .region id ops true => nodupN (ops.toList.filterMap (·.dst)) && (backB ops && planB ops [] [] (pl id))
  | .region _ ops false => nodupN (ops.toList.filterMap (·.dst))
  | _ => true

/-! ### soundness -/
theorem depsOf_mem {ops : Array Oper} {i : Nat} {o : Oper} (ho : ops[i]? = some o) {k : Nat} : k ∈ depsOf ops i ↔ ∃ e ∈ o.after, Region.binds .any e = true ∧ e.on = k := by
  simp [depsOf, ho, and_assoc]

theorem ev_put {st : St} {dst : Option Tmp} {v : AV} {x : Operand} (h : ∀ d, dst = some d → x ≠ .tmp d) : (st.put dst v).ev x = st.ev x := by
  cases dst with
  | none => rfl
  | some d =>
    cases x with
    | tmp t =>
      have hne : d ≠ t := fun e => h d rfl (e ▸ rfl)
      exact getD_set_ne _ _ _ _ _ hne
    | _ => rfl
theorem need_st {G : List (Nat × Bool)} {o : Op} {st st' : St} (h : ∀ x ∈ o.operands, st'.ev x = st.ev x) (hn : need G o st) : need G o st' := by
  cases o with
  | pick c a b =>
    have hc := h c (by simp [Op.operands])
    simp only [need, hc] at hn ⊢
    exact hn
  | _ => exact hn
theorem gval_put {L : List Oper} {st : St} {g : Nat} {dst : Option Tmp} {v : AV} (h : ∀ d o e, dst = some d → L[g]? = some o → o.dst = some e → d ≠ e) : gval L (st.put dst v) g = gval L st g := by
  cases dst with
  | none => rfl
  | some d =>
    unfold gval
    cases ho : L[g]? with
    | none => rfl
    | some o =>
      simp only
      cases he : o.dst with
      | none => rfl
      | some e =>
        have hne := h d o e rfl ho he
        simp only [St.put, List.length_set, getD_set_ne _ _ _ _ _ hne]
end Go.PE
end

section
/- The evaluator: a region whose order is drawn is right (see PeX). -/
set_option linter.unusedVariables false
set_option linter.unusedSimpArgs false
namespace Go.PE
open Go

theorem sem_runK {E : Env} {R : Res} {K KP : AV → St → Prop} (h : R.sem K) : runK E R K KP := by
  cases R with
  | ok p v st => exact h
  | elem p es k n st => exact h
  | byte p s k st => exact h
  | any p q st => exact h
  | _ => exact h.elim
/-- The known functions of data by what they say. -/
def Env.det (E : Env) : Env := { E with H := fun f => match E.Dt f with | some h => h.handler | none => E.H f }
theorem Env.Ok.det {P : Program} {E : Env} (h : E.Ok P) : E.det.Ok P := by
  refine ⟨fun f => ?_, h.dt⟩
  show HOk P f (match E.Dt f with | some h => h.handler | none => E.H f)
  cases e : E.Dt f with
  | none => exact h.h f
  | some d => exact h.dt f d e
theorem sem_runD {E : Env} {R : Res} {K KP : AV → St → Prop} (h : (detR E R).sem K) : runK E.det R K KP := by
  cases R with
  | call f args st =>
    simp only [detR, detRk] at h
    show (match E.Dt f with | some h => h.handler | none => E.H f) args st.b st.r _
    cases e : E.Dt f with
    | none => rw [e] at h; exact h.elim
    | some d =>
      rw [e] at h
      cases e2 : allD args with
      | none => rw [e2] at h; exact h.elim
      | some ds => rw [e2] at h; exact ⟨ds, e2, h.1, h.2⟩
  | ok p v st => exact h
  | elem p es k n st => exact h
  | byte p s k st => exact h
  | any p q st => exact h
  | _ => exact h.elim
theorem detR_setT {E : Env} {R : Res} {t : List AV} : detR E (R.setT t) = (detR E R).setT t := by
  cases R with
  | call f args st =>
    show detRk _ _ _ _ = Res.setT _ (detRk _ _ _ _)
    cases e : E.Dt f <;> cases e2 : allD args <;> simp only [Res.setT, detRk, e, e2] <;> rfl
  | _ => rfl
theorem sem_setT {R : Res} {K : AV → St → Prop} {t : List AV} (h : R.sem fun v st => K v (st.wT t)) : (R.setT t).sem K := by
  cases R with
  | ok p v st => exact h
  | elem p es k n st => exact h
  | byte p s k st => exact h
  | any p q st => exact h
  | _ => exact h.elim
theorem sem_mono {R : Res} {K K' : AV → St → Prop} (h : R.sem K) (k : ∀ v st, K v st → K' v st) : R.sem K' := by
  cases R with
  | ok p v st => exact ⟨h.1, k _ _ h.2⟩
  | elem p es n m st => exact ⟨h.1, fun x hx => ⟨(h.2 x hx).1, k _ _ (h.2 x hx).2⟩⟩
  | byte p s n st => exact ⟨h.1, fun x hx => k _ _ (h.2 x hx)⟩
  | any p q st => exact ⟨h.1, fun b hb => k _ _ (h.2 b hb)⟩
  | _ => exact h.elim

theorem stillV_spec {P : Program} {E : Env} {o : Oper} {g : Bool} {G : List (Nat × Bool)} {st : St} {Fv : AV → Prop} (h : stillV P E o g G st Fv) :
    ∃ v, Fv v ∧ (g = true → need G o.op st ∧ (detR E (opR P o st)).sem fun v' st' => v' = v ∧ st'.b = st.b ∧ st'.r = st.r) := by
  unfold stillV at h
  split at h
  · rename_i p v st' hop
    refine ⟨v, h.2.2, fun e => ⟨(h.1 e).1, ?_⟩⟩
    rw [hop]
    exact ⟨(h.1 e).2, rfl, h.2.1⟩
  · rename_i p es k n st' hop
    obtain ⟨h1, h2, x, hx1, hx2, hx3⟩ := h
    refine ⟨.cptr x, hx3, fun e => ⟨(h1 e).1, ?_⟩⟩
    rw [hop]
    exact ⟨(h1 e).2, fun y hy => ⟨by rw [← hx1 y hy]; exact hx2 e, by rw [hx1 y hy], h2⟩⟩
  · rename_i p s k st' hop
    refine ⟨_, h.2.2, fun e => ⟨(h.1 e).1, ?_⟩⟩
    rw [hop]
    exact ⟨(h.1 e).2, fun c hc => ⟨by simp [List.getD, hc], h.2.1⟩⟩
  · refine ⟨.undef, h.2, fun e => ?_⟩
    rw [h.1] at e
    cases e

/-- What is pending, as a mask. -/
def maskX (ops : Array Oper) (lst : Array Bool) (pend : List Nat) : List (Nat × Bool) := ((pend.filter fun q => !lst.getD q false).filterMap (dstOf ops)).map fun d => (d, false)
theorem maskX_valid {ops : Array Oper} {lst : Array Bool} {pend : List Nat} {d : Nat} : valid (maskX ops lst pend) d ↔ ∀ q ∈ pend, lst.getD q false = false → dstOf ops q ≠ some d := by
  constructor
  · intro h q hq hl he
    have := h (d, false) (List.mem_map.2 ⟨d, List.mem_filterMap.2 ⟨q, List.mem_filter.2 ⟨hq, by simp [hl]⟩, he⟩, rfl⟩) rfl
    cases this
  · intro h p hp hpe
    obtain ⟨e, he, rfl⟩ := List.mem_map.1 hp
    obtain ⟨q, hq, hd⟩ := List.mem_filterMap.1 he
    obtain ⟨hq1, hq2⟩ := List.mem_filter.1 hq
    subst hpe
    exact absurd hd (h q hq1 (by simpa using hq2))


section
variable {dl : Act → Prop} {P : Program} {E : Env} {w0 : World} {F : List Nat} {W0 : World} {M0 : Mem} {r0 : List Arr} {ops : Array Oper}

structure Sim (P : Program) (E : Env) (ops : Array Oper) (dl : Act → Prop) (w0 : World) (F : List Nat) (W0 : World) (M0 : Mem) (r0 : List Arr) (lst : Array Bool) (V pend : List Nat) (G : List (Nat × Bool)) (st : St) (a : Act) (w : World) : Prop where
  hs : lst.size = ops.size
  sub : ∀ i, lst.getD i false = true → i ∈ V
  vlt : ∀ i ∈ V, i < ops.size
  pnd : ∀ i ∈ V, lst.getD i false = false → i ∈ pend
  pV : ∀ i ∈ pend, i ∈ V
  pw : ∀ p ∈ pend, ∀ q ∈ pend, p ≠ q → (hits (dstOf ops q) (looksOf ops p) = true → q ∈ depsOf ops p) ∧ (∀ d, dstOf ops q = some d → dstOf ops p ≠ some d)
  slf : ∀ p ∈ pend, hits (dstOf ops p) (looksOf ops p) = false
  dep : ∀ i ∈ V, ∀ k ∈ depsOf ops i, k ∈ V
  at_ : At dl w0 F W0 M0 r0 (maskX ops lst pend ++ G) st a w
  pok : ∀ p ∈ pend, lst.getD p false = false → ∃ o, ops[p]? = some o ∧ pendO P E ops.toList o G st
  nd : ∀ q q' d, dstOf ops q = some d → dstOf ops q' = some d → q = q'
  gV : ∀ p ∈ G, ∃ q ∈ V, dstOf ops q = some p.1
  ru : ∀ q ∈ V, lst.getD q false = true → ∀ d, dstOf ops q = some d → vG G d = false → a.tmps.getD d undef = undef
theorem put_size {a : Act} {dst : Option Tmp} {u : Value} : (a.put dst u).tmps.size = a.tmps.size := by cases dst <;> simp [Act.put]
theorem put_tmp_ne {a : Act} {dst : Option Tmp} {u : Value} {d : Nat} (h : dst ≠ some d) : (a.put dst u).tmps.getD d undef = a.tmps.getD d undef := by
  cases dst with
  | none => rfl
  | some d' => exact agetD_set_ne _ _ _ _ (fun e => h (by rw [e]))
theorem put_tmp_undef {a : Act} {d : Nat} : (a.put (some d) undef).tmps.getD d undef = undef := by
  show (a.tmps.setIfInBounds d undef).getD d undef = undef
  rcases Nat.lt_or_ge d a.tmps.size with h | h
  · exact agetD_set_self _ _ _ h
  · simp [Array.getD, Nat.not_lt.2 h]
/-- One operation for each temporary. -/
theorem nd_of {ops : Array Oper} (h : nodupN (ops.toList.filterMap (·.dst)) = true) : ∀ q q' d, dstOf ops q = some d → dstOf ops q' = some d → q = q' := by
  have key : ∀ (l : List Oper), nodupN (l.filterMap (·.dst)) = true → ∀ (q q' : Nat) (d : Tmp), (l[q]?).bind (Oper.dst) = some d → (l[q']?).bind (Oper.dst) = some d → q = q' := by
    intro l
    induction l with
    | nil => intro _ q q' d h; simp at h
    | cons o l ih =>
      intro hn q q' d h1 h2
      obtain ⟨h3, h4⟩ := nodup_cons hn
      have mem : ∀ (k : Nat), (l[k]?).bind (Oper.dst) = some d → o.dst = some d → False := by
        intro k hk ho
        cases hl : l[k]? with
        | none => rw [hl] at hk; cases hk
        | some x =>
          rw [hl] at hk
          exact h4 d ho x (List.mem_of_getElem? hl) hk
      cases q with
      | zero =>
        cases q' with
        | zero => rfl
        | succ k => exact (mem k (by simpa using h2) (by simpa using h1)).elim
      | succ j =>
        cases q' with
        | zero => exact (mem j (by simpa using h1) (by simpa using h2)).elim
        | succ k => rw [ih h3 j k d (by simpa using h1) (by simpa using h2)]
  intro q q' d h1 h2
  exact key ops.toList h q q' d (by simpa [dstOf] using h1) (by simpa [dstOf] using h2)
theorem vG_mem : ∀ {G : List (Nat × Bool)} {d : Nat}, vG G d = false → ∃ p ∈ G, p.1 = d
  | [], d, h => by cases h
  | (e, g) :: G, d, h => by
    unfold vG at h
    by_cases he : e = d
    · exact ⟨(e, g), List.mem_cons_self .., he⟩
    · rw [if_neg he, Bool.true_and] at h
      obtain ⟨p, hp, h1⟩ := vG_mem h
      exact ⟨p, List.mem_cons_of_mem _ hp, h1⟩
theorem vG_other {dst : Option Tmp} {g : Bool} {G : List (Nat × Bool)} {d : Nat} (h : dst ≠ some d) : vG (addG dst g G) d = vG G d := by
  cases dst with
  | none => rfl
  | some e =>
    show ((if e = d then g else true) && vG G d) = _
    rw [if_neg (fun he => h (by rw [he])), Bool.true_and]

theorem hits_some {d : Tmp} {l : List Tmp} : hits (some d) l = true ↔ d ∈ l := by simp [hits]
theorem lst_lt {lst : Array Bool} {i : Nat} (h : lst.getD i true = false) : i < lst.size ∧ lst.getD i false = false := by
  rcases Nat.lt_or_ge i lst.size with h1 | h1
  · simp only [Array.getD, h1, dif_pos] at h ⊢
    exact ⟨trivial, h⟩
  · simp [Array.getElem?_eq_none h1] at h

/-- What may come up has all that it waits for behind it. -/
theorem ready_deps {lst : Array Bool} {i : Nat} (h : i ∈ Region.ready .any ops lst) : lst.getD i true = false ∧ (∃ o, ops[i]? = some o) ∧ ∀ k ∈ depsOf ops i, lst.getD k false = true := by
  obtain ⟨h1, o, ho, h2⟩ := mem_ready.1 h
  refine ⟨h1, ⟨o, ho⟩, fun k hk => ?_⟩
  obtain ⟨e, he, hb, rfl⟩ := (depsOf_mem ho).1 hk
  exact h2 e he hb

theorem set_getD {lst : Array Bool} {i j : Nat} (hi : i < lst.size) : (lst.setIfInBounds i true).getD j false = (if j = i then true else lst.getD j false) := by
  by_cases e : j = i
  · subst e
    simp [Array.getD, hi]
  · rw [if_neg e]
    exact Go.getD_set_ne false (fun h => e h.symm)

/-- A guard that was passed over has come up. -/
theorem Sim.guard {lst : Array Bool} {V pend : List Nat} {G : List (Nat × Bool)} {st : St} {a : Act} {w : World} (h : Sim P E ops dl w0 F W0 M0 r0 lst V pend G st a w) {p : Nat} {o : Oper} {gi : Nat} {pol : Bool} {gd : Tmp} (hp : p ∈ pend) (hr : p ∈ Region.ready .any ops lst) (ho : ops[p]? = some o)
    (hg : o.guard = some (gi, pol)) (hgd : (ops[gi]?).bind (·.dst) = some gd) (hv : vG G gd = false) : a.tmps.getD gd undef = undef := by
  obtain ⟨_, _, h2⟩ := ready_deps hr
  obtain ⟨q, hq, hq1⟩ := vG_mem hv
  obtain ⟨r, hrV, hrd⟩ := h.gV q hq
  rw [hq1] at hrd
  have e : r = gi := h.nd r gi gd hrd hgd
  subst e
  refine h.ru r hrV ?_ gd hrd hv
  cases hl : lst.getD r false with
  | true => rfl
  | false =>
    have hh : hits (dstOf ops r) (looksOf ops p) = true := by
      rw [hrd]
      exact hits_some.2 (by simp only [looksOf, ho]; exact looks_guard hg hgd)
    by_cases e : p = r
    · subst e
      rw [h.slf p hp] at hh
      cases hh
    · have := h2 r ((h.pw p hp r (h.pnd r hrV hl) e).1 hh)
      rw [hl] at this
      cases this

/-- An operation that was reckoned ahead comes up. -/
theorem sim_pend (hE : E.Ok P) (hkd : ∀ o ∈ ops.toList, ∀ (a : Act) u, dl a → dl (a.put o.dst u))  {lst : Array Bool} {V pend : List Nat} {G : List (Nat × Bool)} {st : St} {a : Act} {w : World} {p : Nat} {next : Act → World → Prop} {Q : Exit → Act → World → Prop}
    (h : Sim P E ops dl w0 F W0 M0 r0 lst V pend G st a w) (hp : p ∈ pend) (hr : p ∈ Region.ready .any ops lst) (hn : ∀ a' w', Sim P E ops dl w0 F W0 M0 r0 (lst.setIfInBounds p true) V pend G st a' w' → next a' w') :
    wpOp P ops Q p next a w := by
  obtain ⟨h1, _, h2⟩ := ready_deps hr
  obtain ⟨hlt, hun⟩ := lst_lt h1
  obtain ⟨o, ho, hpo⟩ := h.pok p hp hun
  have hlooks : looksOf ops p = o.looksAt ops := by simp [looksOf, ho]
  have hdst : dstOf ops p = o.dst := by simp [dstOf, ho]
  have hX : ∀ d ∈ o.looksAt ops, valid (maskX ops lst pend) d := by
    intro d hd
    rw [maskX_valid]
    intro q hq hql hqd
    have hh : hits (dstOf ops q) (looksOf ops p) = true := by rw [hqd, hlooks]; exact hits_some.2 hd
    by_cases e : p = q
    · subst e
      rw [h.slf p hp] at hh
      cases hh
    · have := h2 q ((h.pw p hp q hq e).1 hh)
      rw [hql] at this
      cases this
  obtain ⟨M, hI, hR, hd, hC⟩ := h.at_
  -- what comes after
  have after : ∀ (M' : Mem) (w' : World) (u : Value), Inv w0 F M' st.b st.r w' → Chg w M st.r w' M' st.r → (∀ d, o.dst = some d → d < st.t.length → valid G d → RepA w' M' st.r u (st.t.getD d .undef)) → (∀ d, o.dst = some d → vG G d = false → u = undef) → next (a.put o.dst u) w' := by
    intro M' w' u hI' hC' hu hu2
    refine hn _ _ { hs := by simpa using h.hs, sub := fun i hi => ?_, vlt := h.vlt, pnd := fun i hi hl => ?_, pV := h.pV, pw := h.pw, slf := h.slf, dep := h.dep, at_ := ⟨M', hI', ?_, hkd o (by rw [Array.mem_toList_iff]; exact Array.mem_of_getElem? ho) _ _ hd, hC.trans hC'⟩, pok := fun q hq hl => ?_, nd := h.nd, gV := h.gV, ru := fun q hq hl d hqd hv => ?_ }
    · rw [set_getD hlt] at hi
      split at hi
      · rename_i e; rw [e]; exact h.pV p hp
      · exact h.sub i hi
    · rw [set_getD hlt] at hl
      split at hl
      · cases hl
      · exact h.pnd i hi hl
    · refine ⟨?_, fun d hdl hv => ?_⟩
      · cases o.dst <;> simpa [Act.put] using hR.1
      · obtain ⟨hv1, hv2⟩ := valid_append.1 hv
        rw [maskX_valid] at hv1
        by_cases e : o.dst = some d
        · rw [e]
          show RepA w' M' st.r ((a.tmps.setIfInBounds d u).getD d undef) _
          rw [agetD_set_self _ _ _ (by rw [hR.1]; exact hdl)]
          exact hu d e hdl hv2
        · have e2 : (a.put o.dst u).tmps.getD d undef = a.tmps.getD d undef := by
            cases hdd : o.dst with
            | none => rfl
            | some d' =>
              rw [hdd] at e
              exact agetD_set_ne _ _ _ _ (fun h => e (by rw [h]))
          rw [e2]
          refine (hR.2 d hdl (valid_append.2 ⟨maskX_valid.2 fun q hq hql => ?_, hv2⟩)).mono hC'
          by_cases eq : q = p
          · subst eq; rw [hdst]; exact e
          · exact hv1 q hq (by rw [set_getD hlt, if_neg eq]; exact hql)
    · rw [set_getD hlt] at hl
      split at hl
      · cases hl
      · exact h.pok q hq hl
    · by_cases eq : q = p
      · subst eq
        rw [hdst] at hqd
        rw [hu2 d hqd hv, hqd]
        exact put_tmp_undef
      · rw [set_getD hlt, if_neg eq] at hl
        rw [put_tmp_ne (fun e => eq (h.nd q p d hqd (by rw [hdst]; exact e)))]
        exact h.ru q hq hl d hqd hv
  -- it is wanted
  have go : ∀ g, g = true → pendV P E o g G st → o.wp P a w next Q := by
    intro g hg hv
    obtain ⟨hneed, hsem⟩ := hv.2 hg
    have hneed' : need (maskX ops lst pend ++ G) o.op st := need_valid (fun d hd hv => valid_append.2 ⟨hX d (looks_op hd), hv⟩) hneed
    refine run_sound (E := E.det) (K := fun v st' => (∀ d, o.dst = some d → d < st.t.length → v = st.t.getD d .undef) ∧ st'.b = st.b ∧ st'.r = st.r) (KP := fun _ _ => False) hE.det hI hR hneed' (sem_runD hsem) (fun v st' M' w' u hK ht hI' hC' hu => ?_) (fun _ _ _ _ _ hf => hf.elim)
    obtain ⟨hv', hb, hr'⟩ := hK
    rw [hb, hr'] at hI'
    rw [hr'] at hC' hu
    exact after M' w' u hI' hC' (fun d hdd hlt' _ => by rw [← hv' d hdd hlt']; exact hu) (fun d hdd hvd => by rw [vG_iff.2 ((hv.1 d hdd).2 hg)] at hvd; cases hvd)
  unfold wpOp
  rw [ho]
  simp only
  unfold pendO at hpo
  cases hg : o.guard with
  | none =>
    rw [hg] at hpo
    have hw : Region.wanted o (yielded ops a.tmps) = true := by simp [Region.wanted, hg]
    rw [if_pos hw]
    exact .inl (go true rfl hpo)
  | some gp =>
    obtain ⟨gi, pol⟩ := gp
    rw [hg] at hpo
    simp only at hpo
    cases hgv : gval ops.toList st gi with
    | none => rw [hgv] at hpo; exact hpo.elim
    | some gx =>
      obtain ⟨gd, x⟩ := gx
      rw [hgv] at hpo
      simp only at hpo
      have hgd : (ops[gi]?).bind (·.dst) = some gd := gval_dst hgv
      cases hvg : vG G gd with
      | true =>
        have hval := vG_iff.1 hvg
        have hpv : pendV P E o (x == pol) G st := by rw [hvg] at hpo; exact hpo
        obtain ⟨hy, _, _⟩ := gval_spec hR hgv (valid_append.2 ⟨hX gd (looks_guard hg hgd), hval⟩)
        have hw : Region.wanted o (yielded ops a.tmps) = (x == pol) := by
          simp only [Region.wanted, hg, hy]
          cases x <;> cases pol <;> rfl
        rw [hw]
        cases e : (x == pol) with
        | true =>
          rw [if_pos rfl]
          exact .inl (go _ e hpv)
        | false =>
          rw [if_neg (by simp)]
          refine after M w undef hI (.refl _ _ _) (fun d hdd _ hv => ?_) (fun _ _ _ => rfl)
          have := (hpv.1 d hdd).1 hv
          rw [e] at this
          cases this
      | false =>
        have hpv : pendV P E o false G st := by
          rw [hvg] at hpo
          cases pol <;> exact hpo
        rw [notWanted hg hgd (h.guard hp hr ho hg hgd hvg), if_neg (by simp)]
        refine after M w undef hI (.refl _ _ _) (fun d hdd _ hv => ?_) (fun _ _ _ => rfl)
        have := (hpv.1 d hdd).1 hv
        cases this
end
end Go.PE
end

section
/- The evaluator: a region whose order is drawn is right, the whole of it (see PeX). -/
set_option linter.unusedVariables false
set_option linter.unusedSimpArgs false
namespace Go.PE
open Go

section
variable {dl : Act → Prop} {P : Program} {E : Env} {w0 : World} {F : List Nat} {W0 : World} {M0 : Mem} {r0 : List Arr} {ops : Array Oper}

theorem ev_put_looks {o : Oper} {st : St} {dst : Option Tmp} {v : AV} (h : ∀ d, dst = some d → d ∉ o.looksAt ops) : ∀ x ∈ o.op.operands, (st.put dst v).ev x = st.ev x := by
  intro x hx
  refine ev_put (fun d hd e => h d hd ?_)
  subst e
  exact looks_op hx
theorem put_wT (st : St) (dst : Option Tmp) (v : AV) : st.put dst v = st.wT (st.put dst v).t := by cases dst <;> rfl
theorem opR_put {o : Oper} {st : St} {dst : Option Tmp} {v : AV} (h : ∀ d, dst = some d → d ∉ o.looksAt ops) : opR P o (st.put dst v) = (opR P o st).setT (st.put dst v).t := by
  have := ev_put_looks (st := st) (v := v) h
  rw [put_wT] at this ⊢
  exact opR_t _ _ _ this
theorem put_len {st : St} {dst : Option Tmp} {v : AV} : (st.put dst v).t.length = st.t.length := by cases dst <;> simp [St.put]
theorem put_get_ne {st : St} {dst : Option Tmp} {v : AV} {d : Nat} (h : dst ≠ some d) : (st.put dst v).t.getD d .undef = st.t.getD d .undef := by
  cases dst with
  | none => rfl
  | some e => exact getD_set_ne _ _ _ _ _ (fun h' => h (by rw [h']))
theorem put_get_eq {st : St} {v : AV} {d : Nat} (h : d < st.t.length) : (st.put (some d) v).t.getD d .undef = v := getD_set_self _ _ _ _ h

theorem gval_put' {o : Oper} {st : St} {dst : Option Tmp} {v : AV} {gi : Nat} {pol : Bool} (hg : o.guard = some (gi, pol)) (h : ∀ d, dst = some d → d ∉ o.looksAt ops) : gval ops.toList (st.put dst v) gi = gval ops.toList st gi := by
  refine gval_put (fun d o' e hd ho he heq => h d hd ?_)
  subst heq
  refine looks_guard hg ?_
  have : ops[gi]? = some o' := by simpa using ho
  simp [this, he]

theorem pendO_put {o : Oper} {G G' : List (Nat × Bool)} {st : St} {dst : Option Tmp} {v : AV} (h : ∀ d, dst = some d → d ∉ o.looksAt ops) (hd : ∀ d, o.dst = some d → dst ≠ some d)
    (hv : ∀ d ∈ o.looksAt ops, valid G d → valid G' d) (hv' : ∀ d, valid G' d → valid G d) (hs : ∀ d, o.dst = some d → valid G d → valid G' d) (hp : pendO P E ops.toList o G st) : pendO P E ops.toList o G' (st.put dst v) := by
  have pv : ∀ g, pendV P E o g G st → pendV P E o g G' (st.put dst v) := by
    intro g hpv
    refine ⟨fun d hdd => ⟨fun hval => (hpv.1 d hdd).1 (hv' d hval), fun e => hs d hdd ((hpv.1 d hdd).2 e)⟩, fun e => ?_⟩
    obtain ⟨h1, h2⟩ := hpv.2 e
    refine ⟨need_st (ev_put_looks h) (need_valid (fun d hd => hv d (looks_op hd)) h1), ?_⟩
    rw [opR_put h, detR_setT]
    refine sem_setT (sem_mono h2 (fun v' st' hK => ⟨fun d hdd hlt => ?_, ?_, ?_⟩))
    · rw [put_get_ne (hd d hdd)]
      rw [put_len] at hlt
      exact hK.1 d hdd hlt
    · rw [put_put_len.1]; exact hK.2.1
    · rw [put_put_len.2]; exact hK.2.2
  unfold pendO at hp ⊢
  cases hg : o.guard with
  | none => rw [hg] at hp; exact pv true hp
  | some gp =>
    obtain ⟨gi, pol⟩ := gp
    rw [hg] at hp
    simp only at hp ⊢
    rw [gval_put' hg h]
    cases hgv : gval ops.toList st gi with
    | none => rw [hgv] at hp; exact hp.elim
    | some gx =>
      obtain ⟨gd, x⟩ := gx
      rw [hgv] at hp
      have hgd := looks_guard hg (gval_dst hgv)
      have e : vG G' gd = vG G gd := by
        cases h1 : vG G gd with
        | true => exact vG_iff.2 (hv gd hgd (vG_iff.1 h1))
        | false =>
          cases h2 : vG G' gd with
          | false => rfl
          | true => rw [vG_iff.2 (hv' gd (vG_iff.1 h2))] at h1; cases h1
      simp only
      rw [e]
      exact pv _ hp

/-- An operation, reckoned ahead. -/
theorem still_pend {o : Oper} {G : List (Nat × Bool)} {st : St} {K : List (Nat × Bool) → St → Prop} (hf : ∀ d, o.dst = some d → valid G d) (hs : ∀ d, o.dst = some d → d ∉ o.looksAt ops) (hk : stillK P E ops.toList o G st K) :
    ∃ v G', K G' (st.put o.dst v) ∧ (G' = G ∨ ∃ g, G' = addG o.dst g G) ∧ (∀ d, valid G' d → valid G d) ∧ (∀ d, o.dst ≠ some d → valid G d → valid G' d) ∧ pendO P E ops.toList o G' (st.put o.dst v) := by
  have pv : ∀ (g : Bool) (G' : List (Nat × Bool)) (v : AV), (∀ d, o.dst = some d → (valid G' d ↔ g = true)) → (∀ d, o.dst ≠ some d → valid G d → valid G' d) →
      (g = true → need G o.op st ∧ (detR E (opR P o st)).sem fun v' st' => v' = v ∧ st'.b = st.b ∧ st'.r = st.r) → pendV P E o g G' (st.put o.dst v) := by
    intro g G' v h1 h2 h3
    refine ⟨h1, fun e => ?_⟩
    obtain ⟨h4, h5⟩ := h3 e
    refine ⟨need_st (ev_put_looks hs) (need_valid (fun d hd => h2 d (fun hdd => hs d hdd (looks_op hd))) h4), ?_⟩
    rw [opR_put hs, detR_setT]
    refine sem_setT (sem_mono h5 (fun v' st' hK => ⟨fun d hdd hlt => ?_, ?_, ?_⟩))
    · rw [put_len] at hlt
      rw [hK.1, hdd, put_get_eq hlt]
    · rw [put_put_len.1]; exact hK.2.1
    · rw [put_put_len.2]; exact hK.2.2
  unfold stillK at hk
  cases hg : o.guard with
  | none =>
    rw [hg] at hk
    obtain ⟨v, hK, hsem⟩ := stillV_spec hk
    refine ⟨v, G, hK, .inl rfl, fun _ h => h, fun _ _ h => h, ?_⟩
    unfold pendO
    rw [hg]
    exact pv true G v (fun d hd => ⟨fun _ => rfl, fun _ => hf d hd⟩) (fun _ _ h => h) hsem
  | some gp =>
    obtain ⟨gi, pol⟩ := gp
    rw [hg] at hk
    simp only at hk
    cases hgv : gval ops.toList st gi with
    | none => rw [hgv] at hk; exact hk.elim
    | some gx =>
      obtain ⟨gd, x⟩ := gx
      rw [hgv] at hk
      simp only at hk
      obtain ⟨v, hK, hsem⟩ := stillV_spec hk
      have hsub : ∀ (g : Bool) d, o.dst ≠ some d → valid G d → valid (addG o.dst g G) d := fun g d hd h => valid_addG_iff.2 ⟨h, fun e => absurd e hd⟩
      refine ⟨v, _, hK, .inr ⟨_, rfl⟩, fun d h => (valid_addG h).1, hsub _, ?_⟩
      unfold pendO
      rw [hg]
      simp only
      rw [gval_put' hg hs, hgv]
      have hgd := looks_guard hg (gval_dst hgv)
      simp only
      rw [vG_other (fun hdd => hs gd hdd hgd)]
      exact pv _ _ v (fun d hdd => ⟨fun h => (valid_addG h).2 hdd, fun e => valid_addG_iff.2 ⟨hf d hdd, fun _ => e⟩⟩) (hsub _) hsem

/-- The plan's next operation is reckoned ahead: nothing has happened yet. -/
theorem sim_still {lst : Array Bool} {V pend rc : List Nat} {G : List (Nat × Bool)} {st : St} {a : Act} {w : World} {i : Nat} {l : List (Nat × Bool × List Nat)} {K : St → Prop} {KP : AV → St → Prop}
    (h : Sim P E ops dl w0 F W0 M0 r0 lst V pend G st a w) (hb : planB ops V pend ((i, false, rc) :: l) = true) (hk : planK P E ops.toList ((i, false, rc) :: l) G st K KP) :
    ∃ G' st', Sim P E ops dl w0 F W0 M0 r0 lst (i :: V) (i :: pend) G' st' a w ∧ planB ops (i :: V) (i :: pend) l = true ∧ planK P E ops.toList l G' st' K KP := by
  simp only [planB, Bool.and_eq_true, decide_eq_true_eq, Bool.not_eq_true', List.all_eq_true, if_false, Bool.false_eq_true] at hb
  obtain ⟨⟨⟨⟨⟨⟨hlt, hiV⟩, hdeps⟩, hself⟩, hpw⟩, _⟩, hb⟩ := hb
  have hiV' : i ∉ V := by simpa using hiV
  simp only [planK] at hk
  cases ho : ops.toList[i]? with
  | none => rw [ho] at hk; exact hk.elim
  | some o =>
    rw [ho] at hk
    simp only at hk
    have ho' : ops[i]? = some o := by simpa using ho
    have hlooks : looksOf ops i = o.looksAt ops := by simp [looksOf, ho']
    have hdst : dstOf ops i = o.dst := by simp [dstOf, ho']
    have hs : ∀ d, o.dst = some d → d ∉ o.looksAt ops := by
      intro d hd hm
      rw [hdst, hlooks, hd] at hself
      have := hits_some.2 hm
      rw [hself] at this
      cases this
    have hf : ∀ d, o.dst = some d → valid G d := by
      intro d hd p hp hpd
      exfalso
      obtain ⟨q, hq, hqd⟩ := h.gV p hp
      have : q = i := h.nd q i d (by rw [hqd, hpd]) (by rw [hdst]; exact hd)
      exact hiV' (this ▸ hq)
    obtain ⟨v, G', hK, hG', hv1, hv2, hpo⟩ := still_pend hf hs hk
    have hil : lst.getD i false = false := by
      cases e : lst.getD i false with
      | false => rfl
      | true => exact absurd (h.sub i e) hiV'
    have pair : ∀ p ∈ pend, hits (dstOf ops i) (looksOf ops p) = false ∧ (∀ d, dstOf ops i = some d → dstOf ops p ≠ some d) ∧ (hits (dstOf ops p) (looksOf ops i) = true → p ∈ depsOf ops i) := by
      intro p hp
      obtain ⟨⟨h1, h2⟩, h3⟩ := hpw p hp
      refine ⟨h1, fun d hd hpd => ?_, fun hh => ?_⟩
      · rw [Bool.or_eq_true] at h2
        rcases h2 with h2 | h2
        · rw [hd] at h2; simp at h2
        · rw [hd, hpd] at h2; simp at h2
      · rw [Bool.or_eq_true] at h3
        rcases h3 with h3 | h3
        · rw [hh] at h3; simp at h3
        · simpa using h3
    refine ⟨G', st.put o.dst v, { hs := h.hs, sub := fun j hj => List.mem_cons_of_mem _ (h.sub j hj), vlt := fun j hj => ?_, pnd := fun j hj hl => ?_, pV := fun j hj => ?_, pw := fun p hp q hq hne => ?_, slf := fun p hp => ?_, dep := fun j hj k hk => ?_, at_ := ?_, pok := fun p hp hl => ?_, nd := h.nd, gV := fun p hp => ?_, ru := fun q hq hl d hqd hv => ?_ }, hb, hK⟩
    · rcases List.mem_cons.1 hj with rfl | hj
      · exact hlt
      · exact h.vlt j hj
    · rcases List.mem_cons.1 hj with rfl | hj
      · exact List.mem_cons_self ..
      · exact List.mem_cons_of_mem _ (h.pnd j hj hl)
    · rcases List.mem_cons.1 hj with rfl | hj
      · exact List.mem_cons_self ..
      · exact List.mem_cons_of_mem _ (h.pV j hj)
    · rcases List.mem_cons.1 hp with ep | hp' <;> rcases List.mem_cons.1 hq with eq | hq'
      · exact absurd (ep.trans eq.symm) hne
      · obtain ⟨h1, h2, h3⟩ := pair q hq'
        rw [ep]
        exact ⟨h3, fun d hd hd' => h2 d hd' hd⟩
      · obtain ⟨h1, h2, h3⟩ := pair p hp'
        rw [eq]
        exact ⟨fun hh => (by rw [h1] at hh; cases hh), h2⟩
      · exact h.pw p hp' q hq' hne
    · rcases List.mem_cons.1 hp with rfl | hp
      · exact hself
      · exact h.slf p hp
    · rcases List.mem_cons.1 hj with rfl | hj
      · exact List.mem_cons_of_mem _ (by simpa using hdeps k hk)
      · exact List.mem_cons_of_mem _ (h.dep j hj k hk)
    · obtain ⟨M, hI, hR, hd, hC⟩ := h.at_
      refine ⟨M, by rw [put_put_len.1, put_put_len.2]; exact hI, ?_, hd, by rw [put_put_len.2]; exact hC⟩
      rw [put_put_len.2]
      refine ⟨by rw [put_len]; exact hR.1, fun d hdl hval => ?_⟩
      rw [put_len] at hdl
      obtain ⟨hx, hg⟩ := valid_append.1 hval
      rw [maskX_valid] at hx
      have hne : o.dst ≠ some d := by
        rw [← hdst]
        exact hx i (List.mem_cons_self ..) hil
      rw [put_get_ne hne]
      exact hR.2 d hdl (valid_append.2 ⟨maskX_valid.2 fun q hq hql => hx q (List.mem_cons_of_mem _ hq) hql, hv1 d hg⟩)
    · rcases List.mem_cons.1 hp with rfl | hp
      · exact ⟨o, ho', hpo⟩
      · obtain ⟨op, hop, hpp⟩ := h.pok p hp hl
        obtain ⟨h1, h2, h3⟩ := pair p hp
        have hlp : looksOf ops p = op.looksAt ops := by simp [looksOf, hop]
        have hdp : dstOf ops p = op.dst := by simp [dstOf, hop]
        have hno : ∀ d, o.dst = some d → d ∉ op.looksAt ops := by
          intro d hd hm
          rw [hdst, hlp, hd] at h1
          have := hits_some.2 hm
          rw [h1] at this
          cases this
        have hne : ∀ d, op.dst = some d → o.dst ≠ some d := fun d hd hdd => h2 d (by rw [hdst]; exact hdd) (by rw [hdp]; exact hd)
        exact ⟨op, hop, pendO_put hno hne (fun d hd hval => hv2 d (fun hdd => hno d hdd hd) hval) hv1 (fun d hd hval => hv2 d (hne d hd) hval) hpp⟩
    · rcases hG' with rfl | ⟨g, rfl⟩
      · obtain ⟨q, hq, hqd⟩ := h.gV p hp
        exact ⟨q, List.mem_cons_of_mem _ hq, hqd⟩
      · rcases addG_mem hp with hp | hp
        · obtain ⟨q, hq, hqd⟩ := h.gV p hp
          exact ⟨q, List.mem_cons_of_mem _ hq, hqd⟩
        · exact ⟨i, List.mem_cons_self .., by rw [hdst]; exact hp.symm⟩
    · rcases List.mem_cons.1 hq with rfl | hq
      · rw [hil] at hl
        cases hl
      · refine h.ru q hq hl d hqd ?_
        rcases hG' with rfl | ⟨g, rfl⟩
        · exact hv
        · rw [vG_other (fun hdd => hiV' (h.nd q i d hqd (by rw [hdst]; exact hdd) ▸ hq))] at hv
          exact hv
end
end Go.PE
end

section
/- The evaluator: a region whose order is drawn is right, end (see PeX). -/
set_option linter.unusedVariables false
set_option linter.unusedSimpArgs false
namespace Go.PE
open Go

section
variable {dl : Act → Prop} {P : Program} {E : Env} {w0 : World} {F : List Nat} {W0 : World} {M0 : Mem} {r0 : List Arr} {ops : Array Oper}

theorem pendL_mem {L : List Oper} {G : List (Nat × Bool)} {st : St} : ∀ {l : List Nat}, pendL P E L G st l → ∀ i ∈ l, ∃ o, L[i]? = some o ∧ pendO P E L o G st
  | [], _, i, hi => by cases hi
  | j :: l, h, i, hi => by
    rcases List.mem_cons.1 hi with e | hi
    · subst e
      have h1 := h.1
      cases ho : L[i]? with
      | none => rw [ho] at h1; exact h1.elim
      | some o => rw [ho] at h1; exact ⟨o, rfl, h1⟩
    · exact pendL_mem h.2 i hi

/-- The one operation that may come up, and does something. -/
theorem sim_chain (hE : E.Ok P) (hkd : ∀ o ∈ ops.toList, ∀ (a : Act) u, dl a → dl (a.put o.dst u))  {lst : Array Bool} {V pend rc : List Nat} {G : List (Nat × Bool)} {st : St} {a : Act} {w : World} {i : Nat} {l : List (Nat × Bool × List Nat)} {K : St → Prop} {KP : AV → St → Prop} {next : Act → World → Prop} {Q : Exit → Act → World → Prop}
    (h : Sim P E ops dl w0 F W0 M0 r0 lst V pend G st a w) (hb : planB ops V pend ((i, true, rc) :: l) = true) (hk : planK P E ops.toList ((i, true, rc) :: l) G st K KP) (hr : i ∈ Region.ready .any ops lst)
    (hn : ∀ G' st' pend' a' w', Sim P E ops dl w0 F W0 M0 r0 (lst.setIfInBounds i true) (i :: V) pend' G' st' a' w' → planB ops (i :: V) pend' l = true → planK P E ops.toList l G' st' K KP → next a' w')
    (panics : ∀ x st u a w, AtP dl w0 F W0 M0 r0 x st u a w → KP x st → Q (.panic [{ v := u, recovered := false }]) a w) :
    wpOp P ops Q i next a w := by
  obtain ⟨h1, _, h2⟩ := ready_deps hr
  obtain ⟨hlt, hun⟩ := lst_lt h1
  simp only [planB, Bool.and_eq_true, decide_eq_true_eq, Bool.not_eq_true', List.all_eq_true, if_true] at hb
  obtain ⟨⟨⟨⟨⟨⟨hlt', hiV⟩, hdeps⟩, hself⟩, hpw⟩, ⟨_, hrc⟩⟩, hb⟩ := hb
  have hiV' : i ∉ V := by simpa using hiV
  simp only [planK] at hk
  cases ho : ops.toList[i]? with
  | none => rw [ho] at hk; exact hk.elim
  | some o =>
    rw [ho] at hk
    simp only at hk
    have ho' : ops[i]? = some o := by simpa using ho
    have hlooks : looksOf ops i = o.looksAt ops := by simp [looksOf, ho']
    have hdst : dstOf ops i = o.dst := by simp [dstOf, ho']
    have hpend : ∀ q ∈ pend, lst.getD q false = false → q ∈ pend.filter fun p => !(depsOf ops i).contains p := by
      intro q hq hql
      refine List.mem_filter.2 ⟨hq, ?_⟩
      have : q ∉ depsOf ops i := fun hd => by
        rw [h2 q hd] at hql
        cases hql
      simpa using this
    have hX : ∀ d ∈ o.looksAt ops, valid (maskX ops lst pend) d := by
      intro d hd
      rw [maskX_valid]
      intro q hq hql hqd
      have hh : hits (dstOf ops q) (looksOf ops i) = true := by rw [hqd, hlooks]; exact hits_some.2 hd
      obtain ⟨_, h3⟩ := hpw q (hpend q hq hql)
      rw [Bool.or_eq_true] at h3
      rcases h3 with h3 | h3
      · rw [hh] at h3; simp at h3
      · have := h2 q (by simpa using h3)
        rw [hql] at this
        cases this
    have hf : ∀ d, o.dst = some d → vG G d = true := by
      intro d hd
      cases hv : vG G d with
      | true => rfl
      | false =>
        obtain ⟨p, hp, hpd⟩ := vG_mem hv
        obtain ⟨q, hq, hqd⟩ := h.gV p hp
        exact absurd (h.nd q i d (by rw [hqd, hpd]) (by rw [hdst]; exact hd) ▸ hq) hiV'
    have hu : ∀ gi pol gd, o.guard = some (gi, pol) → (ops[gi]?).bind (·.dst) = some gd → vG G gd = false → a.tmps.getD gd undef = undef := by
      intro gi pol gd hg hgd hv
      obtain ⟨p, hp, hpd⟩ := vG_mem hv
      obtain ⟨r, hrV, hrd⟩ := h.gV p hp
      rw [hpd] at hrd
      have e : r = gi := h.nd r gi gd hrd hgd
      subst e
      refine h.ru r hrV ?_ gd hrd hv
      cases hl : lst.getD r false with
      | true => rfl
      | false =>
        obtain ⟨_, h3⟩ := hpw r (hpend r (h.pnd r hrV hl) hl)
        rw [Bool.or_eq_true] at h3
        rcases h3 with h3 | h3
        · rw [hrd, hlooks, hits_some.2 (looks_guard hg hgd)] at h3; simp at h3
        · have := h2 r (by simpa using h3)
          rw [hl] at this
          cases this
    have key := opN_soundX (Q := Q) (next := next) hE (hkd o (List.mem_of_getElem? ho)) hX h.at_ hu hk (fun G1 st1 a1 w1 hsame hat hK => ?_) panics
    · unfold wpOp
      rw [ho']
      simp only
      split
      · rename_i hw
        rw [if_pos hw] at key
        exact .inl key
      · rename_i hw
        rw [if_neg hw] at key
        exact key
    · refine hn G1 st1 (pend.filter fun p => !(depsOf ops i).contains p) a1 w1 { hs := by simpa using h.hs, sub := fun j hj => ?_, vlt := fun j hj => ?_, pnd := fun j hj hl => ?_, pV := fun j hj => ?_, pw := fun p hp q hq hne => ?_, slf := fun p hp => ?_, dep := fun j hj k hk => ?_, at_ := ?_, pok := fun p hp hl => ?_, nd := h.nd, gV := fun p hp => ?_, ru := fun q hq hl d hqd hv => ?_ } hb hK.2
      · rw [set_getD hlt] at hj
        split at hj
        · rename_i e; rw [e]; exact List.mem_cons_self ..
        · exact List.mem_cons_of_mem _ (h.sub j hj)
      · rcases List.mem_cons.1 hj with rfl | hj
        · exact hlt'
        · exact h.vlt j hj
      · rw [set_getD hlt] at hl
        split at hl
        · cases hl
        · rename_i hne
          rcases List.mem_cons.1 hj with e | hj
          · exact absurd e hne
          · exact hpend j (h.pnd j hj hl) hl
      · exact List.mem_cons_of_mem _ (h.pV j (List.mem_filter.1 hj).1)
      · exact h.pw p (List.mem_filter.1 hp).1 q (List.mem_filter.1 hq).1 hne
      · exact h.slf p (List.mem_filter.1 hp).1
      · rcases List.mem_cons.1 hj with e | hj
        · rw [e] at hk
          exact List.mem_cons_of_mem _ (by simpa using hdeps k hk)
        · exact List.mem_cons_of_mem _ (h.dep j hj k hk)
      · obtain ⟨M, hI, hR, hd, hC⟩ := hat
        refine ⟨M, hI, hR.le (fun d hv => ?_), hd, hC⟩
        obtain ⟨hx, hg⟩ := valid_append.1 hv
        refine valid_append.2 ⟨maskX_valid.2 fun q hq hql => ?_, hg⟩
        have hqi : q ≠ i := fun e => hiV' (by rw [← e]; exact h.pV q hq)
        exact (maskX_valid.1 hx) q (hpend q hq hql) (by rw [set_getD hlt, if_neg hqi]; exact hql)
      · obtain ⟨op, hop, hpp⟩ := pendL_mem hK.1 p (by simpa using hrc p hp)
        exact ⟨op, by simpa using hop, hpp⟩
      · have hmem : p ∈ G ∨ some p.1 = o.dst := by
          rcases hsame.2 with rfl | rfl | ⟨rfl, _⟩
          · exact .inl hp
          · exact addG_mem hp
          · exact addG_mem hp
        rcases hmem with hp | hp
        · obtain ⟨q, hq, hqd⟩ := h.gV p hp
          exact ⟨q, List.mem_cons_of_mem _ hq, hqd⟩
        · exact ⟨i, List.mem_cons_self .., by rw [hdst]; exact hp.symm⟩
      · by_cases eq : q = i
        · subst eq
          rw [hdst] at hqd
          rcases hsame.2 with rfl | rfl | ⟨rfl, e⟩
          · rw [hf d hqd] at hv; cases hv
          · rw [hqd] at hv
            simp [addG, vG, hf d hqd] at hv
          · rw [e, hqd]
            exact put_tmp_undef
        · rw [set_getD hlt, if_neg eq] at hl
          have hqV : q ∈ V := by
            rcases List.mem_cons.1 hq with e | hq
            · exact absurd e eq
            · exact hq
          have hne : o.dst ≠ some d := fun e => eq (h.nd q i d hqd (by rw [hdst]; exact e))
          obtain ⟨⟨u, rfl⟩, hG⟩ := hsame
          rw [put_tmp_ne hne]
          refine h.ru q hqV hl d hqd ?_
          rcases hG with rfl | rfl | ⟨rfl, _⟩
          · exact hv
          · rwa [vG_other hne] at hv
          · rwa [vG_other hne] at hv

/-- How many have not come up. -/
def unl (ops : Array Oper) (lst : Array Bool) : Nat := ((List.range ops.size).filter fun i => !lst.getD i false).length
theorem filter_lt {α : Type} (p q : α → Bool) (h : ∀ x, q x = true → p x = true) : ∀ (l : List α), (∃ x ∈ l, p x = true ∧ q x = false) → (l.filter q).length < (l.filter p).length := by
  have le : ∀ l : List α, (l.filter q).length ≤ (l.filter p).length := by
    intro l
    induction l with
    | nil => simp
    | cons x l ih =>
      simp only [List.filter_cons]
      cases hq : q x with
      | true => simp [h x hq, ih]
      | false =>
        cases p x with
        | true => simp; omega
        | false => simpa using ih
  intro l
  induction l with
  | nil => rintro ⟨x, hx, _⟩; cases hx
  | cons x l ih =>
    rintro ⟨y, hy, h1, h2⟩
    rcases List.mem_cons.1 hy with e | hy
    · subst e
      have := le l
      simp [List.filter_cons, h1, h2]
      omega
    · have := ih ⟨y, hy, h1, h2⟩
      simp only [List.filter_cons]
      cases hq : q x with
      | true => simp [h x hq]; exact this
      | false =>
        cases p x with
        | true => simp; omega
        | false => simpa using this
theorem unl_set {lst : Array Bool} {i : Nat} (h1 : i < ops.size) (h2 : i < lst.size) (h3 : lst.getD i false = false) : unl ops (lst.setIfInBounds i true) < unl ops lst := by
  refine filter_lt _ _ (fun x hx => ?_) _ ⟨i, List.mem_range.2 h1, by simp [h3], by rw [set_getD h2]; simp⟩
  rw [set_getD h2] at hx
  split at hx
  · simp at hx
  · exact hx

/-- All have come up, or one may. -/
theorem ready_nil {lst : Array Bool} (hB : backB ops = true) (hs : lst.size = ops.size) (h : Region.ready .any ops lst = []) : ∀ i, i < ops.size → lst.getD i false = true := by
  intro i
  induction i using Nat.strongRecOn with
  | _ i ih =>
    intro hi
    cases e : lst.getD i false with
    | true => rfl
    | false =>
      exfalso
      have hmem : i ∈ Region.ready .any ops lst := by
        refine mem_ready.2 ⟨?_, ops[i], by simp [hi], fun ed hed hbn => ?_⟩
        · have hl : i < lst.size := by rw [hs]; exact hi
          simp only [Array.getD, hl, dif_pos] at e ⊢
          exact e
        · have : ed.on < i := by
            have h1 := List.all_eq_true.1 hB i (List.mem_range.2 hi)
            have h2 := List.all_eq_true.1 h1 ed.on ((depsOf_mem (by simp [hi])).2 ⟨ed, hed, hbn, rfl⟩)
            simpa using h2
          exact ih ed.on this (by omega)
      rw [h] at hmem
      cases hmem

theorem plan_sound (hE : E.Ok P) (hkd : ∀ o ∈ ops.toList, ∀ (a : Act) u, dl a → dl (a.put o.dst u))  (hB : backB ops = true) {K : St → Prop} {KP : AV → St → Prop} {Q : Exit → Act → World → Prop}
    (next' : ∀ st a w, At dl w0 F W0 M0 r0 [] st a w → K st → Q .normal a w)
    (panics : ∀ x st u a w, AtP dl w0 F W0 M0 r0 x st u a w → KP x st → Q (.panic [{ v := u, recovered := false }]) a w) :
    ∀ (fuel : Nat) (lst : Array Bool) (V pend : List Nat) (l : List (Nat × Bool × List Nat)) (G : List (Nat × Bool)) (st : St) (a : Act) (w : World), unl ops lst ≤ fuel → Sim P E ops dl w0 F W0 M0 r0 lst V pend G st a w → planB ops V pend l = true → planK P E ops.toList l G st K KP →
      wpAny P .any ops Q fuel lst a w := by
  have done : ∀ (lst : Array Bool) (V pend : List Nat) (l : List (Nat × Bool × List Nat)) (G : List (Nat × Bool)) (st : St) (a : Act) (w : World), (∀ i, i < ops.size → lst.getD i false = true) → Sim P E ops dl w0 F W0 M0 r0 lst V pend G st a w → planB ops V pend l = true → planK P E ops.toList l G st K KP → Q .normal a w := by
    intro lst V pend l G st a w hall h hb hk
    cases l with
    | nil =>
      refine next' _ a w (At.clean (G := G) ?_) hk
      obtain ⟨M, hI, hR, hd, hC⟩ := h.at_
      refine ⟨M, hI, hR.le (fun d hv => valid_append.2 ⟨maskX_valid.2 fun q hq hql => ?_, hv⟩), hd, hC⟩
      rw [hall q (h.vlt q (h.pV q hq))] at hql
      cases hql
    | cons x l =>
      obtain ⟨i, ch, rc⟩ := x
      simp only [planB, Bool.and_eq_true, decide_eq_true_eq, Bool.not_eq_true'] at hb
      have h1 := hb.1.1.1.1.1.1
      have h2 := hb.1.1.1.1.1.2
      have := h.sub i (hall i h1)
      simp [this] at h2
  have alls : ∀ lst : Array Bool, unl ops lst ≤ 0 → ∀ i, i < ops.size → lst.getD i false = true := by
    intro lst h i hi
    have : ((List.range ops.size).filter fun i => !lst.getD i false) = [] := List.eq_nil_of_length_eq_zero (Nat.le_zero.1 h)
    have := List.filter_eq_nil_iff.1 this i (List.mem_range.2 hi)
    simpa using this
  intro fuel
  induction fuel with
  | zero =>
    intro lst V pend l G st a w hu h hb hk
    have hall := alls lst hu
    refine ⟨?_, done lst V pend l G st a w hall h hb hk⟩
    refine List.eq_nil_iff_forall_not_mem.2 (fun i hi => ?_)
    obtain ⟨h1, ⟨o, ho⟩, _⟩ := ready_deps hi
    have hlt : i < ops.size := (Array.getElem?_eq_some_iff.1 ho).1
    have := (lst_lt h1).2
    rw [hall i hlt] at this
    cases this
  | succ fuel ih =>
    intro lst V pend l G st a w hu h hb hk
    refine ⟨fun hr => done lst V pend l G st a w (ready_nil hB h.hs hr) h hb hk, fun i hi => ?_⟩
    obtain ⟨h1, ⟨o, ho⟩, h2⟩ := ready_deps hi
    obtain ⟨hlt, hun⟩ := lst_lt h1
    have hin : i < ops.size := (Array.getElem?_eq_some_iff.1 ho).1
    have hu' : unl ops (lst.setIfInBounds i true) ≤ fuel := by
      have := unl_set (ops := ops) hin hlt hun
      omega
    clear hu
    induction l generalizing V pend G st with
    | nil =>
      have hV : i ∈ V := by
        have := List.all_eq_true.1 hb i (List.mem_range.2 hin)
        simpa using this
      exact sim_pend hE hkd h (h.pnd i hV hun) hi (fun a' w' hs => ih _ _ _ _ _ _ _ _ hu' hs hb hk)
    | cons x l ihl =>
      by_cases hV : i ∈ V
      · exact sim_pend hE hkd h (h.pnd i hV hun) hi (fun a' w' hs => ih _ _ _ _ _ _ _ _ hu' hs hb hk)
      · obtain ⟨j, ch, rc⟩ := x
        cases ch with
        | false =>
          obtain ⟨G', st', hs, hb', hk'⟩ := sim_still h hb hk
          exact ihl _ _ _ _ hs hb' hk'
        | true =>
          have hij : i = j := by
            have hb2 := hb
            simp only [planB, Bool.and_eq_true, decide_eq_true_eq, Bool.not_eq_true', List.all_eq_true, if_true] at hb2
            have h3 := hb2.1.2.1 i (List.mem_range.2 hin)
            rw [Bool.or_eq_true, Bool.or_eq_true] at h3
            rcases h3 with (h3 | h3) | h3
            · exact absurd (by simpa using h3) hV
            · simpa using h3
            · exfalso
              simp only [Bool.not_eq_true', List.all_eq_false] at h3
              obtain ⟨k, hk, hkV⟩ := h3
              exact hkV (by simpa using h.sub k (h2 k hk))
          subst hij
          exact sim_chain hE hkd h hb hk hi (fun G' st' pend' a' w' hs hb' hk' => ih _ _ _ _ _ _ _ _ hu' hs hb' hk') panics

/-- A region whose order is drawn. -/
theorem drawn_sound (hE : E.Ok P) (hkd : ∀ o ∈ ops.toList, ∀ (a : Act) u, dl a → dl (a.put o.dst u))  (hm : P.follows .mixedOrders = true) {id : Nat} {plan : List (Nat × Bool × List Nat)} (hB : (nodupN (ops.toList.filterMap (·.dst)) && (backB ops && planB ops [] [] plan)) = true) {K : St → Prop} {KP : AV → St → Prop} {Q : Exit → Act → World → Prop} {st : St} {a : Act} {w : World}
    (h : At dl w0 F W0 M0 r0 [] st a w) (hk : planK P E ops.toList plan [] st K KP)
    (next' : ∀ st a w, At dl w0 F W0 M0 r0 [] st a w → K st → Q .normal a w)
    (panics : ∀ x st u a w, AtP dl w0 F W0 M0 r0 x st u a w → KP x st → Q (.panic [{ v := u, recovered := false }]) a w) : (Code.region id ops true).wp P Q a w := by
  rw [Bool.and_eq_true, Bool.and_eq_true] at hB
  refine wp_region_any hm (plan_sound hE hkd hB.2.1 next' panics ops.size _ [] [] plan [] st a _ ?_ ?_ hB.2.2 hk)
  · refine Nat.le_trans (List.length_filter_le _ _) (by simp)
  · obtain ⟨M, hI, hR, hd, hC⟩ := h
    obtain ⟨hI', hC'⟩ := hI.drew
    refine { hs := by simp, sub := fun i hi => ?_, vlt := fun i hi => (nomatch hi), pnd := fun i hi => (nomatch hi), pV := fun i hi => (nomatch hi), pw := fun p hp => (nomatch hp), slf := fun p hp => (nomatch hp), dep := fun i hi => (nomatch hi), at_ := ⟨M, hI', hR.mono hC', hd, hC.trans hC'⟩, pok := fun p hp => (nomatch hp), nd := nd_of hB.1, gV := fun p hp => (nomatch hp), ru := fun q hq => (nomatch hq) }
    have : (Array.replicate ops.size false).getD i false = false := by
      simp only [Array.getD, Array.size_replicate]
      split <;> simp
    rw [this] at hi
    cases hi
end
end Go.PE
end

section
/- The evaluator of code is right, 3: forgetting; code (see PeQ). -/
set_option linter.unusedVariables false
set_option linter.unusedSimpArgs false
namespace Go.PE
open Go

/-! ### forgetting -/
theorem leV_cons {x y : AV} {l m : List AV} (h : leV (x :: l) (y :: m)) : leV l m ∧ (y = .undef ∨ y = x ∨ (x = .nilS ∧ y = .d (.list []))) := by
  unfold leV at h
  split at h
  · rename_i e _; cases e
  · rename_i e1 e2
    injection e1 with e1 e1'; injection e2 with e2 e2'
    subst e1' e2'
    exact ⟨h, .inl e2⟩
  · rename_i e1 e2
    injection e1 with e1 e1'; injection e2 with e2 e2'
    subst e1 e1' e2 e2'
    exact ⟨h.2, .inr (h.1.imp id fun e => ⟨rfl, e⟩)⟩
  · rename_i e1 e2
    injection e1 with e1 e1'; injection e2 with e2 e2'
    subst e1 e1' e2 e2'
    exact ⟨h.2, .inr (.inl h.1.symm)⟩
  · exact h.elim
theorem leV_len : ∀ {l m : List AV}, leV l m → l.length = m.length
  | [], [], _ => rfl
  | x :: l, y :: m, h => by simp [leV_len (leV_cons h).1]
  | [], _ :: _, h => h.elim
  | _ :: _, [], h => by simp [leV] at h
theorem leV_get : ∀ {l m : List AV}, leV l m → ∀ i, i < m.length → m.getD i .undef = .undef ∨ m.getD i .undef = l.getD i .undef ∨ (l.getD i .undef = .nilS ∧ m.getD i .undef = .d (.list []))
  | [], [], _, i, hi => absurd hi (by simp)
  | x :: l, y :: m, h, 0, _ => (leV_cons h).2
  | x :: l, y :: m, h, i + 1, hi => by
    simpa [List.getD] using leV_get (leV_cons h).1 i (by simpa using hi)
  | [], _ :: _, h, _, _ => h.elim
  | _ :: _, [], h, _, hi => absurd hi (by simp)
theorem nilS_list {w : World} {M : Mem} {r : List Arr} {v : Value} (h : RepA w M r v .nilS) : RepA w M r v (.d (.list [])) := by
  cases h
  refine .d _ _ (.list none 0 0 0 [] (fun _ _ => .nilIface) rfl ⟨Nat.le_refl _, Nat.zero_le _⟩ (fun i hi => absurd hi (Nat.not_lt_zero _)) (fun h => absurd h (Nat.lt_irrefl _)) (fun i j hi => absurd hi (Nat.not_lt_zero _)) (fun i j hi => absurd hi (Nat.not_lt_zero _)))
theorem leB_len : ∀ {l m : List (List AV)}, leB l m → m.length ≤ l.length
  | _, [], _ => Nat.zero_le _
  | c :: l, d :: m, h => Nat.succ_le_succ (leB_len h.2)
  | [], _ :: _, h => h.elim
theorem leB_get : ∀ {l m : List (List AV)}, leB l m → ∀ (i : Nat) (d : List AV), m[i]? = some d → ∃ c, l[i]? = some c ∧ leV c d
  | _, [], _, i, d, h => by simp at h
  | c :: l, d :: m, h, 0, d', h' => by
    simp at h'
    subst h'
    exact ⟨c, rfl, h.1⟩
  | c :: l, d :: m, h, i + 1, d', h' => by
    simpa using leB_get h.2 i d' (by simpa using h')
  | [], _ :: _, h, _, _, _ => h.elim
theorem leR0_len : ∀ {l m : List Arr}, leR0 l m → m.length ≤ l.length
  | _, [], _ => Nat.zero_le _
  | c :: l, d :: m, h => Nat.succ_le_succ (leR0_len h.2)
  | [], _ :: _, h => h.elim
theorem leR0_get : ∀ {l m : List Arr}, leR0 l m → ∀ i, i < m.length → m[i]? = l[i]?
  | _, [], _, i, h => absurd h (by simp)
  | c :: l, d :: m, h, 0, _ => by simp [h.1]
  | c :: l, d :: m, h, i + 1, h' => by
    simpa using leR0_get h.2 i (by simpa using h')
  | [], _ :: _, h, _, _ => h.elim
theorem leR_len {l m : List Arr} (h : leR l m) : m.length ≤ l.length := leR0_len h.1
theorem leR_get {l m : List Arr} (h : leR l m) : ∀ i, i < m.length → m[i]? = l[i]? := leR0_get h.1
theorem idsR_get {nr : Nat} : ∀ {m : List Arr}, idsR nr m → ∀ (i : Nat) (A : Arr), m[i]? = some A → A.sz = 0 → refsL nr A.es
  | [], _, i, A, h, _ => by simp at h
  | B :: m, h, 0, A, hA, h0 => by
    simp only [List.getElem?_cons_zero, Option.some.injEq] at hA
    subst hA
    unfold idsR at h
    rw [if_pos h0] at h
    exact h.1
  | B :: m, h, i + 1, A, hA, h0 => by
    unfold idsR at h
    refine idsR_get (m := m) ?_ i A (by simpa using hA) h0
    split at h
    · exact h.2
    · exact h

def Mem.cut (M : Mem) (nb nr : Nat) : Mem := ⟨M.bb.take nb, M.av.take nr, M.no⟩
theorem cut_blk {M : Mem} {nb nr i : Nat} (h : i < nb) : (M.cut nb nr).blk i = M.blk i := by
  simp [Mem.cut, Mem.blk, List.getD, h]
theorem cut_row {M : Mem} {nb nr i : Nat} (h : i < nr) : (M.cut nb nr).row i = M.row i := by
  simp [Mem.cut, Mem.row, List.getD, h]
theorem cut_row_own {M : Mem} {nb nr i g : Nat} (h : ((M.cut nb nr).row i).ownBlock = some g) : i < nr ∧ (M.row i).ownBlock = some g := by
  rcases Nat.lt_or_ge i nr with h1 | h1
  · rw [cut_row h1] at h; exact ⟨h1, h⟩
  · have : (M.cut nb nr).row i = .nilIface := by
      have h2 : (M.av.take nr)[i]? = none := List.getElem?_eq_none (by simp; omega)
      simp [Mem.cut, Mem.row, List.getD, h2]
    rw [this] at h; cases h

section
variable {w : World} {M : Mem} {r s : List Arr} {nb : Nat}

theorem Okc.cut (hr : leR r s) {a : Addr} (h : Okc M r a) : Okc (M.cut nb s.length) s a := by
  refine ⟨⟨fun i hi => ?_, h.1.2⟩, fun k A hk hb => ?_⟩
  · have hi' : i < nb ∧ i < M.bb.length := by simpa [Mem.cut, Nat.lt_min] using hi
    rw [cut_blk hi'.1]
    exact h.1.1 i hi'.2
  · obtain ⟨h1, h2⟩ := cut_row_own hb
    rw [leR_get hr k h1] at hk
    rw [cut_row h1]
    exact h.2 k A hk h2
theorem Rep.cut (hr : leR r s) {v : Value} {x : D} (h : Rep w (Okc M r) v x) : Rep w (Okc (M.cut nb s.length) s) v x :=
  h.mono (fun _ _ ho hc => ⟨hc, ho.cut hr⟩)

theorem idsL_get {nb nr : Nat} : ∀ {l : List AV}, idsL nb nr l = true → ∀ i, i < l.length → idsA nb nr (l.getD i .undef) = true
  | [], _, i, hi => absurd hi (by simp)
  | x :: l, h, 0, _ => by
    simp only [idsL, Bool.and_eq_true] at h
    exact h.1
  | x :: l, h, i + 1, hi => by
    simp only [idsL, Bool.and_eq_true] at h
    simpa [List.getD] using idsL_get h.2 i (by simpa using hi)
theorem idsB_get {nb nr : Nat} : ∀ {l : List (List AV)}, idsB nb nr l = true → ∀ (i : Nat) (c : List AV), l[i]? = some c → idsL nb nr c = true
  | [], _, i, c, h => by simp at h
  | x :: l, h, 0, c, hc => by
    simp at hc
    subst hc
    simp only [idsB, Bool.and_eq_true] at h
    exact h.1
  | x :: l, h, i + 1, c, hc => by
    simp only [idsB, Bool.and_eq_true] at h
    exact idsB_get h.2 i c (by simpa using hc)

theorem RepA.cut (hr : leR r s) {v : Value} {x : AV} (h : RepA w M r v x) (hx : idsA nb s.length x = true) : RepA w (M.cut nb s.length) s v x := by
  induction h with
  | undef v => exact .undef v
  | d v x h => exact .d v x (h.cut hr)
  | agg vs cs hs h1 _ ih => exact .agg vs cs hs h1 (fun i hi => ih i hi (idsL_get (by simpa [idsA] using hx) i hi))
  | nilS => exact .nilS
  | arr v id n h1 h =>
    have hid : id < s.length := by simpa [idsA] using hx
    obtain ⟨A, hA, h2, h3⟩ := h
    exact .arr v id n h1 ⟨A, by rw [leR_get hr id hid]; exact hA, h2, by rw [cut_row hid]; exact h3⟩
  | ptr id off h =>
    have hid : id < nb := by simpa [idsA] using hx
    have := RepA.ptr (w := w) (M := M.cut nb s.length) (r := s) id off (by simp [Mem.cut, Nat.lt_min, hid, h])
    rw [cut_blk hid] at this
    exact this
  | bsl id n h hn =>
    have hid : id < nb := by simpa [idsA] using hx
    have := RepA.bsl (w := w) (M := M.cut nb s.length) (r := s) id n (by simp [Mem.cut, Nat.lt_min, hid, h]) hn
    rw [cut_blk hid] at this
    exact this
  | full A n es h => exact .full A n es (h.cut hr)
  | cptr a cs f hsp hcell h1 h => exact .cptr a cs f hsp (fun j hj => ⟨(hcell j hj).1, (hcell j hj).2.cut hr⟩) h1 (fun j hj => (h j hj).cut hr)
  | eptr v id n i off h1 h =>
    have hid : id < s.length := by simpa [idsA] using hx
    obtain ⟨A, hA, h2, h3⟩ := h
    exact .eptr v id n i off h1 ⟨A, by rw [leR_get hr id hid]; exact hA, h2, by rw [cut_row hid]; exact h3⟩
  | tup vs cs hs _ ih => exact .tup vs cs hs (fun i hi => ih i hi (idsL_get (by simpa [idsA] using hx) i hi))
  | iface t v x _ ih => exact .iface t v x (ih (by simpa [idsA] using hx))
  | fn f vs us cs ds hs hs' _ _ ih ih' =>
    have : idsL nb s.length cs = true ∧ idsL nb s.length ds = true := by simpa [idsA] using hx
    exact .fn f vs us cs ds hs hs' (fun i hi => ih i hi (idsL_get this.1 i hi)) (fun i hi => ih' i hi (idsL_get this.2 i hi))
end

section
variable {dl : Act → Prop} {w0 : World} {F : List Nat} {W0 : World} {M0 : Mem} {r0 : List Arr} {a : Act} {w : World} {st s : St}

theorem Inv.cut {M : Mem} (h : Inv w0 F M st.b st.r w) (hb : leB st.b s.b) (hr : leR st.r s.r) (hi : idsB s.b.length s.r.length s.b = true) : Inv w0 F (M.cut s.b.length s.r.length) s.b s.r w := by
  have hlb : s.b.length ≤ M.bb.length := by rw [h.lb]; exact leB_len hb
  have hlr : s.r.length ≤ M.av.length := by rw [h.lr]; exact leR_len hr
  refine ⟨h.keep, by simp [Mem.cut]; omega, by simp [Mem.cut]; omega, fun i d hd => ?_, fun i A hA => ?_, fun i hi => ?_, fun i g hg => h.fr i g (cut_row_own hg).2, fun i j hi hj e => ?_,
    fun i j g hi hj h1 h2 => ?_, fun i j hi e => ?_, fun a ha => ⟨(h.no a ha).1, fun i e => (h.no a ha).2 i (cut_row_own e).2⟩⟩
  · have hlt := (List.getElem?_eq_some_iff.1 hd).1
    obtain ⟨c, hc, hle⟩ := leB_get hb i d hd
    obtain ⟨cs, ty, hh, hs, h1, h2⟩ := h.box i c hc
    have hlen := leV_len hle
    rw [cut_blk hlt]
    refine ⟨cs, ty, hh, by rw [hs, hlen], fun j hj => h1 j (by omega), fun j hj => ?_⟩
    rcases leV_get hle j hj with e | e | ⟨e1, e2⟩
    · rw [e]; exact .undef _
    · have hids := idsL_get (idsB_get hi i d hd) j hj
      rw [e] at hids ⊢
      exact (h2 j (by omega)).cut hr hids
    · have h3 := h2 j (by omega)
      rw [e1] at h3
      rw [e2]
      exact (nilS_list h3).cut hr rfl
  · have hlt := (List.getElem?_eq_some_iff.1 hA).1
    rw [leR_get hr i hlt] at hA
    obtain ⟨hz, he, xs, ho, h1, h2⟩ := h.row i A hA
    rw [cut_row hlt]
    refine ⟨hz, he, xs, ho, h1, fun k j hk hj => ?_⟩
    rcases h2 k j hk hj with h3 | ⟨h0, id, n, e, h3⟩
    · exact .inl (h3.cut hr)
    · have hw : A.w = 1 := if_pos h0
      obtain rfl : j = 0 := by omega
      have hm : A.es.getD k [] ∈ A.es := by
        have : A.es.getD k [] = A.es[k] := by simp [List.getD, hk]
        rw [this]
        exact List.getElem_mem hk
      have hl := he _ hm
      have hid : id < s.r.length := by
        rw [← leR_get hr i hlt] at hA
        refine idsR_get hr.2 i A hA h0 _ hm id n ?_
        rw [hw] at hl
        match h : A.es.getD k [], hl with
        | [d], _ =>
          rw [h] at e
          simp only [List.getD_cons_zero] at e
          rw [e]
      exact .inr ⟨h0, id, n, e, h3.cut hr (by simpa [idsA] using hid)⟩
  · have hi' : i < s.b.length := by
      have : i < s.b.length ∧ i < M.bb.length := by simpa [Mem.cut, Nat.lt_min] using hi
      exact this.1
    rw [cut_blk hi']
    exact h.fb i (by omega)
  · have hi' : i < s.b.length := by
      have : i < s.b.length ∧ i < M.bb.length := by simpa [Mem.cut, Nat.lt_min] using hi
      exact this.1
    have hj' : j < s.b.length := by
      have : j < s.b.length ∧ j < M.bb.length := by simpa [Mem.cut, Nat.lt_min] using hj
      exact this.1
    rw [cut_blk hi', cut_blk hj'] at e
    exact h.dbb i j (by omega) (by omega) e
  · obtain ⟨hi', h1⟩ := cut_row_own h1
    obtain ⟨hj', h2⟩ := cut_row_own h2
    exact h.drr i j g (by omega) (by omega) h1 h2
  · have hi' : i < s.b.length := by
      have : i < s.b.length ∧ i < M.bb.length := by simpa [Mem.cut, Nat.lt_min] using hi
      exact this.1
    rw [cut_blk hi'] at e
    exact h.dbr i j (by omega) (cut_row_own e).2

theorem At.le (h : At dl w0 F W0 M0 r0 [] st a w) (hl : st.le s) (hb : M0.bb.length ≤ s.b.length) (hr : r0.length ≤ s.r.length) : At dl w0 F W0 M0 r0 [] s a w := by
  obtain ⟨M, hI, hR, hd, hC⟩ := h
  have hlen := leV_len hl.t
  have hlb : s.b.length ≤ M.bb.length := by rw [hI.lb]; exact leB_len hl.b
  refine ⟨M.cut s.b.length s.r.length, hI.cut hl.b hl.r hl.ib, ⟨by rw [hR.1, hlen], fun i hi _ => ?_⟩, hd, ⟨fun a u ho hc => ?_, ?_, fun i hi => ?_, fun id A hA => ?_, hC.no⟩⟩
  · rcases leV_get hl.t i hi with e | e | ⟨e1, e2⟩
    · rw [e]; exact .undef _
    · have hids := idsL_get hl.it i hi
      rw [e] at hids ⊢
      exact (hR.2 i (by omega) (fun p hp => absurd hp (by simp))).cut hl.r hids
    · have h3 := hR.2 i (by omega) (fun p hp => absurd hp (by simp))
      rw [e1] at h3
      rw [e2]
      exact (nilS_list h3).cut hl.r rfl
  · obtain ⟨h1, h2⟩ := hC.cell a u ho hc
    exact ⟨h1, h2.cut hl.r⟩
  · simp only [Mem.cut, List.length_take]; omega
  · rw [cut_blk (by omega)]; exact hC.blk i hi
  · have hid : id < s.r.length := by
      have := (List.getElem?_eq_some_iff.1 hA).1
      omega
    obtain ⟨A', hA', h1, h2, h3⟩ := hC.row id A hA
    exact ⟨A', by rw [leR_get hl.r id hid]; exact hA', h1, h2, by rw [cut_row hid]; exact h3⟩

theorem resL_spec {r : List Arr} {ids : List Nat} : ∀ {es es' : List (List D)}, resL r ids es = some es' → es'.length = es.length ∧ ∀ k, k < es.length → resC r ids (es.getD k []) = some (es'.getD k [])
  | [], es', h => by
    simp only [resL, Option.some.injEq] at h
    subst h
    exact ⟨rfl, fun k hk => absurd hk (by simp)⟩
  | e :: l, es', h => by
    simp only [resL] at h
    split at h
    · rename_i x y hx hy
      simp only [Option.some.injEq] at h
      subst h
      obtain ⟨h1, h2⟩ := resL_spec hy
      refine ⟨by simp [h1], fun k hk => ?_⟩
      cases k with
      | zero => simpa using hx
      | succ k => simpa using h2 k (by simpa using hk)
    · cases h
theorem ghost_sound {FK : St → Prop} : ∀ (l : List (Nat × Bool × List Nat)) {st : St}, At dl w0 F W0 M0 r0 [] st a w → ghostK l st FK → ∃ st', At dl w0 F W0 M0 r0 [] st' a w ∧ FK st'
  | [], st, h, hk => ⟨st, h, hk⟩
  | (id, true, _) :: l, st, h, hk => by
    simp only [ghostK] at hk
    split at hk
    · rename_i A hA
      obtain ⟨h1, hk⟩ := hk
      obtain ⟨M, hI, hR, hd, hC⟩ := h
      have hw : A.w = 1 := by
        unfold Arr.w
        split
        · rfl
        · omega
      have hw2 : Arr.w { A with sz := 0 } = 1 := rfl
      obtain ⟨_, he, _⟩ := hI.row id A hA
      obtain ⟨hI', hC'⟩ := hI.recell id A { A with sz := 0 } hA (by rw [hw2, hw]) rfl rfl rfl (by rw [hw2]; rw [hw] at he; exact he) (fun k v hk hr j hj => by
        rw [hw2] at hj
        rcases hr j (by omega) with h3 | ⟨_, h3⟩
        · exact .inl h3
        · exact .inr ⟨rfl, h3⟩)
      exact ghost_sound l (st := { st with r := st.r.set id { A with sz := 0 } }) ⟨M, hI', RG.mono hC' hR, hd, hC.trans hC'⟩ hk
    · exact hk.elim
  | (id, false, ids) :: l, st, h, hk => by
    simp only [ghostK] at hk
    split at hk
    case h_2 => exact hk.elim
    rename_i A hA
    split at hk
    case h_2 => exact hk.elim
    rename_i es hes
    obtain ⟨h0, hk⟩ := hk
    obtain ⟨M, hI, hR, hd, hC⟩ := h
    obtain ⟨hl, hres⟩ := resL_spec hes
    obtain ⟨hI1, hC1⟩ := Inv.shareL (id :: ids) hI
    have hsp := shared_share (id :: ids) st.r
    obtain ⟨A2, hA2, e2, ⟨z2, y2⟩, hsh2, m2⟩ := hsp id A hA
    have hw : A2.w = 1 := by unfold Arr.w; rw [z2, h0]; rfl
    have hw2 : Arr.w { A with sz := 1, es := es, sh := true } = 1 := rfl
    obtain ⟨_, he, _⟩ := hI1.row id A2 hA2
    have hone : ∀ k, k < A.es.length → ∃ d, A.es.getD k [] = [d] := by
      intro k hk
      have : (A.es.getD k []).length = 1 := by
        rw [← hw]
        refine he _ ?_
        rw [e2]
        have : A.es.getD k [] = A.es[k] := by simp [List.getD, hk]
        rw [this]
        exact List.getElem_mem hk
      match h : A.es.getD k [], this with
      | [d], _ => exact ⟨d, rfl⟩
    have hcell : ∀ k, k < A.es.length → ∃ d, A.es.getD k [] = [d] ∧ ∃ d', es.getD k [] = [d'] ∧ ∀ v, RepC w M (share st.r (id :: ids)) A2 v d → Rep w (Okc M (share st.r (id :: ids))) v d' := by
      intro k hk
      obtain ⟨d, hd⟩ := hone k hk
      have hr := hres k hk
      rw [hd] at hr
      refine ⟨d, hd, ?_⟩
      cases hd' : d with
      | ref id2 n =>
        subst hd'
        simp only [resC] at hr
        split at hr
        case h_2 => cases hr
        rename_i B hB
        split at hr
        · cases hr
        rename_i hBz
        split at hr
        case isFalse => cases hr
        rename_i hn
        simp only [Option.some.injEq] at hr
        refine ⟨.list B.es, hr.symm, fun v hv => ?_⟩
        rcases hv with hv | ⟨_, id3, n3, e3, hv⟩
        · cases hv
        · injection e3 with e4 e5
          subst e4 e5
          obtain ⟨B2, hB2, eB, ⟨zB, _⟩, _, mB⟩ := hsp id2 B hB
          have hrd := hI1.rowData id2 B2 hB2 (mB (List.mem_cons_of_mem _ hn.2)) (by rw [zB]; exact hBz)
          rw [eB] at hrd
          cases hv with
          | arr _ _ _ h1 hv =>
            obtain ⟨B3, hB3, _, hv⟩ := hv
            rw [hB2] at hB3
            injection hB3 with hB3
            subst hB3
            rw [hv (by rw [eB]; exact hn.1)]
            exact hrd
      | _ =>
        subst hd'
        simp only [resC, Option.some.injEq] at hr
        refine ⟨_, hr.symm, fun v hv => ?_⟩
        rcases hv with hv | ⟨_, id3, n3, e3, _⟩
        · exact hv
        · cases e3
    obtain ⟨hI', hC'⟩ := hI1.recell id A2 { A with sz := 1, es := es, sh := true } hA2 (by rw [hw2, hw]) y2.symm (m2 (List.mem_cons_self ..)).symm (by show es.length = _; rw [hl, e2]) (fun e hm => by
        rw [hw2]
        obtain ⟨k, hk, rfl⟩ := List.mem_iff_getElem.1 hm
        have hk2 : k < es.length := hk
        obtain ⟨d, _, d', hd', _⟩ := hcell k (by omega)
        have : es[k]'hk2 = es.getD k [] := by simp [List.getD, hk2]
        show (es[k]'hk2).length = 1
        rw [this, hd']
        rfl) (fun k v hk hr j hj => by
        have hk2 : k < es.length := hk
        rw [hw2] at hj
        obtain rfl : j = 0 := by omega
        obtain ⟨d, hd, d', hd', hc⟩ := hcell k (by omega)
        have hr0 := hr 0 (by omega)
        rw [e2, hd] at hr0
        show RepC w M _ _ (v 0) ((es.getD k []).getD 0 .nilI)
        rw [hd']
        exact .inl (hc _ hr0))
    exact ghost_sound l (st := { st with r := (share st.r (id :: ids)).set id { A with sz := 1, es := es, sh := true } }) ⟨M, hI', RG.mono (hC1.trans hC') hR, hd, hC.trans (hC1.trans hC')⟩ hk
theorem At.lens (h : At dl w0 F W0 M0 r0 [] st a w) : M0.bb.length ≤ st.b.length ∧ r0.length ≤ st.r.length := by
  obtain ⟨M, hI, _, _, hC⟩ := h
  refine ⟨by rw [← hI.lb]; exact hC.lb, ?_⟩
  rcases Nat.eq_zero_or_pos r0.length with e | e
  · omega
  · obtain ⟨A', hA', _⟩ := hC.row (r0.length - 1) _ (List.getElem?_eq_getElem (by omega))
    have := (List.getElem?_eq_some_iff.1 hA').1
    omega

/-! ### code -/
/-- What holds where code ends. -/
def PostQ (dl : Act → Prop) (w0 : World) (F : List Nat) (W0 : World) (M0 : Mem) (r0 : List Arr) (Q : Ex → St → Prop) : Exit → Act → World → Prop
  | .normal, a, w => ∃ st, At dl w0 F W0 M0 r0 [] st a w ∧ Q .normal st
  | .exit i, a, w => ∃ st, At dl w0 F W0 M0 r0 [] st a w ∧ Q (.exit i) st
  | .ret, a, w => ∃ st, At dl w0 F W0 M0 r0 [] st a w ∧ Q .ret st
  | .panic chain, a, w => ∃ st x u, chain = [{ v := u, recovered := false }] ∧ AtP dl w0 F W0 M0 r0 x st u a w ∧ Q (.panic x) st
  | _, _, _ => False

variable {dl : Act → Prop} {P : Program} {E : Env} {pl : Nat → List (Nat × Bool × List Nat)}

/-- What holds of the frame is kept by all that the code writes. -/
def Keeps (dl : Act → Prop) : Code → Prop
  | .seq x y => Keeps dl x ∧ Keeps dl y
  | .cond _ x y => Keeps dl x ∧ Keeps dl y
  | .block _ x => Keeps dl x
  | .loop x => Keeps dl x
  | .region _ ops _ => ∀ o ∈ ops.toList, ∀ (a : Act) u, dl a → dl (a.put o.dst u)
  | _ => True
theorem keeps_defers (l : List Deferred) : ∀ c : Code, Keeps (fun a => a.defers = l) c := by
  intro c
  induction c with
  | seq x y ihx ihy => exact ⟨ihx, ihy⟩
  | cond c x y ihx ihy => exact ⟨ihx, ihy⟩
  | block i x ih => exact ih
  | loop x ih => exact ih
  | region i ops b => exact fun o _ a u h => put_defers.trans h
  | _ => exact trivial
/-- What holds of the frame, and what of it stays. -/
def fixL (dl : Act → Prop) (ss : List Nat) (n : Nat) (ts : Array Value) (a : Act) : Prop := dl a ∧ a.tmps.size = n ∧ ∀ s ∈ ss, a.tmps.getD s undef = ts.getD s undef
theorem noDst_keepsL {dl : Act → Prop} {ss : List Nat} {n : Nat} {ts : Array Value} : ∀ c : Code, Keeps dl c → noDst ss c = true → Keeps (fixL dl ss n ts) c := by
  intro c
  induction c with
  | seq x y ihx ihy =>
    intro hk h
    simp only [noDst, Bool.and_eq_true] at h
    exact ⟨ihx hk.1 h.1, ihy hk.2 h.2⟩
  | cond c x y ihx ihy =>
    intro hk h
    simp only [noDst, Bool.and_eq_true] at h
    exact ⟨ihx hk.1 h.1, ihy hk.2 h.2⟩
  | block i x ih => exact fun hk h => ih hk h
  | loop x ih => exact fun hk h => ih hk h
  | region i ops b =>
    intro hk h o ho a u hd
    have h1 := List.all_eq_true.1 h o ho
    obtain ⟨h2, h3, h4⟩ := hd
    refine ⟨hk o ho a u h2, ?_, fun s hs => ?_⟩
    · cases o.dst <;> simpa [Act.put] using h3
    · rw [← h4 s hs]
      cases hdst : o.dst with
      | none => rfl
      | some d =>
        rw [hdst] at h1
        refine agetD_set_ne _ _ _ _ (fun e => ?_)
        subst e
        simp at h1
        exact h1 hs
  | _ => exact fun _ _ => trivial
theorem sameR_get : ∀ {l m : List Arr}, sameR l m → ∀ (i : Nat) (A : Arr), m[i]? = some A → l[i]? = some { A with sh := true }
  | _, [], _, i, A, h => by simp at h
  | c :: l, d :: m, h, 0, A, hA => by
    simp only [List.getElem?_cons_zero, Option.some.injEq] at hA
    subst hA
    simp [h.1]
  | c :: l, d :: m, h, i + 1, A, hA => by
    simpa using sameR_get h.2 i A (by simpa using hA)
  | [], _ :: _, h, _, _, _ => h.elim
theorem backT_len {ks : List Nat} : ∀ (d : Nat) (l m : List AV), l.length = m.length → (backT ks d l m).length = l.length
  | d, [], m, _ => by cases m <;> rfl
  | d, x :: l, [], h => by simp at h
  | d, x :: l, y :: m, h => by simp [backT, backT_len (d + 1) l m (by simpa using h)]
theorem backT_get {ks : List Nat} : ∀ (d : Nat) (l m : List AV) (i : Nat), l.length = m.length → i < l.length →
    (backT ks d l m).getD i .undef = if ks.contains (d + i) then l.getD i .undef else if flatA (m.getD i .undef) = true then m.getD i .undef else .undef
  | d, [], m, i, _, hi => by simp at hi
  | d, x :: l, [], i, h, _ => by simp at h
  | d, x :: l, y :: m, 0, h, _ => by simp [backT]
  | d, x :: l, y :: m, i + 1, h, hi => by
    have := backT_get (ks := ks) (d + 1) l m i (by simpa using h) (by simpa using hi)
    rw [show d + 1 + i = d + (i + 1) by omega] at this
    simpa [backT] using this
theorem flat_rep {w w' : World} {M M' : Mem} {r r' : List Arr} {v : Value} {x : AV} (h : RepA w M r v x) (hx : flatA x = true) : RepA w' M' r' v x := by
  unfold flatA at hx
  split at hx
  · have h := h.d_inv
    cases h
    exact .d _ _ (.int _ _)
  · have h := h.d_inv
    cases h
    exact .d _ _ (.bool _)
  · have h := h.d_inv
    cases h
    exact .d _ _ (.str _)
  · cases hx
theorem flatL_get : ∀ {l : List AV} {j : Nat}, flatL l = true → j < l.length → flatA (l.getD j .undef) = true
  | [], j, _, hj => absurd hj (by simp)
  | x :: l, 0, h, _ => by
    simp only [flatL, Bool.and_eq_true] at h
    exact h.1
  | x :: l, j + 1, h, hj => by
    simp only [flatL, Bool.and_eq_true] at h
    simpa [List.getD] using flatL_get h.2 (by simpa using hj)
theorem flatB_get : ∀ {b : List (List AV)} {i : Nat} {c : List AV}, flatB b = true → b[i]? = some c → flatL c = true
  | [], i, c, _, h => by simp at h
  | x :: l, 0, c, h, hc => by
    simp only [List.getElem?_cons_zero, Option.some.injEq] at hc
    subst hc
    simp only [flatB, Bool.and_eq_true] at h
    exact h.1
  | x :: l, i + 1, c, h, hc => by
    simp only [flatB, Bool.and_eq_true] at h
    exact flatB_get h.2 (by simpa using hc)
theorem sameB_get : ∀ {l m : List (List AV)}, sameB l m → ∀ (i : Nat) (c : List AV), m[i]? = some c → l[i]? = some c
  | _, [], _, i, c, h => by simp at h
  | c :: l, d :: m, h, 0, x, hx => by
    simp only [List.getElem?_cons_zero, Option.some.injEq] at hx
    subst hx
    simp [h.1]
  | c :: l, d :: m, h, i + 1, x, hx => by
    simpa using sameB_get h.2 i x (by simpa using hx)
  | [], _ :: _, h, _, _, _ => h.elim
/-- What was lent is given back: where nothing but the rows and plain boxes lives on, they are what they were. -/
theorem Inv.giveBack {M M' : Mem} {b b' : List (List AV)} {r r' : List Arr} {w w' : World} (h : Inv w0 F M b r w) (hb : flatB b = true) (h' : Inv w0 F M' b' r' w') (hC : Chg w M (lendR r) w' M' r')
    (hs : ∀ (i : Nat) (A : Arr), r[i]? = some A → r'[i]? = some { A with sh := true }) (hsb : ∀ (i : Nat) (c : List AV), b[i]? = some c → b'[i]? = some c) : Inv w0 F M b r w' ∧ Chg w M r w' M r := by
  have hc : Chg w M r w' M r := ⟨fun a u ho hcell => ⟨(hC.cell a u ho.lend hcell).1, ho⟩, Nat.le_refl _, fun _ _ => rfl, fun i A hA => ⟨A, hA, Nat.le_refl _, rfl, fun _ => rfl⟩, rfl⟩
  refine ⟨⟨h'.keep, h.lb, h.lr, fun i cells hi => ?_, fun i A hA => ?_, h.fb, h.fr, h.dbb, h.drr, h.dbr, h.no⟩, hc⟩
  · obtain ⟨cs, ty, hh, hsz, h1, hr⟩ := h'.box i cells (hsb i cells hi)
    have hi' : i < M.bb.length := by rw [h.lb]; exact (List.getElem?_eq_some_iff.1 hi).1
    rw [hC.blk i hi'] at hh
    exact ⟨cs, ty, hh, hsz, h1, fun j hj => flat_rep (hr j hj) (flatL_get (flatB_get hb hi) hj)⟩
  obtain ⟨hz, he, xs, ho, h1, hr⟩ := h.row i A hA
  obtain ⟨A', hA', _, _, hrow⟩ := hC.row i _ (lendR_get hA)
  rw [hs i A hA] at hA'
  injection hA' with hA'
  subst hA'
  obtain ⟨_, _, xs', ho', _, _⟩ := h'.row i _ (hs i A hA)
  rw [hrow rfl] at ho'
  have e : xs' = xs := rowAt_eq ho ho' (fun g j u hg hj hcell => by
    refine (hC.cell _ u ⟨⟨fun q hq e => h.dbr q i hq (by rw [hg, e]), fun hn => (h.no _ hn).2 i hg⟩, fun q B hB hgB => ?_⟩ hcell).1
    have := h.drr i q g (row_len hg) (row_len hgB) hg hgB
    subst this
    obtain ⟨A2, hA2, rfl⟩ := lendR_of hB
    rw [hA] at hA2
    injection hA2 with hA2
    subst hA2
    refine ⟨rfl, ?_⟩
    show offV (M.row i) + j < offV (M.row i) + A.es.length * A.w
    omega)
  subst e
  exact ⟨hz, he, xs', ho', h1, fun k j hk hj => (hr k j hk hj).mono hc⟩
theorem back_at {dl : Act → Prop} {ks : List Nat} {s0 st' : St} {a a' : Act} {w w' : World} {M : Mem} (hb : flatB s0.b = true) (hI : Inv w0 F M s0.b s0.r w) (hR : RG w M s0.r [] a.tmps s0.t) (hC : Chg W0 M0 r0 w M s0.r)
    (h' : At (fixL dl ks a.tmps.size a.tmps) w0 F w M (lendR s0.r) [] st' a' w') (hs : sameR st'.r s0.r ∧ sameB st'.b s0.b) : At dl w0 F W0 M0 r0 [] (backS ks s0 st') a' w' := by
  obtain ⟨M', hI', hR', ⟨hd, hsz, hk⟩, hC'⟩ := h'
  obtain ⟨hI2, hC2⟩ := hI.giveBack hb hI' hC' (sameR_get hs.1) (sameB_get hs.2)
  have hl : s0.t.length = st'.t.length := by rw [← hR.1, ← hR'.1, hsz]
  refine ⟨M, hI2, ⟨by show _ = (backT ks 0 s0.t st'.t).length; rw [backT_len _ _ _ hl, hsz]; exact hR.1, fun i hi _ => ?_⟩, hd, hC.trans hC2⟩
  have hi' : i < s0.t.length := by
    have : i < (backT ks 0 s0.t st'.t).length := hi
    rwa [backT_len _ _ _ hl] at this
  show RepA w' M s0.r _ ((backT ks 0 s0.t st'.t).getD i .undef)
  rw [backT_get 0 _ _ i hl hi', Nat.zero_add]
  split
  · rename_i hc
    rw [hk i (by simpa using hc)]
    exact (hR.2 i hi' (fun p hp => absurd hp (by simp))).mono hC2
  · split
    · rename_i hf
      exact flat_rep (hR'.2 i (by omega) (fun p hp => absurd hp (by simp))) hf
    · exact .undef _

theorem evalK_sound (hE : E.Ok P) (hm : P.follows .mixedOrders = true) : ∀ (c : Code), Keeps dl c → drawsB pl c = true → (r0.length ≤ nrP pl ∨ ∀ i, pl (i + 200000) = []) → ∀ (Q : Ex → St → Prop) (st : St) (a : Act) (w : World), At dl w0 F W0 M0 r0 [] st a w → evalK P E pl c st Q → c.wp P (PostQ dl w0 F W0 M0 r0 Q) a w := by
  intro c
  induction c generalizing dl W0 M0 r0 with
  | skip => exact fun _ _ _ Q st a w h hk => wp_skip ⟨st, h, hk⟩
  | label l => exact fun _ _ _ Q st a w h hk => wp_label ⟨st, h, hk⟩
  | seq x y ihx ihy =>
    intro hkd hdr hnr Q st a w h hk
    simp only [drawsB, Bool.and_eq_true] at hdr
    replace ihx := @ihx W0 M0 r0 dl hkd.1 hdr.1 hnr
    replace ihy := @ihy W0 M0 r0 dl hkd.2 hdr.2 hnr
    refine wp_seq (Go.wp_mono (ihx _ st a w h hk) (fun e a' w' hq => ?_))
    cases e with
    | normal =>
      obtain ⟨st', h', hq⟩ := hq
      exact ihy Q st' a' w' h' hq
    | exit i => exact hq
    | goto l => exact hq
    | ret => exact hq
    | panic ch => exact hq
    | outgrown => exact hq
  | cond c x y ihx ihy =>
    intro hkd hdr hnr Q st a w h hk
    simp only [drawsB, Bool.and_eq_true] at hdr
    replace ihx := @ihx W0 M0 r0 dl hkd.1 hdr.1 hnr
    replace ihy := @ihy W0 M0 r0 dl hkd.2 hdr.2 hnr
    simp only [evalK] at hk
    split at hk
    · rename_i e he
      obtain ⟨M, hI, hR, hd, hC⟩ := h
      have hrep := ev_rep (a := a) (st := st) (w := w) (M := M) (r := st.r) ⟨hR.1, fun i hi => hR.2 i hi (fun p hp => absurd hp (by simp))⟩ c
      rw [he] at hrep
      have hrep := hrep.d_inv
      generalize hu : a.eval c = u at hrep
      cases hrep
      refine wp_cond_split hu (fun e' => ihx Q st a w ⟨M, hI, hR, hd, hC⟩ (hk.1 e')) (fun e' => ihy Q st a w ⟨M, hI, hR, hd, hC⟩ (hk.2 e'))
    · exact hk.elim
  | block id x ih =>
    intro hkd hdr hnr Q st a w h hk
    replace ih := @ih W0 M0 r0 dl hkd hdr hnr
    refine wp_block (Go.wp_mono (ih _ st a w h hk) (fun e a' w' hq => ?_))
    cases e with
    | exit i =>
      obtain ⟨st', h', hq⟩ := hq
      simp only [Exit.inBlock]
      simp only at hq
      split at hq
      · rw [if_pos (by assumption)]
        exact ⟨st', h', hq⟩
      · rw [if_neg (by assumption)]
        exact ⟨st', h', hq⟩
    | normal => exact hq
    | goto l => exact hq
    | ret => exact hq
    | panic ch => exact hq
    | outgrown => exact hq
  | exit i => exact fun _ _ _ Q st a w h hk => wp_exit ⟨st, h, hk⟩
  | ret => exact fun _ _ _ Q st a w h hk => wp_ret ⟨st, h, hk⟩
  | loop x ih =>
    intro hkd hdr hnr Q st a w h hk
    have hl := h.lens
    rcases hk with hk | hk | hk
    case inr.inl =>
      obtain ⟨n0, hk⟩ := hk
      refine wp_loop_ghost (fun n a w => ∃ st, At dl w0 F W0 M0 r0 [] st a w ∧ iterK (fun st Q => evalK P E pl x st Q) n st Q) n0 ⟨st, h, hk⟩ (fun n a w hn => ?_)
      obtain ⟨st, h, hk⟩ := hn
      cases n with
      | zero => exact hk.elim
      | succ n =>
        refine Go.wp_mono (@ih W0 M0 r0 dl hkd hdr hnr _ st a w h hk) (fun e a' w' hq => ?_)
        cases e with
        | normal =>
          obtain ⟨st', h', hk'⟩ := hq
          exact ⟨n, Nat.lt_succ_self n, st', h', hk'⟩
        | exit i => exact hq
        | goto l => exact hq
        | ret => exact hq
        | panic ch => exact hq
        | outgrown => exact hq
    case inr.inr =>
      obtain ⟨α, S, μ, a0, ks, hnc, hno, h0, hlen, hround⟩ := hk
      have hlb : ∀ i, M0.bb.length ≤ (S i).b.length := fun i => by
        rw [(hlen i).1.2]
        exact hl.1
      have hlr : ∀ i, r0.length ≤ (S i).r.length := fun i => Nat.le_trans hl.2 (hlen i).2
      refine wp_loop_ghost (fun n a w => ∃ i, n = μ i ∧ At dl w0 F W0 M0 r0 [] (S i) a w) (μ a0) ⟨a0, rfl, h.le h0 (hlb a0) (hlr a0)⟩ (fun n a w hn => ?_)
      obtain ⟨i, rfl, M, hI, hR, hd, hC⟩ := hn
      obtain ⟨hIl, hCl⟩ := hI.lend
      have hat : At (fixL dl ks a.tmps.size a.tmps) w0 F w M (lendR (S i).r) [] (lendS (S i)) a w := ⟨M, hIl, RG.mono hCl hR, ⟨hd, rfl, fun _ _ => rfl⟩, Chg.refl _ _ _⟩
      refine Go.wp_mono (ih (noDst_keepsL x hkd hno) hdr (.inr hnc) _ (lendS (S i)) a w hat (hround i)) (fun e a' w' hq => ?_)
      cases e with
      | normal =>
        obtain ⟨st', h', j, hlt, hsame, hle⟩ := hq
        exact ⟨μ j, hlt, j, rfl, (back_at (hlen i).1.1 hI hR hC h' hsame).le hle (hlb j) (hlr j)⟩
      | exit k =>
        obtain ⟨st', h', hsame, hq⟩ := hq
        exact ⟨_, back_at (hlen i).1.1 hI hR hC h' hsame, hq⟩
      | goto l => exact hq
      | ret =>
        obtain ⟨st', ⟨M', hI', hR', hd', hC'⟩, hq⟩ := hq
        exact ⟨st', ⟨M', hI', hR', hd'.1, (hC.trans hCl).trans hC'⟩, hq⟩
      | panic ch =>
        obtain ⟨st', x', u, e', ⟨M', hI', hR', hd', hC'⟩, hq⟩ := hq
        exact ⟨st', x', u, e', ⟨M', hI', hR', hd'.1, (hC.trans hCl).trans hC'⟩, hq⟩
      | outgrown => exact hq
    replace ih := @ih W0 M0 r0 dl hkd hdr hnr
    obtain ⟨α, S, μ, a0, h0, hlen, hround⟩ := hk
    refine wp_loop_ghost (fun n a w => ∃ i, n = μ i ∧ At dl w0 F W0 M0 r0 [] (S i) a w) (μ a0) ⟨a0, rfl, h.le h0 (by rw [(hlen a0).1]; exact hl.1) (Nat.le_trans hl.2 (hlen a0).2)⟩ (fun n a w hn => ?_)
    obtain ⟨i, rfl, hat⟩ := hn
    refine Go.wp_mono (ih _ (S i) a w hat (hround i)) (fun e a' w' hq => ?_)
    cases e with
    | normal =>
      obtain ⟨st', h', j, hlt, hle⟩ := hq
      exact ⟨μ j, hlt, j, rfl, h'.le hle (by rw [(hlen j).1]; exact hl.1) (Nat.le_trans hl.2 (hlen j).2)⟩
    | exit i => exact hq
    | goto l => exact hq
    | ret => exact hq
    | panic ch => exact hq
    | outgrown => exact hq
  | region id ops b =>
    intro hkd hdr hnr Q st a w h hk
    cases b with
    | true =>
      simp only [evalK] at hk
      obtain ⟨st', h', hk'⟩ := ghost_sound _ h hk
      exact drawn_sound hE hkd hm hdr h' hk' (fun st a w h hq => ⟨st, h, hq⟩) (fun x st u a w h hq => ⟨st, x, u, rfl, h, hq⟩)
    | false =>
      have hnd : nodupN (ops.toList.filterMap (·.dst)) = true := hdr
      have nG : ∀ (l : List Oper), ∀ o ∈ l, ∀ d, o.dst = some d → ∀ p ∈ ([] : List (Nat × Bool)), p.1 ≠ d := fun _ _ _ _ _ p hp => absurd hp (by simp)
      have nU : ∀ t : Array Value, RU [] t := fun _ p hp => absurd hp (by simp)
      simp only [evalK] at hk
      obtain ⟨st, h, hk⟩ := ghost_sound _ h hk
      split at hk
      · rename_i i hci
        have hnr' : r0.length ≤ nrP pl := by
          rcases hnr with h1 | h1
          · exact h1
          · unfold cutAt at hci
            rw [h1] at hci
            cases hci
        have hlist : ops.toList.take i ++ ops.toList.drop i = ops.toList := List.take_append_drop ..
        refine wp_region_list ?_
        rw [← hlist]
        refine opsK_soundT (ops := ops) (Q := PostQ dl w0 F W0 M0 r0 Q) hE (ops.toList.drop i) (fun st a w h hq => ?_) (fun x st u a w h hq => ⟨st, x, u, rfl, h, hq⟩) _ (fun o ho => hkd o (List.mem_of_mem_take ho)) (nodup_take _ _ hnd) [] st a w (nG _) (nU _) h hk
        split at hq
        case h_2 => exact hq.elim
        rename_i o ho
        split at hq
        case h_2 => exact hq.elim
        rename_i q hcut
        obtain ⟨hi, rfl⟩ := List.getElem?_eq_some_iff.1 ho
        rw [List.drop_eq_getElem_cons hi]
        exact cut_sound hnr' (hkd _ (List.getElem_mem hi)) h hcut hq.1 (fun a w h' => opsK_sound hE (fun st a w h hq => ⟨st, h, hq⟩) (fun x st u a w h hq => ⟨st, x, u, rfl, h, hq⟩) _ (fun o ho => hkd o (List.mem_of_mem_drop ho)) (nodup_drop _ _ hnd) _ _ _ h' hq.2)
      split at hk
      · exact wp_region_list (opsK_sound hE (fun st a w h hq => ⟨st, h, hq⟩) (fun x st u a w h hq => ⟨st, x, u, rfl, h, hq⟩) _ hkd hnd st a w h hk)
      · split at hk
        · rename_i q hq
          have hl := litK_sound (ops := ops) (Q := PostQ dl w0 F W0 M0 r0 Q) (rest := ops.toList.drop 2) (fun o ho => hkd o (List.mem_of_mem_take ho)) h hq hk.1 (fun a' w' h' => opsK_sound hE (fun st a w h hq => ⟨st, h, hq⟩) (fun x st u a w h hq => ⟨st, x, u, rfl, h, hq⟩) _ (fun o ho => hkd o (List.mem_of_mem_drop ho)) (nodup_drop _ _ hnd) _ _ _ h' hk.2)
          rw [List.take_append_drop] at hl
          exact wp_region_list hl
        · exact hk.elim
      · have := opsK_soundT (ops := ops) (Q := PostQ dl w0 F W0 M0 r0 Q) hE (ops.toList.drop 2) (fun st a w h hq => clearK_sound (fun st a w h hq => ⟨st, h, hq⟩) (fun o ho => hkd o (List.mem_of_mem_drop ho)) h hq) (fun x st u a w h hq => ⟨st, x, u, rfl, h, hq⟩) _ (fun o ho => hkd o (List.mem_of_mem_take ho)) (nodup_take _ _ hnd) [] st a w (nG _) (nU _) h hk
        rw [List.take_append_drop] at this
        exact wp_region_list this
  | _ => exact fun _ _ _ Q st a w h hk => hk.elim
end
end Go.PE
end
