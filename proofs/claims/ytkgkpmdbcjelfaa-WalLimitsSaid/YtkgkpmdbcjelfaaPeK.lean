/- The evaluator is right, 7: slices, conversions, builtins (see PeA, PeD). -/
import Derived.Test.YtkgkpmdbcjelfaaPeJ
import Derived.Lib.Strings
set_option linter.unusedVariables false
set_option linter.unusedSimpArgs false
namespace Go.PE
open Go

section
variable {P : Program} {w0 : World} {F : List Nat} {M : Mem} {st : St} {w : World} {K : AV → St → Prop}

theorem bin_sound {op : BinOp} {t : TypeId} {x y : Operand} {a b : AV} {u v : Value} (h : Inv w0 F M st.b st.r w) (hx : RepA w M st.r u a) (hy : RepA w M st.r v b) (hs : (binR P op (isC x || isC y) t a b st).sem K) :
    OpOk P w0 F M st.t st.r w (do eqGuard op t x y u v; binOp op t u v) K := by
  unfold binR at hs
  split at hs
  · have e1 := hx.d_inv
    have e2 := hy.d_inv
    cases e1; cases e2
    exact int_sound h hs
  · have e1 := hx.d_inv
    have e2 := hy.d_inv
    cases e1; cases e2
    exact str_sound h hs
  · split at hs
    · exact eq_sound (neg := false) h hx.d_inv hy.d_inv hs
    · exact eq_sound (neg := true) h hx.d_inv hy.d_inv hs
    · exact hs.elim
  · exact hs.elim

theorem bound_run {d : Int} {o : Option AV} {u : Option Value} {l : Int} (h : boundA d o = some l) (hr : ∀ a v, o = some a → u = some v → RepA w M st.r v a) (hn : o.isSome = u.isSome) :
    (u = none ∧ l = d) ∨ ∃ k, u = some (.int k l) := by
  cases o with
  | none =>
    cases u with
    | none => simp [boundA] at h; exact .inl ⟨rfl, h.symm⟩
    | some v => simp at hn
  | some a =>
    cases u with
    | none => simp at hn
    | some v =>
      have := hr a v rfl rfl
      unfold boundA at h
      split at h
      · rename_i e; cases e
      · rename_i k n e
        injection e with e
        subst e
        injection h with h
        subst h
        have := this.d_inv
        cases this
        exact .inr ⟨k, rfl⟩
      · cases h

theorem run_bounds (isSlice : Bool) (n c : Nat) (lo hi : Option Value) (l h : Int) (hl : (lo = none ∧ l = 0) ∨ ∃ k, lo = some (.int k l)) (hh : (hi = none ∧ h = n) ∨ ∃ k, hi = some (.int k h)) (h0 : 0 ≤ l) (h1 : l ≤ h) (h2 : h ≤ n) (h3 : n ≤ c) :
    (Instr.sliceBounds isSlice n c lo hi none).run P w = .ok (l.toNat, h.toNat, c) w := by
  have a1 : ∀ k, (Instr.sliceBound (.int k h) c (if isSlice then .sliceAcap else .sliceAlen)).run P w = .ok h.toNat w := fun k => by
    have : 0 ≤ h ∧ h ≤ (c : Int) := by omega
    simp [Instr.sliceBound, asIntOf, this]
  have a2 : ∀ k, (Instr.sliceBound (.int k l) h.toNat .sliceB).run P w = .ok l.toNat w := fun k => by
    have : 0 ≤ l ∧ l ≤ ((h.toNat : Nat) : Int) := by omega
    simp only [Instr.sliceBound, asIntOf, Sem.run_bind, Sem.run_pure, Result.andThen_ok]
    rw [if_pos this]; rfl
  rcases hl with ⟨rfl, rfl⟩ | ⟨kl, rfl⟩ <;> rcases hh with ⟨rfl, rfl⟩ | ⟨kh, rfl⟩
  · simp [Instr.sliceBounds]
  · simp only [Instr.sliceBounds, Sem.run_bind, Sem.run_pure, Result.andThen_ok, a1]; rfl
  · have a3 := a2 kl
    simp only [Int.toNat_natCast] at a3 ⊢
    simp [Instr.sliceBounds, a3]
  · have a3 := a2 kl
    simp only [Instr.sliceBounds, Sem.run_bind, Sem.run_pure, Result.andThen_ok, a1]
    simp [a3]

theorem list_slice {ok : Addr → Prop} {u : Value} {es : List (List D)} (hr : Rep w ok u (.list es)) {n c : Nat} {A : Option Addr} (hu : u = .slice A n c) (l h sz : Nat) (h1 : l ≤ h) (h2 : h ≤ es.length) (hsz : ∀ e ∈ es, e.length = sz) :
    Rep w ok (.slice (if c = l then A else A.map (·.add (l * sz))) (h - l) (c - l)) (.list ((es.take h).drop l)) := by
  cases hr with
  | list A' n' c' sz' es' f hn hc hz ha hone hrep =>
    injection hu with e1 e2 e3
    subst e1; subst e2; subst e3
    subst hn
    have hlen : ((es.take h).drop l).length = h - l := by simp; omega
    have hget : ∀ i, i < h - l → ((es.take h).drop l).getD i [] = es.getD (l + i) [] := fun i hi => by
      simp only [List.getD, List.getElem?_drop, List.getElem?_take]
      rw [if_pos (by omega)]
    have hszz : 0 < es.length → sz' = sz := fun h0 => by
      have e1 := hz 0 h0
      have e2 : es.getD 0 [] = es[0] := by simp [List.getD, h0]
      rw [e2, hsz _ (List.getElem_mem h0)] at e1
      exact e1.symm
    refine .list _ _ _ sz' _ (fun i j => f (l + i) j) hlen.symm ⟨by have := hc.1; omega, by have := hc.2; omega⟩ (fun i hi => by rw [hget i hi]; exact hz _ (by omega)) (fun h0 => ?_)
      (fun i j hi hj => hone _ _ (by omega) hj) (fun i j hi hj => by rw [hget i hi]; exact hrep _ _ (by omega) hj)
    obtain ⟨a, rfl, hsp, hcell⟩ := ha (by omega)
    have hcl : ¬ c' = l := by have := hc.1; omega
    refine ⟨a.add (l * sz), by rw [if_neg hcl]; rfl, by unfold Addr.add; split <;> simp [hsp], fun i j hi hj => ?_⟩
    rw [add_lit' a hsp, ← hszz (by omega)]
    have := hcell (l + i) j (by omega) hj
    rwa [show l * sz' + (i * sz' + j) = (l + i) * sz' + j by rw [Nat.add_mul]; omega]

theorem slice_sound {t : TypeId} {x : AV} {lo hi mx : Option AV} {u : Value} {ulo uhi umx : Option Value} (h : Inv w0 F M st.b st.r w) (hx : RepA w M st.r u x)
    (hlo : ∀ a v, lo = some a → ulo = some v → RepA w M st.r v a) (hln : lo.isSome = ulo.isSome) (hhi : ∀ a v, hi = some a → uhi = some v → RepA w M st.r v a) (hhn : hi.isSome = uhi.isSome) (hmn : mx.isSome = umx.isSome)
    (hs : (sliceR P t x lo hi mx st).sem K) : OpOk P w0 F M st.t st.r w (Instr.sliceAt t u ulo uhi umx) K := by
  unfold sliceR at hs
  split at hs
  · -- data
    rename_i es
    have hmx : umx = none := by cases umx <;> simp_all
    subst hmx
    split at hs
    · rename_i l hh hl hh'
      split at hs
      · split at hs
        · rename_i e n y hsl
          obtain ⟨inf, z, hu, hin, hz, hzs, hp, _, rfl, _⟩ := sl_spec hsl
          simp only [Res.sem] at hs
          obtain ⟨⟨⟨h0, h1, h2⟩, hsz⟩, hK⟩ := hs
          have hr := hx.d_inv
          have hr' := hr
          cases hr with
          | list A m c sz _ f hn hc hzz ha hone hrep =>
            subst hn
            have hb := run_bounds (P := P) (w := w) true es.length c ulo uhi l hh (bound_run hl hlo hln) (bound_run hh' hhi hhn) h0 h1 h2 hc.1
            refine ok_stay h hK (u := .slice (if c = l.toNat then A else A.map (·.add (l.toNat * inf.size))) (hh.toNat - l.toNat) (c - l.toNat)) ?_ (.d _ _ (list_slice hr' rfl l.toNat hh.toNat inf.size (by omega) (by omega) hsz))
            simp [Instr.sliceAt, run_underlying hu, Instr.slice, hb, sizeOf, typeInfo, hin]
        · exact hs.elim
      · exact hs.elim
    · exact hs.elim
  · rename_i id m
    have hmx : umx = none := by cases umx <;> simp_all
    subst hmx
    split at hs
    · rename_i A hA
      split at hs
      · rename_i l hh hl hh'
        split at hs
        · rename_i e n y hsl
          obtain ⟨inf, z, hu, hin, hz, hzs, hp, _, rfl, _⟩ := sl_spec hsl
          simp only [Res.sem] at hs
          obtain ⟨⟨⟨h0, h1, h2⟩, hm, hsz⟩, hK⟩ := hs
          obtain ⟨hI, hc⟩ := h.share1 id
          have hsh : ∃ A', (share1 st.r id)[id]? = some A' ∧ A'.es = A.es ∧ A'.sh = true ∧ A'.sz = A.sz := by
            unfold share1
            rw [hA]
            exact ⟨_, set_at hA, rfl, rfl, rfl⟩
          obtain ⟨A', hA', ee, es', ez⟩ := hsh
          have hr := hI.rowData id A' hA' es'
          rw [ee] at hr
          cases hx with
          | arr _ _ _ h1' hv =>
            obtain ⟨A2, hA2, _, hv⟩ := hv
            rw [hA] at hA2
            injection hA2 with hA2
            subst hA2
            have e := hv hm
            rw [← e] at hr
            obtain ⟨_, hel, _⟩ := h.row id A hA
            have hr' := hr
            cases hr with
            | list B m' c sz _ f hn hcc hzz ha hone hrep =>
              have hn' : m' = A.es.length := hn
              subst hn'
              have hb := run_bounds (P := P) (w := w) true A.es.length c ulo uhi l hh (bound_run (st := st) hl hlo hln) (bound_run (st := st) hh' hhi hhn) h0 h1 h2 hcc.1
              refine OpOk.chg hc (ok_stay (st := { st with r := share1 st.r id }) hI hK (u := .slice (if c = l.toNat then B else B.map (·.add (l.toNat * inf.size))) (hh.toNat - l.toNat) (c - l.toNat)) ?_
                (.d _ _ (list_slice hr' rfl l.toNat hh.toNat inf.size (by omega) (by omega) (fun e he => by rw [hel e he, hsz]))))
              simp [Instr.sliceAt, run_underlying hu, Instr.slice, hb, sizeOf, typeInfo, hin]
        · exact hs.elim
      · exact hs.elim
    · exact hs.elim
  · rename_i s
    have hmx : umx = none := by cases umx <;> simp_all
    subst hmx
    split at hs
    · rename_i l hh hl hh'
      split at hs
      · rename_i hk
        have hu := kd_string hk
        simp only [Res.sem] at hs
        obtain ⟨⟨h0, h1, h2⟩, hK⟩ := hs
        have hr := hx.d_inv
        cases hr with
        | str s =>
          have hsz : s.data.toList.length = s.size := by simp
          rw [hsz] at h2 hh'
          have hb := run_bounds (P := P) (w := w) false s.size s.size ulo uhi l hh (bound_run hl hlo hln) (bound_run hh' hhi hhn) h0 h1 h2 (Nat.le_refl _)
          refine ok_stay h hK (u := .string (s.extract l.toNat hh.toNat)) ?_ (str_rep _ ?_)
          · simp [Instr.sliceAt, run_underlying hu, Instr.slice, hb]
          · rw [Lib.extract_data, List.drop_take]
      · exact hs.elim
    · exact hs.elim
  · have hmx : umx = none := by cases umx <;> simp_all
    subst hmx
    split at hs
    · rename_i l hh hl hh'
      split at hs
      · rename_i p hsl
        obtain ⟨e, n, y⟩ := p
        obtain ⟨inf, z, hu, hin, hz, hzs, hp, _, rfl, _⟩ := sl_spec hsl
        simp only [Res.sem] at hs
        obtain ⟨⟨rfl, rfl⟩, hK⟩ := hs
        cases hx
        have hb := run_bounds (P := P) (w := w) true 0 0 ulo uhi 0 0 (bound_run (st := st) hl hlo hln) (bound_run (st := st) hh' hhi hhn) (by omega) (by omega) (by omega) (Nat.le_refl _)
        refine ok_stay h hK (u := .slice none 0 0) ?_ .nilS
        simp [Instr.sliceAt, run_underlying hu, Instr.slice, hb, sizeOf, typeInfo, hin]
      · exact hs.elim
    · exact hs.elim
  · exact hs.elim

theorem not_iface {t : TypeId} (h3 : kd? P t ≠ 3) (h9 : kd? P t ≠ 9) : ∃ d, P.underlying t = some d ∧ ∀ ms, d ≠ .interface ms := by
  cases hu : P.underlying t with
  | none => simp [kd?, hu] at h9
  | some d =>
    refine ⟨d, rfl, fun ms e => ?_⟩
    subst e
    simp [kd?, hu] at h3
theorem assert_sound {ty xt : TypeId} {ok : Bool} {x : AV} {u : Value} (h : Inv w0 F M st.b st.r w) (hx : RepA w M st.r u x) (hs : (assertR P ty ok x st).sem K) : OpOk P w0 F M st.t st.r w (Instr.typeAssert u xt ty ok) K := by
  unfold assertR at hs
  split at hs
  · rename_i t d
    split at hs
    · rename_i hk
      obtain ⟨h3, h9, rfl⟩ := hk
      obtain ⟨dd, hu, hni⟩ := not_iface h3 h9
      simp only [Res.sem, true_and] at hs
      have hr := hx.d_inv
      cases hr with
      | iface _ v _ hv =>
        refine ok_stay h hs (u := .tuple #[v, .bool true]) ?_ (.tup _ _ rfl (fun i hi => ?_))
        · have hm : ∀ (A : Array (String × TypeId) → Sem Value) (B : Sem Value), (match dd with | .interface want => A want | _ => B) = B := by
            intro A B
            cases dd with
            | interface ms => exact absurd rfl (hni ms)
            | _ => rfl
          simp only [Instr.typeAssert, Sem.run_bind, run_underlying hu, Result.andThen_ok]
          cases dd with
          | interface ms => exact absurd rfl (hni ms)
          | _ => simp
        · have : i = 0 ∨ i = 1 := by simp at hi; omega
          rcases this with rfl | rfl
          · exact .d _ _ hv
          · exact .d _ _ (.bool true)
    · exact hs.elim
  · exact hs.elim

theorem bytes_spec : ∀ {es : List (List D)} {l : List UInt8}, bytesD es = some l → ∃ ns : List Int, es = ns.map (fun n => [.int .u8 n]) ∧ l = ns.map fun n => UInt8.ofNat n.toNat
  | [], l, h => by simp [bytesD] at h; subst h; exact ⟨[], rfl, rfl⟩
  | e :: es, l, h => by
    unfold bytesD at h
    split at h
    · rename_i e1; cases e1
    · rename_i n l' e1
      injection e1 with e1 e2
      subst e1; subst e2
      simp only [Option.map_eq_some_iff] at h
      obtain ⟨l2, h2, rfl⟩ := h
      obtain ⟨ns, rfl, rfl⟩ := bytes_spec h2
      exact ⟨n :: ns, rfl, rfl⟩
    · cases h

theorem kd_some {t : TypeId} (h : kd? P t ≠ 9) : (P.underlying t).isSome = true := by
  cases hu : P.underlying t with
  | none => simp [kd?, hu] at h
  | some d => rfl

theorem conv_sound {s t : TypeId} {x : AV} {u : Value} (h : Inv w0 F M st.b st.r w) (hx : RepA w M st.r u x) (hs : (convR P s t x st).sem K) : OpOk P w0 F M st.t st.r w (convert s t u) K := by
  unfold convR at hs
  split at hs
  · exact hs.elim
  rename_i h9
  have hex := kd_some h9
  split at hs
  · split at hs
    · rename_i k hk
      have hu := kd_int hk
      simp only [Res.sem, true_and] at hs
      have := hx.d_inv
      cases this
      obtain ⟨ds, hds⟩ := Option.isSome_iff_exists.1 hex
      exact ok_stay h hs (u := .int k _) (by simp [convert, run_underlying hds, run_underlying hu, Conv.intToInt]) (.d _ _ (.int _ _))
    · exact hs.elim
  · split at hs
    · rename_i hk
      have h1 := kd_string hk.1
      have h2 := kd_string hk.2
      simp only [Res.sem, true_and] at hs
      have hr := hx.d_inv
      cases hr
      exact ok_stay h hs (u := .string _) (by simp [convert, run_underlying h1, run_underlying h2]) hx
    · exact hs.elim
  · split at hs
    · rename_i hk
      have hd := kd_string hk
      have hr1 : ∀ k, k < [x].length → RepA w M st.r u ([x].getD k .undef) := fun k hk => by
        have e : k = 0 := by simpa using hk
        subst e
        exact hx
      obtain ⟨ds, hs, hl, hI, hc, hrep⟩ := toDR_sound h (fun _ => u) hr1 hs
      split at hs
      · rename_i es e n y hsl
        obtain ⟨inf, z, hu, hin, hz, hzs, hp, _, rfl, _⟩ := sl_spec hsl
        split at hs
        · rename_i hk8
          have he8 : P.underlying e = some (.int .u8) := kd_int (k := .u8) (by rw [hk8]; rfl)
          split at hs
          · rename_i l hb
            simp only [Res.sem, true_and] at hs
            obtain ⟨ns, rfl, rfl⟩ := bytes_spec hb
            have hd0 := hrep 0 (by simp)
            refine OpOk.chg hc (ok_stay (st := { st with r := share st.r (arrIdsL [x]) }) hI hs (u := .string (strOfNums ns)) ?_ (str_rep _ (by simp [strOfNums])))
            have hd0' : Rep w (Okc M (share st.r (arrIdsL [x]))) u (.list (ns.map fun n => [.int .u8 n])) := hd0
            cases hd0' with
            | list A m c sz _ f hn hcc hzz ha hone hrr =>
              have hm : m = ns.length := by simpa using hn
              subst hm
              rcases Nat.eq_zero_or_pos ns.length with h0 | h0
              · have hnil : ns = [] := List.eq_nil_of_length_eq_zero h0
                subst hnil
                rw [run_convert_bytes_string w s t e A _ c hu he8 hd]
                cases A <;> simp [Conv.bytesToString, loadCells, loadCellsFrom, strOfNums] <;> rfl
              · obtain ⟨a, rfl, hsp, hcell⟩ := ha h0
                obtain ⟨b, o, sp⟩ := a
                simp at hsp
                subst hsp
                have hgd : ∀ i, i < ns.length → (ns.map fun n => [D.int .u8 n]).getD i [] = [D.int .u8 (ns.getD i 0)] := fun i hi => by simp [List.getD, hi]
                have hsz : sz = 1 := by rw [← hzz 0 h0, hgd 0 h0]; rfl
                subst hsz
                refine run_convert_bytes_arg (w := w) s e hu he8 b o ns.length c ns rfl (fun i hi => ?_) t hd
                have h1 := (hcell i 0 hi (by omega)).1
                have h2 := hrr i 0 hi (by omega)
                rw [hgd i hi] at h2
                rw [Addr.add_lit] at h1
                generalize f i 0 = v at h1 h2
                have h2' : Rep w (Okc M (share st.r (arrIdsL [x]))) v (.int .u8 (ns.getD i 0)) := h2
                cases h2'
                simpa using h1
          · exact hs.elim
        · exact hs.elim
      · exact hs.elim
    · exact hs.elim

theorem len_sound {t : TypeId} {x : AV} {u : Value} (h : Inv w0 F M st.b st.r w) (hx : RepA w M st.r u x) (hs : (lenR P t x st).sem K) : OpOk P w0 F M st.t st.r w (Builtin.len_ #[t] 0 #[u]) K := by
  have hslice : kd? P t = 6 → ∀ A n c, (Builtin.len_ #[t] 0 #[.slice A n c]).run P w = .ok (.int .i64 n) w := fun hk A n c => by
    obtain ⟨e, hu⟩ := kd_slice hk
    simp [Builtin.len_, run_underlying hu, goInt]
  unfold lenR at hs
  split at hs
  · split at hs
    · rename_i hk
      simp only [Res.sem, true_and] at hs
      have hr := hx.d_inv
      cases hr with
      | list A n c sz es f hn hc hz ha h1 hr =>
        subst hn
        exact ok_stay h hs (hslice hk _ _ _) (.d _ _ (.int _ _))
    · exact hs.elim
  · split at hs
    · rename_i hk
      simp only [Res.sem, true_and] at hs
      cases hx
      exact ok_stay h hs (hslice hk _ _ _) (.d _ _ (.int _ _))
    · exact hs.elim
  · split at hs
    · rename_i hk
      split at hs
      · rename_i A hA
        simp only [Res.sem] at hs
        cases hx with
        | arr _ _ _ h1 hv =>
          obtain ⟨A2, hA2, _, hv⟩ := hv
          rw [hA] at hA2
          injection hA2 with hA2
          subst hA2
          have e := hv hs.1
          obtain ⟨_, _, xs, ho, _⟩ := h.row _ A hA
          rcases ho.2 with ⟨e1, e2⟩ | ⟨g, cap, cur, e1, _⟩
          · rw [e, e1]
            refine ok_stay h hs.2 (u := .int .i64 _) (by rw [hslice hk, hs.1, e2]) (.d _ _ (.int _ _))
          · rw [e, e1]
            refine ok_stay h hs.2 (u := .int .i64 _) (by rw [hslice hk, hs.1]) (.d _ _ (.int _ _))
      · exact hs.elim
    · exact hs.elim
  · split at hs
    · rename_i hk
      have hu := kd_string hk
      simp only [Res.sem, true_and] at hs
      have hr := hx.d_inv
      cases hr
      refine ok_stay h hs (u := .int .i64 _) (by simp [Builtin.len_, run_underlying hu, goInt]) (.d _ _ (.int _ _))
    · exact hs.elim
  · exact hs.elim

theorem mm_sound {mx : Bool} {x y : AV} {u v : Value} {ats : Array TypeId} {t : TypeId} (h : Inv w0 F M st.b st.r w) (hx : RepA w M st.r u x) (hy : RepA w M st.r v y) (hs : (mmR mx x y st).sem K) :
    OpOk P w0 F M st.t st.r w (if mx then Builtin.max_ ats t #[u, v] else Builtin.min_ ats t #[u, v]) K := by
  unfold mmR at hs
  split at hs
  · rename_i k a k' b
    simp only [Res.sem, true_and] at hs
    have e1 := hx.d_inv
    have e2 := hy.d_inv
    cases e1; cases e2
    cases mx
    · refine ok_stay h hs (u := .int k (min a b)) ?_ (.d _ _ (.int _ _))
      simp [Builtin.min_, Builtin.min2]
      rw [Int.min_def]
      split <;> split <;> first | rfl | omega
    · refine ok_stay h hs (u := .int k (max a b)) ?_ (.d _ _ (.int _ _))
      simp [Builtin.max_, Builtin.max2]
      rw [Int.max_def]
      split <;> split <;> first | rfl | omega
  · rename_i a b
    cases mx
    · simp only [Res.sem, true_and, Bool.false_eq_true, if_false] at hs
      have e1 := hx.d_inv
      have e2 := hy.d_inv
      cases e1 with
      | str s =>
        cases e2 with
        | str s' =>
          have ea : s.toList = s.data.toList := ByteArray.toList_eq s
          have eb : s'.toList = s'.data.toList := ByteArray.toList_eq s'
          cases e : (Op.bytesLess s.data.toList s'.data.toList || decide (s.data.toList = s'.data.toList))
          · rw [e] at hs
            refine ok_stay h hs (u := .string s') ?_ (str_rep _ (by simp))
            have e' : (Op.stringOp .leq s s').run P w = .ok (.bool false) w := by simp only [Op.stringOp, ea, eb, beq_dec, e]; rfl
            simp [Builtin.min_, Builtin.min2, e', asBool]
          · rw [e] at hs
            refine ok_stay h hs (u := .string s) ?_ (str_rep _ (by simp))
            have e' : (Op.stringOp .leq s s').run P w = .ok (.bool true) w := by simp only [Op.stringOp, ea, eb, beq_dec, e]; rfl
            simp [Builtin.min_, Builtin.min2, e', asBool]
    · exact hs.elim
  · exact hs.elim
end
end Go.PE
