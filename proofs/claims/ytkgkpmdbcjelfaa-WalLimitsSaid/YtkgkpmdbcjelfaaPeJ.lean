/- The evaluator is right, 6: arithmetic, strings, slices, append and the rest (see PeA, PeD). -/
import Derived.Test.YtkgkpmdbcjelfaaPeI
set_option linter.unusedVariables false
set_option linter.unusedSimpArgs false
namespace Go.PE
open Go

section
variable {P : Program} {w0 : World} {F : List Nat} {M : Mem} {st : St} {w : World} {K : AV → St → Prop}

theorem assign_sound {t : TypeId} {x : AV} {u : Value} (h : Inv w0 F M st.b st.r w) (hx : RepA w M st.r u x) (hs : (assignR P t x st).sem K) : OpOk P w0 F M st.t st.r w (pure u) K := by
  unfold assignR at hs
  split at hs
  · split at hs
    · rename_i e n y hsl
      obtain ⟨inf, z, hu, hin, hz, hzs, hp, _, rfl, _⟩ := sl_spec hsl
      simp only [Res.sem, true_and] at hs
      cases hx
      refine newRow_ok h (A := ⟨inf.size, e, [], false⟩) hp (fun e' he' => by cases he') (w' := w) ⟨rfl, rfl, rfl, Nat.le_refl _, fun _ _ _ => rfl⟩ (u := .slice none 0 0) (xs := []) (World.ownsRow_nil w 0 e inf.size) (fun x hx => by cases hx)
        (fun k j hk => absurd hk (by simp)) (fun g hg => by simp [Value.ownBlock] at hg) (by simp) hs
    · simp only [Res.sem, true_and] at hs
      exact ok_stay h hs (by simp) hx
  · simp only [Res.sem, true_and] at hs
    exact ok_stay h hs (by simp) hx

theorem pick_sound {c x y : AV} {uc ux uy : Value} (h : Inv w0 F M st.b st.r w) (hc : RepA w M st.r uc c) (hx : RepA w M st.r ux x) (hy : RepA w M st.r uy y) (hs : (pickR c x y st).sem K) :
    OpOk P w0 F M st.t st.r w (do pure (if ← asBool uc then ux else uy)) K := by
  unfold pickR at hs
  split at hs
  · rename_i b
    simp only [Res.sem, true_and] at hs
    have := hc.d_inv
    cases this
    cases b
    · exact ok_stay h hs (u := uy) (by simp [asBool]) (by simpa using hy)
    · exact ok_stay h hs (u := ux) (by simp [asBool]) (by simpa using hx)
  · exact hs.elim

theorem nilCheck_sound {ρ : Operand → Value} {o : Oper} {x : Operand} {xa : AV} (ho : o.op = .nilCheck x) (hx : RepA w M st.r (ρ x) xa) (hs : (nilCheckR xa st).sem K) :
    ∃ u, K xa st ∧ (execOp ρ o).run P w = .ok (.value u) w ∧ RepA w M st.r u xa := by
  obtain ⟨d, op, ty, p, a, g⟩ := o
  simp only at ho
  subst ho
  unfold nilCheckR at hs
  split at hs
  case h_3 => exact hs.1.elim
  case h_5 => exact hs.elim
  all_goals
    refine ⟨ρ x, hs.2, ?_, hx⟩
    generalize hu : ρ x = u at hx ⊢
    cases hx
    unfold execOp
    dsimp only
    rw [hu]
    rfl

theorem extract_sound {x : AV} {u : Value} {i : Nat} (h : Inv w0 F M st.b st.r w) (hx : RepA w M st.r u x) (hs : (extractR x i st).sem K) : OpOk P w0 F M st.t st.r w (Instr.extract u i) K := by
  unfold extractR at hs
  split at hs
  · rename_i cs
    split at hs
    · rename_i c hc
      simp only [Res.sem, true_and] at hs
      cases hx with
      | tup vs _ hsz hr =>
        have hi : i < cs.length := (List.getElem?_eq_some_iff.1 hc).1
        have hi' : i < vs.size := by omega
        have e : vs.getD i undef = vs[i] := by simp [Array.getD, hi']
        have e2 : cs.getD i .undef = c := by simp [List.getD, hc]
        refine ok_stay h hs (u := vs[i]) (by simp [Instr.extract, hi']) ?_
        rw [← e2, ← e]
        exact hr i hi
    · exact hs.elim
  · exact hs.elim

theorem mkIf_sound {t : TypeId} {x : AV} {u : Value} (h : Inv w0 F M st.b st.r w) (hx : RepA w M st.r u x) (hs : (mkIfR P t x st).sem K) : OpOk P w0 F M st.t st.r w (Instr.makeInterface t u) K := by
  unfold mkIfR at hs
  split at hs
  · exact hs.elim
  · rename_i hk
    have hrun : (Instr.makeInterface t u).run P w = .ok (.iface t u) w := by
      cases hu : P.underlying t with
      | none => simp [kd?, hu] at hk
      | some d => cases d <;> first | (simp [kd?, hu] at hk; done) | simp [Instr.makeInterface, run_underlying hu]
    split at hs <;> simp only [Res.sem, true_and] at hs
    · exact ok_stay h hs hrun (.d _ _ (.iface _ _ _ hx.d_inv))
    · exact ok_stay h hs hrun (.iface _ _ _ hx)

theorem field_sound {t : TypeId} {f : Nat} {x : AV} {u : Value} (h : Inv w0 F M st.b st.r w) (hx : RepA w M st.r u x) (hs : (fieldR P t x f st).sem K) : OpOk P w0 F M st.t st.r w (Instr.field t u f) K := by
  unfold fieldR at hs
  split at hs
  · rename_i o ft hf
    obtain ⟨fs, fd, i, hu, hfd, rfl, rfl, hi, hz⟩ := fo_spec hf
    split at hs
    · rename_i g n hty
      obtain ⟨i', hi', hsz, hg1, hg⟩ := ty_info hty
      rw [hi] at hi'
      injection hi' with hi'
      subst hi'
      simp only [Res.sem] at hs
      obtain ⟨⟨hl, hone⟩, hK⟩ := hs
      -- the value is a struct
      have hagg : ∃ vs, u = .agg vs ∧ CellsOk w M st.r vs (cellsA x) := by
        cases x with
        | d x =>
          cases x with
          | agg cs =>
            have := hx.d_inv
            cases this with
            | agg vs _ hs' h1 hr =>
              exact ⟨vs, rfl, by simpa [cellsA] using hs', fun j hj => h1 j (by simpa [cellsA] using hj), fun j hj => by
                simp only [cellsA, List.length_map] at hj
                rw [cellsA, getD_map_d _ _ hj]
                exact .d _ _ (hr j hj)⟩
          | _ => simp [aggA] at hone
        | agg cs =>
          cases hx with
          | agg vs _ hs' h1 hr => exact ⟨vs, rfl, hs', h1, hr⟩
        | _ => simp [aggA] at hone
      obtain ⟨vs, rfl, hc⟩ := hagg
      have hsub := hc.sub fd.offset n hl
      refine ok_stay h hK (u := mkVal g (vs.extract fd.offset (fd.offset + n))) ?_ ?_
      · subst hsz
        have := run_part (w := w) hi hg hg1 vs fd.offset (by rw [hc.size]; exact hl)
        simp only [Instr.field, Sem.run_bind, run_underlying hu, Result.andThen_ok, hfd, asAgg, Sem.run_pure]
        exact this
      · have e : vs.extract fd.offset (fd.offset + n) = ((vs.toList.drop fd.offset).take n).toArray := by
          apply Array.ext'
          simp [List.drop_take]
        rw [e]
        exact mkV_rep hsub (fun e => by rw [len_sub _ _ _ hl]; exact hg1 e)
    · exact hs.elim
  · exact hs.elim

/-! ### arithmetic -/
theorem int_sound {op : BinOp} {t : TypeId} {x y : Operand} {k k' : IntKind} {a b : Int} (h : Inv w0 F M st.b st.r w) (hs : (intR op k a k' b st).sem K) :
    OpOk P w0 F M st.t st.r w (do eqGuard op t x y (.int k a) (.int k' b); binOp op t (.int k a) (.int k' b)) K := by
  have hg : (eqGuard op t x y (.int k a) (.int k' b)).run P w = .ok () w := by cases op <;> simp [eqGuard]
  have fin : ∀ u v, K v st → (binOp op t (.int k a) (.int k' b)).run P w = .ok u w → RepA w M st.r u v → OpOk P w0 F M st.t st.r w (do eqGuard op t x y (.int k a) (.int k' b); binOp op t (.int k a) (.int k' b)) K :=
    fun u v hK hr hv => ok_stay h hK (by simp only [Sem.run_bind, hg, Result.andThen_ok]; exact hr) hv
  have hne : ∀ (op : BinOp), op ≠ .shl → op ≠ .shr → k = k' → binOp op t (.int k a) (.int k' b) = (match op with
      | .add | .sub | .mul => Op.intArith op k a b
      | .quo | .rem => Op.intDiv op k a b
      | .and | .or | .xor | .andNot => Op.intBits op k a b
      | _ => Op.intCmp op a b) := by
    intro op h1 h2 h3
    subst h3
    cases op <;> first | exact absurd rfl h1 | exact absurd rfl h2 | simp [binOp]
  unfold intR at hs
  split at hs <;> simp only [Res.sem] at hs <;> obtain ⟨hp, hK⟩ := hs
  · exact fin (.int k (k.wrap (a + b))) _ hK (by rw [hne _ (by simp) (by simp) hp]; rfl) (.d _ _ (.int _ _))
  · exact fin (.int k (k.wrap (a - b))) _ hK (by rw [hne _ (by simp) (by simp) hp]; rfl) (.d _ _ (.int _ _))
  · exact fin (.int k (k.wrap (a * b))) _ hK (by rw [hne _ (by simp) (by simp) hp]; rfl) (.d _ _ (.int _ _))
  · exact fin (.int k (k.wrap (a.tdiv b))) _ hK (by rw [hne _ (by simp) (by simp) hp.1]; simp [Op.intDiv, hp.2]) (.d _ _ (.int _ _))
  · exact fin (.int k (a.tmod b)) _ hK (by rw [hne _ (by simp) (by simp) hp.1]; simp [Op.intDiv, hp.2]) (.d _ _ (.int _ _))
  · exact fin (.int k (bitsI .and k a b)) _ hK (by rw [hne _ (by simp) (by simp) hp]; rfl) (.d _ _ (.int _ _))
  · exact fin (.int k (bitsI .or k a b)) _ hK (by rw [hne _ (by simp) (by simp) hp]; rfl) (.d _ _ (.int _ _))
  · exact fin (.int k (bitsI .xor k a b)) _ hK (by rw [hne _ (by simp) (by simp) hp]; rfl) (.d _ _ (.int _ _))
  · exact fin (.int k (bitsI .andNot k a b)) _ hK (by rw [hne _ (by simp) (by simp) hp]; rfl) (.d _ _ (.int _ _))
  · have hb : ¬ b < 0 := by omega
    exact fin (.int k (k.wrap (a * 2 ^ (min b.toNat k.bits)))) _ hK (by show (Op.shift .shl k a k' b).run P w = _; simp [Op.shift, hb]) (.d _ _ (.int _ _))
  · have hb : ¬ b < 0 := by omega
    exact fin (.int k (a.fdiv (2 ^ (min b.toNat k.bits)))) _ hK (by show (Op.shift .shr k a k' b).run P w = _; simp [Op.shift, hb]) (.d _ _ (.int _ _))
  · exact fin (.bool (decide (a = b))) _ hK (by rw [hne _ (by simp) (by simp) hp]; simp [Op.intCmp, beq_dec]) (.d _ _ (.bool _))
  · exact fin (.bool (decide (a ≠ b))) _ hK (by rw [hne _ (by simp) (by simp) hp]; simp [Op.intCmp, bne, beq_dec]) (.d _ _ (.bool _))
  · exact fin (.bool (decide (a < b))) _ hK (by rw [hne _ (by simp) (by simp) hp]; rfl) (.d _ _ (.bool _))
  · exact fin (.bool (decide (a ≤ b))) _ hK (by rw [hne _ (by simp) (by simp) hp]; rfl) (.d _ _ (.bool _))
  · exact fin (.bool (decide (b < a))) _ hK (by rw [hne _ (by simp) (by simp) hp]; rfl) (.d _ _ (.bool _))
  · exact fin (.bool (decide (b ≤ a))) _ hK (by rw [hne _ (by simp) (by simp) hp]; rfl) (.d _ _ (.bool _))

theorem str_rep {r : List Arr} (s : ByteArray) {l : List UInt8} (e : s.data.toList = l) : RepA w M r (.string s) (.d (.str l)) := by
  subst e
  exact .d _ _ (.str s)

theorem str_sound {op : BinOp} {t : TypeId} {x y : Operand} {a b : ByteArray} (h : Inv w0 F M st.b st.r w) (hs : (strR op a.data.toList b.data.toList st).sem K) :
    OpOk P w0 F M st.t st.r w (do eqGuard op t x y (.string a) (.string b); binOp op t (.string a) (.string b)) K := by
  have hg : (eqGuard op t x y (.string a) (.string b)).run P w = .ok () w := by cases op <;> simp [eqGuard]
  have fin : ∀ u v, K v st → (binOp op t (.string a) (.string b)).run P w = .ok u w → RepA w M st.r u v → OpOk P w0 F M st.t st.r w (do eqGuard op t x y (.string a) (.string b); binOp op t (.string a) (.string b)) K :=
    fun u v hK hr hv => ok_stay h hK (by simp only [Sem.run_bind, hg, Result.andThen_ok]; exact hr) hv
  have ea : a.toList = a.data.toList := ByteArray.toList_eq a
  have eb : b.toList = b.data.toList := ByteArray.toList_eq b
  have sa : a.data.toList.length = a.size := by simp
  have sb : b.data.toList.length = b.size := by simp
  unfold strR at hs
  split at hs <;> simp only [Res.sem] at hs
  · obtain ⟨hp, hK⟩ := hs
    refine fin (.string (a ++ b)) _ hK ?_ (str_rep _ (by simp [ByteArray.data_append]))
    have : ¬ (IntKind.i64.max < ((a.size : Int) + (b.size : Int))) := by
      simp [IntKind.max, IntKind.signed, IntKind.bits]
      omega
    simp [binOp, Op.stringOp, this]
    omega
  · exact fin (.bool (decide (a.data.toList = b.data.toList))) _ hs.2 (by simp only [binOp, Op.stringOp, ea, eb, beq_dec]; simp) (.d _ _ (.bool _))
  · exact fin (.bool (decide (a.data.toList ≠ b.data.toList))) _ hs.2 (by simp only [binOp, Op.stringOp, ea, eb, beq_dec]; simp) (.d _ _ (.bool _))
  · exact fin (.bool (Op.bytesLess a.data.toList b.data.toList)) _ hs.2 (by simp only [binOp, Op.stringOp, ea, eb, beq_dec]; simp) (.d _ _ (.bool _))
  · exact fin (.bool (Op.bytesLess a.data.toList b.data.toList || decide (a.data.toList = b.data.toList))) _ hs.2 (by simp only [binOp, Op.stringOp, ea, eb, beq_dec]; simp) (.d _ _ (.bool _))
  · exact fin (.bool (!(Op.bytesLess a.data.toList b.data.toList || decide (a.data.toList = b.data.toList)))) _ hs.2 (by simp only [binOp, Op.stringOp, ea, eb, beq_dec]; simp) (.d _ _ (.bool _))
  · exact fin (.bool (!Op.bytesLess a.data.toList b.data.toList)) _ hs.2 (by simp only [binOp, Op.stringOp, ea, eb, beq_dec]; simp) (.d _ _ (.bool _))

theorem un_sound {op : UnOp} {x : AV} {u : Value} (h : Inv w0 F M st.b st.r w) (hx : RepA w M st.r u x) (hs : (unR op x st).sem K) : OpOk P w0 F M st.t st.r w (Op.unary op u) K := by
  unfold unR at hs
  split at hs <;> simp only [Res.sem, true_and] at hs
  · have := hx.d_inv
    cases this
    exact ok_stay h hs (u := .bool _) (by simp [Op.unary]) (.d _ _ (.bool _))
  · have := hx.d_inv
    cases this
    exact ok_stay h hs (u := .int _ _) (by simp [Op.unary, Op.intArith]) (.d _ _ (.int _ _))

theorem kd_iface {t : TypeId} (h : kd? P t = 3) : ∃ ms, P.underlying t = some (.interface ms) := by
  cases hu : P.underlying t with
  | none => simp [kd?, hu] at h
  | some d =>
    cases d with
    | interface ms => exact ⟨ms, rfl⟩
    | int k => simp only [kd?, hu] at h; cases k <;> cases h
    | struct fs => simp only [kd?, hu] at h; split at h <;> cases h
    | _ => simp [kd?, hu] at h
theorem kd_bool {t : TypeId} (h : kd? P t = 1) : P.underlying t = some .bool := by
  cases hu : P.underlying t with
  | none => simp [kd?, hu] at h
  | some d =>
    cases d with
    | bool => rfl
    | int k => simp only [kd?, hu] at h; cases k <;> cases h
    | struct fs => simp only [kd?, hu] at h; split at h <;> cases h
    | _ => simp [kd?, hu] at h
theorem kd_string {t : TypeId} (h : kd? P t = 0) : P.underlying t = some .string := by
  cases hu : P.underlying t with
  | none => simp [kd?, hu] at h
  | some d =>
    cases d with
    | string => rfl
    | int k => simp only [kd?, hu] at h; cases k <;> cases h
    | struct fs => simp only [kd?, hu] at h; split at h <;> cases h
    | _ => simp [kd?, hu] at h
theorem kd_slice {t : TypeId} (h : kd? P t = 6) : ∃ e, P.underlying t = some (.slice e) := by
  cases hu : P.underlying t with
  | none => simp [kd?, hu] at h
  | some d =>
    cases d with
    | slice e => exact ⟨e, rfl⟩
    | int k => simp only [kd?, hu] at h; cases k <;> cases h
    | struct fs => simp only [kd?, hu] at h; split at h <;> cases h
    | _ => simp [kd?, hu] at h
theorem kd_struct {t : TypeId} (h : kd? P t = 7) : ∃ fs, P.underlying t = some (.struct fs) := by
  cases hu : P.underlying t with
  | none => simp [kd?, hu] at h
  | some d =>
    cases d with
    | struct fs => exact ⟨fs, rfl⟩
    | int k => simp only [kd?, hu] at h; cases k <;> cases h
    | _ => simp [kd?, hu] at h
theorem kd_int {t : TypeId} {k : IntKind} (h : ik (kd? P t) = some k) : P.underlying t = some (.int k) := by
  cases hu : P.underlying t with
  | none => simp [kd?, hu, ik] at h
  | some d =>
    cases d with
    | int k' => simp only [kd?, hu] at h; cases k' <;> simp [ik] at h <;> subst h <;> rfl
    | struct fs => simp only [kd?, hu] at h; split at h <;> simp [ik] at h
    | _ => simp [kd?, hu, ik] at h

theorem eq_sound {neg : Bool} {t : TypeId} {x y : Operand} {u v : Value} {a b : D} (h : Inv w0 F M st.b st.r w) (hx : Rep w (Okc M st.r) u a) (hy : Rep w (Okc M st.r) v b) (hs : (eqR P neg (isC x || isC y) t a b st).sem K) :
    OpOk P w0 F M st.t st.r w (do eqGuard (if neg then .neq else .eql) t x y u v; binOp (if neg then .neq else .eql) t u v) K := by
  have fin : ∀ (c : Bool), K (.d (.bool (c != neg))) st → (eqGuard (if neg then .neq else .eql) t x y u v).run P w = .ok () w → (Op.equal t u v).run P w = .ok c w → (∀ k n, u ≠ .int k n) → (∀ s, u ≠ .string s) → (∀ k z, u ≠ .float k z) → (∀ k z z', u ≠ .complex k z z') →
      OpOk P w0 F M st.t st.r w (do eqGuard (if neg then .neq else .eql) t x y u v; binOp (if neg then .neq else .eql) t u v) K := by
    intro c hK hg he h1 h2 h3 h4
    have hb : (binOp (if neg then .neq else .eql) t u v).run P w = .ok (.bool (c != neg)) w := by
      cases neg
      · have e : binOp .eql t u v = (do pure (.bool (← Op.equal t u v))) := by
          cases u <;> first | rfl | exact absurd rfl (h1 _ _) | exact absurd rfl (h2 _) | exact absurd rfl (h3 _ _) | exact absurd rfl (h4 _ _ _)
        simp [e, he]
      · have e : binOp .neq t u v = (do pure (.bool (!(← Op.equal t u v)))) := by
          cases u <;> first | rfl | exact absurd rfl (h1 _ _) | exact absurd rfl (h2 _) | exact absurd rfl (h3 _ _) | exact absurd rfl (h4 _ _ _)
        simp [e, he]
    exact ok_stay h hK (by simp only [Sem.run_bind, hg, Result.andThen_ok]; exact hb) (.d _ _ (.bool _))
  unfold eqR at hs
  split at hs
  · split at hs
    · rename_i hk
      simp only [Res.sem, true_and] at hs
      cases hx; cases hy
      refine fin _ hs (by cases neg <;> simp [eqGuard]) (run_equalIn_bool' w 9999 t _ _ (kd_bool hk)) (by simp) (by simp) (by simp) (by simp)
    · exact hs.elim
  · split at hs
    · rename_i hkc
      obtain ⟨hk, hc⟩ := hkc
      obtain ⟨ms, hu⟩ := kd_iface hk
      simp only [Res.sem, true_and] at hs
      cases hx; cases hy
      refine fin true (by simpa using hs) (by cases neg <;> cases x <;> cases y <;> simp [eqGuard, isC] at hc ⊢) (by show (Op.equalIn (9999 + 1) t _ _).run P w = _; rw [Op.equalIn]; simp [run_underlying hu]) (by simp) (by simp) (by simp) (by simp)
    · exact hs.elim
  · split at hs
    · rename_i hk
      obtain ⟨ms, hu⟩ := kd_iface hk
      simp only [Res.sem, true_and] at hs
      cases hx; cases hy
      refine fin false (by simpa using hs) (by cases neg <;> simp [eqGuard]) (by show (Op.equalIn (9999 + 1) t _ _).run P w = _; rw [Op.equalIn]; simp [run_underlying hu]) (by simp) (by simp) (by simp) (by simp)
    · exact hs.elim
  · split at hs
    · rename_i hk
      obtain ⟨ms, hu⟩ := kd_iface hk
      simp only [Res.sem, true_and] at hs
      cases hx; cases hy
      refine fin false (by simpa using hs) (by cases neg <;> simp [eqGuard]) (by show (Op.equalIn (9999 + 1) t _ _).run P w = _; rw [Op.equalIn]; simp [run_underlying hu]) (by simp) (by simp) (by simp) (by simp)
    · exact hs.elim
  · split at hs
    · rename_i ks hks
      split at hs
      · rename_i hfit
        split at hs
        · rename_i c hc
          simp only [Res.sem, true_and] at hs
          unfold cellsT at hks
          split at hks
          · rename_i hd
            have hfit2 := hfit.2
            simp only [Bool.and_eq_true] at hfit2
            cases hx with
            | agg vs _ hsz h1 hr =>
              cases hy with
              | agg us _ hsz' h1' hr' =>
                obtain ⟨g, i, hty, hi, hg, hg1, hkl⟩ := cellK_size 20 t ks hks
                have hgt : g = true := by
                  obtain ⟨fs, hu⟩ := kd_struct hfit.1
                  have h1 := hg w
                  simp [isAgg, run_underlying hu] at h1
                  exact h1
                subst hgt
                refine fin c hs ?_ ?_ (by simp) (by simp) (by simp) (by simp)
                · exact run_eqGuard_agg w _ t x y vs us (cellK_guard 20 t ks hks _ hd)
                · exact eq_flat 20 t ks hks 10000 (by omega) true hg vs us _ _ c ⟨hsz, hr⟩ ⟨hsz', hr'⟩ hfit2.1 hfit2.2 hc
          · cases hks
        · exact hs.elim
      · exact hs.elim
    · exact hs.elim
  · exact hs.elim
end
end Go.PE
