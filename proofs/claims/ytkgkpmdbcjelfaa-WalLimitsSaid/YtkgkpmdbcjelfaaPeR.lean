/- The evaluator of code is right, 1: operations (see PeQ). -/
import Derived.Test.YtkgkpmdbcjelfaaPeQ
import Derived.Tactics
import Derived.Orders
set_option linter.unusedVariables false
set_option linter.unusedSimpArgs false
namespace Go.PE
open Go

theorem St.wT_wT (st : St) (t t' : List AV) : (st.wT t).wT t' = st.wT t' := rfl
theorem St.wT_t (st : St) : st.wT st.t = st := rfl

theorem opR_self {P : Program} (o : Oper) (st : St) : (opR P o st).setT st.t = opR P o st := by
  have := opR_t (P := P) st.t st o (fun _ _ => rfl)
  exact this.symm

theorem plain_call {R : Res} (h : R.plain = true) {g : FuncId} {args : List AV} {st' : St} : R ≠ .call g args st' := by
  intro e; rw [e] at h; cases h
theorem plain_panic {R : Res} (h : R.plain = true) {x : AV} {st' : St} : R ≠ .panic x st' := by
  intro e; rw [e] at h; cases h

theorem pl_builtin {P : Program} (b : Builtin) (ats : List TypeId) (args : List AV) (st : St) : (builtinR P b ats args st).plain = true := by
  unfold builtinR lenR appendR mmR
  repeat' split
  all_goals rfl

theorem opR_call_st {P : Program} {o : Oper} {st st' : St} {g : FuncId} {args : List AV} (h : opR P o st = .call g args st') : st' = st := by
  obtain ⟨d, op, ty, p, ar, gd⟩ := o
  cases op with
  | call c =>
    obtain ⟨callee, cargs, ats⟩ := c
    cases callee with
    | builtin b => exact absurd h (plain_call (pl_builtin _ _ _ _))
    | value f =>
      simp only [opR, callR] at h
      split at h
      · injection h with _ _ h; exact h.symm
      · cases h
    | invoke recv n =>
      simp only [opR, callR, invokeR] at h
      repeat' (split at h)
      all_goals first | cases h; done | (injection h with _ _ h; exact h.symm)
  | panic x =>
    simp only [opR, panicR] at h
    repeat' (split at h)
    all_goals cases h
  | move x => cases h
  | assign x => exact absurd h (plain_call (pl_assign _ _ _))
  | pick c x y => exact absurd h (plain_call (pl_pick _ _ _ _))
  | alloc t => exact absurd h (plain_call (pl_alloc _ _))
  | box t x => cases h
  | build t ps => exact absurd h (plain_call (pl_build _ _ _))
  | buildSlice t n ps => exact absurd h (plain_call (pl_bslice _ _ _ _))
  | load t x => exact absurd h (plain_call (pl_load _ _ _))
  | store t x y => exact absurd h (plain_call (pl_store _ _ _ _))
  | nilCheck x => exact absurd h (plain_call (pl_nilCheck _ _))
  | binOp op t x y e => exact absurd h (plain_call (pl_bin _ _ _ _ _ _))
  | unOp op t x => exact absurd h (plain_call (pl_un _ _ _))
  | convert s t x => exact absurd h (plain_call (pl_conv _ _ _ _))
  | makeInterface t x => exact absurd h (plain_call (pl_mkIf _ _ _))
  | makeFunc f xs ys => cases h
  | makeSlice t x y => exact absurd h (plain_call (pl_mkSlice _ _ _ _))
  | slice t x lo hi mx => exact absurd h (plain_call (pl_slice _ _ _ _ _ _))
  | fieldAddr t x f => exact absurd h (plain_call (pl_fieldAddr _ _ _ _))
  | field t x f => exact absurd h (plain_call (pl_field _ _ _ _))
  | indexAddr t x i => exact absurd h (plain_call (pl_indexAddr _ _ _ _))
  | index t x i => exact absurd h (plain_call (pl_index _ _ _ _))
  | typeAssert x xt ty ok => exact absurd h (plain_call (pl_assert _ _ _ _))
  | extract x i => exact absurd h (plain_call (pl_extract _ _ _))
  | _ => cases h

theorem opR_panic_st {P : Program} {o : Oper} {st st' : St} {x : AV} (h : opR P o st = .panic x st') : st' = st := by
  obtain ⟨d, op, ty, p, ar, gd⟩ := o
  cases op with
  | call c =>
    obtain ⟨callee, cargs, ats⟩ := c
    cases callee with
    | builtin b => exact absurd h (plain_panic (pl_builtin _ _ _ _))
    | value f =>
      simp only [opR, callR] at h
      split at h <;> cases h
    | invoke recv n =>
      simp only [opR, callR, invokeR] at h
      repeat' (split at h)
      all_goals cases h
  | panic x =>
    simp only [opR, panicR] at h
    repeat' (split at h)
    all_goals first | cases h; done | (injection h with _ h; exact h.symm)
  | move x => cases h
  | assign x => exact absurd h (plain_panic (pl_assign _ _ _))
  | pick c x y => exact absurd h (plain_panic (pl_pick _ _ _ _))
  | alloc t => exact absurd h (plain_panic (pl_alloc _ _))
  | box t x => cases h
  | build t ps => exact absurd h (plain_panic (pl_build _ _ _))
  | buildSlice t n ps => exact absurd h (plain_panic (pl_bslice _ _ _ _))
  | load t x => exact absurd h (plain_panic (pl_load _ _ _))
  | store t x y => exact absurd h (plain_panic (pl_store _ _ _ _))
  | nilCheck x => exact absurd h (plain_panic (pl_nilCheck _ _))
  | binOp op t x y e => exact absurd h (plain_panic (pl_bin _ _ _ _ _ _))
  | unOp op t x => exact absurd h (plain_panic (pl_un _ _ _))
  | convert s t x => exact absurd h (plain_panic (pl_conv _ _ _ _))
  | makeInterface t x => exact absurd h (plain_panic (pl_mkIf _ _ _))
  | makeFunc f xs ys => cases h
  | makeSlice t x y => exact absurd h (plain_panic (pl_mkSlice _ _ _ _))
  | slice t x lo hi mx => exact absurd h (plain_panic (pl_slice _ _ _ _ _ _))
  | fieldAddr t x f => exact absurd h (plain_panic (pl_fieldAddr _ _ _ _))
  | field t x f => exact absurd h (plain_panic (pl_field _ _ _ _))
  | indexAddr t x i => exact absurd h (plain_panic (pl_indexAddr _ _ _ _))
  | index t x i => exact absurd h (plain_panic (pl_index _ _ _ _))
  | typeAssert x xt ty ok => exact absurd h (plain_panic (pl_assert _ _ _ _))
  | extract x i => exact absurd h (plain_panic (pl_extract _ _ _))
  | _ => cases h

/-! ### masks -/
open Classical in
noncomputable def maskT (G : List (Nat × Bool)) (t : List AV) : List AV := (List.range t.length).map fun i => if valid G i then t.getD i .undef else .undef

theorem maskT_len (G : List (Nat × Bool)) (t : List AV) : (maskT G t).length = t.length := by simp [maskT]
theorem maskT_valid {G : List (Nat × Bool)} {t : List AV} {i : Nat} (h : valid G i) : (maskT G t).getD i .undef = t.getD i .undef := by
  rcases Nat.lt_or_ge i t.length with h1 | h1
  · simp [maskT, List.getD, h1, h]
  · have h2 : (maskT G t).length ≤ i := by rw [maskT_len]; exact h1
    simp [List.getD, List.getElem?_eq_none h1, List.getElem?_eq_none h2]
theorem maskT_not {G : List (Nat × Bool)} {t : List AV} {i : Nat} (h : ¬ valid G i) : (maskT G t).getD i .undef = .undef := by
  rcases Nat.lt_or_ge i t.length with h1 | h1
  · simp [maskT, List.getD, h1, h]
  · have h2 : (maskT G t).length ≤ i := by rw [maskT_len]; exact h1
    simp [List.getD, List.getElem?_eq_none h2]

/-- The frame, where not every temporary need be good. -/
def RG (w : World) (M : Mem) (r : List Arr) (G : List (Nat × Bool)) (tmps : Array Value) (t : List AV) : Prop :=
  tmps.size = t.length ∧ ∀ i, i < t.length → valid G i → RepA w M r (tmps.getD i undef) (t.getD i .undef)

theorem RG.rept {w : World} {M : Mem} {r : List Arr} {G : List (Nat × Bool)} {tmps : Array Value} {t : List AV} (h : RG w M r G tmps t) : Rept w M r tmps (maskT G t) := by
  refine ⟨by rw [maskT_len]; exact h.1, fun i hi => ?_⟩
  rw [maskT_len] at hi
  by_cases hv : valid G i
  · rw [maskT_valid hv]; exact h.2 i hi hv
  · rw [maskT_not hv]; exact .undef _
theorem RG.mono {w w' : World} {M M' : Mem} {r r' : List Arr} {G : List (Nat × Bool)} {tmps : Array Value} {t : List AV} (c : Chg w M r w' M' r') (h : RG w M r G tmps t) : RG w' M' r' G tmps t :=
  ⟨h.1, fun i hi hv => (h.2 i hi hv).mono c⟩

theorem getD_set_self {α : Type} (l : List α) (i : Nat) (v x : α) (h : i < l.length) : (l.set i v).getD i x = v := by simp [List.getD, h]
theorem getD_set_ne {α : Type} (l : List α) (i j : Nat) (v x : α) (h : i ≠ j) : (l.set i v).getD j x = l.getD j x := by simp [List.getD, h]
theorem agetD_set_self (l : Array Value) (i : Nat) (v : Value) (h : i < l.size) : (l.setIfInBounds i v).getD i undef = v := by simp [Array.getD, h]
theorem agetD_set_ne (l : Array Value) (i j : Nat) (v : Value) (h : i ≠ j) : (l.setIfInBounds i v).getD j undef = l.getD j undef := by
  simp only [Array.getD, Array.size_setIfInBounds]
  split
  · exact Array.getElem_setIfInBounds_ne (by assumption) h
  · rfl

theorem RG.put {w : World} {M : Mem} {r : List Arr} {G : List (Nat × Bool)} {a : Act} {st : St} {dst : Option Tmp} {u : Value} {v : AV} (h : RG w M r G a.tmps st.t) (hv : RepA w M r u v) :
    RG w M r G (a.put dst u).tmps (st.put dst v).t := by
  cases dst with
  | none => exact h
  | some d =>
    refine ⟨by simpa [Act.put, St.put] using h.1, fun i hi hg => ?_⟩
    simp only [St.put, List.length_set] at hi
    show RepA w M r ((a.tmps.setIfInBounds d u).getD i undef) ((st.t.set d v).getD i .undef)
    by_cases e : d = i
    · subst e
      rw [getD_set_self _ _ _ _ hi, agetD_set_self _ _ _ (by rw [h.1]; exact hi)]
      exact hv
    · rw [getD_set_ne _ _ _ _ _ e, agetD_set_ne _ _ _ _ e]
      exact h.2 i hi hg

theorem valid_addG {dst : Option Tmp} {g : Bool} {G : List (Nat × Bool)} {i : Nat} (h : valid (addG dst g G) i) : valid G i ∧ (dst = some i → g = true) := by
  cases dst with
  | none => exact ⟨h, fun e => nomatch e⟩
  | some d =>
    refine ⟨fun p hp e => h p (List.mem_cons_of_mem _ hp) e, fun e => ?_⟩
    injection e with e
    exact h (d, g) (List.mem_cons_self ..) e

/-- A slot that holds anything, behind a guard that fails. -/
theorem RG.skip {w : World} {M : Mem} {r : List Arr} {G : List (Nat × Bool)} {a : Act} {st : St} {dst : Option Tmp} {u : Value} {v : AV} (h : RG w M r G a.tmps st.t) : RG w M r (addG dst false G) (a.put dst u).tmps (st.put dst v).t := by
  cases dst with
  | none => exact h
  | some d =>
    refine ⟨by simpa [Act.put, St.put] using h.1, fun i hi hg => ?_⟩
    simp only [St.put, List.length_set] at hi
    show RepA w M r ((a.tmps.setIfInBounds d u).getD i undef) ((st.t.set d v).getD i .undef)
    obtain ⟨hg1, hg2⟩ := valid_addG hg
    by_cases e : d = i
    · subst e
      cases hg2 rfl
    · rw [getD_set_ne _ _ _ _ _ e, agetD_set_ne _ _ _ _ e]
      exact h.2 i hi hg1
theorem RG.more {w : World} {M : Mem} {r : List Arr} {G : List (Nat × Bool)} {dst : Option Tmp} {g : Bool} {tmps : Array Value} {t : List AV} (h : RG w M r G tmps t) : RG w M r (addG dst g G) tmps t :=
  ⟨h.1, fun i hi hg => h.2 i hi (valid_addG hg).1⟩

theorem ev_mask {G : List (Nat × Bool)} {st : St} {x : Operand} (h : validO G x) : (st.wT (maskT G st.t)).ev x = st.ev x := by
  cases x with
  | tmp d => exact maskT_valid h
  | _ => rfl

theorem opR_mask {P : Program} {G : List (Nat × Bool)} {o : Oper} {st : St} (h : need G o.op st) : opR P o (st.wT (maskT G st.t)) = (opR P o st).setT (maskT G st.t) := by
  have gen : needL G o.op.operands.toList → opR P o (st.wT (maskT G st.t)) = (opR P o st).setT (maskT G st.t) := by
    intro hn
    exact opR_t _ _ _ (fun x hx => ev_mask (hn x (by simpa using hx)))
  obtain ⟨d, op, ty, p, ar, gd⟩ := o
  cases op with
  | pick c a b =>
    simp only [need] at h
    split at h
    · rename_i e he
      obtain ⟨hc, ha, hb⟩ := h
      have hc' := ev_mask (st := st) hc
      simp only [opR, hc', he, pickR, Res.setT]
      cases e with
      | true => simp [ev_mask (st := st) (ha rfl)]
      | false => simp [ev_mask (st := st) (hb rfl)]
    · exact gen (by simpa [Op.operands] using h)
  | _ => exact gen h

theorem need_valid {G G' : List (Nat × Bool)} {o : Op} {st : St} (h : ∀ d, .tmp d ∈ o.operands → valid G d → valid G' d) (hn : need G o st) : need G' o st := by
  have hO : ∀ x ∈ o.operands, validO G x → validO G' x := by
    intro x hx hv
    cases x with
    | tmp d => exact h d hx hv
    | _ => exact hv
  have hL : needL G o.operands.toList → needL G' o.operands.toList := fun hl x hx => hO x (by simpa using hx) (hl x hx)
  cases o with
  | pick c a b =>
    simp only [need] at hn ⊢
    have hc := hO c (by simp [Op.operands])
    have ha := hO a (by simp [Op.operands])
    have hb := hO b (by simp [Op.operands])
    split at hn
    · exact ⟨hc hn.1, fun e => ha (hn.2.1 e), fun e => hb (hn.2.2 e)⟩
    · intro x hx
      simp at hx
      rcases hx with rfl | rfl | rfl
      · exact hc (hn _ (by simp))
      · exact ha (hn _ (by simp))
      · exact hb (hn _ (by simp))
  | _ => exact hL hn

theorem looks_op {ops : Array Oper} {o : Oper} {d : Tmp} (h : .tmp d ∈ o.op.operands) : d ∈ o.looksAt ops := by
  unfold Oper.looksAt
  refine List.mem_append_left _ (List.mem_filterMap.2 ⟨.tmp d, by simpa using h, rfl⟩)
theorem looks_guard {ops : Array Oper} {o : Oper} {g : Nat} {b : Bool} {d : Tmp} (h : o.guard = some (g, b)) (hd : (ops[g]?).bind (·.dst) = some d) : d ∈ o.looksAt ops := by
  unfold Oper.looksAt
  refine List.mem_append_right _ ?_
  simp [h, hd]
theorem gval_dst {ops : Array Oper} {st : St} {g : Nat} {d : Tmp} {x : Bool} (h : gval ops.toList st g = some (d, x)) : (ops[g]?).bind (·.dst) = some d := by
  unfold gval at h
  split at h
  · rename_i o ho
    split at h
    · rename_i d' hd
      split at h
      · split at h
        · injection h with h
          injection h with h1 h2
          subst h1
          have : ops[g]? = some o := by simpa using ho
          simp [this, hd]
        · cases h
      · cases h
    · cases h
  · cases h

theorem valid_append {X G : List (Nat × Bool)} {d : Nat} : valid (X ++ G) d ↔ valid X d ∧ valid G d :=
  ⟨fun h => ⟨fun p hp e => h p (List.mem_append_left _ hp) e, fun p hp e => h p (List.mem_append_right _ hp) e⟩, fun h p hp e => (List.mem_append.1 hp).elim (fun h1 => h.1 p h1 e) (fun h1 => h.2 p h1 e)⟩
theorem valid_addG_iff {dst : Option Tmp} {g : Bool} {G : List (Nat × Bool)} {d : Nat} : valid (addG dst g G) d ↔ valid G d ∧ (dst = some d → g = true) := by
  refine ⟨valid_addG, fun h => ?_⟩
  cases dst with
  | none => exact h.1
  | some e =>
    intro p hp hpe
    rcases List.mem_cons.1 hp with rfl | hp
    · exact h.2 (by rw [← hpe])
    · exact h.1 p hp hpe

theorem RG.le {w : World} {M : Mem} {r : List Arr} {G G' : List (Nat × Bool)} {tmps : Array Value} {t : List AV} (h : RG w M r G tmps t) (hg : ∀ d, valid G' d → valid G d) : RG w M r G' tmps t :=
  ⟨h.1, fun i hi hv => h.2 i hi (hg i hv)⟩
end Go.PE
