/- The evaluator is right, 11: every operation (see PeA, PeD). -/
import Derived.Test.YtkgkpmdbcjelfaaPeN
set_option linter.unusedVariables false
set_option linter.unusedSimpArgs false
namespace Go.PE
open Go

/-- Neither a call nor a panic. -/
def Res.plain : Res → Bool
  | .call _ _ _ | .panic _ _ => false
  | _ => true
theorem go_sem {R : Res} {K : AV → St → Prop} (h : R.plain = true) (k : R.go K) : R.sem K := by
  cases R <;> first | exact k | cases h

theorem plain_toDR {l : List AV} {st : St} {f : List D → St → Res} (h : ∀ ds st, (f ds st).plain = true) : (toDR l st f).plain = true := by
  unfold toDR
  repeat' split
  all_goals first | rfl | exact h _ _

section
variable {P : Program}
theorem pl_assign (t v st) : (assignR P t v st).plain = true := by unfold assignR; repeat' split
                                                                   all_goals rfl
theorem pl_pick (a b c st) : (pickR a b c st).plain = true := by unfold pickR; repeat' split
                                                                 all_goals rfl
theorem pl_alloc (t st) : (allocR P t st).plain = true := by unfold allocR; repeat' split
                                                             all_goals rfl
theorem pl_build (t ps st) : (buildR P t ps st).plain = true := by unfold buildR; repeat' split
                                                                   all_goals rfl
theorem pl_bslice (t n ps st) : (bsliceR P t n ps st).plain = true := by
  unfold bsliceR
  split
  · exact plain_toDR (fun _ _ => rfl)
  · rfl
theorem pl_load (t a st) : (loadR P t a st).plain = true := by unfold loadR; repeat' split
                                                               all_goals rfl
theorem pl_store (t a v st) : (storeR P t a v st).plain = true := by
  unfold storeR
  split
  · split <;> rfl
  · refine plain_toDR (fun _ _ => ?_)
    split <;> rfl
  · rfl
theorem pl_nilCheck (x st) : (nilCheckR x st).plain = true := by unfold nilCheckR; repeat' split
                                                                 all_goals rfl
theorem pl_int (op k a k' b st) : (intR op k a k' b st).plain = true := by unfold intR; repeat' split
                                                                           all_goals rfl
theorem pl_str (op a b st) : (strR op a b st).plain = true := by unfold strR; repeat' split
                                                                 all_goals rfl
theorem pl_eq (n c t x y st) : (eqR P n c t x y st).plain = true := by
  unfold eqR
  repeat' split
  all_goals rfl
theorem pl_bin (op c t x y st) : (binR P op c t x y st).plain = true := by
  unfold binR
  repeat' split
  all_goals first | rfl | exact pl_int _ _ _ _ _ _ | exact pl_str _ _ _ _ | exact pl_eq _ _ _ _ _ _
theorem pl_un (op x st) : (unR op x st).plain = true := by unfold unR; repeat' split
                                                           all_goals rfl
theorem pl_conv (s t x st) : (convR P s t x st).plain = true := by
  unfold convR
  repeat' split
  all_goals first | rfl | (refine plain_toDR (fun _ _ => ?_); repeat' split) 
  all_goals rfl
theorem pl_mkIf (t x st) : (mkIfR P t x st).plain = true := by unfold mkIfR; repeat' split
                                                               all_goals rfl
theorem pl_mkSlice (t x y st) : (mkSliceR P t x y st).plain = true := by unfold mkSliceR; repeat' split
                                                                         all_goals rfl
theorem pl_slice (t x l h m st) : (sliceR P t x l h m st).plain = true := by unfold sliceR; repeat' split
                                                                             all_goals rfl
theorem pl_fieldAddr (t f x st) : (fieldAddrR P t f x st).plain = true := by unfold fieldAddrR; repeat' split
                                                                             all_goals rfl
theorem pl_field (t x f st) : (fieldR P t x f st).plain = true := by unfold fieldR; repeat' split
                                                                     all_goals rfl
theorem pl_indexAddr (t x i st) : (indexAddrR P t x i st).plain = true := by unfold indexAddrR; repeat' split
                                                                             all_goals rfl
theorem pl_index (t x i st) : (indexR P t x i st).plain = true := by unfold indexR; repeat' split
                                                                     all_goals rfl
theorem pl_assert (ty ok x st) : (assertR P ty ok x st).plain = true := by
  unfold assertR
  repeat' split
  all_goals rfl
theorem pl_extract (x i st) : (extractR x i st).plain = true := by unfold extractR; repeat' split
                                                                   all_goals rfl

variable {w0 : World} {F : List Nat} {M : Mem} {st : St} {w : World} {K : AV → St → Prop}

theorem op_sound {o : Oper} {a : Act} (h : Inv w0 F M st.b st.r w) (ht : Rept w M st.r a.tmps st.t) (hs : (opR P o st).go K) :
    OpRuns P w0 F M st.t st.r w (execOp a.eval o) (opR P o st) K := by
  have E : ∀ x, RepA w M st.r (a.eval x) (st.ev x) := fun x => ev_rep ht x
  have hopt : ∀ (x : Option Operand) (b : AV) (v : Value), x.map st.ev = some b → x.map a.eval = some v → RepA w M st.r v b := by
    intro x b v h1 h2
    cases x with
    | none => cases h1
    | some x =>
      injection h1 with h1
      injection h2 with h2
      subst h1 h2
      exact E x
  have hcopy : ∀ u x, RepA w M st.r u x → K x st → ∀ R, OpRuns P w0 F M st.t st.r w (pure (.value u)) R K := fun u x hx hK R => .value x st M w u hK (.inl rfl) h (.refl _ _ _) hx rfl
  obtain ⟨d, op, ty, p, ar, g⟩ := o
  cases op with
  | move x => exact hcopy _ _ (E x) hs.2 _
  | assign x =>
    have := ok_runs (R := opR P ⟨d, .assign x, ty, p, ar, g⟩ st) (assign_sound h (E x) (go_sem (pl_assign _ _ _) hs))
    simpa [execOp] using this
  | pick c x y =>
    have := ok_runs (P := P) (R := opR P ⟨d, .pick c x y, ty, p, ar, g⟩ st) (pick_sound h (E c) (E x) (E y) (go_sem (pl_pick _ _ _ _) hs))
    simpa [execOp] using this
  | alloc t => exact ok_runs (alloc_sound h (go_sem (pl_alloc _ _) hs))
  | box t x => exact ok_runs (box_sound h (E x) hs)
  | build t ps => exact ok_runs (build_sound h ht (go_sem (pl_build _ _ _) hs))
  | buildSlice t n ps => exact ok_runs (bslice_sound h ht (go_sem (pl_bslice _ _ _ _) hs))
  | load t x => exact ok_runs (load_sound h (E x) (go_sem (pl_load _ _ _) hs))
  | store t x y =>
    obtain ⟨v, st', M', w', hK, hr, hI, hc, hv, hst⟩ := store_sound h (E x) (E y) (go_sem (pl_store _ _ _ _) hs)
    exact .value v st' M' w' undef hK (.inr ⟨by simp [execOp, hr], rfl⟩) hI hc hv hst
  | nilCheck x =>
    obtain ⟨u, hK, hr, hu⟩ := nilCheck_sound (o := ⟨d, .nilCheck x, ty, p, ar, g⟩) rfl (E x) (go_sem (pl_nilCheck _ _) hs)
    exact .value _ st M w u hK (.inl hr) h (.refl _ _ _) hu rfl
  | binOp op t x y e => exact ok_runs (bin_sound h (E x) (E y) (go_sem (pl_bin _ _ _ _ _ _) hs))
  | unOp op t x => exact ok_runs (un_sound h (E x) (go_sem (pl_un _ _ _) hs))
  | convert s t x => exact ok_runs (conv_sound h (E x) (go_sem (pl_conv _ _ _ _) hs))
  | makeInterface t x => exact ok_runs (mkIf_sound h (E x) (go_sem (pl_mkIf _ _ _) hs))
  | makeFunc f xs ys =>
    refine .value _ st M w (.func f (xs.map a.eval) (ys.map a.eval)) hs.2 (.inl rfl) h (.refl _ _ _) ?_ rfl
    have h1 := RepL.ofMap ht xs
    have h2 := RepL.ofMap ht ys
    exact .fn _ _ _ _ _ h1.1 h2.1 h1.2 h2.2
  | makeSlice t x y => exact ok_runs (mkSlice_sound h (E x) (E y) (go_sem (pl_mkSlice _ _ _ _) hs))
  | slice t x lo hi mx => exact ok_runs (slice_sound h (E x) (hopt lo) (by simp) (hopt hi) (by simp) (by simp) (go_sem (pl_slice _ _ _ _ _ _) hs))
  | fieldAddr t x f => exact ok_runs (fieldAddr_sound h (E x) (go_sem (pl_fieldAddr _ _ _ _) hs))
  | field t x f => exact ok_runs (field_sound h (E x) (go_sem (pl_field _ _ _ _) hs))
  | indexAddr t x i => exact ok_runs (indexAddr_sound h (E x) (E i) (go_sem (pl_indexAddr _ _ _ _) hs))
  | index t x i => exact ok_runs (index_sound h (E x) (E i) (go_sem (pl_index _ _ _ _) hs))
  | typeAssert x xt ty ok => exact ok_runs (assert_sound h (E x) (go_sem (pl_assert _ _ _ _) hs))
  | extract x i => exact ok_runs (extract_sound h (E x) (go_sem (pl_extract _ _ _) hs))
  | call c => exact call_sound h ht hs
  | panic x =>
    have hx := E x
    have e : opR P ⟨d, .panic x, ty, p, ar, g⟩ st = panicR (st.ev x) st := rfl
    rw [e] at hs ⊢
    have hrun : ∀ (t : TypeId) (v : Value), a.eval x = .iface t v → (execOp a.eval ⟨d, .panic x, ty, p, ar, g⟩).run P w = .halt (.panic (.iface t v)) w := by
      intro t v e
      simp [execOp, e, Instr.panic]
    unfold panicR at hs ⊢
    split at hs
    · rename_i t y he
      rw [he] at hx
      generalize hu : a.eval x = u at hx
      have := hx.d_inv
      cases this with
      | iface _ v _ hv => exact .panic _ st (.iface t v) rfl (hrun t v hu) (.d _ _ (.iface _ _ _ hv))
    · rename_i t y he
      rw [he] at hx
      generalize hu : a.eval x = u at hx
      cases hx with
      | iface _ v _ hv => exact .panic _ st (.iface t v) rfl (hrun t v hu) (.iface _ _ _ hv)
    · exact hs.elim
  | _ => exact hs.elim
end
end Go.PE
