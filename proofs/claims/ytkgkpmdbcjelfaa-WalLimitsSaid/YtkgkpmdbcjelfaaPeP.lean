/- The evaluator: an operation looks at temporaries only through its operands (see PeA, PeD). -/
import Derived.Test.YtkgkpmdbcjelfaaPeO
set_option linter.unusedVariables false
set_option linter.unusedSimpArgs false
namespace Go.PE
open Go

def St.wT (st : St) (t : List AV) : St := { st with t := t }
def Res.setT (t : List AV) : Res → Res
  | .fail => .fail
  | .ok p v st => .ok p v (st.wT t)
  | .elem p es k n st => .elem p es k n (st.wT t)
  | .byte p s k st => .byte p s k (st.wT t)
  | .call g args st => .call g args (st.wT t)
  | .panic v st => .panic v (st.wT t)

section
variable {P : Program} (t' : List AV) (st : St)

theorem setT_ite {p : Prop} [Decidable p] (a b : Res) : (if p then a else b).setT t' = if p then a.setT t' else b.setT t' := by split <;> rfl

theorem toDR_t (l : List AV) (f g : List D → St → Res) (h : ∀ ds (st : St), g ds (st.wT t') = (f ds st).setT t') : toDR l (st.wT t') g = (toDR l st f).setT t' := by
  unfold toDR
  have e : (st.wT t').r = st.r := rfl
  rw [e]
  cases toDL st.r l with
  | none => rfl
  | some ds => exact h ds { st with r := share st.r (arrIdsL l) }
theorem int_t (op k a k' b) : intR op k a k' b (st.wT t') = (intR op k a k' b st).setT t' := by
  unfold intR; repeat' split
  all_goals rfl
theorem str_t (op a b) : strR op a b (st.wT t') = (strR op a b st).setT t' := by
  unfold strR; repeat' split
  all_goals rfl
theorem eq_t (n c t x y) : eqR P n c t x y (st.wT t') = (eqR P n c t x y st).setT t' := by
  unfold eqR
  repeat' split
  all_goals rfl
theorem bin_t (op c t x y) : binR P op c t x y (st.wT t') = (binR P op c t x y st).setT t' := by
  unfold binR
  repeat' split
  all_goals first | rfl | exact int_t _ _ _ _ _ _ _ | exact str_t _ _ _ _ _ | exact eq_t _ _ _ _ _ _ _
theorem un_t (op x) : unR op x (st.wT t') = (unR op x st).setT t' := by
  unfold unR; repeat' split
  all_goals rfl
theorem load_t (t a) : loadR P t a (st.wT t') = (loadR P t a st).setT t' := by
  unfold loadR
  have e : (st.wT t').b = st.b := rfl
  have e2 : (st.wT t').r = st.r := rfl
  rw [e, e2]
  repeat' split
  all_goals rfl
theorem store_t (t a v) : storeR P t a v (st.wT t') = (storeR P t a v st).setT t' := by
  unfold storeR
  have e : (st.wT t').b = st.b := rfl
  rw [e]
  split
  · split <;> rfl
  · refine toDR_t t' st _ _ _ (fun ds st => ?_)
    have e2 : (st.wT t').r = st.r := rfl
    rw [e2]
    split <;> rfl
  · rfl
theorem fieldAddr_t (t f a) : fieldAddrR P t f a (st.wT t') = (fieldAddrR P t f a st).setT t' := by
  unfold fieldAddrR
  have e2 : (st.wT t').r = st.r := rfl
  rw [e2]
  repeat' split
  all_goals rfl
theorem indexAddr_t (t x i) : indexAddrR P t x i (st.wT t') = (indexAddrR P t x i st).setT t' := by
  unfold indexAddrR
  have e2 : (st.wT t').r = st.r := rfl
  rw [e2]
  repeat' split
  all_goals rfl
theorem index_t (t x i) : indexR P t x i (st.wT t') = (indexR P t x i st).setT t' := by
  unfold indexR; repeat' split
  all_goals rfl
theorem field_t (t x f) : fieldR P t x f (st.wT t') = (fieldR P t x f st).setT t' := by
  unfold fieldR; repeat' split
  all_goals rfl
theorem slice_t (t x l h m) : sliceR P t x l h m (st.wT t') = (sliceR P t x l h m st).setT t' := by
  unfold sliceR
  have e2 : (st.wT t').r = st.r := rfl
  rw [e2]
  repeat' split
  all_goals rfl
theorem assign_t (t v) : assignR P t v (st.wT t') = (assignR P t v st).setT t' := by
  unfold assignR; repeat' split
  all_goals rfl
theorem alloc_t (t) : allocR P t (st.wT t') = (allocR P t st).setT t' := by
  unfold allocR; repeat' split
  all_goals rfl
theorem build_t (t ps) : buildR P t ps (st.wT t') = (buildR P t ps st).setT t' := by
  unfold buildR; repeat' split
  all_goals rfl
theorem bslice_t (t n ps) : bsliceR P t n ps (st.wT t') = (bsliceR P t n ps st).setT t' := by
  unfold bsliceR
  split
  · exact toDR_t t' st _ _ _ (fun ds st => rfl)
  · rfl
theorem mkSlice_t (t l c) : mkSliceR P t l c (st.wT t') = (mkSliceR P t l c st).setT t' := by
  unfold mkSliceR; repeat' split
  all_goals rfl
theorem mkIf_t (t x) : mkIfR P t x (st.wT t') = (mkIfR P t x st).setT t' := by
  unfold mkIfR; repeat' split
  all_goals rfl
theorem assert_t (ty ok x) : assertR P ty ok x (st.wT t') = (assertR P ty ok x st).setT t' := by
  unfold assertR; repeat' split
  all_goals rfl
theorem extract_t (x i) : extractR x i (st.wT t') = (extractR x i st).setT t' := by
  unfold extractR; repeat' split
  all_goals rfl
theorem nilCheck_t (x) : nilCheckR x (st.wT t') = (nilCheckR x st).setT t' := by
  unfold nilCheckR; repeat' split
  all_goals rfl
theorem pick_t (c a b) : pickR c a b (st.wT t') = (pickR c a b st).setT t' := by
  unfold pickR; repeat' split
  all_goals rfl
theorem conv_t (s t x) : convR P s t x (st.wT t') = (convR P s t x st).setT t' := by
  unfold convR
  repeat' split
  all_goals first
    | rfl
    | (refine toDR_t t' st _ _ _ (fun ds st => ?_)
       repeat' split
       all_goals rfl)
theorem len_t (t x) : lenR P t x (st.wT t') = (lenR P t x st).setT t' := by
  unfold lenR
  have e2 : (st.wT t').r = st.r := rfl
  rw [e2]
  repeat' split
  all_goals rfl
theorem append_t (t tx x y) : appendR P t tx x y (st.wT t') = (appendR P t tx x y st).setT t' := by
  unfold appendR
  have e1 : ∀ n, srcA P tx n y (st.wT t') = srcA P tx n y st := fun n => rfl
  have e2 : (st.wT t').r = st.r := rfl
  simp only [e1, e2]
  repeat' split
  all_goals rfl
theorem mm_t (m x y) : mmR m x y (st.wT t') = (mmR m x y st).setT t' := by
  unfold mmR; repeat' split
  all_goals rfl
theorem builtin_t (b ats args) : builtinR P b ats args (st.wT t') = (builtinR P b ats args st).setT t' := by
  unfold builtinR
  split
  · exact len_t _ _ _ _
  · exact append_t _ _ _ _ _ _
  · exact mm_t _ _ _ _ _
  · exact mm_t _ _ _ _ _
  · rfl
theorem invoke_t (r n args) : invokeR P r n args (st.wT t') = (invokeR P r n args st).setT t' := by
  unfold invokeR; repeat' split
  all_goals rfl
theorem panic_t (x) : panicR x (st.wT t') = (panicR x st).setT t' := by
  unfold panicR; repeat' split
  all_goals rfl

theorem opR_t (o : Oper) (h : ∀ x ∈ o.op.operands, (st.wT t').ev x = st.ev x) : opR P o (st.wT t') = (opR P o st).setT t' := by
  have hl : ∀ xs : Array Operand, (∀ x ∈ xs, (st.wT t').ev x = st.ev x) → xs.toList.map (st.wT t').ev = xs.toList.map st.ev := by
    intro xs hx
    exact List.map_congr_left (fun x hm => hx x (by simpa using hm))
  have hp : ∀ ps : Array (Nat × Operand), (∀ x ∈ (ps.toList.map (·.2)).toArray, (st.wT t').ev x = st.ev x) → (ps.toList.map fun p => (p.1, (st.wT t').ev p.2)) = ps.toList.map fun p => (p.1, st.ev p.2) := by
    intro ps hx
    refine List.map_congr_left (fun p hm => ?_)
    rw [hx p.2 (by simp only [List.mem_toArray]; exact List.mem_map_of_mem hm)]
  have ho : ∀ x : Option Operand, (∀ y ∈ x.toArray, (st.wT t').ev y = st.ev y) → x.map (st.wT t').ev = x.map st.ev := by
    intro x hx
    cases x with
    | none => rfl
    | some y => simp [hx y (by simp)]
  obtain ⟨d, op, ty, p, ar, g⟩ := o
  cases op with
  | move x => simp only [opR, h x (by simp [Op.operands])]; rfl
  | assign x => simp only [opR, h x (by simp [Op.operands]), assign_t]
  | pick c x y => simp only [opR, h c (by simp [Op.operands]), h x (by simp [Op.operands]), h y (by simp [Op.operands]), pick_t]
  | alloc t => simp only [opR, alloc_t]
  | box t x => simp only [opR, h x (by simp [Op.operands])]; rfl
  | build t ps => simp only [opR, hp ps (fun x hx => h x (by simpa [Op.operands] using hx)), build_t]
  | buildSlice t n ps => simp only [opR, hp ps (fun x hx => h x (by simpa [Op.operands] using hx)), bslice_t]
  | load t x => simp only [opR, h x (by simp [Op.operands]), load_t]
  | store t x y => simp only [opR, h x (by simp [Op.operands]), h y (by simp [Op.operands]), store_t]
  | nilCheck x => simp only [opR, h x (by simp [Op.operands]), nilCheck_t]
  | binOp op t x y e => simp only [opR, h x (by simp [Op.operands]), h y (by simp [Op.operands]), bin_t]
  | unOp op t x => simp only [opR, h x (by simp [Op.operands]), un_t]
  | convert s t x => simp only [opR, h x (by simp [Op.operands]), conv_t]
  | makeInterface t x => simp only [opR, h x (by simp [Op.operands]), mkIf_t]
  | makeFunc f xs ys =>
    simp only [opR, hl xs (fun x hx => h x (by simp [Op.operands, hx])), hl ys (fun x hx => h x (by simp [Op.operands, hx]))]
    rfl
  | makeSlice t x y => simp only [opR, h x (by simp [Op.operands]), h y (by simp [Op.operands]), mkSlice_t]
  | slice t x lo hi mx =>
    simp only [opR, h x (by simp [Op.operands]), ho lo (fun y hy => h y (by simp only [Op.operands, Array.mem_append]; exact .inl (.inl (.inr hy)))), ho hi (fun y hy => h y (by simp only [Op.operands, Array.mem_append]; exact .inl (.inr hy))),
      ho mx (fun y hy => h y (by simp only [Op.operands, Array.mem_append]; exact .inr hy)), slice_t]
  | fieldAddr t x f => simp only [opR, h x (by simp [Op.operands]), fieldAddr_t]
  | field t x f => simp only [opR, h x (by simp [Op.operands]), field_t]
  | indexAddr t x i => simp only [opR, h x (by simp [Op.operands]), h i (by simp [Op.operands]), indexAddr_t]
  | index t x i => simp only [opR, h x (by simp [Op.operands]), h i (by simp [Op.operands]), index_t]
  | typeAssert x xt ty ok => simp only [opR, h x (by simp [Op.operands]), assert_t]
  | extract x i => simp only [opR, h x (by simp [Op.operands]), extract_t]
  | call c =>
    obtain ⟨callee, args, ats⟩ := c
    have hargs : args.toList.map (st.wT t').ev = args.toList.map st.ev := hl args (fun x hx => h x (by simp [Op.operands, Call.operands, hx]))
    cases callee with
    | builtin b => simp only [opR, callR, hargs, builtin_t]
    | value f =>
      have hf := h f (by simp [Op.operands, Call.operands])
      simp only [opR, callR, hargs, hf]
      split <;> rfl
    | invoke recv n =>
      have hf := h recv (by simp [Op.operands, Call.operands])
      simp only [opR, callR, hargs, hf, invoke_t]
  | panic x => simp only [opR, h x (by simp [Op.operands]), panic_t]
  | _ => rfl
end
end Go.PE
