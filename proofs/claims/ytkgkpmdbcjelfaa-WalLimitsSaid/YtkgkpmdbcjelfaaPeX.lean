/- The evaluator: a region whose order is drawn (see PeQ). Operations that only look may be reckoned ahead; the others come up one at a time. -/
import Derived.Test.YtkgkpmdbcjelfaaPeS
import Derived.Orders
set_option linter.unusedVariables false
set_option linter.unusedSimpArgs false
namespace Go.PE
open Go

/-! ### what is checked ahead -/
def depsOf (ops : Array Oper) (i : Nat) : List Nat := match ops[i]? with | some o => (o.after.toList.filter (Region.binds .any)).map (·.on) | none => []
def dstOf (ops : Array Oper) (i : Nat) : Option Tmp := (ops[i]?).bind (·.dst)
def looksOf (ops : Array Oper) (i : Nat) : List Tmp := match ops[i]? with | some o => o.looksAt ops | none => []
def hits (d : Option Tmp) (l : List Tmp) : Bool := match d with | some d => l.contains d | none => false
def planB (ops : Array Oper) : List Nat → List Nat → List (Nat × Bool × List Nat) → Bool
  | V, _, [] => (List.range ops.size).all fun i => V.contains i
  | V, pend, (i, ch, rc) :: l =>
    let pend' := if ch then pend.filter fun p => !(depsOf ops i).contains p else pend
    decide (i < ops.size) && !V.contains i && (depsOf ops i).all (fun k => V.contains k) && !hits (dstOf ops i) (looksOf ops i) &&
    pend'.all (fun p => !hits (dstOf ops i) (looksOf ops p) && ((dstOf ops i).isNone || dstOf ops i != dstOf ops p) && (!hits (dstOf ops p) (looksOf ops i) || (depsOf ops i).contains p)) &&
    (if ch then (List.range ops.size).all (fun k => V.contains k || k == i || !(depsOf ops k).all fun j => V.contains j) && pend'.all (fun p => rc.contains p) else true) &&
    planB ops (i :: V) (if ch then pend' else i :: pend') l
/-- Nothing waits for what stands behind it in the text. -/
def backB (ops : Array Oper) : Bool := (List.range ops.size).all fun i => (depsOf ops i).all fun k => decide (k < i)
/-- Every region of the code that draws has a plan that is good. -/
def drawsB (pl : Nat → List (Nat × Bool × List Nat)) : Code → Bool
  | .seq x y => drawsB pl x && drawsB pl y
  | .cond _ x y => drawsB pl x && drawsB pl y
  | .block _ x => drawsB pl x
  | .loop x => drawsB pl x
  | .region id ops true => backB ops && planB ops [] [] (pl id)
  | _ => true

/-! ### soundness -/
theorem depsOf_mem {ops : Array Oper} {i : Nat} {o : Oper} (ho : ops[i]? = some o) {k : Nat} : k ∈ depsOf ops i ↔ ∃ e ∈ o.after, Region.binds .any e = true ∧ e.on = k := by
  simp [depsOf, ho, and_assoc]

theorem ev_put {st : St} {dst : Option Tmp} {v : AV} {x : Operand} (h : ∀ d, dst = some d → x ≠ .tmp d) : (st.put dst v).ev x = st.ev x := by
  cases dst with
  | none => rfl
  | some d =>
    cases x with
    | tmp t =>
      have hne : d ≠ t := fun e => h d rfl (e ▸ rfl)
      exact getD_set_ne _ _ _ _ _ hne
    | _ => rfl
theorem need_st {G : List (Nat × Bool)} {o : Op} {st st' : St} (h : ∀ x ∈ o.operands, st'.ev x = st.ev x) (hn : need G o st) : need G o st' := by
  cases o with
  | pick c a b =>
    have hc := h c (by simp [Op.operands])
    simp only [need, hc] at hn ⊢
    exact hn
  | _ => exact hn
theorem gval_put {L : List Oper} {st : St} {g : Nat} {dst : Option Tmp} {v : AV} (h : ∀ d o e, dst = some d → L[g]? = some o → o.dst = some e → d ≠ e) : gval L (st.put dst v) g = gval L st g := by
  cases dst with
  | none => rfl
  | some d =>
    unfold gval
    cases ho : L[g]? with
    | none => rfl
    | some o =>
      simp only
      cases he : o.dst with
      | none => rfl
      | some e =>
        have hne := h d o e rfl ho he
        simp only [St.put, List.length_set, getD_set_ne _ _ _ _ _ hne]
end Go.PE
