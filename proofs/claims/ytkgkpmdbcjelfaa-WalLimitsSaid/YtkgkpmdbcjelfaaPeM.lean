/- The evaluator is right, 9: every operation (see PeA, PeD). -/
import Derived.Test.YtkgkpmdbcjelfaaPeL
set_option linter.unusedVariables false
set_option linter.unusedSimpArgs false
namespace Go.PE
open Go

section
variable {P : Program} {w0 : World} {F : List Nat} {M : Mem} {st : St} {w : World} {K : AV → St → Prop}

theorem index_sound {t : TypeId} {x i : AV} {u v : Value} (h : Inv w0 F M st.b st.r w) (hx : RepA w M st.r u x) (hi : RepA w M st.r v i) (hs : (indexR P t x i st).sem K) : OpOk P w0 F M st.t st.r w (Instr.index t u v) K := by
  unfold indexR at hs
  split at hs
  · rename_i s k kk
    split at hs
    · rename_i hk
      have hu := kd_string hk
      simp only [Res.sem] at hs
      obtain ⟨⟨h0, h1⟩, hK⟩ := hs
      have e1 := hx.d_inv
      have e2 := hi.d_inv
      cases e2
      cases e1 with
      | str s =>
        have hlt : kk.toNat < s.data.toList.length := by omega
        have hK' := hK _ (List.getElem?_eq_getElem hlt)
        have hlt' : kk.toNat < s.size := by simpa using hlt
        refine ok_stay h hK' (u := .int .u8 (s.data.toList[kk.toNat].toNat : Int)) ?_ (.d _ _ (.int _ _))
        have e3 : (if 0 ≤ kk then s[kk.toNat]? else none) = some s.data.toList[kk.toNat] := by
          rw [if_pos h0]
          have : s[kk.toNat]? = some (s[kk.toNat]'hlt') := getElem?_pos s kk.toNat hlt'
          rw [this]
          rfl
        simp only [Instr.index, asIntOf, Sem.run_bind, Sem.run_pure, Result.andThen_ok, run_underlying hu]
        rw [e3]
        rfl
    · exact hs.elim
  · exact hs.elim

/-- Values, one for one. -/
def RepL (w : World) (M : Mem) (r : List Arr) (vs : Array Value) (as : List AV) : Prop := vs.size = as.length ∧ ∀ i, i < as.length → RepA w M r (vs.getD i undef) (as.getD i .undef)

theorem RepL.ofMap {r : List Arr} {a : Act} {st : St} (ht : Rept w M r a.tmps st.t) (xs : Array Operand) : RepL w M r (xs.map a.eval) (xs.toList.map st.ev) := by
  refine ⟨by simp, fun i hi => ?_⟩
  have hi' : i < xs.size := by simpa using hi
  have e1 : (xs.map a.eval).getD i undef = a.eval xs[i] := by simp [Array.getD, hi']
  have e2 : (xs.toList.map st.ev).getD i .undef = st.ev xs[i] := by simp [List.getD, hi']
  rw [e1, e2]
  exact ev_rep ht _
theorem RepL.append {r : List Arr} {vs us : Array Value} {as bs : List AV} (h : RepL w M r vs as) (k : RepL w M r us bs) : RepL w M r (vs ++ us) (as ++ bs) := by
  refine ⟨by simp [h.1, k.1], fun i hi => ?_⟩
  simp at hi
  rcases Nat.lt_or_ge i as.length with h1 | h1
  · have h2 : i < vs.size := by rw [h.1]; exact h1
    have e1 : (vs ++ us).getD i undef = vs.getD i undef := by simp [Array.getD, h2, Nat.lt_add_right _ h2, Array.getElem_append_left]
    rw [e1, getD_append_lt _ _ _ _ h1]
    exact h.2 i h1
  · have hv := h.1
    have hu := k.1
    have h2 : ¬ i < vs.size := by omega
    have h3 : i - vs.size < us.size := by omega
    have e1 : (vs ++ us).getD i undef = us.getD (i - vs.size) undef := by
      have h4 : i < vs.size + us.size := by omega
      simp [Array.getD, h4, h3, Array.getElem_append_right (show vs.size ≤ i by omega)]
    have e2 : (as ++ bs).getD i .undef = bs.getD (i - as.length) .undef := by
      simp only [List.getD, List.getElem?_append_right h1]
    rw [e1, e2, hv]
    exact k.2 _ (by omega)
theorem RepL.cons {r : List Arr} {v : Value} {us : Array Value} {a : AV} {bs : List AV} (h : RepA w M r v a) (k : RepL w M r us bs) : RepL w M r (#[v] ++ us) (a :: bs) := by
  have h1 : RepL w M r #[v] [a] := by
    refine ⟨rfl, fun i hi => ?_⟩
    have e : i = 0 := by simpa using hi
    subst e
    exact h
  exact h1.append k

/-- The function has a body of its own. -/
def Enters (P : Program) (f : FuncId) : Prop := ∀ (args : Array Value) (w : World), (callFunc f args).run P w = .ok (.enter f args) w

theorem enters_of {f : FuncId} {fn : Func} (hf : P.funcs[f]? = some fn) (hn : (fn.name == "runtime.NumGoroutine") = false) (hb : fn.body.isNone = false) : Enters P f := by
  intro args w
  have h1 : ¬ fn.name = "runtime.NumGoroutine" := by simpa using hn
  have h2 : ¬ fn.body = none := by
    intro h
    rw [h] at hb
    cases hb
  simp [callFunc, hf, h1, h2]

theorem meth_spec {t : TypeId} {name : String} {f : FuncId} (h : meth? P t name = some f) (v : Value) (fuel : Nat) : (method (fuel + 1) t v name).run P w = .ok (f, v) w := by
  unfold meth? at h
  split at h
  · rename_i i hi
    split at h
    · rename_i m hm
      split at h
      · rename_i f' e d h1 h2 h3
        injection h with h
        subst h
        simp [method, typeInfo, hi, hm, h1, follow, h2, receiverAt, run_underlying h3, Place.get]
      · cases h
      · rename_i f' d hnp h1 h2 h3
        injection h with h
        subst h
        simp only [method, Sem.run_bind, typeInfo, run_program, hi, Sem.run_pure, Result.andThen_ok, hm, h1, follow, h2, receiverAt, run_underlying h3]
        cases d with
        | pointer e => exact (hnp e rfl).elim
        | _ => simp [Place.get]
      · cases h
    · cases h
  · cases h
end
end Go.PE
