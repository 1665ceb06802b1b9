/- The evaluator is right, 1: values, loads, stores, addresses (see PeA, PeD). -/
import Derived.Test.YtkgkpmdbcjelfaaPeD
set_option linter.unusedVariables false
set_option linter.unusedSimpArgs false
namespace Go.PE
open Go

section
variable {w : World} {M : Mem} {r : List Arr}

theorem RepA.raw {v : Value} (h : RawOk v) : RepA w M r v (.d (.raw v)) := .d _ _ (.raw _ h)

theorem constA_rep (v : Value) : RepA w M r v (constA v) := by
  unfold constA
  split <;> first
    | exact .d _ _ (.int _ _)
    | exact .d _ _ (.bool _)
    | exact .d _ _ (.str _)
    | exact .d _ _ .nilI
    | exact .nilS
    | exact .raw trivial
    | exact .undef _

theorem ev_rep {a : Act} {st : St} (h : Rept w M r a.tmps st.t) (x : Operand) : RepA w M r (a.eval x) (st.ev x) := by
  cases x with
  | tmp t =>
    show RepA w M r (a.tmps.getD t undef) (st.t.getD t .undef)
    rcases Nat.lt_or_ge t st.t.length with h1 | h1
    · exact h.2 t h1
    · have e : st.t.getD t .undef = .undef := by simp [List.getD, List.getElem?_eq_none h1]
      rw [e]
      exact .undef _
  | const v => exact constA_rep v
  | global g => exact .undef _
  | func f => exact .fn _ _ _ _ _ rfl rfl (fun i hi => absurd hi (by simp)) (fun i hi => absurd hi (by simp))

theorem RepA.d_inv {v : Value} {x : D} (h : RepA w M r v (.d x)) : Rep w (Okc M r) v x := by
  cases h
  assumption

theorem RawOk.one {v : Value} (h : RawOk v) : v.oneCell' = true := by
  unfold RawOk at h
  split at h <;> first | rfl | exact h.elim

theorem Rep.one {ok : Addr → Prop} {v : Value} {x : D} (h : Rep w ok v x) (hx : oneD x = true) : v.oneCell' = true := by
  cases h with
  | agg => cases hx
  | raw _ h => exact h.one
  | _ => rfl
theorem RepA.one {v : Value} {x : AV} (h : RepA w M r v x) (hx : oneA x = true) : v.oneCell' = true := by
  cases h with
  | undef => cases hx
  | d _ _ h => exact h.one hx
  | agg => cases hx
  | tup => cases hx
  | arr _ _ _ h => exact h
  | eptr _ _ _ _ _ h => exact h
  | _ => rfl
theorem cells_one {v : Value} (h : v.oneCell' = true) : v.cells = #[v] := by
  cases v <;> first | rfl | cases h

/-- The cells of a value, and what they are. -/
structure CellsOk (w : World) (M : Mem) (r : List Arr) (cs : Array Value) (xs : List AV) : Prop where
  size : cs.size = xs.length
  one : ∀ j, j < xs.length → (cs.getD j undef).oneCell' = true
  rep : ∀ j, j < xs.length → RepA w M r (cs.getD j undef) (xs.getD j .undef)

theorem allA {xs : List AV} (h : xs.all oneA = true) : ∀ j, j < xs.length → oneA (xs.getD j .undef) = true := by
  intro j hj
  have e : xs.getD j .undef = xs[j] := by simp [List.getD, hj]
  rw [e]
  exact List.all_eq_true.1 h _ (List.getElem_mem hj)

theorem CellsOk.mk' {cs : Array Value} {xs : List AV} (hs : cs.size = xs.length) (h1 : xs.all oneA = true) (hr : ∀ j, j < xs.length → RepA w M r (cs.getD j undef) (xs.getD j .undef)) : CellsOk w M r cs xs :=
  ⟨hs, fun j hj => (hr j hj).one (allA h1 j hj), hr⟩

theorem getD_map_d (l : List D) (j : Nat) (hj : j < l.length) : (l.map AV.d).getD j .undef = .d (l.getD j .nilI) := by
  simp [List.getD, hj]

theorem cells_rep1 {v : Value} {x : AV} (h : RepA w M r v x) (hv : v.oneCell' = true) (hx : cellsA x = [x]) : CellsOk w M r v.cells (cellsA x) := by
  rw [cells_one hv, hx]
  refine ⟨rfl, fun j hj => ?_, fun j hj => ?_⟩ <;>
    (have e : j = 0 := by
      simp at hj
      exact hj
     subst e)
  · exact hv
  · exact h

theorem cells_rep {v : Value} {x : AV} (h : RepA w M r v x) (h1 : (cellsA x).all oneA = true) : CellsOk w M r v.cells (cellsA x) := by
  cases x with
  | d x =>
    cases x with
    | agg cs =>
      cases h with
      | d _ _ h =>
        cases h with
        | agg vs cs hs _ hr =>
          refine .mk' (by simpa [cellsA, Value.cells] using hs) h1 (fun j hj => ?_)
          simp only [cellsA, List.length_map] at hj
          show RepA w M r (vs.getD j undef) _
          rw [cellsA, getD_map_d _ _ hj]
          exact .d _ _ (hr j hj)
    | _ => exact cells_rep1 h (h.one (by simpa [cellsA] using h1)) rfl
  | agg cs =>
    cases h with
    | agg vs cs hs h1' hr => exact ⟨hs, h1', hr⟩
  | _ => exact cells_rep1 h (h.one (by simpa [cellsA] using h1)) rfl

theorem allD_spec : ∀ {cs : List AV} {ds : List D}, allD cs = some ds → cs = ds.map .d
  | [], ds, h => by simp [allD] at h; subst h; rfl
  | .d x :: l, ds, h => by
    simp only [allD, Option.map_eq_some_iff] at h
    obtain ⟨ds', h1, rfl⟩ := h
    simp [allD_spec h1]
  | .undef :: _, _, h | .agg _ :: _, _, h | .nilS :: _, _, h | .arr _ _ :: _, _, h | .ptr _ _ :: _, _, h | .cptr _ :: _, _, h | .eptr _ _ _ _ :: _, _, h | .tup _ :: _, _, h | .iface _ _ :: _, _, h | .fn _ _ _ :: _, _, h => by simp [allD] at h

theorem mkAgg_rep {vs : Array Value} {cs : List AV} (h : CellsOk w M r vs cs) : RepA w M r (.agg vs) (mkAgg cs) := by
  unfold mkAgg
  cases e : allD cs with
  | none => exact .agg vs cs h.size h.one h.rep
  | some ds =>
    obtain rfl := allD_spec e
    refine .d _ _ (.agg vs ds (by simpa using h.size) (fun i hi => h.one i (by simpa using hi)) (fun i hi => ?_))
    have := h.rep i (by simpa using hi)
    rw [getD_map_d _ _ hi] at this
    exact this.d_inv

/-- A value of a type, out of its cells. -/
def mkVal (g : Bool) (vs : Array Value) : Value := if g then .agg vs else vs.getD 0 undef
theorem mkV_rep {g : Bool} {vs : Array Value} {cs : List AV} (h : CellsOk w M r vs cs) (hg : g = false → cs.length = 1) : RepA w M r (mkVal g vs) (mkV g cs) := by
  cases g with
  | true => exact mkAgg_rep h
  | false =>
    match cs, hg rfl with
    | [c], _ => exact h.rep 0 (by simp)
theorem mkD_rep {ok : Addr → Prop} {g : Bool} {vs : Array Value} {cs : List D} (hs : vs.size = cs.length) (h1 : ∀ j, j < cs.length → (vs.getD j undef).oneCell' = true) (hr : ∀ j, j < cs.length → Rep w ok (vs.getD j undef) (cs.getD j .nilI))
    (hg : g = false → cs.length = 1) : Rep w ok (mkVal g vs) (mkD g cs) := by
  cases g with
  | true => exact .agg vs cs hs h1 hr
  | false =>
    match cs, hg rfl with
    | [c], _ => exact hr 0 (by simp)
end

/-! ### types -/
section
variable {P : Program}
theorem ty_info {t : TypeId} {g : Bool} {n : Nat} (h : ty? P t = some (g, n)) : ∃ i, P.info? t = some i ∧ i.size = n ∧ (g = false → n = 1) ∧
    ∀ w : World, (isAgg t).run P w = .ok g w := by
  unfold ty? at h
  cases hi : P.info? t with
  | none => simp [hi] at h
  | some i =>
    cases hu : P.underlying t with
    | none => simp [hi, hu] at h
    | some d =>
      rw [hi, hu] at h
      refine ⟨i, rfl, ?_⟩
      cases d with
      | struct fs => simp at h; obtain ⟨rfl, rfl⟩ := h; exact ⟨rfl, by simp, fun w => by simp [isAgg, run_underlying hu]⟩
      | array m e => simp at h; obtain ⟨rfl, rfl⟩ := h; exact ⟨rfl, by simp, fun w => by simp [isAgg, run_underlying hu]⟩
      | _ => simp at h; obtain ⟨h1, rfl, rfl⟩ := h; exact ⟨h1, by simp, fun w => by simp [isAgg, run_underlying hu]⟩

theorem run_loadVar_cells {t : TypeId} {g : Bool} {n : Nat} (h : ty? P t = some (g, n)) (w : World) (a : Addr) (cs : List Value) (hl : cs.length = n) (hc : ∀ j v, cs[j]? = some v → w.cell? (a.add j) = some v) :
    (loadVar t a).run P w = .ok (mkVal g cs.toArray) w := by
  obtain ⟨i, hi, hsz, hg, hagg⟩ := ty_info h
  unfold loadVar
  cases g with
  | true =>
    have hs : (sizeOf t).run P w = .ok n w := by simp [sizeOf, typeInfo, hi, hsz]
    have hld := run_loadCells_list (P := P) w a cs hc
    rw [hl] at hld
    simp only [Sem.run_bind, hagg, Result.andThen_ok, if_true, hs, hld]
    simp [mkVal]
  | false =>
    have hn := hg rfl
    match cs, hl.trans hn with
    | [c], _ =>
      have h0 := hc 0 c rfl
      have e : a.add 0 = a := by simp [Addr.add]
      rw [e] at h0
      simp only [Sem.run_bind, hagg, Result.andThen_ok, Bool.false_eq_true, if_false]
      simp [load, Sem.run, h0, mkVal]

theorem run_storeVar_at {t : TypeId} {g : Bool} {n : Nat} (h : ty? P t = some (g, n)) (w : World) (b o : Nat) (v : Value) (cur : Array Value) (ty : TypeId) (hb : w.heap[b]? = some (.cells cur ty (0, 0)))
    (hn : v.cells.size = n) (hf : o + n ≤ cur.size) (h1 : ∀ u ∈ v.cells.toList, u.oneCell' = true) :
    (storeVar t ⟨b, o, none⟩ v).run P w = .ok () (w.setRow b (cur.toList.take o ++ v.cells.toList ++ cur.toList.drop (o + v.cells.toList.length)).toArray) := by
  obtain ⟨i, hi, hsz, hg, hagg⟩ := ty_info h
  have hst := run_storeCells_at (P := P) b o ty v.cells.toList 0 cur w hb (by simp; omega) h1
  simp only [Nat.add_zero] at hst
  simp [storeVar, sizeOf, typeInfo, hi, hsz, hn, hst]
end
end Go.PE
