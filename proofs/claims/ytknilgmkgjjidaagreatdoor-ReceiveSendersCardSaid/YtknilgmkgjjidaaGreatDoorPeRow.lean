/- From the arguments of a row to data, and from a function of data to the row of a law (see PeV). -/
import Derived.Test.YtknilgmkgjjidaaGreatDoorPe3
import Derived.ReadAgain
import Derived.RowKit
import Derived.ChangeSame
import Derived.Handed
import Derived.OpenShut
import Derived.Deep.Slices
set_option linter.unusedVariables false
set_option linter.unusedSimpArgs false
namespace Go.PE
open Go Go.ChangeShapes Go.WideShapes Go.RowKit Go.Deep

/-- The shape of a type of plain data. -/
inductive Shape where
  | int (k : IntKind)
  | bool
  | str
  | slice (s : Shape)
  | agg (ss : List Shape)

def segs (P : Program) : TypeDesc → Option (List (Nat × TypeId))
  | .struct fs => some (fs.toList.map fun f => (f.offset, f.type))
  | .array n e => some ((List.range n).map fun i => (i * P.cellsOf e, e))
  | _ => none
def shapeL (P : Program) (r : TypeId → Option Shape) (total : Nat) : Nat → List (Nat × TypeId) → Option (List Shape)
  | off, [] => if off = total then some [] else none
  | off, (o, t) :: l => if o = off then match r t, shapeL P r total (off + P.cellsOf t) l with
      | some s, some ss => some (s :: ss)
      | _, _ => none
    else none
def shapeOf (P : Program) : Nat → TypeId → Option Shape
  | 0, _ => none
  | n + 1, t => match P.underlying t with
    | some .bool => some .bool
    | some (.int k) => some (.int k)
    | some .string => some .str
    | some (.slice e) => if 0 < P.cellsOf e then (shapeOf P n e).map .slice else none
    | some (.struct fs) => (shapeL P (shapeOf P n) (P.cellsOf t) 0 (fs.toList.map fun f => (f.offset, f.type))).map .agg
    | some (.array m e) => (shapeL P (shapeOf P n) (P.cellsOf t) 0 ((List.range m).map fun i => (i * P.cellsOf e, e))).map .agg
    | _ => none

mutual
/-- Cells of such a shape. -/
def Fits : Shape → List D → Prop
  | .int k, ds => ∃ n, ds = [.int k n] ∧ (Lit.int k n).wf = true
  | .bool, ds => ∃ b, ds = [.bool b]
  | .str, ds => ∃ s, ds = [.str s]
  | .slice s, ds => ∃ es, ds = [.list es] ∧ ∀ e ∈ es, Fits s e
  | .agg ss, ds => FitsL ss ds
def FitsL : List Shape → List D → Prop
  | [], ds => ds = []
  | s :: ss, ds => ∃ a b, ds = a ++ b ∧ Fits s a ∧ FitsL ss b
end

/-- Cells that are such data. -/
def Cells (w : World) (ok : Addr → Prop) (cs : List Value) (ds : List D) : Prop :=
  cs.length = ds.length ∧ ∀ i, i < ds.length → (cs.getD i undef).oneCell' = true ∧ Rep w ok (cs.getD i undef) (ds.getD i .nilI)
theorem Cells.one {w : World} {ok : Addr → Prop} {v : Value} {d : D} (h1 : v.oneCell' = true) (h : Rep w ok v d) : Cells w ok [v] [d] := by
  refine ⟨rfl, fun i hi => ?_⟩
  have : i = 0 := by simpa using hi
  subst this
  exact ⟨h1, h⟩
theorem Cells.append {w : World} {ok : Addr → Prop} {a b : List Value} {x y : List D} (h : Cells w ok a x) (k : Cells w ok b y) : Cells w ok (a ++ b) (x ++ y) := by
  refine ⟨by rw [List.length_append, List.length_append, h.1, k.1], fun i hi => ?_⟩
  rcases Nat.lt_or_ge i x.length with hx | hx
  · have e1 : (a ++ b).getD i undef = a.getD i undef := by simp [List.getD, List.getElem?_append_left (show i < a.length by rw [h.1]; exact hx)]
    have e2 : (x ++ y).getD i D.nilI = x.getD i .nilI := by simp [List.getD, List.getElem?_append_left hx]
    rw [e1, e2]
    exact h.2 i hx
  · rw [List.length_append] at hi
    have e1 : (a ++ b).getD i undef = b.getD (i - x.length) undef := by simp [List.getD, List.getElem?_append_right (show a.length ≤ i by rw [h.1]; exact hx), h.1]
    have e2 : (x ++ y).getD i D.nilI = y.getD (i - x.length) .nilI := by simp [List.getD, List.getElem?_append_right hx]
    rw [e1, e2]
    exact k.2 _ (by omega)

section
variable {H : Type} {enc : TypeId × Value → H} {P : Program} {w : World} {base : Nat} {spare : Nat → Bool} {held : Bool} {ok : Addr → Prop}

theorem cellsL {r : TypeId → Option Shape} {cs : List Value} (hr : ∀ t s cs x, r t = some s → (∃ n, DataW.trod enc P w base spare held n t cs = some x) → ∃ ds, Fits s ds ∧ Cells w ok cs ds)
    : ∀ (l : List (Nat × TypeId)) (off : Nat) (ss : List Shape), off ≤ cs.length → shapeL P r cs.length off l = some ss → (∀ q ∈ l, ∃ x n, DataW.trod enc P w base spare held n q.2 ((cs.drop q.1).take (P.cellsOf q.2)) = some x) →
      ∃ ds, FitsL ss ds ∧ Cells w ok (cs.drop off) ds
  | [], off, ss, _, h, _ => by
    simp only [shapeL] at h
    split at h
    · rename_i e
      injection h with h
      subst h
      refine ⟨[], rfl, ?_⟩
      rw [e, List.drop_length]
      exact ⟨rfl, fun i hi => absurd hi (Nat.not_lt_zero _)⟩
    · cases h
  | (o, t) :: l, off, ss, ho, h, hq => by
    simp only [shapeL] at h
    split at h
    · rename_i e
      subst e
      split at h
      · rename_i s ss' hs hss
        injection h with h
        subst h
        obtain ⟨x, n, hx⟩ := hq _ (List.mem_cons_self ..)
        obtain ⟨a, ha, hca⟩ := hr t s _ x hs ⟨n, hx⟩
        have hle : o + P.cellsOf t ≤ cs.length := by
          have : ∀ (l : List (Nat × TypeId)) (off : Nat) (ss : List Shape), shapeL P r cs.length off l = some ss → off ≤ cs.length := by
            intro l
            induction l with
            | nil => intro off ss h; simp only [shapeL] at h; split at h; · omega
                     · cases h
            | cons q l ih =>
              intro off ss h
              obtain ⟨o, t⟩ := q
              simp only [shapeL] at h
              split at h
              · split at h
                · rename_i hss
                  have := ih _ _ hss
                  omega
                · cases h
              · cases h
          exact this _ _ _ hss
        obtain ⟨b, hb, hcb⟩ := cellsL hr l (o + P.cellsOf t) ss' hle hss (fun q hq' => hq q (List.mem_cons_of_mem _ hq'))
        refine ⟨a ++ b, ⟨a, b, rfl, ha, hb⟩, ?_⟩
        have e2 : cs.drop o = (cs.drop o).take (P.cellsOf t) ++ cs.drop (o + P.cellsOf t) := by
          rw [← List.drop_drop, List.take_append_drop]
        rw [e2]
        exact hca.append hcb
      · cases h
    · cases h
theorem trod_cells (hok : ∀ a, ok a) : ∀ (m : Nat) (t : TypeId) (s : Shape) (cs : List Value) (x : DataW H × List MemPlace), shapeOf P m t = some s → (∃ n, DataW.trod enc P w base spare held n t cs = some x) → ∃ ds, Fits s ds ∧ Cells w ok cs ds
  | 0, _, _, _, _, h, _ => by cases h
  | m + 1, t, s, cs, x, hs, ⟨n, hx⟩ => by
    have ih := trod_cells hok m
    simp only [shapeOf] at hs
    split at hs
    · rename_i ht
      injection hs with hs
      subst hs
      obtain ⟨b, rfl, -⟩ := DataW.trod_bool ht hx
      exact ⟨[.bool b], ⟨b, rfl⟩, .one rfl (.bool b)⟩
    · rename_i k ht
      injection hs with hs
      subst hs
      obtain ⟨n, rfl, -, hw⟩ := DataW.trod_int ht hx
      exact ⟨[.int k n], ⟨n, rfl, hw⟩, .one rfl (.int k n)⟩
    · rename_i ht
      injection hs with hs
      subst hs
      obtain ⟨b, rfl, -⟩ := DataW.trod_string ht hx
      exact ⟨[.str b.data.toList], ⟨_, rfl⟩, .one rfl (.str b)⟩
    · rename_i e ht
      split at hs
      case isFalse => cases hs
      rename_i hpos
      simp only [Option.map_eq_some_iff] at hs
      obtain ⟨se, hse, rfl⟩ := hs
      rcases open_slice ht hx with ⟨rfl, -⟩ | ⟨a, len, cap, mm, n', Dd, Pl, rfl, hb, hl, hm, hmm, -, hel⟩
      · exact ⟨[.list []], ⟨[], rfl, fun e he => by cases he⟩, .one rfl (.list none 0 0 1 [] (fun _ _ => undef) rfl ⟨Nat.le_refl _, by unfold maxLen; omega⟩ (fun i hi => absurd hi (Nat.not_lt_zero _)) (fun h => absurd h (Nat.lt_irrefl _)) (fun i j hi => absurd hi (Nat.not_lt_zero _)) (fun i j hi => absurd hi (Nat.not_lt_zero _)))⟩
      · have hlen : len ≤ mm := by rw [hmm]; split <;> omega
        have each : ∀ i, ∃ q : List Value × List D, i < len → w.cells? base (a.add (i * P.cellsOf e)) (P.cellsOf e) = some q.1 ∧ Fits se q.2 ∧ Cells w ok q.1 q.2 := by
          intro i
          by_cases hi : i < len
          · obtain ⟨cs', hc, ht'⟩ := hel i (by omega)
            obtain ⟨ds, h1, h2⟩ := ih e se cs' _ hse ⟨n', ht'⟩
            exact ⟨(cs', ds), fun _ => ⟨hc, h1, h2⟩⟩
          · exact ⟨([], []), fun h => absurd h hi⟩
        obtain ⟨q, hq⟩ := Classical.axiomOfChoice each
        have hcell : ∀ i j, i < len → j < P.cellsOf e → w.cell? (a.add (i * P.cellsOf e + j)) = some ((q i).1.getD j undef) ∧ (q i).1.length = P.cellsOf e := by
          intro i j hi hj
          have h := (hq i hi).1
          unfold World.cells? at h
          split at h
          · have hl' : (q i).1.length = P.cellsOf e := by simpa using mapM_some_length h
            have hg := mapM_some_get h j j (by simp [hj])
            rw [add_add] at hg
            refine ⟨?_, hl'⟩
            rw [hg]
            simp [List.getD, show j < (q i).1.length by omega]
          · cases h
        have hget : ∀ i, i < len → ((List.range len).map fun i => (q i).2).getD i [] = (q i).2 := fun i hi => by simp [List.getD, hi]
        have hsz : ∀ i, i < len → (q i).2.length = P.cellsOf e := fun i hi => by
          rw [← (hq i hi).2.2.1]
          exact (hcell i 0 hi hpos).2
        refine ⟨[.list ((List.range len).map fun i => (q i).2)], ⟨_, rfl, fun d hd => ?_⟩, .one rfl (.list (some a) len cap (P.cellsOf e) _ (fun i j => (q i).1.getD j undef) (by simp) ⟨hl, hm⟩ (fun i hi => ?_) (fun h0 => ?_) (fun i j hi hj => ?_) (fun i j hi hj => ?_))⟩
        · obtain ⟨i, hi, rfl⟩ := List.mem_map.1 hd
          exact (hq i (List.mem_range.1 hi)).2.1
        · rw [hget i hi]
          exact hsz i hi
        · refine ⟨a, rfl, ?_, fun i j hi hj => ⟨(hcell i j hi hj).1, hok _⟩⟩
          have := World.cell?_spot (hcell 0 0 h0 hpos).1
          simpa [Addr.add] using this
        · exact ((hq i hi).2.2.2 j (by rw [hsz i hi]; exact hj)).1
        · rw [hget i hi]
          exact ((hq i hi).2.2.2 j (by rw [hsz i hi]; exact hj)).2
    · rename_i fs ht
      simp only [Option.map_eq_some_iff] at hs
      obtain ⟨ss, hss, rfl⟩ := hs
      obtain ⟨xs, n', -, -, hl, hxl, hf⟩ := DataW.trod_struct ht hx
      rw [← hl] at hss
      obtain ⟨ds, h1, h2⟩ := cellsL (cs := cs) (fun t s cs x h1 h2 => ih t s cs x h1 h2) _ 0 ss (Nat.zero_le _) hss (fun q hq => by
        obtain ⟨f, hfm, rfl⟩ := List.mem_map.1 hq
        obtain ⟨i, hi, e⟩ := List.mem_iff_getElem.1 hfm
        have hi' : i < xs.length := by rw [hxl]; simpa using hi
        have := hf i f (by rw [← e]; simp)
        rw [List.getElem?_eq_getElem hi'] at this
        exact ⟨_, _, this⟩)
      exact ⟨ds, h1, by simpa using h2⟩
    · rename_i k e ht
      simp only [Option.map_eq_some_iff] at hs
      obtain ⟨ss, hss, rfl⟩ := hs
      obtain ⟨xs, n', -, -, hl, hxl, hf⟩ := DataW.trod_array ht hx
      rw [← hl] at hss
      obtain ⟨ds, h1, h2⟩ := cellsL (cs := cs) (fun t s cs x h1 h2 => ih t s cs x h1 h2) _ 0 ss (Nat.zero_le _) hss (fun q hq => by
        obtain ⟨i, hi, rfl⟩ := List.mem_map.1 hq
        have hi := List.mem_range.1 hi
        have hi' : i < xs.length := by rw [hxl]; exact hi
        have := hf i hi
        rw [List.getElem?_eq_getElem hi'] at this
        exact ⟨_, _, this⟩)
      exact ⟨ds, h1, by simpa using h2⟩
    · cases hs

/-- The data of an argument. -/
def FitsV : Shape → D → Prop
  | .agg ss, d => ∃ ds, d = .agg ds ∧ FitsL ss ds
  | s, d => Fits s [d]
theorem arg_rep (hok : ∀ a, ok a) {m : Nat} {t : TypeId} {s : Shape} {v : Value} {W : World} {b0 : Nat} {d : DataW H} {p : List MemPlace} (hs : shapeOf P m t = some s) (hval : Value.okWide P W .any b0 t v) (h : DataW.Trod enc P w base spare held t v d p) :
    ∃ x, FitsV s x ∧ Rep w ok v x := by
  obtain ⟨fuel, hf⟩ := h
  obtain ⟨ds, h1, h2⟩ := trod_cells (ok := ok) hok m t s _ _ hs ⟨fuel, hf⟩
  have one : ∀ {s : Shape} {v : Value}, v.cells = #[v] → (∀ ds, Fits s ds → ∃ x, ds = [x]) → Fits s ds → Cells w ok v.cells.toList ds → ∃ x, Fits s [x] ∧ Rep w ok v x := by
    intro s v hv hx h1 h2
    obtain ⟨x, rfl⟩ := hx ds h1
    refine ⟨x, h1, ?_⟩
    have := (h2.2 0 (by simp)).2
    rw [hv] at this
    exact this
  cases m with
  | zero => cases hs
  | succ m =>
    simp only [shapeOf] at hs
    split at hs
    · rename_i ht
      injection hs with hs
      subst hs
      obtain ⟨b, rfl⟩ := okWide_bool ht hval
      exact one rfl (fun ds ⟨b, h⟩ => ⟨_, h⟩) h1 h2
    · rename_i k ht
      injection hs with hs
      subst hs
      obtain ⟨n, rfl⟩ := okWide_int ht hval
      exact one rfl (fun ds ⟨b, h, _⟩ => ⟨_, h⟩) h1 h2
    · rename_i ht
      injection hs with hs
      subst hs
      obtain ⟨n, rfl⟩ := okWide_string ht hval
      exact one rfl (fun ds ⟨b, h⟩ => ⟨_, h⟩) h1 h2
    · rename_i e ht
      split at hs
      case isFalse => cases hs
      simp only [Option.map_eq_some_iff] at hs
      obtain ⟨se, hse, rfl⟩ := hs
      obtain ⟨a, len, cap, rfl⟩ := okWide_slice ht hval
      exact one rfl (fun ds ⟨b, h, _⟩ => ⟨_, h⟩) h1 h2
    · rename_i fs ht
      simp only [Option.map_eq_some_iff] at hs
      obtain ⟨ss, hss, rfl⟩ := hs
      simp only [Value.okWide, ht] at hval
      obtain ⟨cs, rfl, -⟩ := hval
      refine ⟨.agg ds, ⟨ds, rfl, h1⟩, .agg cs ds (by simpa [Value.cells] using h2.1) (fun i hi => ?_) (fun i hi => ?_)⟩
      · simpa [Value.cells, Array.getD_eq_getD_getElem?, List.getD] using (h2.2 i hi).1
      · simpa [Value.cells, Array.getD_eq_getD_getElem?, List.getD] using (h2.2 i hi).2
    · rename_i k e ht
      simp only [Option.map_eq_some_iff] at hs
      obtain ⟨ss, hss, rfl⟩ := hs
      simp only [Value.okWide, ht] at hval
      obtain ⟨cs, rfl, -⟩ := hval
      refine ⟨.agg ds, ⟨ds, rfl, h1⟩, .agg cs ds (by simpa [Value.cells] using h2.1) (fun i hi => ?_) (fun i hi => ?_)⟩
      · simpa [Value.cells, Array.getD_eq_getD_getElem?, List.getD] using (h2.2 i hi).1
      · simpa [Value.cells, Array.getD_eq_getD_getElem?, List.getD] using (h2.2 i hi).2
    · cases hs

/-- All arguments. -/
def shapes (P : Program) : List TypeId → Option (List Shape)
  | [] => some []
  | t :: ts => match shapeOf P 8 t, shapes P ts with
    | some s, some ss => some (s :: ss)
    | _, _ => none
def FitsA : List Shape → List D → Prop
  | [], ds => ds = []
  | s :: ss, ds => ∃ x xs, ds = x :: xs ∧ FitsV s x ∧ FitsA ss xs
theorem args_rep (hok : ∀ a, ok a) {W : World} {b0 : Nat} : ∀ {ts : List TypeId} {ss : List Shape} {vs : List Value} {ds : List (DataW H)} {p : List MemPlace}, shapes P ts = some ss →
    (∀ (j : Nat) t v, ts[j]? = some t → vs[j]? = some v → Value.okWide P W .any b0 t v) → DataW.TrodAll enc P w base spare held ts vs ds p →
    ∃ xs : List D, FitsA ss xs ∧ vs.length = xs.length ∧ ∀ i, i < xs.length → Rep w ok (vs.getD i undef) (xs.getD i .nilI)
  | [], ss, vs, ds, p, hs, hv, h => by
    obtain ⟨rfl, -, -⟩ := trodAll_nil h
    simp only [shapes] at hs
    injection hs with hs
    subst hs
    exact ⟨[], rfl, rfl, fun i hi => absurd hi (Nat.not_lt_zero _)⟩
  | t :: ts, ss, vs, ds, p, hs, hv, h => by
    obtain ⟨v, vs1, d, ds1, a, b, rfl, rfl, rfl, h1, h2⟩ := trodAll_cons h
    simp only [shapes] at hs
    split at hs
    · rename_i s ss' e1 e2
      injection hs with hs
      subst hs
      obtain ⟨x, hx, hr⟩ := arg_rep hok e1 (hv 0 t v rfl rfl) h1
      obtain ⟨xs, hxs, hl, hrs⟩ := args_rep hok e2 (fun j t v ht hv' => hv (j + 1) t v ht hv') h2
      refine ⟨x :: xs, ⟨x, xs, rfl, hx, hxs⟩, by simp [hl], fun i hi => ?_⟩
      cases i with
      | zero => exact hr
      | succ i => exact hrs i (by simpa using hi)
    · cases hs
end

theorem Keep.same {w w' : World} (h : Keep w [] w') {p : MemPlace} (hp : p.block < w.heap.size) : w.sameAt w' p := by
  cases p with
  | cell b off =>
    have := h.block b hp (by simp)
    show w'.cell? _ = w.cell? _
    unfold World.cell?
    rw [this]
  | map b => exact h.block b hp (by simp)
theorem Keep.kept {w w' : World} (h : Keep w [] w') (may : MemPlace → Prop) : w.keptBut w' may := by
  refine ⟨h.os, h.output, fun i hi => ?_⟩
  rw [h.block i hi (by simp)]
  exact (World.keptBut_refl w may).2.2 i hi
theorem Keep.frozen {w w' : World} (h : Keep w [] w') {a : Addr} (ha : a.block < w.heap.size) : w'.frozen? a = w.frozen? a := by
  unfold World.frozen?
  rw [h.block _ ha (by simp)]

section
variable {H : Type} {enc : TypeId × Value → H} {P : Program}
theorem Keep.trodAll {w w' : World} (h : Keep w [] w') {base : Nat} {spare : Nat → Bool} {held : Bool} : ∀ {ts : List TypeId} {vs : List Value} {ds : List (DataW H)} {p : List MemPlace}, DataW.TrodAll enc P w base spare held ts vs ds p → DataW.TrodAll enc P w' base spare held ts vs ds p
  | [], vs, ds, p, ht => by
    obtain ⟨rfl, rfl, rfl⟩ := trodAll_nil ht
    exact rfl
  | t :: ts, vs, ds, p, ht => by
    obtain ⟨v, vs1, d, ds1, a, b, rfl, rfl, rfl, ⟨n, h1⟩, h2⟩ := trodAll_cons ht
    exact ⟨a, b, ⟨n, DataW.trod_carry n t _ _ h1 fun p hp => h.same (DataW.trod_lt n t _ _ h1 p hp)⟩, Keep.trodAll h h2, rfl⟩

/-- A law: a function of data that answers true leaves the world as a law's row asks. -/
theorem law_calls {f : FuncId} {fn : Func} {sp : Spec} {s : ChangeSpec} {ss : List Shape} {tb : TypeId} (hf : FPure P f sp) (hs : shapes P fn.params.toList = some ss) (hK : ∀ ds, FitsA ss ds → sp ds fun o => o = .ret (.d (.bool true)))
    (hl : laidOutB P = true) (hm : mapsRowed P = true) (hz : ((List.range P.types.size).all fun t => match P.underlying t with | some (.slice e) => decide (0 < P.cellsOf e) | _ => true) = true)
    (hp' : (fn.params.toList.all fun t => decide (t < P.types.size)) = true) (hr : fn.resultTypes = #[tb]) (hb : P.underlying tb = some .bool) (hvars : s.vars = [])
    (hres : ∀ ds : List (DataW H), ds.length = fn.params.toList.length → (s.fn H ds).results = [.lit (.bool true)] ∧ (s.fn H ds).args = ds ∧ (s.fn H ds).vars = [])
    {apart fresh handsOn again : Bool} {W : World} {base : Nat} {args : Array Value} {ds gs : List (DataW H)} {before : List MemPlace}
    (hval : ∀ (j : Nat) t v, fn.params[j]? = some t → args[j]? = some v → Value.okWide P W .any base t v)
    (hW : DataW.Whole enc P fn.params.toList s.vars apart W args.toList ds gs before) :
    Calls P f args W fun e W' => ∃ v, e = .returned v ∧ s.post enc P fn apart fresh handsOn again W args v W' := by
  have hp : ∀ t ∈ fn.params.toList, t < P.types.size := fun t ht => of_decide_eq_true (List.all_eq_true.1 hp' t ht)
  have hW' := hW
  obtain ⟨p, q, hA, hV, rfl, hfz, hnd⟩ := hW
  rw [hvars] at hV
  obtain ⟨rfl, rfl⟩ := trodVars_none hV
  obtain ⟨xs, hfit, hlen, hrep⟩ := args_rep (ok := Okc (Mno fun _ => False) []) (fun a => mno_okc.2 fun h => h) hs (fun j t v ht hv => hval j t v (by simpa using ht) (by simpa using hv)) hA
  have hds : ds.length = fn.params.toList.length := by
    have : ∀ {ts : List TypeId} {vs : List Value} {ds : List (DataW H)} {p : List MemPlace}, DataW.TrodAll enc P W 0 (fun _ => true) true ts vs ds p → ds.length = ts.length := by
      intro ts
      induction ts with
      | nil => intro vs ds p h; obtain ⟨-, rfl, -⟩ := trodAll_nil h; rfl
      | cons t ts ih => intro vs ds p h; obtain ⟨v, vs1, d, ds1, a, b, rfl, rfl, rfl, h1, h2⟩ := trodAll_cons h; simp [ih h2]
    exact this hA
  obtain ⟨hr1, hr2, hr3⟩ := hres ds hds
  refine (hf W (fun _ => False) args xs _ (fun a h => h.elim) ⟨by simpa using hlen, fun i hi => ?_⟩ (hK xs hfit)).2.mono fun e W' he => ?_
  · have hi' : i < xs.length := by simpa using hi
    have e1 : (xs.map AV.d).getD i .undef = .d (xs.getD i .nilI) := by simp [List.getD, hi']
    have e2 : args.getD i undef = args.toList.getD i undef := by simp [Array.getD_eq_getD_getElem?, List.getD]
    rw [e1, e2]
    exact .d _ _ (hrep i hi')
  · cases e with
    | panicked ch => obtain ⟨x, u, h1, -⟩ := he; cases h1
    | outgrown => exact he.elim
    | returned v =>
      obtain ⟨x, h1, hk, hrv, -⟩ := he
      injection h1 with h1
      subst h1
      cases hrv with
      | d _ _ hrv =>
      cases hrv
      have hK := kids_rows hl hm
      have hfull := slices_full_of P hz
      have hargs : ∀ spare' : Nat → Bool, (∀ y ∈ p ++ [], spare' y.block = true) → DataW.TrodAll enc P W' 0 spare' true fn.params.toList args.toList (s.fn H (ds ++ [])).args p := by
        intro spare' hsp
        rw [List.append_nil, hr2]
        exact DataW.TrodAll.respare hK hfull hp (hk.trodAll hA) (fun y hy => hsp y (List.mem_append_left _ hy))
      have hresT : ∀ (b : Nat) (sp : Nat → Bool) (hd : Bool), DataW.TrodAll enc P W' b sp hd fn.resultTypes.toList ((Value.bool true).resultList fn.resultTypes.size) (s.fn H (ds ++ [])).results [] := by
        intro b sp hd
        rw [List.append_nil, hr1, hr]
        exact trodAll_mk1 (shut_bool hb true)
      have hold : ∀ y ∈ p ++ [], (fun b => decide (b < W.heap.size)) y.block = true := fun y hy => by simpa using hW'.lt y hy
      refine ⟨_, rfl, ds, [], p ++ [], [], p, [], hW', hresT _ _ _, hargs _ hold, by rw [hvars, List.append_nil, hr3]; exact rfl, World.keptBut_mono (fun y hy => ⟨hy, Or.inr (by simpa using hy)⟩) (hk.kept (· ∈ p ++ [])), fun _ => ⟨?_, ?_⟩⟩
      · exact ok_one hr rfl (okWide_bool_mk hb true)
      · refine ⟨_, [], _, ⟨[] ++ p, [], trodAll_append (hargs (fun _ => true) (fun _ _ => rfl)) (hresT _ _ _), by rw [hvars]; exact rfl, rfl, ?_, ?_⟩, ?_⟩
        · intro b off hb'
          have hb2 : MemPlace.cell b off ∈ p ++ [] := by simpa using hb'
          rw [hk.frozen (hW'.lt _ hb2)]
          exact hfz b off hb2
        · intro ha
          have := hnd ha
          simpa using this
        · intro y hy _
          simpa using hy
end
end Go.PE
