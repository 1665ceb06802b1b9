/- Joined: PeVe, PeCa, PeCb, PeCt, PeCc, PeCe, PeCf, PeCg, PeCh, PeCd, PeCi. -/
import Derived.Test.YtknilgmkgjjidaaGreatDoorPe3
import Derived.RangeFuncOwn
import Derived.RangeFuncLeaves
section
/- A function that ranges once over a function which yields nothing (see PeU, PeVd). -/
set_option linter.unusedVariables false
set_option linter.unusedSimpArgs false
set_option maxHeartbeats 1000000
namespace Go.PE
open Go

def Mem.blocks (M : Mem) : List Nat := M.bb ++ M.av.filterMap Value.ownBlock
theorem blocks_spec {M : Mem} {k : Nat} (h : k ∈ M.blocks) : (∃ i, i < M.bb.length ∧ M.blk i = k) ∨ ∃ i, (M.row i).ownBlock = some k := by
  unfold Mem.blocks at h
  rw [List.mem_append, List.mem_filterMap] at h
  rcases h with h | ⟨v, hv, hk⟩
  · obtain ⟨i, hi, e⟩ := List.mem_iff_getElem.1 h
    exact .inl ⟨i, hi, by simp [Mem.blk, List.getD, List.getElem?_eq_getElem hi, e]⟩
  · obtain ⟨i, hi, e⟩ := List.mem_iff_getElem.1 hv
    exact .inr ⟨i, by simp [Mem.row, List.getD, List.getElem?_eq_getElem hi, e, hk]⟩
theorem blocks_blk {M : Mem} {i : Nat} (h : i < M.bb.length) : M.blk i ∈ M.blocks := by
  unfold Mem.blocks
  rw [List.mem_append]
  refine .inl ?_
  simp [Mem.blk, List.getD, List.getElem?_eq_getElem h]
theorem blocks_row {M : Mem} {i g : Nat} (h : (M.row i).ownBlock = some g) : g ∈ M.blocks := by
  have hl := row_len h
  unfold Mem.blocks
  rw [List.mem_append, List.mem_filterMap]
  refine .inr ⟨M.row i, ?_, h⟩
  simp [Mem.row, List.getD, List.getElem?_eq_getElem hl]
section
variable {w0 : World} {F : List Nat} {M : Mem} {b : List (List AV)} {r : List Arr} {w : World}
/-- A new start: only the call's own blocks may turn from here on. -/
theorem Inv.rebaseN (h : Inv w0 F M b r w) : Inv w M.blocks M b r w :=
  ⟨.refl _ _, h.lb, h.lr, h.box, h.row, fun i hi => .inl (blocks_blk hi), fun i g hg => .inl (blocks_row hg), h.dbb, h.drr, h.dbr, fun a ha => ⟨Nat.lt_of_lt_of_le (h.no a ha).1 h.keep.size, (h.no a ha).2⟩⟩
theorem Inv.unbaseN {M' : Mem} {b' : List (List AV)} {r' : List Arr} {w' : World} (h : Inv w0 F M b r w) (h' : Inv w M.blocks M' b' r' w') (hno : M'.no = M.no) : Inv w0 F M' b' r' w' := by
  have hF : ∀ k, k ∈ M.blocks → k ∈ F ∨ w0.heap.size ≤ k := by
    intro k hk
    rcases blocks_spec hk with ⟨i, hi, rfl⟩ | ⟨i, hi⟩
    · exact h.fb i hi
    · exact h.fr i k hi
  refine ⟨⟨h'.keep.os.trans h.keep.os, h'.keep.tape.trans h.keep.tape, h'.keep.output.trans h.keep.output, Nat.le_trans h.keep.size h'.keep.size, fun k hk hkF => ?_⟩, h'.lb, h'.lr, h'.box, h'.row, fun i hi => ?_, fun i g hg => ?_, h'.dbb, h'.drr, h'.dbr, fun a ha => ?_⟩
  · rw [h'.keep.block k (Nat.lt_of_lt_of_le hk h.keep.size) (fun hm => ?_)]
    · exact h.keep.block k hk hkF
    · rcases hF k hm with h1 | h1
      · exact hkF h1
      · omega
  · rcases h'.fb i hi with h1 | h1
    · exact hF _ h1
    · exact .inr (Nat.le_trans h.keep.size h1)
  · rcases h'.fr i g hg with h1 | h1
    · exact hF _ h1
    · exact .inr (Nat.le_trans h.keep.size h1)
  · exact ⟨(h.no a (hno ▸ ha)).1, (h'.no a ha).2⟩
/-- A block that holds no cells turns. -/
theorem Inv.putObj (h : Inv w0 F M b r w) {l : Nat} {o : Obj} (hl : w.heap[l]? = some o) (ho : o.isCells = false) (h0 : w0.heap.size ≤ l) (o' : Obj) : Inv w0 F M b r (w.putObj l o') ∧ Chg w M r (w.putObj l o') M r := by
  have hg := grownBy_putObj' w l o'
  have hrow : ∀ g, some l = some g → ∃ o : Obj, w.heap[g]? = some o ∧ o.isCells = false := fun g e => by injection e with e; subst e; exact ⟨o, hl, ho⟩
  have hc : Chg w M r (w.putObj l o') M r := ⟨fun a u hok hcell => ⟨cell_kept hcell hg hrow, hok⟩, Nat.le_refl _, fun _ _ => rfl, fun _ A hA => ⟨A, hA, Nat.le_refl _, rfl, fun _ => rfl⟩, rfl⟩
  have hne : ∀ {k : Nat} {cs : Array Value} {ty : TypeId} {q : Nat × Nat}, w.heap[k]? = some (.cells cs ty q) → k ≠ l := by
    intro k cs ty q hk e
    subst e
    rw [hk] at hl
    injection hl with hl
    rw [← hl] at ho
    cases ho
  refine ⟨⟨h.keep.grown hg (fun g e => by injection e with e; exact .inr (e ▸ h0)), h.lb, h.lr, fun i cells hi => ?_, fun i A hA => ?_, h.fb, h.fr, h.dbb, h.drr, h.dbr, h.no⟩, hc⟩
  · obtain ⟨cs, ty, hh, hs, h1, hr⟩ := h.box i cells hi
    exact ⟨cs, ty, by rw [hg.block _ (blk_lt hh) (fun e => hne hh (by injection e))]; exact hh, hs, h1, fun j hj => (hr j hj).mono hc⟩
  · obtain ⟨hz, he, xs, ho2, h1, hr⟩ := h.row i A hA
    refine ⟨hz, he, xs, ho2.kept hg ?_, h1, fun k j hk hj => (hr k j hk hj).mono hc⟩
    rcases ho2.2 with ⟨e, _⟩ | ⟨g, cap, cur, o2, e, hh, _⟩
    · left
      rw [e]
      rfl
    · right
      rw [e]
      intro e2
      refine hne hh ?_
      simpa [Value.ownBlock] using e2
end

/-- The call of the function that is ranged over; its argument yield is not used. -/
def rngR (v : AV) (st : St) : Res := match v with
  | .fn (.func g) [] caps => .call g (.undef :: caps) st
  | _ => .fail
def rangeQ (P : Program) (fn : Func) (K : Out → List (List AV) → List Arr → Prop) (e : Ex) (st : St) : Prop := match e with
  | .normal => resK P st fn.results.toList fun vs => K (.ret (oneV vs)) st.b st.r
  | .ret => resK P st fn.results.toList fun vs => K (.ret (oneV vs)) st.b st.r
  | _ => False
/-- Code that ends with a range over a function. -/
def lastR : Code → Option (Code × Operand)
  | .seq a (.block _ (.rangeFunc g _ _ _)) => some (a, g)
  | _ => none
/-- The code's spine, up to the range over a function and behind it. -/
def evalH (P : Program) (E : Env) (pl : Nat → List (Nat × Bool × List Nat)) (fn : Func) (K : Out → List (List AV) → List Arr → Prop) : Code → St → Prop
  | .seq a b, st => match lastR a with
    | some (c0, g) => evalK P E pl c0 st fun e st1 => match e with
      | .normal => runK E (rngR (st1.ev g) st1) (fun _ st2 => evalK P E pl b { st2 with t := st1.t } (rangeQ P fn K)) (fun _ _ => False)
      | e => rangeQ P fn K e st1
    | none => evalK P E pl a st fun e st1 => match e with
      | .normal => evalH P E pl fn K b st1
      | e => rangeQ P fn K e st1
  | _, _ => False
def drawsH (pl : Nat → List (Nat × Bool × List Nat)) : Code → Bool
  | .seq a b => (match lastR a with
    | some (c0, _) => drawsB pl c0 && drawsB pl b
    | none => drawsB pl a && drawsH pl b)
  | _ => true
section
variable {P : Program} {E : Env} {pl : Nat → List (Nat × Bool × List Nat)} {w0 : World} {F : List Nat} {M : Mem} {w : World}
/-- Code that is walked from a state on. -/
def Goes (P : Program) (c : Code) (st : St) (Q : Ex → St → Prop) : Prop :=
  ∀ (ds : List Deferred) (w0 : World) (F : List Nat) (W0 : World) (M0 : Mem) (r0 : List Arr) (a : Act) (w : World), At (fun a => a.defers = ds) w0 F W0 M0 r0 [] st a w → c.wp P (PostQ (fun a => a.defers = ds) w0 F W0 M0 r0 Q) a w
theorem Goes.mono {c : Code} {st : St} {Q Q' : Ex → St → Prop} (h : Goes P c st Q) (k : ∀ e s, Q e s → Q' e s) : Goes P c st Q' := by
  intro ds w0 F W0 M0 r0 a w hat
  refine Go.wp_mono (h ds w0 F W0 M0 r0 a w hat) (fun e a' w' hq => ?_)
  cases e with
  | normal => obtain ⟨st, h1, h2⟩ := hq; exact ⟨st, h1, k _ _ h2⟩
  | ret => obtain ⟨st, h1, h2⟩ := hq; exact ⟨st, h1, k _ _ h2⟩
  | exit i => obtain ⟨st, h1, h2⟩ := hq; exact ⟨st, h1, k _ _ h2⟩
  | panic ch => obtain ⟨st, x, u, e, h1, h2⟩ := hq; exact ⟨st, x, u, e, h1, k _ _ h2⟩
  | goto l => exact hq
  | outgrown => exact hq
theorem Goes.ofK (hE : E.Ok P) (hm : P.follows .mixedOrders = true) {c : Code} (hdr : drawsB pl c = true) (hnc : ∀ i, pl (i + 200000) = []) {st : St} {Q : Ex → St → Prop} (h : evalK P E pl c st Q) : Goes P c st Q :=
  fun ds w0 F W0 M0 r0 a w hat => evalK_sound hE hm c (keeps_defers ds c) hdr (.inr hnc) _ _ _ _ hat h
def spineG (P : Program) (E : Env) (fn : Func) (K : Out → List (List AV) → List Arr → Prop) : Code → St → Prop
  | .seq a b, st => match lastR a with
    | some (c0, g) => Goes P c0 st fun e st1 => match e with
      | .normal => ∃ Kc : AV → St → Prop, runK E (rngR (st1.ev g) st1) Kc (fun _ _ => False) ∧ ∀ v st2, Kc v st2 → Goes P b { st2 with t := st1.t } (rangeQ P fn K)
      | e => rangeQ P fn K e st1
    | none => Goes P a st fun e st1 => match e with
      | .normal => spineG P E fn K b st1
      | e => rangeQ P fn K e st1
  | _, _ => False
theorem range_step (hE : E.Ok P) {fn : Func} {c2 : Code} {g : Operand} {ps : Array Tmp} {asg bd : Code} {bid : Nat}
    {r : List Arr} {K : Out → List (List AV) → List Arr → Prop} {st1 : St} {a1 : Act} {w1 : World} (hst : At (fun a => a.defers = []) w0 F w M r [] st1 a1 w1)
    (hk : ∃ Kc : AV → St → Prop, runK E (rngR (st1.ev g) st1) Kc (fun _ _ => False) ∧ ∀ v st2, Kc v st2 → Goes P c2 { st2 with t := st1.t } (rangeQ P fn K)) :
    (Code.rangeFunc g ps asg bd).wp P (Exit.inBlock bid (Exit.then (c2.wp P (bodyPostM Fence.wide 0 P fn (EndQ w0 F M r w K))) (bodyPostM Fence.wide 0 P fn (EndQ w0 F M r w K)))) a1 w1 := by
  obtain ⟨M1, hI1, hR1, hd1, hC1⟩ := hst
  have hd1 : a1.defers = [] := hd1
  have hR1' : Rept w1 M1 st1.r a1.tmps st1.t := ⟨hR1.1, fun i hi => hR1.2 i hi (fun p hp => absurd hp (by simp))⟩
  have hgv := ev_rep hR1' g
  obtain ⟨Kc, hk, hKc⟩ := hk
  unfold rngR at hk
  split at hk
  case h_2 => exact hk.elim
  rename_i gf caps hge
  rw [hge] at hgv
  generalize hgval : a1.eval g = gv at hgv
  cases hgv with
  | fn _ fs us _ _ hs1 hs2 hr1 hr2 =>
  obtain rfl : fs = #[] := Array.eq_empty_of_size_eq_zero hs1
  -- the loop's two blocks
  refine (wpIn_wide (n := 0)).1 (wpIn_rangeFunc ?_)
  intro fnid _
  obtain ⟨rec0, hrec⟩ : ∃ rec0 : LoopState → Loop, rec0 = fun st => { state := st, pending := none, fn := fnid, tmps := a1.tmps, params := ps, assign := asg, body := bd, defers := w1.heap.size } := ⟨_, rfl⟩
  obtain ⟨W1, hW1⟩ : ∃ W1, (w1.alloc (.deferred (some []))).alloc (.loop (rec0 .ready)) = W1 := ⟨_, rfl⟩
  have hL1 : W1.heap[w1.heap.size + 1]? = some (.loop (rec0 .ready)) := by
    rw [← hW1]; have := World.alloc_heap_new (w1.alloc (.deferred (some []))) (.loop (rec0 .ready)); rwa [World.size_alloc] at this
  have hK1 : W1.heap[w1.heap.size]? = some (.deferred (some [])) := by
    rw [← hW1]; exact (RowKit.Below.heap_alloc _ _ _ (by simp)).trans (World.alloc_heap_new w1 _)
  obtain ⟨hIa, hCa⟩ := hI1.grow (World.grownBy_alloc w1 (.deferred (some [])) none)
  obtain ⟨hIb, hCb⟩ := hIa.grow (World.grownBy_alloc (w1.alloc (.deferred (some []))) (.loop (rec0 .ready)) none)
  rw [hW1] at hIb hCb
  have hCab := hCa.trans hCb
  have hnew : ∀ k, w1.heap.size ≤ k → k ∉ M1.blocks := by
    intro k hk hm
    rcases blocks_spec hm with ⟨i, hi, e⟩ | ⟨i, hi⟩
    · have := hI1.box_lt hi
      omega
    · have := hI1.row_lt hi
      omega
  have hs2' : w1.heap.size + 1 < W1.heap.size := (Array.getElem?_eq_some_iff.1 hL1).1
  have hargs : RepL W1 M1 st1.r (#[Value.func (.yield (w1.heap.size + 1)) #[] #[]] ++ us) (.undef :: caps) := by
    refine ⟨by simp [hs2]; omega, fun i hi => ?_⟩
    cases i with
    | zero => exact .undef _
    | succ i =>
      have hi' : i < caps.length := by simpa using hi
      have e1 : (#[Value.func (.yield (w1.heap.size + 1)) #[] #[]] ++ us).getD (i + 1) undef = us.getD i undef := by
        simp only [Array.getD_eq_getD_getElem?]
        rw [Array.getElem?_append_right (by simp)]
        simp
      rw [e1]
      exact (hr2 i hi').mono hCab
  obtain ⟨hent, hcalls⟩ := hE.h gf hIb.rebaseN hargs hk
  have h1 : (Instr.enterLoop fnid a1.tmps ps asg bd none).run P w1 = .ok (w1.heap.size + 1, [{ target := .collected w1.heap.size, args := #[] }]) W1 := by
    rw [← hW1, hrec]; exact run_enterLoop_outer _ _ _ _ _
  have h2 : (resolve a1.eval (rangeCall g (w1.heap.size + 1)) 0).run P W1 = .ok { target := .fn (.func gf) us, args := #[.func (.yield (w1.heap.size + 1)) #[] #[]] } W1 := by
    simp only [resolve, hgval]
    simp [go_sem, Deferred.ofValue, Act.eval]
  have h3 : (invoke (.fn (.func gf) us) #[.func (.yield (w1.heap.size + 1)) #[] #[]]).run P W1 = .ok (.enter gf (#[.func (.yield (w1.heap.size + 1)) #[] #[]] ++ us)) W1 := by
    have eg : ∀ args w, (callFunc gf args).run P w = .ok (.enter gf args) w := hent
    simp [invoke, go_sem, eg]
  refine ⟨_, _, _, _, _, _, _, _, h1, h2, fun _ _ => trivial, h3, ?_, ?_⟩
  · intro h
    simp [Fence.wide] at h
  have hci := (callsIn_wide (n := 0 - 1)).2 hcalls
  refine CallsIn.mono hci ?_
  rintro e W3 he
  cases e with
  | outgrown => exact he.elim
  | panicked ch =>
    obtain ⟨x, b', r', M', u, hK, _⟩ := he
    exact hK.elim
  | returned v =>
  obtain ⟨x, b3, r3, M3, hk2, hI3, hC3, -⟩ := he
  have hk2 : Goes P c2 ⟨st1.t, b3, r3⟩ (rangeQ P fn K) := hKc _ _ hk2
  have hL3 : W3.heap[w1.heap.size + 1]? = some (.loop (rec0 .ready)) := by
    rw [hI3.keep.block _ hs2' (hnew _ (by omega))]
    exact hL1
  have hK3 : W3.heap[w1.heap.size]? = some (.deferred (some [])) := by
    rw [hI3.keep.block _ (by omega) (hnew _ (by omega))]
    exact hK1
  have hI3' := hIb.unbaseN hI3 hC3.no
  have hsz := hI1.keep.size
  obtain ⟨hI4, hC4⟩ := hI3'.putObj hL3 rfl (by omega) (.loop { rec0 .ready with state := .exhausted })
  have hK4 : (W3.putObj (w1.heap.size + 1) (.loop { rec0 .ready with state := .exhausted })).heap[w1.heap.size]? = some (.deferred (some [])) := (World.putObj_heap_other (by omega)).trans hK3
  have hend := run_endLoop (P := P) hL3 (by rw [hrec]; simp)
  obtain ⟨W4, hW4⟩ : ∃ W4, W3.putObj (w1.heap.size + 1) (.loop { rec0 .ready with state := .exhausted }) = W4 := ⟨_, rfl⟩
  rw [hW4] at hend hI4 hC4 hK4
  have hpe : (rec0 .ready).pending = none := by rw [hrec]
  rw [hpe] at hend
  refine ⟨none, _, hend, ?_⟩
  have hC14 := ((hC1.trans hCab).trans hC3).trans hC4
  have hnew3 : w1.heap.size ∉ M3.blocks := by
    intro hm
    rcases blocks_spec hm with ⟨i, hi, e⟩ | ⟨i, hi⟩
    · obtain ⟨cs, ty, hh, _⟩ := hI4.box i _ (List.getElem?_eq_getElem (by rw [← hI4.lb]; exact hi))
      rw [e, hK4] at hh
      cases hh
    · have hl := row_len hi
      obtain ⟨_, _, xs, ho, _⟩ := hI4.row i _ (List.getElem?_eq_getElem (by rw [← hI4.lr]; exact hl))
      rcases ho.2 with ⟨e, _⟩ | ⟨g2, cap, cur, o2, e, hh, _⟩
      · rw [e] at hi
        simp [Value.ownBlock] at hi
      · rw [e] at hi
        simp [Value.ownBlock] at hi
        rw [hi, hK4] at hh
        cases hh
  have hd1m : ([{ target := .collected w1.heap.size, args := #[] }] ++ a1.defers : List Deferred) = [{ target := .collected w1.heap.size, args := #[] }] := by rw [hd1]; rfl
  have hat4 : At (fun a => a.defers = [{ target := .collected w1.heap.size, args := #[] }]) W4 M3.blocks W4 M3 r3 [] ⟨st1.t, b3, r3⟩ { a1 with defers := [{ target := .collected w1.heap.size, args := #[] }] ++ a1.defers } W4 :=
    ⟨M3, hI4.rebaseN, ⟨hR1.1, fun i hi hp => (hR1.2 i hi hp).mono ((hCab.trans hC3).trans hC4)⟩, hd1m, .refl _ _ _⟩
  refine Go.wp_mono (hk2 _ _ _ _ _ _ _ W4 hat4) (fun e a5 w5 hq => ?_)
  have ret : ∀ st, At (fun a => a.defers = [{ target := .collected w1.heap.size, args := #[] }]) W4 M3.blocks W4 M3 r3 [] st a5 w5 → (resK P st fn.results.toList fun vs => K (.ret (oneV vs)) st.b st.r) →
      LeavesInM Fence.wide 0 P fn a5.tmps (EndQ w0 F M r w K) a5.defers .returning w5 := by
    rintro st ⟨M5, hI5, hR5, hd5, hC5⟩ hres
    have hd5 : a5.defers = [{ target := .collected w1.heap.size, args := #[] }] := hd5
    have hK5 : w5.heap[w1.heap.size]? = some (.deferred (some [])) := by
      rw [hI5.keep.block _ (Array.getElem?_eq_some_iff.1 hK4).1 hnew3]
      exact hK4
    have hI5' := hI4.unbaseN hI5 hC5.no
    obtain ⟨hI6, hC6⟩ := hI5'.putObj hK5 rfl hsz (.deferred none)
    obtain ⟨v, xs, hr, hK, hv⟩ := results_run (P := P) hI6 (a := a5) ⟨hR5.1, fun i hi => (hR5.2 i hi (fun p hp => absurd hp (by simp))).mono hC6⟩ hres
    rw [hd5]
    exact ⟨by simp, .inl ⟨_, _, rfl, run_takeDeferred hK5, v, hr, _, _, _, M5, hK, hI6, (hC14.trans hC5).trans hC6, hv⟩⟩
  cases e with
  | normal =>
    obtain ⟨st, hst, hres⟩ := hq
    exact ret st hst hres
  | ret =>
    obtain ⟨st, hst, hres⟩ := hq
    exact ret st hst hres
  | exit i =>
    obtain ⟨st, hst, hres⟩ := hq
    exact hres.elim
  | panic ch =>
    obtain ⟨st, x, u, rfl, _, hK⟩ := hq
    exact hK.elim
  | goto l => exact hq.elim
  | outgrown => exact hq.elim
/-- How such code leaves: no mark was laid. -/
theorem range_ret {fn : Func} {r : List Arr} {K : Out → List (List AV) → List Arr → Prop} {st1 : St} {a1 : Act} {w1 : World} (hst : At (fun a => a.defers = []) w0 F w M r [] st1 a1 w1)
    (hres : resK P st1 fn.results.toList fun vs => K (.ret (oneV vs)) st1.b st1.r) : LeavesInM Fence.wide 0 P fn a1.tmps (EndQ w0 F M r w K) a1.defers .returning w1 := by
  obtain ⟨M1, hI1, hR1, hd1, hC1⟩ := hst
  have hd1 : a1.defers = [] := hd1
  obtain ⟨v, xs, hr, hK, hv⟩ := results_run (P := P) hI1 (a := a1) ⟨hR1.1, fun i hi => hR1.2 i hi (fun p hp => absurd hp (by simp))⟩ hres
  rw [hd1]
  exact ⟨v, hr, _, _, _, M1, hK, hI1, hC1, hv⟩
theorem spine_sound (hE : E.Ok P) {fn : Func} {r : List Arr} {K : Out → List (List AV) → List Arr → Prop} :
    ∀ (c : Code) {st : St} {a : Act} {w1 : World}, At (fun a => a.defers = []) w0 F w M r [] st a w1 → spineG P E fn K c st → c.wp P (bodyPostM Fence.wide 0 P fn (EndQ w0 F M r w K)) a w1 := by
  have other : ∀ {e : Exit} {a1 : Act} {w2 : World} {X : St → Prop}, e ≠ .normal → PostQ (fun a => a.defers = []) w0 F w M r (fun e st1 => match e with
      | .normal => X st1
      | e => rangeQ P fn K e st1) e a1 w2 → bodyPostM Fence.wide 0 P fn (EndQ w0 F M r w K) e a1 w2 := by
    intro e a1 w2 X hne hq
    cases e with
    | normal => exact absurd rfl hne
    | ret =>
      obtain ⟨st1, hst, hres⟩ := hq
      exact range_ret hst hres
    | exit i => obtain ⟨st1, hst, hres⟩ := hq; exact hres.elim
    | panic ch => obtain ⟨st1, x, u, rfl, hst, hres⟩ := hq; exact hres.elim
    | goto l => exact hq.elim
    | outgrown => exact hq.elim
  intro c
  induction c with
  | seq x y ihx ihy =>
    intro st a w1 hat hk
    unfold spineG at hk
    cases hl : lastR x with
    | none =>
      rw [hl] at hk
      refine wp_seq (Go.wp_mono (hk _ _ _ _ _ _ _ _ hat) (fun e a1 w2 hq => ?_))
      by_cases he : e = .normal
      · subst he
        obtain ⟨st1, hst, hk2⟩ := hq
        exact ihy hst hk2
      · have := other he hq
        cases e <;> first | exact this | exact absurd rfl he
    | some p =>
      obtain ⟨c0, g⟩ := p
      rw [hl] at hk
      unfold lastR at hl
      split at hl
      case h_2 => cases hl
      injection hl with hl
      injection hl with h1 h2
      subst h1 h2
      refine wp_seq (wp_seq (Go.wp_mono (hk _ _ _ _ _ _ _ _ hat) (fun e a1 w2 hq => ?_)))
      by_cases he : e = .normal
      · subst he
        obtain ⟨st1, hst, hk2⟩ := hq
        exact wp_block (range_step hE hst hk2)
      · have := other he hq
        cases e <;> first | exact this | exact absurd rfl he
  | _ => intro st a w1 _ hk; exact hk.elim
theorem spineG.ofK (hE : E.Ok P) (hm : P.follows .mixedOrders = true) (hnc : ∀ i, pl (i + 200000) = []) {fn : Func} {K : Out → List (List AV) → List Arr → Prop} : ∀ (c : Code) {st : St}, drawsH pl c = true → evalH P E pl fn K c st → spineG P E fn K c st := by
  intro c
  induction c with
  | seq x y ihx ihy =>
    intro st hdr hk
    unfold evalH at hk
    unfold drawsH at hdr
    unfold spineG
    cases hl : lastR x with
    | none =>
      rw [hl] at hk hdr
      simp only [Bool.and_eq_true] at hdr
      refine (Goes.ofK hE hm hdr.1 hnc hk).mono (fun e s hq => ?_)
      cases e with
      | normal => exact ihy hdr.2 hq
      | _ => exact hq
    | some p =>
      obtain ⟨c0, g⟩ := p
      rw [hl] at hk hdr
      simp only [Bool.and_eq_true] at hdr
      refine (Goes.ofK hE hm hdr.1 hnc hk).mono (fun e s hq => ?_)
      cases e with
      | normal => exact ⟨_, hq, fun v s h => Goes.ofK hE hm hdr.2 hnc h⟩
      | _ => exact hq
  | _ => intro st _ hk; exact hk.elim
/-- A function whose spine is walked. -/
theorem spine_calls (hE : E.Ok P) {f : FuncId} {fn : Func} {c : Code} (hf : P.funcs[f]? = some fn) (hb : fn.body = some c)
    {b : List (List AV)} {r : List Arr} {vs : Array Value} {args : List AV} {K : Out → List (List AV) → List Arr → Prop} (h : Inv w0 F M b r w) (hv : RepL w M r vs args)
    (hk : spineG P E fn K c ⟨args ++ List.replicate (fn.ntmps - args.length) .undef, b, r⟩) : Calls P f vs w (EndQ w0 F M r w K) := by
  refine (callsIn_wide (n := 0)).1 (callsIn_of_wp_marks hf hb trivial ?_)
  rw [wpIn_wide]
  have hat : At (fun a => a.defers = []) w0 F w M r [] ⟨args ++ List.replicate (fn.ntmps - args.length) .undef, b, r⟩ { tmps := vs ++ Array.replicate (fn.ntmps - vs.size) undef, defers := [] } w := by
    refine ⟨M, h, ⟨by simp [hv.1], fun i hi _ => ?_⟩, rfl, .refl _ _ _⟩
    rcases Nat.lt_or_ge i args.length with h1 | h1
    · have e1 : (vs ++ Array.replicate (fn.ntmps - vs.size) undef).getD i undef = vs.getD i undef := by
        have h2 : i < vs.size := by rw [hv.1]; exact h1
        simp [Array.getD, h2, Nat.lt_add_right _ h2, Array.getElem_append_left]
      show RepA w M r ((vs ++ Array.replicate (fn.ntmps - vs.size) undef).getD i undef) ((args ++ _).getD i .undef)
      rw [e1, getD_append_lt _ _ _ _ h1]
      exact hv.2 i h1
    · have e : (args ++ List.replicate (fn.ntmps - args.length) AV.undef).getD i .undef = .undef := by
        simp only [List.getD, List.getElem?_append_right h1, List.getElem?_replicate]
        split <;> rfl
      show RepA w M r _ ((args ++ _).getD i .undef)
      rw [e]
      exact .undef _
  exact spine_sound hE c hat hk
end

/-! ### how such a function is run -/
def nQ2 (P : Program) (rs : List ResultVar) (K : Out → Prop) (e : Ex) (st : St) : Prop := match e with
  | .normal => resK P st rs fun vs => @uK st.r (oneV vs) ⟨fun x => K (.ret x)⟩
  | .ret => resK P st rs fun vs => @uK st.r (oneV vs) ⟨fun x => K (.ret x)⟩
  | _ => False
/-- The spine, for the simp set. -/
def hS (cx : Kt Cx) (rs : List ResultVar) (K : Out → Prop) : Code → St → Prop
  | .seq a b, st => match lastR a with
    | some (c0, g) => @eK cx st ⟨c0⟩ ⟨fun e st1 => match e with
      | .normal => @rK cx (rngR (st1.ev g) st1) ⟨fun _ st2 => @eK cx ⟨st1.t, st2.b, st2.r⟩ ⟨b⟩ ⟨nQ2 cx.v.P rs K⟩⟩ ⟨fun _ _ => False⟩
      | e => nQ2 cx.v.P rs K e st1⟩
    | none => @eK cx st ⟨a⟩ ⟨fun e st1 => match e with
      | .normal => hS cx rs K b st1
      | e => nQ2 cx.v.P rs K e st1⟩
  | _, _ => False
section
variable {P : Program} {cx : Kt Cx} {rs : List ResultVar} {g : Operand} {K : Out → Prop} {st : St}
theorem nQ2_normal : nQ2 P rs K .normal st = resK P st rs fun vs => @uK st.r (oneV vs) ⟨fun x => K (.ret x)⟩ := rfl
theorem nQ2_ret : nQ2 P rs K .ret st = resK P st rs fun vs => @uK st.r (oneV vs) ⟨fun x => K (.ret x)⟩ := rfl
theorem rngR_fn (f : FuncId) (caps : List AV) : rngR (.fn (.func f) [] caps) st = .call f (.undef :: caps) st := rfl
end
theorem FPure.runN {P : Program} (l : List (FuncId × Known)) (pl : Nat → List (Nat × Bool × List Nat)) (hl : ∀ p ∈ l, KnownOk P p.1 p.2) (hm : P.follows .mixedOrders = true) (hnc : ∀ i, pl (i + 200000) = [])
    {f : FuncId} {fn : Func} {c : Code} {s : Spec}
    (hf : P.funcs[f]? = some fn) (hn : (fn.name == "runtime.NumGoroutine") = false) (hb : fn.body = some c)
    (hdr : drawsH pl c = true) (n : Nat) (hnt : fn.ntmps = n) (rs : List ResultVar) (hrs : fn.results = rs.toArray)
    (h : ∀ ds K, s ds K → hS ⟨⟨P, l, pl, []⟩⟩ rs K c ⟨ds.map .d ++ List.replicate (n - (ds.map AV.d).length) .undef, [], []⟩) : FPure P f s := by
  intro w no vs ds K hno hv hs
  have h1 := h ds K hs
  refine ⟨enters_of hf hn (by rw [hb]; rfl), Calls.mono (spine_calls (E := mkEnv l) (env_ok hl) hf hb (mno_inv hno) hv
    (K := fun o _ r => match o with | .ret v => outK r v fun x => K (.ret x) | .panic v => outK r v fun x => K (.panic x)) (spineG.ofK (pl := pl) (env_ok hl) hm hnc c hdr ?_)) (fun e w' he => ?_)⟩
  · rw [hnt]
    have e2 : rangeQ P fn (fun o _ r => match o with | .ret v => outK r v fun x => K (.ret x) | .panic v => outK r v fun x => K (.panic x)) = nQ2 P rs K := by
      funext e s
      unfold rangeQ nQ2
      rw [hrs]
      cases e <;> rfl
    have key : ∀ (c : Code) (st : St), hS ⟨⟨P, l, pl, []⟩⟩ rs K c st = evalH P (mkEnv l) pl fn (fun o _ r => match o with | .ret v => outK r v fun x => K (.ret x) | .panic v => outK r v fun x => K (.panic x)) c st := by
      intro c
      induction c with
      | seq x y ihx ihy =>
        intro st
        unfold hS evalH
        rw [e2]
        cases hl : lastR x with
        | none =>
          show evalK P (mkEnv l) pl x st _ = evalK P (mkEnv l) pl x st _
          congr 1
          funext e st1
          cases e with
          | normal => exact ihy st1
          | _ => rfl
        | some p =>
          obtain ⟨c0, g⟩ := p
          show evalK P (mkEnv l) pl c0 st _ = evalK P (mkEnv l) pl c0 st _
          congr 1
      | _ => intro st; rfl
    exact key c _ ▸ h1
  · cases e with
    | returned v =>
      obtain ⟨x, b', r', M', hK, hI, hC, hx⟩ := he
      simp only [outK] at hK
      split at hK
      · rename_i y hy
        obtain ⟨h1, h2⟩ := toO_rep hI hx hy
        rw [hC.no] at h1
        exact ⟨y, hK, hI.keep, h1, h2⟩
      · exact hK.elim
    | panicked ch =>
      obtain ⟨x, b', r', M', u, hK, rfl, hI, hC, hx⟩ := he
      simp only [outK] at hK
      split at hK
      · rename_i y hy
        obtain ⟨h1, h2⟩ := toO_rep hI hx hy
        rw [hC.no] at h1
        exact ⟨y, u, hK, rfl, hI.keep, h1, h2⟩
      · exact hK.elim
    | outgrown => exact he.elim
end Go.PE
end

section
/- The operations once more, with conditions that are reckoned (printed by tools/conc.py from PeD). -/
set_option linter.unusedVariables false
set_option linter.unusedSimpArgs false
namespace Go.PE
open Go

inductive RB where
  | no
  | ok (c : Bool) (v : AV) (st : St)
  | elem (c : Bool) (es : List (List D)) (k n : Nat) (st : St)
  | byte (c : Bool) (s : List UInt8) (k : Nat) (st : St)
  | any (c : Bool) (b : Bool) (st : St)
  | call (g : FuncId) (args : List AV) (st : St)
  | panic (v : AV) (st : St)
def RelB : RB → Res → Prop
  | .no, .fail => True
  | .ok c v st, .ok p v' st' => v = v' ∧ st = st' ∧ (c = true → p)
  | .elem c es k n st, .elem p es' k' n' st' => (es = es' ∧ k = k' ∧ n = n') ∧ st = st' ∧ (c = true → p)
  | .byte c s k st, .byte p s' k' st' => (s = s' ∧ k = k') ∧ st = st' ∧ (c = true → p)
  | .any c b st, .any p q st' => st = st' ∧ (c = true → p ∧ ∀ b', q b' → b' = b)
  | .call g args st, .call g' args' st' => g = g' ∧ args = args' ∧ st = st'
  | .panic v st, .panic v' st' => v = v' ∧ st = st'
  | _, _ => False

def toDB (args : List AV) (st : St) (f : List D → St → RB) : RB :=
  match toDL st.r args with
  | some ds => f ds { st with r := share st.r (arrIdsL args) }
  | none => .no
theorem toD_rel (args : List AV) (st : St) (f : List D → St → RB) (g : List D → St → Res) (h : ∀ ds st, RelB (f ds st) (g ds st)) : RelB (toDB args st f) (toDR args st g) := by
  unfold toDB toDR
  cases toDL st.r args with
  | none => trivial
  | some ds => exact h _ _

def intB (op : BinOp) (k : IntKind) (x : Int) (k' : IntKind) (y : Int) (st : St) : RB :=
  match op with
  | .add => .ok (decide (k = k')) (.d (.int k (k.wrap (x + y)))) st
  | .sub => .ok (decide (k = k')) (.d (.int k (k.wrap (x - y)))) st
  | .mul => .ok (decide (k = k')) (.d (.int k (k.wrap (x * y)))) st
  | .quo => .ok (decide (k = k' ∧ y ≠ 0)) (.d (.int k (k.wrap (x.tdiv y)))) st
  | .rem => .ok (decide (k = k' ∧ y ≠ 0)) (.d (.int k (x.tmod y))) st
  | .and | .or | .xor | .andNot => .ok (decide (k = k')) (.d (.int k (bitsI op k x y))) st
  | .shl => .ok (decide (0 ≤ y)) (.d (.int k (k.wrap (x * 2 ^ (min y.toNat k.bits))))) st
  | .shr => .ok (decide (0 ≤ y)) (.d (.int k (x.fdiv (2 ^ (min y.toNat k.bits))))) st
  | .eql => .ok (decide (k = k')) (.d (.bool (decide (x = y)))) st
  | .neq => .ok (decide (k = k')) (.d (.bool (decide (x ≠ y)))) st
  | .lss => .ok (decide (k = k')) (.d (.bool (decide (x < y)))) st
  | .leq => .ok (decide (k = k')) (.d (.bool (decide (x ≤ y)))) st
  | .gtr => .ok (decide (k = k')) (.d (.bool (decide (y < x)))) st
  | .geq => .ok (decide (k = k')) (.d (.bool (decide (y ≤ x)))) st

def strB (op : BinOp) (x y : List UInt8) (st : St) : RB :=
  match op with
  | .add => .ok (decide (x.length + y.length ≤ 9223372036854775807)) (.d (.str (x ++ y))) st
  | .eql => .ok true (.d (.bool (decide (x = y)))) st
  | .neq => .ok true (.d (.bool (decide (x ≠ y)))) st
  | .lss => .ok true (.d (.bool (Op.bytesLess x y))) st
  | .leq => .ok true (.d (.bool (Op.bytesLess x y || decide (x = y)))) st
  | .gtr => .ok true (.d (.bool (!(Op.bytesLess x y || decide (x = y))))) st
  | .geq => .ok true (.d (.bool (!Op.bytesLess x y))) st
  | _ => .no

def eqB (P : Program) (neg nc : Bool) (t : TypeId) (x y : D) (st : St) : RB :=
  match x, y with
  | .bool a, .bool b => if kd? P t = 1 then .ok true (.d (.bool ((a == b) != neg))) st else .no
  | .nilI, .nilI => if kd? P t = 3 ∧ nc = true then .ok true (.d (.bool !neg)) st else .no
  | .nilI, .iface _ _ => if kd? P t = 3 then .ok true (.d (.bool neg)) st else .no
  | .iface _ _, .nilI => if kd? P t = 3 then .ok true (.d (.bool neg)) st else .no
  | .agg a, .agg b => match cellsT P t with
    | some ks => if kd? P t = 7 ∧ (fits ks a && fits ks b) = true then (match eqL a b with | some c => .ok true (.d (.bool (c != neg))) st | none => .no) else .no
    | none => .no
  | _, _ => .no

def binB (P : Program) (op : BinOp) (nc : Bool) (t : TypeId) (x y : AV) (st : St) : RB :=
  match x, y with
  | .d (.int k a), .d (.int k' b) => intB op k a k' b st
  | .d (.str a), .d (.str b) => strB op a b st
  | .d x, .d y => match op with | .eql => eqB P false nc t x y st | .neq => eqB P true nc t x y st | _ => .no
  | .d (.list es), .nilS => if kd? P t = 6 then (match op with | .eql => .any (decide (es ≠ [])) false st | .neq => .any (decide (es ≠ [])) true st | _ => .no) else .no
  | .nilS, .nilS => if kd? P t = 6 then (match op with | .eql => .ok true (.d (.bool true)) st | .neq => .ok true (.d (.bool false)) st | _ => .no) else .no
  | _, _ => .no

def unB (op : UnOp) (x : AV) (st : St) : RB :=
  match op, x with
  | .not, .d (.bool b) => .ok true (.d (.bool (!b))) st
  | .neg, .d (.int k n) => .ok true (.d (.int k (k.wrap (0 - n)))) st
  | _, _ => .no

def loadB (P : Program) (t : TypeId) (a : AV) (st : St) : RB :=
  match ty? P t, a with
  | some (g, n), .ptr id off => match st.b[id]? with
    | some cells => .ok (decide (off + n ≤ cells.length)) (mkV g ((cells.drop off).take n)) st
    | none => .no
  | some (g, n), .cptr cs => .ok (decide (n ≤ cs.length)) (.d (mkD g (cs.take n))) st
  | some (g, n), .eptr id m i off => match st.r[id]? with
    | some A => if A.sz = 0 then (if g = false ∧ n = 1 then (match A.es.getD i [] with
        | [.ref id' n'] => match refD st.r id' with
          | some bs => .ok (decide ((m = A.es.length ∧ i < A.es.length ∧ off = 0) ∧ n' = bs.length)) (.d (.list bs)) st
          | none => .ok (decide (m = A.es.length ∧ i < A.es.length ∧ off = 0)) (.arr id' n') st
        | [x] => .ok (decide (m = A.es.length ∧ i < A.es.length ∧ off = 0)) (.d x) st
        | _ => .no) else .no)
      else .ok (decide (m = A.es.length ∧ i < A.es.length ∧ off + n ≤ A.sz)) (.d (mkD g (((A.es.getD i []).drop off).take n))) st
    | none => .no
  | _, _ => .no

def storeB (P : Program) (t : TypeId) (a v : AV) (st : St) : RB :=
  match ty? P t, a with
  | some (_, n), .ptr id off => match st.b[id]? with
    | some cells => .ok (decide ((cellsA v).length = n ∧ off + n ≤ cells.length ∧ (cellsA v).all oneA = true)) .undef { st with b := st.b.set id (splice cells off (cellsA v)) }
    | none => .no
  | some (_, n), .eptr id m i off => if lkd st.r id = true then (match lnkC v, st.r[id]? with
      | some d, some A => .ok (decide (m = A.es.length ∧ i < A.es.length ∧ off = 0 ∧ n = 1 ∧ A.sh = false)) .undef { st with r := st.r.set id { A with es := A.es.set i [d] } }
      | _, _ => .no)
    else toDB [v] st fun ds st => match ds, st.r[id]? with
    | [d], some A => if A.sz = 0 then .no else .ok (decide (m = A.es.length ∧ i < A.es.length ∧ (cellsD d).length = n ∧ off + n ≤ A.sz ∧ A.sh = false ∧ (cellsD d).all oneD = true)) .undef
        { st with r := st.r.set id { A with es := A.es.set i (splice (A.es.getD i []) off (cellsD d)) } }
    | _, _ => .no
  | _, _ => .no

def fieldAddrB (P : Program) (t : TypeId) (f : Nat) (a : AV) (st : St) : RB :=
  match fo? P t f, a with
  | some (o, _), .ptr id off => .ok true (.ptr id (off + o)) st
  | some (o, _), .cptr cs => .ok (decide (o ≤ cs.length)) (.cptr (cs.drop o)) st
  | some (o, _), .eptr id m i off => match st.r[id]? with
    | some A => .ok (decide (m = A.es.length)) (.eptr id m i (off + o)) st
    | none => .no
  | _, _ => .no

def indexAddrB (P : Program) (t : TypeId) (x i : AV) (st : St) : RB :=
  match x, i with
  | .d (.list es), .d (.int _ k) => match sl? P t with
    | some (_, n, _) => .elem (decide (0 ≤ k ∧ k < es.length)) es k.toNat n st
    | none => .no
  | .arr id m, .d (.int _ k) => match sl? P t, st.r[id]? with
    | some (_, n, _), some A => if A.sz = 0 then .ok (decide (m = A.es.length ∧ 0 ≤ k ∧ k < A.es.length ∧ n = 1)) (.eptr id m k.toNat 0) st else .ok (decide (m = A.es.length ∧ 0 ≤ k ∧ k < A.es.length ∧ n = A.sz)) (.eptr id m k.toNat 0) st
    | _, _ => .no
  | .ptr id off, .d (.int _ k) => match ar? P t with
    | some (len, n) => .ok (decide (0 ≤ k ∧ k < len)) (.ptr id (off + k.toNat * n)) st
    | none => .no
  | .cptr cs, .d (.int _ k) => match ar? P t with
    | some (len, n) => .ok (decide (0 ≤ k ∧ k < len ∧ k.toNat * n ≤ cs.length)) (.cptr (cs.drop (k.toNat * n))) st
    | none => .no
  | .bsl id m, .d (.int _ k) => match sl? P t with
    | some (_, n, _) => .ok (decide (0 ≤ k ∧ k < m)) (.ptr id (k.toNat * n)) st
    | none => .no
  | _, _ => .no

def indexB (P : Program) (t : TypeId) (x i : AV) (st : St) : RB :=
  match x, i with
  | .d (.str s), .d (.int _ k) => if kd? P t = 0 then .byte (decide (0 ≤ k ∧ k < s.length)) s k.toNat st else .no
  | _, _ => .no

def fieldB (P : Program) (t : TypeId) (x : AV) (f : Nat) (st : St) : RB :=
  match fo? P t f with
  | some (o, ft) => match ty? P ft with
    | some (g, n) => .ok (decide (o + n ≤ (cellsA x).length ∧ aggA x = true)) (mkV g (((cellsA x).drop o).take n)) st
    | none => .no
  | none => .no

def slice3B (P : Program) (t : TypeId) (x : AV) (lo hi : Option AV) (mv : AV) (st : St) : RB :=
  match x, mv with
  | .d (.list es), .d (.int _ q) => match boundA 0 lo, boundA es.length hi with
    | some l, some h => match sl? P t with
      | some (_, n, _) => if kd? P t = 6 ∧ hi.isSome = true then .ok (decide ((0 ≤ l ∧ l ≤ h ∧ h ≤ q ∧ q ≤ es.length) ∧ ∀ e ∈ es, e.length = n)) (if h = q then .full ((es.take h.toNat).drop l.toNat) else .d (.list ((es.take h.toNat).drop l.toNat))) st else .no
      | none => .no
    | _, _ => .no
  | _, _ => .no

def sliceB (P : Program) (t : TypeId) (x : AV) (lo hi mx : Option AV) (st : St) : RB :=
  match mx, x with
  | none, .d (.list es) => match boundA 0 lo, boundA es.length hi with
    | some l, some h => if kd? P t = 6 then (match sl? P t with | some (_, n, _) => .ok (decide ((0 ≤ l ∧ l ≤ h ∧ h ≤ es.length) ∧ ∀ e ∈ es, e.length = n)) (.d (.list ((es.take h.toNat).drop l.toNat))) st | none => .no) else .no
    | _, _ => .no
  | none, .arr id m => match st.r[id]? with
    | some A => match boundA 0 lo, boundA A.es.length hi with
      | some l, some h => match sl? P t with
        | some (_, n, _) => if A.sz = 0 then .no else .ok (decide ((0 ≤ l ∧ l ≤ h ∧ h ≤ A.es.length) ∧ m = A.es.length ∧ n = A.sz)) (.d (.list ((A.es.take h.toNat).drop l.toNat))) { st with r := share1 st.r id }
        | none => .no
      | _, _ => .no
    | none => .no
  | none, .d (.str s) => match boundA 0 lo, boundA s.length hi with
    | some l, some h => if kd? P t = 0 then .ok (decide (0 ≤ l ∧ l ≤ h ∧ h ≤ s.length)) (.d (.str ((s.take h.toNat).drop l.toNat))) st else .no
    | _, _ => .no
  | none, .nilS => match boundA 0 lo, boundA 0 hi with
    | some l, some h => match sl? P t with
      | some _ => .ok (decide (l = 0 ∧ h = 0)) .nilS st
      | none => .no
    | _, _ => .no
  | some mv, x => slice3B P t x lo hi mv st
  | _, _ => .no

def assignB (P : Program) (t : TypeId) (v : AV) (st : St) : RB :=
  match v with
  | .nilS => match sl? P t with
    | some (e, n, _) => .ok true (.arr st.r.length 0) (st.row ⟨n, e, [], false⟩)
    | none => .ok true .nilS st
  | v => .ok true v st

def allocB (P : Program) (t : TypeId) (st : St) : RB :=
  match zero? P t with
  | some z => .ok (decide (z.all oneA = true)) (.ptr st.b.length 0) (st.new z)
  | none => .no

def boxB (v : AV) (st : St) : RB := .ok (decide ((cellsA v).all oneA = true)) (.ptr st.b.length 0) (st.new (cellsA v))

def buildB (P : Program) (t : TypeId) (ps : List (Nat × AV)) (st : St) : RB :=
  match zero? P t with
  | some z => if z.all oneA = true then (match kd? P t, ar? P t with
    | 7, _ => match fillA (plS P t) z ps with | some cs => .ok true (mkAgg cs) st | none => .no
    | 4, some (_, n) => match fillA (plA n) z ps with | some cs => .ok true (mkAgg cs) st | none => .no
    | _, _ => .no) else .no
  | none => .no

def bsliceB (P : Program) (t : TypeId) (len : Nat) (ps : List (Nat × AV)) (st : St) : RB :=
  match sl? P t with
  | some (e, n, _) => match lnk1 st.r ps with
    | some (i, id, m) => .ok (decide (i = 0 ∧ len = 1 ∧ n = 1)) (.arr st.r.length 1) (st.row ⟨0, e, [[.ref id m]], false⟩)
    | none => if hasFn (ps.map (·.2)) = true then .ok (decide (ps.map (·.1) = List.range len ∧ (0 < len ∧ len * n ≤ 16777216) ∧ (ps.map (·.2)).all (fun d => decide ((cellsA d).length = n) && (cellsA d).all oneA) = true)) (.bsl st.b.length len) (st.new (catA (ps.map (·.2))))
     else toDB (ps.map (·.2)) st fun ds st =>
      .ok (decide (ps.map (·.1) = List.range len ∧ len * n ≤ 16777216 ∧ ds.all (fun d => decide ((cellsD d).length = n) && (cellsD d).all oneD) = true)) (.arr st.r.length len) (st.row ⟨n, e, ds.map cellsD, false⟩)
  | none => .no

def mkSliceB (P : Program) (t : TypeId) (l c : AV) (st : St) : RB :=
  match sl? P t, l, c with
  | some (e, n, by_), .d (.int _ a), .d (.int _ b) => match zero? P e with
    | some z => match toDL [] z with
      | some ds => .ok (decide (0 ≤ a ∧ a ≤ b ∧ b * by_ ≤ 140737488355328 ∧ ds.all oneD = true)) (.arr st.r.length a.toNat) (st.row ⟨n, e, List.replicate a.toNat ds, false⟩)
      | none => .no
    | none => .no
  | _, _, _ => .no

def mkIfB (P : Program) (t : TypeId) (x : AV) (st : St) : RB :=
  if kd? P t = 3 ∨ kd? P t = 9 then .no else match x with
  | .d x => .ok true (.d (.iface t x)) st
  | x => .ok true (.iface t x) st

def extractB (x : AV) (i : Nat) (st : St) : RB :=
  match x with
  | .tup cs => match cs[i]? with | some c => .ok true c st | none => .no
  | _ => .no

def nilCheckB (x : AV) (st : St) : RB :=
  match x with
  | .ptr _ _ => .ok true x st
  | .cptr _ => .ok true x st
  | .eptr id m _ _ => match st.r[id]? with
    | some A => .ok (decide (m = A.es.length)) x st
    | none => .no
  | .fn (.func _) _ _ => .ok true x st
  | _ => .no

def pickB (c a b : AV) (st : St) : RB :=
  match c with
  | .d (.bool c) => .ok true (if c then a else b) st
  | _ => .no

def convB (P : Program) (s t : TypeId) (x : AV) (st : St) : RB :=
  if kd? P s = 9 then .no else match x with
  | .d (.int _ n) => match ik (kd? P t) with | some k => .ok true (.d (.int k (k.wrap n))) st | none => .no
  | .d (.str l) => if kd? P s = 0 ∧ kd? P t = 0 then .ok true x st else .no
  | x => if kd? P t = 0 then toDB [x] st fun ds st => match ds, sl? P s with
      | [.list es], some (e, _, _) => if kd? P e = 14 then (match bytesD es with | some l => .ok true (.d (.str l)) st | none => .no) else .no
      | _, _ => .no
    else .no

def lenB (P : Program) (t : TypeId) (x : AV) (st : St) : RB :=
  match x with
  | .d (.list es) => if kd? P t = 6 then .ok true (.d (.int .i64 es.length)) st else .no
  | .nilS => if kd? P t = 6 then .ok true (.d (.int .i64 0)) st else .no
  | .arr id m => if kd? P t = 6 then (match st.r[id]? with | some A => .ok (decide (m = A.es.length)) (.d (.int .i64 m)) st | none => .no) else .no
  | .d (.str s) => if kd? P t = 0 then .ok true (.d (.int .i64 s.length)) st else .no
  | .bsl _ m => if kd? P t = 6 then .ok true (.d (.int .i64 m)) st else .no
  | .full es => if kd? P t = 6 then .ok true (.d (.int .i64 es.length)) st else .no
  | _ => .no

def srcB (P : Program) (tx : TypeId) (n : Nat) (y : AV) (st : St) : Option (Bool × List (List D)) :=
  match y with
  | .nilS => if kd? P tx = 6 then some (true, []) else none
  | .d (.list es) => if kd? P tx = 6 then some (decide (∀ e ∈ es, e.length = n), es) else none
  | .arr id m => if kd? P tx = 6 then (match st.r[id]? with | some A => if A.sz = 0 then none else some (decide (m = A.es.length ∧ A.sz = n), A.es) | none => none) else none
  | .d (.str s) => if kd? P tx = 0 then some (decide (n = 1), s.map byteCell) else none
  | _ => none

def srcLB (P : Program) (tx : TypeId) (r : List Arr) (y : AV) : Option (Bool × List (List D)) := match y with
  | .arr id m => if kd? P tx = 6 then (match r[id]? with | some B => some (decide (m = B.es.length ∧ B.sz ≤ 1), B.es) | none => none) else none
  | _ => none

def zerosB (P : Program) (tx e : TypeId) (n by_ : Nat) (x y : AV) (st : St) : RB :=
  match x, y with
  | .nilS, .d (.int _ k) => match ik (kd? P tx), zero? P e with
    | some _, some z => match toDL [] z with
      | some ds => .ok (decide (0 < k ∧ k * by_ ≤ 140737488355328 ∧ ds.all oneD = true)) (.arr st.r.length k.toNat) (st.row ⟨n, e, List.replicate k.toNat ds, false⟩)
      | none => .no
    | _, _ => .no
  | _, _ => .no

def appendB (P : Program) (t tx : TypeId) (x y : AV) (st : St) : RB :=
  match sl? P t with
  | some (e, n, by_) => match lnkA st.r x with
   | some (id, m, A) => match srcLB P tx st.r y with
    | some (p, news) => .ok (decide (p ∧ n = 1 ∧ m = A.es.length ∧ A.ety = e ∧ (A.es.length + news.length) * by_ ≤ 140737488355328)) (.arr id (A.es ++ news).length) { st with r := st.r.set id { A with es := A.es ++ news } }
    | none => .no
   | none => match srcB P tx n y st with
    | some (p, news) => match x with
      | .nilS => .ok (decide (p ∧ news.length * by_ ≤ 140737488355328)) (.arr st.r.length news.length) (st.row ⟨n, e, news, false⟩)
      | .arr id m => match st.r[id]? with
        | some A => if A.sz = 0 then .no else .ok (decide (p ∧ m = A.es.length ∧ A.sz = n ∧ A.ety = e ∧ (A.es.length + news.length) * by_ ≤ 140737488355328)) (.arr id (A.es ++ news).length) { st with r := st.r.set id { A with es := A.es ++ news } }
        | none => .no
      | .full es => .ok (decide (p ∧ 0 < news.length ∧ (∀ e ∈ es, e.length = n) ∧ (es.length + news.length) * by_ ≤ 140737488355328)) (.arr st.r.length (es ++ news).length) (st.row ⟨n, e, es ++ news, false⟩)
      | _ => .no
    | none => zerosB P tx e n by_ x y st
  | none => .no

def copyB (P : Program) (t tx : TypeId) (x y : AV) (st : St) : RB :=
  match sl? P t with
  | some (e, n, _) => match srcB P tx n y st with
    | some (p, news) => match x with
      | .arr id m => match st.r[id]? with
        | some A => if A.sz = 0 then .no else .ok (decide (p ∧ m = A.es.length ∧ A.sz = n ∧ news.length ≤ A.es.length ∧ A.sh = false)) (.d (.int .i64 news.length)) { st with r := st.r.set id { A with es := news ++ A.es.drop news.length } }
        | none => .no
      | _ => .no
    | none => .no
  | none => .no

def capB (P : Program) (t : TypeId) (x : AV) (st : St) : RB := match x with
  | .nilS => if kd? P t = 6 then .ok true (.d (.int .i64 0)) st else .no
  | _ => .no

def mmB (mx : Bool) (x y : AV) (st : St) : RB :=
  match x, y with
  | .d (.int k a), .d (.int _ b) => .ok true (.d (.int k (if mx then max a b else min a b))) st
  | .d (.str a), .d (.str b) => if mx then .ok true (.d (.str (if Op.bytesLess a b then b else a))) st else .ok true (.d (.str (if Op.bytesLess a b || decide (a = b) then a else b))) st
  | _, _ => .no

def builtinB (P : Program) (b : Builtin) (ats : List TypeId) (args : List AV) (st : St) : RB :=
  match b, ats, args with
  | .len, [t], [x] => lenB P t x st
  | .append, [t, tx], [x, y] => appendB P t tx x y st
  | .copy, [t, tx], [x, y] => copyB P t tx x y st
  | .cap, [t], [x] => capB P t x st
  | .min, _, [x, y] => mmB false x y st
  | .max, _, [x, y] => mmB true x y st
  | _, _, _ => .no

def invokeB (P : Program) (recv : AV) (name : String) (args : List AV) (st : St) : RB :=
  match recv with
  | .d (.iface t d) => match meth? P t name with | some f => .call f (.d d :: args) st | none => .no
  | .iface t x => match meth? P t name with | some f => .call f (x :: args) st | none => .no
  | _ => .no

def callB (P : Program) (c : Call) (ev : Operand → AV) (st : St) : RB :=
  match c.callee with
  | .builtin b => builtinB P b c.argTypes.toList (c.args.toList.map ev) st
  | .value f => match ev f with
    | .fn (.func g) first caps => .call g (first ++ c.args.toList.map ev ++ caps) st
    | _ => .no
  | .invoke recv name => invokeB P (ev recv) name (c.args.toList.map ev) st

def assertB (P : Program) (ty : TypeId) (ok : Bool) (x : AV) (st : St) : RB :=
  match ok, x with
  | true, .d (.iface t d) => if kd? P ty ≠ 3 ∧ kd? P ty ≠ 9 ∧ t = ty then .ok true (.tup [.d d, .d (.bool true)]) st else .no
  | true, .d .nilI => if kd? P ty ≠ 9 then (match zi? P ty with | some k => .ok true (.tup [.d (.int k 0), .d (.bool false)]) st | none => .no) else .no
  | _, _ => .no

def panicB (x : AV) (st : St) : RB :=
  match x with
  | .d (.iface t d) => .panic (.d (.iface t d)) st
  | .iface t x => .panic (.iface t x) st
  | _ => .no

def opB (P : Program) (o : Oper) (ev : Operand → AV) (st : St) : RB :=
  match o.op with
  | .move x => .ok true (ev x) st
  | .assign x => assignB P o.type (ev x) st
  | .pick c a b => pickB (ev c) (ev a) (ev b) st
  | .alloc t => allocB P t st
  | .box _ x => boxB (ev x) st
  | .build t ps => buildB P t (ps.toList.map fun p => (p.1, ev p.2)) st
  | .buildSlice t n ps => bsliceB P t n (ps.toList.map fun p => (p.1, ev p.2)) st
  | .load t a => loadB P t (ev a) st
  | .store t a x => storeB P t (ev a) (ev x) st
  | .nilCheck x => nilCheckB (ev x) st
  | .binOp op t x y _ => binB P op (isC x || isC y) t (ev x) (ev y) st
  | .unOp op _ x => unB op (ev x) st
  | .convert s t x => convB P s t (ev x) st
  | .makeInterface t x => mkIfB P t (ev x) st
  | .makeFunc f a b => .ok true (.fn f (a.toList.map ev) (b.toList.map ev)) st
  | .makeSlice t l c => mkSliceB P t (ev l) (ev c) st
  | .slice t x lo hi mx => sliceB P t (ev x) (lo.map ev) (hi.map ev) (mx.map ev) st
  | .fieldAddr t x f => fieldAddrB P t f (ev x) st
  | .field t x f => fieldB P t (ev x) f st
  | .indexAddr t x i => indexAddrB P t (ev x) (ev i) st
  | .index t x i => indexB P t (ev x) (ev i) st
  | .extract x i => extractB (ev x) i st
  | .call c => callB P c ev st
  | .panic x => panicB (ev x) st
  | .typeAssert x _ ty ok => assertB P ty ok (ev x) st
  | _ => .no

theorem int_rel : ∀ op k x k2 y st, RelB (intB op k x k2 y st) (intR op k x k2 y st) := by
  intros
  unfold intB intR
  repeat' split
  all_goals first | trivial | exact ⟨rfl, rfl, of_decide_eq_true⟩ | (simp_all [RelB]; done)

theorem str_rel : ∀ op x y st, RelB (strB op x y st) (strR op x y st) := by
  intros
  unfold strB strR
  repeat' split
  all_goals first | trivial | exact ⟨rfl, rfl, of_decide_eq_true⟩ | (simp_all [RelB]; done)

theorem eq_rel : ∀ P ng nc t x y st, RelB (eqB P ng nc t x y st) (eqR P ng nc t x y st) := by
  intros
  unfold eqB eqR
  repeat' split
  all_goals first | trivial | exact ⟨rfl, rfl, of_decide_eq_true⟩ | (simp_all [RelB]; done)

theorem un_rel : ∀ op x st, RelB (unB op x st) (unR op x st) := by
  intros
  unfold unB unR
  repeat' split
  all_goals first | trivial | exact ⟨rfl, rfl, of_decide_eq_true⟩ | (simp_all [RelB]; done)

theorem index_rel : ∀ P t x i st, RelB (indexB P t x i st) (indexR P t x i st) := by
  intros
  unfold indexB indexR
  repeat' split
  all_goals first | trivial | exact ⟨rfl, rfl, of_decide_eq_true⟩ | (simp_all [RelB]; done)

theorem field_rel : ∀ P t x f st, RelB (fieldB P t x f st) (fieldR P t x f st) := by
  intros
  unfold fieldB fieldR
  repeat' split
  all_goals first | trivial | exact ⟨rfl, rfl, of_decide_eq_true⟩ | (simp_all [RelB]; done)

theorem slice3_rel : ∀ P t x lo hi mv st, RelB (slice3B P t x lo hi mv st) (slice3R P t x lo hi mv st) := by
  intros
  unfold slice3B slice3R
  repeat' split
  all_goals first | trivial | exact ⟨rfl, rfl, of_decide_eq_true⟩ | (simp_all [RelB]; done)

theorem assign_rel : ∀ P t v st, RelB (assignB P t v st) (assignR P t v st) := by
  intros
  unfold assignB assignR
  repeat' split
  all_goals first | trivial | exact ⟨rfl, rfl, of_decide_eq_true⟩ | (simp_all [RelB]; done)

theorem alloc_rel : ∀ P t st, RelB (allocB P t st) (allocR P t st) := by
  intros
  unfold allocB allocR
  repeat' split
  all_goals first | trivial | exact ⟨rfl, rfl, of_decide_eq_true⟩ | (simp_all [RelB]; done)

theorem box_rel : ∀ v st, RelB (boxB v st) (boxR v st) := by
  intros
  unfold boxB boxR
  repeat' split
  all_goals first | trivial | exact ⟨rfl, rfl, of_decide_eq_true⟩ | (simp_all [RelB]; done)

theorem mkIf_rel : ∀ P t x st, RelB (mkIfB P t x st) (mkIfR P t x st) := by
  intros
  unfold mkIfB mkIfR
  repeat' split
  all_goals first | trivial | exact ⟨rfl, rfl, of_decide_eq_true⟩ | (simp_all [RelB]; done)

theorem extract_rel : ∀ x i st, RelB (extractB x i st) (extractR x i st) := by
  intros
  unfold extractB extractR
  repeat' split
  all_goals first | trivial | exact ⟨rfl, rfl, of_decide_eq_true⟩ | (simp_all [RelB]; done)

theorem pick_rel : ∀ c a b st, RelB (pickB c a b st) (pickR c a b st) := by
  intros
  unfold pickB pickR
  repeat' split
  all_goals first | trivial | exact ⟨rfl, rfl, of_decide_eq_true⟩ | (simp_all [RelB]; done)

theorem len_rel : ∀ P t x st, RelB (lenB P t x st) (lenR P t x st) := by
  intros
  unfold lenB lenR
  repeat' split
  all_goals first | trivial | exact ⟨rfl, rfl, of_decide_eq_true⟩ | (simp_all [RelB]; done)

theorem zeros_rel : ∀ P tx e n b x y st, RelB (zerosB P tx e n b x y st) (zerosR P tx e n b x y st) := by
  intros
  unfold zerosB zerosR
  repeat' split
  all_goals first | trivial | exact ⟨rfl, rfl, of_decide_eq_true⟩ | (simp_all [RelB]; done)

theorem cap_rel : ∀ P t x st, RelB (capB P t x st) (capR P t x st) := by
  intros
  unfold capB capR
  repeat' split
  all_goals first | trivial | exact ⟨rfl, rfl, of_decide_eq_true⟩ | (simp_all [RelB]; done)

theorem assert_rel : ∀ P ty ok x st, RelB (assertB P ty ok x st) (assertR P ty ok x st) := by
  intros
  unfold assertB assertR
  repeat' split
  all_goals first | trivial | exact ⟨rfl, rfl, of_decide_eq_true⟩ | (simp_all [RelB]; done)

theorem panic_rel : ∀ x st, RelB (panicB x st) (panicR x st) := by
  intros
  unfold panicB panicR
  repeat' split
  all_goals first | trivial | exact ⟨rfl, rfl, of_decide_eq_true⟩ | (simp_all [RelB]; done)

end Go.PE
end

section
/- The operations once more, with conditions that are reckoned: the larger ones agree, too (see PeCa). -/
set_option linter.unusedVariables false
set_option linter.unusedSimpArgs false
namespace Go.PE
open Go

theorem RelB.okd {p : Prop} [Decidable p] {v : AV} {st : St} : RelB (.ok (decide p) v st) (.ok p v st) := ⟨rfl, rfl, of_decide_eq_true⟩
theorem RelB.okt {v : AV} {st : St} : RelB (.ok true v st) (.ok True v st) := ⟨rfl, rfl, fun _ => trivial⟩
theorem RelB.no : RelB .no .fail := trivial
theorem RelB.ite {c : Prop} [Decidable c] {a b : RB} {a' b' : Res} (h : c → RelB a a') (h' : ¬ c → RelB b b') : RelB (if c then a else b) (if c then a' else b') := by
  split
  · exact h ‹_›
  · exact h' ‹_›

theorem nilCheck_rel (x : AV) (st : St) : RelB (nilCheckB x st) (nilCheckR x st) := by
  unfold nilCheckB nilCheckR
  cases x with
  | fn f _ _ => cases f <;> first | exact .no | exact .okt
  | eptr id m _ _ =>
    dsimp only
    cases st.r[id]? with
    | none => exact .no
    | some A => exact .okd
  | _ => first | exact .no | exact .okt
theorem mm_rel (m : Bool) (x y : AV) (st : St) : RelB (mmB m x y st) (mmR m x y st) := by
  unfold mmB mmR
  cases x with
  | d x => cases y with
    | d y => cases x <;> cases y <;> cases m <;> first | exact .no | exact .okt
    | _ => cases x <;> exact .no
  | _ => exact .no
theorem build_rel (P : Program) (t : TypeId) (ps : List (Nat × AV)) (st : St) : RelB (buildB P t ps st) (buildR P t ps st) := by
  unfold buildB buildR
  cases zero? P t with
  | none => exact .no
  | some z =>
    refine .ite (fun _ => ?_) fun _ => .no
    have h7 : RelB (match fillA (plS P t) z ps with | some cs => RB.ok true (mkAgg cs) st | none => .no) (match fillA (plS P t) z ps with | some cs => Res.ok True (mkAgg cs) st | none => .fail) := by
      cases fillA (plS P t) z ps with
      | none => exact .no
      | some cs => exact .okt
    have h4 : ∀ n, RelB (match fillA (plA n) z ps with | some cs => RB.ok true (mkAgg cs) st | none => .no) (match fillA (plA n) z ps with | some cs => Res.ok True (mkAgg cs) st | none => .fail) := by
      intro n
      cases fillA (plA n) z ps with
      | none => exact .no
      | some cs => exact .okt
    generalize kd? P t = k
    by_cases e7 : k = 7
    · subst e7; exact h7
    by_cases e4 : k = 4
    · subst e4
      rcases ar? P t with _ | ⟨_, n⟩
      · exact .no
      · exact h4 n
    split
    · exact absurd rfl e7
    · exact absurd rfl e4
    · split
      · exact absurd rfl e7
      · exact absurd rfl e4
      · exact .no

theorem load_rel (P : Program) (t : TypeId) (a : AV) (st : St) : RelB (loadB P t a st) (loadR P t a st) := by
  unfold loadB loadR
  rcases ty? P t with _ | ⟨g, n⟩
  · exact .no
  cases a with
  | ptr id off =>
    try dsimp only
    cases st.b[id]? with
    | none => exact .no
    | some cells => exact .okd
  | cptr cs => exact .okd
  | eptr id m i off =>
    try dsimp only
    cases st.r[id]? with
    | none => exact .no
    | some A =>
      try dsimp only
      refine .ite (fun _ => .ite (fun _ => ?_) fun _ => .no) fun _ => .okd
      rcases A.es.getD i [] with _ | ⟨x, _ | ⟨y, l⟩⟩
      · exact .no
      · cases x with
        | ref id' n' =>
          try dsimp only
          cases refD st.r id' with
          | none => exact .okd
          | some bs => exact .okd
        | _ => exact .okd
      · cases x <;> exact .no
  | _ => exact .no

theorem store_rel (P : Program) (t : TypeId) (a v : AV) (st : St) : RelB (storeB P t a v st) (storeR P t a v st) := by
  unfold storeB storeR
  rcases ty? P t with _ | ⟨g, n⟩
  · exact .no
  cases a with
  | ptr id off =>
    try dsimp only
    cases st.b[id]? with
    | none => exact .no
    | some cells => exact .okd
  | eptr id m i off =>
    try dsimp only
    refine .ite (fun _ => ?_) fun _ => ?_
    · cases lnkC v with
      | none => exact .no
      | some d =>
        cases st.r[id]? with
        | none => exact .no
        | some A => exact .okd
    · refine toD_rel _ _ _ _ fun ds st => ?_
      rcases ds with _ | ⟨d, _ | ⟨e, l⟩⟩
      · exact .no
      · try dsimp only
        cases st.r[id]? with
        | none => exact .no
        | some A => exact .ite (fun _ => .no) fun _ => .okd
      · exact .no
  | _ => exact .no

theorem fieldAddr_rel (P : Program) (t : TypeId) (f : Nat) (a : AV) (st : St) : RelB (fieldAddrB P t f a st) (fieldAddrR P t f a st) := by
  unfold fieldAddrB fieldAddrR
  rcases fo? P t f with _ | ⟨o, ft⟩
  · exact .no
  cases a with
  | ptr id off => exact .okt
  | cptr cs => exact .okd
  | eptr id m i off =>
    try dsimp only
    cases st.r[id]? with
    | none => exact .no
    | some A => exact .okd
  | _ => exact .no

theorem indexAddr_rel (P : Program) (t : TypeId) (x i : AV) (st : St) : RelB (indexAddrB P t x i st) (indexAddrR P t x i st) := by
  unfold indexAddrB indexAddrR
  cases x with
  | d x => cases x with
    | list es => cases i with
      | d i => cases i with
        | int _ k =>
          try dsimp only
          rcases sl? P t with _ | ⟨_, n, _⟩
          · exact .no
          · exact ⟨⟨rfl, rfl, rfl⟩, rfl, of_decide_eq_true⟩
        | _ => exact .no
      | _ => exact .no
    | _ => exact .no
  | arr id m => cases i with
    | d i => cases i with
      | int _ k =>
        try dsimp only
        rcases sl? P t with _ | ⟨_, n, _⟩
        · exact .no
        · cases st.r[id]? with
          | none => exact .no
          | some A => exact .ite (fun _ => .okd) fun _ => .okd
      | _ => exact .no
    | _ => exact .no
  | ptr id off => cases i with
    | d i => cases i with
      | int _ k =>
        try dsimp only
        rcases ar? P t with _ | ⟨len, n⟩
        · exact .no
        · exact .okd
      | _ => exact .no
    | _ => exact .no
  | cptr cs => cases i with
    | d i => cases i with
      | int _ k =>
        try dsimp only
        rcases ar? P t with _ | ⟨len, n⟩
        · exact .no
        · exact .okd
      | _ => exact .no
    | _ => exact .no
  | bsl id m => cases i with
    | d i => cases i with
      | int _ k =>
        try dsimp only
        rcases sl? P t with _ | ⟨_, n, _⟩
        · exact .no
        · exact .okd
      | _ => exact .no
    | _ => exact .no
  | _ => exact .no

theorem slice_rel (P : Program) (t : TypeId) (x : AV) (lo hi mx : Option AV) (st : St) : RelB (sliceB P t x lo hi mx st) (sliceR P t x lo hi mx st) := by
  unfold sliceB sliceR
  cases mx with
  | some mv => exact slice3_rel _ _ _ _ _ _ _
  | none => cases x with
    | d x => cases x with
      | list es =>
        try dsimp only
        cases boundA 0 lo with
        | none => exact .no
        | some l => cases boundA es.length hi with
          | none => exact .no
          | some h =>
            refine .ite (fun _ => ?_) fun _ => .no
            rcases sl? P t with _ | ⟨_, n, _⟩
            · exact .no
            · exact .okd
      | str s =>
        try dsimp only
        cases boundA 0 lo with
        | none => exact .no
        | some l => cases boundA s.length hi with
          | none => exact .no
          | some h => exact .ite (fun _ => .okd) fun _ => .no
      | _ => exact .no
    | arr id m =>
      try dsimp only
      cases st.r[id]? with
      | none => exact .no
      | some A =>
        try dsimp only
        cases boundA 0 lo with
        | none => exact .no
        | some l => cases boundA A.es.length hi with
          | none => exact .no
          | some h =>
            try dsimp only
            rcases sl? P t with _ | ⟨_, n, _⟩
            · exact .no
            · exact .ite (fun _ => .no) fun _ => .okd
    | nilS =>
      try dsimp only
      cases boundA 0 lo with
      | none => exact .no
      | some l => cases boundA 0 hi with
        | none => exact .no
        | some h =>
          try dsimp only
          rcases sl? P t with _ | ⟨_, n, _⟩
          · exact .no
          · exact .okd
    | _ => exact .no

theorem mkSlice_rel (P : Program) (t : TypeId) (l c : AV) (st : St) : RelB (mkSliceB P t l c st) (mkSliceR P t l c st) := by
  unfold mkSliceB mkSliceR
  rcases sl? P t with _ | ⟨e, n, by_⟩
  · exact .no
  cases l with
  | d l => cases l with
    | int _ a => cases c with
      | d c => cases c with
        | int _ b =>
          try dsimp only
          cases zero? P e with
          | none => exact .no
          | some z =>
            try dsimp only
            cases toDL [] z with
            | none => exact .no
            | some ds => exact .okd
        | _ => exact .no
      | _ => exact .no
    | _ => exact .no
  | _ => exact .no

theorem bslice_rel (P : Program) (t : TypeId) (len : Nat) (ps : List (Nat × AV)) (st : St) : RelB (bsliceB P t len ps st) (bsliceR P t len ps st) := by
  unfold bsliceB bsliceR
  rcases sl? P t with _ | ⟨e, n, by_⟩
  · exact .no
  try dsimp only
  rcases lnk1 st.r ps with _ | ⟨i, id, m⟩
  · exact .ite (fun _ => .okd) fun _ => toD_rel _ _ _ _ fun ds st => .okd
  · exact .okd

theorem conv_rel (P : Program) (s t : TypeId) (x : AV) (st : St) : RelB (convB P s t x st) (convR P s t x st) := by
  unfold convB convR
  refine .ite (fun _ => .no) fun _ => ?_
  have hL : ∀ x : AV, RelB (if kd? P t = 0 then toDB [x] st fun ds st => match ds, sl? P s with
      | [.list es], some (e, _, _) => if kd? P e = 14 then (match bytesD es with | some l => .ok true (.d (.str l)) st | none => .no) else .no
      | _, _ => .no
    else .no) (if kd? P t = 0 then toDR [x] st fun ds st => match ds, sl? P s with
      | [.list es], some (e, _, _) => if kd? P e = 14 then (match bytesD es with | some l => .ok True (.d (.str l)) st | none => .fail) else .fail
      | _, _ => .fail
    else .fail) := by
    intro x
    refine .ite (fun _ => toD_rel _ _ _ _ fun ds st => ?_) fun _ => .no
    rcases ds with _ | ⟨d, _ | ⟨d2, l⟩⟩
    · exact .no
    · cases d with
      | list es =>
        rcases sl? P s with _ | ⟨e, _, _⟩
        · exact .no
        · refine .ite (fun _ => ?_) fun _ => .no
          cases bytesD es with
          | none => exact .no
          | some l => exact .okt
      | _ => exact .no
    · cases d <;> exact .no
  cases x with
  | d x => cases x with
    | int _ n =>
      try dsimp only
      cases ik (kd? P t) with
      | none => exact .no
      | some k => exact .okt
    | str l => exact .ite (fun _ => .okt) fun _ => .no
    | _ => exact hL _
  | _ => exact hL _

theorem bin_rel (P : Program) (op : BinOp) (nc : Bool) (t : TypeId) (x y : AV) (st : St) : RelB (binB P op nc t x y st) (binR P op nc t x y st) := by
  have hd : ∀ x y : D, RelB (match op with | .eql => eqB P false nc t x y st | .neq => eqB P true nc t x y st | _ => .no) (match op with | .eql => eqR P false nc t x y st | .neq => eqR P true nc t x y st | _ => .fail) := by
    intro x y
    cases op <;> first | exact .no | exact eq_rel _ _ _ _ _ _ _
  cases x with
  | d x =>
    cases y with
    | d y => cases x <;> cases y <;> first | exact int_rel _ _ _ _ _ _ | exact str_rel _ _ _ _ | exact hd _ _
    | nilS =>
      cases x with
      | list es =>
        show RelB (if kd? P t = 6 then _ else _) (if kd? P t = 6 then _ else _)
        refine .ite (fun _ => ?_) fun _ => .no
        cases op <;> first | exact .no | (refine ⟨rfl, fun h => ⟨trivial, fun b' hb => ?_⟩⟩; exact hb (of_decide_eq_true h))
      | _ => exact .no
    | _ => cases x <;> exact .no
  | nilS =>
    cases y with
    | nilS =>
      show RelB (if kd? P t = 6 then _ else _) (if kd? P t = 6 then _ else _)
      refine .ite (fun _ => ?_) fun _ => .no
      cases op <;> first | exact .no | exact .okt
    | _ => exact .no
  | _ => cases y <;> exact .no

def RelS : Option (Bool × List (List D)) → Option (Prop × List (List D)) → Prop
  | none, none => True
  | some (c, l), some (p, l') => l = l' ∧ (c = true → p)
  | _, _ => False
theorem src_rel (P : Program) (tx : TypeId) (n : Nat) (y : AV) (st : St) : RelS (srcB P tx n y st) (srcA P tx n y st) := by
  unfold srcB srcA
  cases y with
  | nilS =>
    show RelS (if kd? P tx = 6 then _ else _) (if kd? P tx = 6 then _ else _)
    split
    · exact ⟨rfl, fun _ => trivial⟩
    · trivial
  | d y => cases y with
    | list es =>
      show RelS (if kd? P tx = 6 then _ else _) (if kd? P tx = 6 then _ else _)
      split
      · exact ⟨rfl, of_decide_eq_true⟩
      · trivial
    | str s =>
      show RelS (if kd? P tx = 0 then _ else _) (if kd? P tx = 0 then _ else _)
      split
      · exact ⟨rfl, of_decide_eq_true⟩
      · trivial
    | _ => trivial
  | arr id m =>
    show RelS (if kd? P tx = 6 then _ else _) (if kd? P tx = 6 then _ else _)
    split
    · cases st.r[id]? with
      | none => trivial
      | some A =>
        show RelS (if A.sz = 0 then _ else _) (if A.sz = 0 then _ else _)
        split
        · trivial
        · exact ⟨rfl, of_decide_eq_true⟩
    · trivial
  | _ => trivial
theorem srcL_rel (P : Program) (tx : TypeId) (r : List Arr) (y : AV) : RelS (srcLB P tx r y) (srcL P tx r y) := by
  unfold srcLB srcL
  cases y with
  | arr id m =>
    show RelS (if kd? P tx = 6 then _ else _) (if kd? P tx = 6 then _ else _)
    split
    · cases r[id]? with
      | none => trivial
      | some A => exact ⟨rfl, of_decide_eq_true⟩
    · trivial
  | _ => trivial

theorem append_rel (P : Program) (t tx : TypeId) (x y : AV) (st : St) : RelB (appendB P t tx x y st) (appendR P t tx x y st) := by
  unfold appendB appendR
  rcases sl? P t with _ | ⟨e, n, by_⟩
  · exact .no
  dsimp only
  rcases lnkA st.r x with _ | ⟨id, m, A⟩
  · try dsimp only
    have h := src_rel P tx n y st
    revert h
    rcases srcB P tx n y st with _ | ⟨c, l⟩ <;> rcases srcA P tx n y st with _ | ⟨p, l'⟩ <;> intro h
    · exact zeros_rel _ _ _ _ _ _ _ _
    · exact h.elim
    · exact h.elim
    · obtain ⟨rfl, hc⟩ := h
      cases x with
      | nilS => exact ⟨rfl, rfl, fun hh => by have := of_decide_eq_true hh; exact ⟨hc this.1, this.2⟩⟩
      | arr id m =>
        dsimp only
        cases st.r[id]? with
        | none => exact .no
        | some A => exact .ite (fun _ => .no) fun _ => ⟨rfl, rfl, fun hh => by have := of_decide_eq_true hh; exact ⟨hc this.1, this.2⟩⟩
      | full es => exact ⟨rfl, rfl, fun hh => by have := of_decide_eq_true hh; exact ⟨hc this.1, this.2⟩⟩
      | _ => exact .no
  · try dsimp only
    have h := srcL_rel P tx st.r y
    revert h
    rcases srcLB P tx st.r y with _ | ⟨c, l⟩ <;> rcases srcL P tx st.r y with _ | ⟨p, l'⟩ <;> intro h
    · exact .no
    · exact h.elim
    · exact h.elim
    · obtain ⟨rfl, hc⟩ := h
      exact ⟨rfl, rfl, fun hh => by have := of_decide_eq_true hh; exact ⟨hc this.1, this.2⟩⟩

theorem copy_rel (P : Program) (t tx : TypeId) (x y : AV) (st : St) : RelB (copyB P t tx x y st) (copyR P t tx x y st) := by
  unfold copyB copyR
  rcases sl? P t with _ | ⟨e, n, by_⟩
  · exact .no
  dsimp only
  have h := src_rel P tx n y st
  revert h
  rcases srcB P tx n y st with _ | ⟨c, l⟩ <;> rcases srcA P tx n y st with _ | ⟨p, l'⟩ <;> intro h
  · exact .no
  · exact h.elim
  · exact h.elim
  · obtain ⟨rfl, hc⟩ := h
    cases x with
    | arr id m =>
      dsimp only
      cases st.r[id]? with
      | none => exact .no
      | some A => exact .ite (fun _ => .no) fun _ => ⟨rfl, rfl, fun hh => by have := of_decide_eq_true hh; exact ⟨hc this.1, this.2⟩⟩
    | _ => exact .no

theorem builtin_rel (P : Program) (b : Builtin) (ats : List TypeId) (args : List AV) (st : St) : RelB (builtinB P b ats args st) (builtinR P b ats args st) := by
  unfold builtinB builtinR
  rcases args with _ | ⟨x, _ | ⟨y, _ | ⟨z, l⟩⟩⟩ <;> rcases ats with _ | ⟨t, _ | ⟨t2, _ | ⟨t3, l2⟩⟩⟩ <;> cases b <;>
    first | exact .no | exact len_rel _ _ _ _ | exact append_rel _ _ _ _ _ _ | exact copy_rel _ _ _ _ _ _ | exact cap_rel _ _ _ _ | exact mm_rel _ _ _ _

theorem invoke_rel (P : Program) (recv : AV) (name : String) (args : List AV) (st : St) : RelB (invokeB P recv name args st) (invokeR P recv name args st) := by
  unfold invokeB invokeR
  cases recv with
  | d x => cases x with
    | iface t d =>
      dsimp only
      cases meth? P t name with
      | none => exact .no
      | some f => exact ⟨rfl, rfl, rfl⟩
    | _ => exact .no
  | iface t x =>
    dsimp only
    cases meth? P t name with
    | none => exact .no
    | some f => exact ⟨rfl, rfl, rfl⟩
  | _ => exact .no

theorem call_rel (P : Program) (c : Call) (st : St) : RelB (callB P c st.ev st) (callR P c st) := by
  unfold callB callR
  cases c.callee with
  | builtin b => exact builtin_rel _ _ _ _ _
  | value f =>
    dsimp only
    cases st.ev f with
    | fn g first caps => cases g with
      | func g => exact ⟨rfl, rfl, rfl⟩
      | _ => exact .no
    | _ => exact .no
  | invoke recv name => exact invoke_rel _ _ _ _ _

theorem op_rel (P : Program) (o : Oper) (st : St) : RelB (opB P o st.ev st) (opR P o st) := by
  unfold opB opR
  cases o.op <;> first
    | exact .no | exact .okt | exact assign_rel _ _ _ _ | exact pick_rel _ _ _ _ | exact alloc_rel _ _ _ | exact box_rel _ _ | exact build_rel _ _ _ _
    | exact bslice_rel _ _ _ _ _ | exact load_rel _ _ _ _ | exact store_rel _ _ _ _ _ | exact nilCheck_rel _ _ | exact bin_rel _ _ _ _ _ _ _
    | exact un_rel _ _ _ | exact conv_rel _ _ _ _ _ | exact mkIf_rel _ _ _ _ | exact mkSlice_rel _ _ _ _ _ | exact slice_rel _ _ _ _ _ _ _
    | exact fieldAddr_rel _ _ _ _ _ | exact field_rel _ _ _ _ _ | exact indexAddr_rel _ _ _ _ _ | exact index_rel _ _ _ _ _ | exact extract_rel _ _ _
    | exact call_rel _ _ _ | exact panic_rel _ _ | exact assert_rel _ _ _ _ _

end Go.PE
end

section
/- The operations of PeCa look at temporaries only through their operands (printed by tools/conct.py from PeP). -/
set_option linter.unusedVariables false
set_option linter.unusedSimpArgs false
namespace Go.PE
open Go

def RB.setT (t : List AV) : RB → RB
  | .no => .no
  | .ok p v st => .ok p v (st.wT t)
  | .elem p es k n st => .elem p es k n (st.wT t)
  | .byte p s k st => .byte p s k (st.wT t)
  | .any p q st => .any p q (st.wT t)
  | .call g args st => .call g args (st.wT t)
  | .panic v st => .panic v (st.wT t)

section
variable {P : Program} (t' : List AV) (st : St)

theorem toDB_tb (l : List AV) (f g : List D → St → RB) (h : ∀ ds (st : St), g ds (st.wT t') = (f ds st).setT t') : toDB l (st.wT t') g = (toDB l st f).setT t' := by
  unfold toDB
  have e : (st.wT t').r = st.r := rfl
  rw [e]
  cases toDL st.r l with
  | none => rfl
  | some ds => exact h ds { st with r := share st.r (arrIdsL l) }
theorem int_tb (op k a k' b) : intB op k a k' b (st.wT t') = (intB op k a k' b st).setT t' := by
  unfold intB; repeat' split
  all_goals rfl
theorem str_tb (op a b) : strB op a b (st.wT t') = (strB op a b st).setT t' := by
  unfold strB; repeat' split
  all_goals rfl
theorem eq_tb (n c t x y) : eqB P n c t x y (st.wT t') = (eqB P n c t x y st).setT t' := by
  unfold eqB
  repeat' split
  all_goals rfl
theorem bin_tb (op c t x y) : binB P op c t x y (st.wT t') = (binB P op c t x y st).setT t' := by
  unfold binB
  repeat' split
  all_goals first | rfl | exact int_tb _ _ _ _ _ _ _ | exact str_tb _ _ _ _ _ | exact eq_tb _ _ _ _ _ _ _
theorem un_tb (op x) : unB op x (st.wT t') = (unB op x st).setT t' := by
  unfold unB; repeat' split
  all_goals rfl
theorem load_tb (t a) : loadB P t a (st.wT t') = (loadB P t a st).setT t' := by
  unfold loadB
  have e : (st.wT t').b = st.b := rfl
  have e2 : (st.wT t').r = st.r := rfl
  rw [e, e2]
  repeat' split
  all_goals rfl
theorem store_tb (t a v) : storeB P t a v (st.wT t') = (storeB P t a v st).setT t' := by
  unfold storeB
  have e : (st.wT t').b = st.b := rfl
  rw [e]
  split
  · split <;> rfl
  · rename_i n id m i off _
    have e3 : lkd (st.wT t').r id = lkd st.r id := rfl
    rw [e3]
    split
    · have e4 : (st.wT t').r = st.r := rfl
      rw [e4]
      split <;> rfl
    · refine toDB_tb t' st _ _ _ (fun ds st => ?_)
      have e2 : (st.wT t').r = st.r := rfl
      rw [e2]
      split
      · split <;> rfl
      · rfl
  · rfl
theorem fieldAddr_tb (t f a) : fieldAddrB P t f a (st.wT t') = (fieldAddrB P t f a st).setT t' := by
  unfold fieldAddrB
  have e2 : (st.wT t').r = st.r := rfl
  rw [e2]
  repeat' split
  all_goals rfl
theorem indexAddr_tb (t x i) : indexAddrB P t x i (st.wT t') = (indexAddrB P t x i st).setT t' := by
  unfold indexAddrB
  have e2 : (st.wT t').r = st.r := rfl
  rw [e2]
  repeat' split
  all_goals rfl
theorem index_tb (t x i) : indexB P t x i (st.wT t') = (indexB P t x i st).setT t' := by
  unfold indexB; repeat' split
  all_goals rfl
theorem field_tb (t x f) : fieldB P t x f (st.wT t') = (fieldB P t x f st).setT t' := by
  unfold fieldB; repeat' split
  all_goals rfl
theorem slice3_tb (t x l h m) : slice3B P t x l h m (st.wT t') = (slice3B P t x l h m st).setT t' := by
  unfold slice3B; repeat' split
  all_goals rfl
theorem slice_tb (t x l h m) : sliceB P t x l h m (st.wT t') = (sliceB P t x l h m st).setT t' := by
  unfold sliceB
  have e2 : (st.wT t').r = st.r := rfl
  rw [e2]
  repeat' split
  all_goals first | rfl | exact slice3_tb _ _ _ _ _ _ _
theorem assign_tb (t v) : assignB P t v (st.wT t') = (assignB P t v st).setT t' := by
  unfold assignB; repeat' split
  all_goals rfl
theorem alloc_tb (t) : allocB P t (st.wT t') = (allocB P t st).setT t' := by
  unfold allocB; repeat' split
  all_goals rfl
theorem build_tb (t ps) : buildB P t ps (st.wT t') = (buildB P t ps st).setT t' := by
  unfold buildB; repeat' split
  all_goals rfl
theorem bslice_tb (t n ps) : bsliceB P t n ps (st.wT t') = (bsliceB P t n ps st).setT t' := by
  unfold bsliceB
  have e0 : (st.wT t').r = st.r := rfl
  rw [e0]
  split
  · split
    · rfl
    · split
      · rfl
      · exact toDB_tb t' st _ _ _ (fun ds st => rfl)
  · rfl
theorem mkSlice_tb (t l c) : mkSliceB P t l c (st.wT t') = (mkSliceB P t l c st).setT t' := by
  unfold mkSliceB; repeat' split
  all_goals rfl
theorem mkIf_tb (t x) : mkIfB P t x (st.wT t') = (mkIfB P t x st).setT t' := by
  unfold mkIfB; repeat' split
  all_goals rfl
theorem assert_tb (ty ok x) : assertB P ty ok x (st.wT t') = (assertB P ty ok x st).setT t' := by
  unfold assertB; repeat' split
  all_goals rfl
theorem extract_tb (x i) : extractB x i (st.wT t') = (extractB x i st).setT t' := by
  unfold extractB; repeat' split
  all_goals rfl
theorem nilCheck_tb (x) : nilCheckB x (st.wT t') = (nilCheckB x st).setT t' := by
  unfold nilCheckB
  have e2 : (st.wT t').r = st.r := rfl
  rw [e2]
  repeat' split
  all_goals rfl
theorem pick_tb (c a b) : pickB c a b (st.wT t') = (pickB c a b st).setT t' := by
  unfold pickB; repeat' split
  all_goals rfl
theorem conv_tb (s t x) : convB P s t x (st.wT t') = (convB P s t x st).setT t' := by
  unfold convB
  repeat' split
  all_goals first
    | rfl
    | (refine toDB_tb t' st _ _ _ (fun ds st => ?_)
       repeat' split
       all_goals rfl)
theorem len_tb (t x) : lenB P t x (st.wT t') = (lenB P t x st).setT t' := by
  unfold lenB
  have e2 : (st.wT t').r = st.r := rfl
  rw [e2]
  repeat' split
  all_goals rfl
theorem zeros_tb (tx e n b x y) : zerosB P tx e n b x y (st.wT t') = (zerosB P tx e n b x y st).setT t' := by
  unfold zerosB
  repeat' split
  all_goals rfl
theorem append_tb (t tx x y) : appendB P t tx x y (st.wT t') = (appendB P t tx x y st).setT t' := by
  unfold appendB
  have e1 : ∀ n, srcB P tx n y (st.wT t') = srcB P tx n y st := fun n => rfl
  have e2 : (st.wT t').r = st.r := rfl
  simp only [e1, e2, zeros_tb]
  repeat' split
  all_goals rfl
theorem copy_tb (t tx x y) : copyB P t tx x y (st.wT t') = (copyB P t tx x y st).setT t' := by
  unfold copyB
  have e1 : ∀ n, srcB P tx n y (st.wT t') = srcB P tx n y st := fun n => rfl
  have e2 : (st.wT t').r = st.r := rfl
  simp only [e1, e2]
  repeat' split
  all_goals rfl
theorem cap_tb (t x) : capB P t x (st.wT t') = (capB P t x st).setT t' := by
  unfold capB; repeat' split
  all_goals rfl
theorem mm_tb (m x y) : mmB m x y (st.wT t') = (mmB m x y st).setT t' := by
  unfold mmB; repeat' split
  all_goals rfl
theorem builtin_tb (b ats args) : builtinB P b ats args (st.wT t') = (builtinB P b ats args st).setT t' := by
  unfold builtinB
  split
  · exact len_tb _ _ _ _
  · exact append_tb _ _ _ _ _ _
  · exact copy_tb _ _ _ _ _ _
  · exact cap_tb _ _ _ _
  · exact mm_tb _ _ _ _ _
  · exact mm_tb _ _ _ _ _
  · rfl
theorem invoke_tb (r n args) : invokeB P r n args (st.wT t') = (invokeB P r n args st).setT t' := by
  unfold invokeB; repeat' split
  all_goals rfl
theorem panic_tb (x) : panicB x (st.wT t') = (panicB x st).setT t' := by
  unfold panicB; repeat' split
  all_goals rfl

theorem opB_tb (o : Oper) (ev : Operand → AV) : opB P o ev (st.wT t') = (opB P o ev st).setT t' := by
  obtain ⟨d, op, ty, p, ar, g⟩ := o
  cases op with
  | assign x => exact assign_tb _ _ _ _
  | pick c x y => exact pick_tb _ _ _ _ _
  | alloc t => exact alloc_tb _ _ _
  | build t ps => exact build_tb _ _ _ _
  | buildSlice t n ps => exact bslice_tb _ _ _ _ _
  | load t x => exact load_tb _ _ _ _
  | store t x y => exact store_tb _ _ _ _ _
  | nilCheck x => exact nilCheck_tb _ _ _
  | binOp op t x y e => exact bin_tb _ _ _ _ _ _ _
  | unOp op t x => exact un_tb _ _ _ _
  | convert s t x => exact conv_tb _ _ _ _ _
  | makeInterface t x => exact mkIf_tb _ _ _ _
  | makeSlice t x y => exact mkSlice_tb _ _ _ _ _
  | slice t x lo hi mx => exact slice_tb _ _ _ _ _ _ _
  | fieldAddr t x f => exact fieldAddr_tb _ _ _ _ _
  | field t x f => exact field_tb _ _ _ _ _
  | indexAddr t x i => exact indexAddr_tb _ _ _ _ _
  | index t x i => exact index_tb _ _ _ _ _
  | typeAssert x xt ty ok => exact assert_tb _ _ _ _ _
  | extract x i => exact extract_tb _ _ _ _
  | call c =>
    obtain ⟨callee, args, ats⟩ := c
    cases callee with
    | builtin b => exact builtin_tb _ _ _ _ _
    | value f =>
      simp only [opB, callB]
      split <;> rfl
    | invoke recv n => exact invoke_tb _ _ _ _ _
  | panic x => exact panic_tb _ _ _
  | _ => rfl
theorem opB_ev (o : Oper) {ev ev' : Operand → AV} (h : ∀ x ∈ o.op.operands, ev' x = ev x) : opB P o ev' st = opB P o ev st := by
  have hl : ∀ xs : Array Operand, (∀ x ∈ xs, ev' x = ev x) → xs.toList.map ev' = xs.toList.map ev := by
    intro xs hx
    exact List.map_congr_left (fun x hm => hx x (by simpa using hm))
  have hp : ∀ ps : Array (Nat × Operand), (∀ x ∈ (ps.toList.map (·.2)).toArray, ev' x = ev x) → (ps.toList.map fun p => (p.1, ev' p.2)) = ps.toList.map fun p => (p.1, ev p.2) := by
    intro ps hx
    refine List.map_congr_left (fun p hm => ?_)
    rw [hx p.2 (by simp only [List.mem_toArray]; exact List.mem_map_of_mem hm)]
  have ho : ∀ x : Option Operand, (∀ y ∈ x.toArray, ev' y = ev y) → x.map ev' = x.map ev := by
    intro x hx
    cases x with
    | none => rfl
    | some y => simp [hx y (by simp)]
  obtain ⟨d, op, ty, p, ar, g⟩ := o
  cases op with
  | move x => simp only [opB, h x (by simp [Op.operands])]
  | assign x => simp only [opB, h x (by simp [Op.operands])]
  | pick c x y => simp only [opB, h c (by simp [Op.operands]), h x (by simp [Op.operands]), h y (by simp [Op.operands])]
  | box t x => simp only [opB, h x (by simp [Op.operands])]
  | build t ps => simp only [opB, hp ps (fun x hx => h x (by simpa [Op.operands] using hx))]
  | buildSlice t n ps => simp only [opB, hp ps (fun x hx => h x (by simpa [Op.operands] using hx))]
  | load t x => simp only [opB, h x (by simp [Op.operands])]
  | store t x y => simp only [opB, h x (by simp [Op.operands]), h y (by simp [Op.operands])]
  | nilCheck x => simp only [opB, h x (by simp [Op.operands])]
  | binOp op t x y e => simp only [opB, h x (by simp [Op.operands]), h y (by simp [Op.operands])]
  | unOp op t x => simp only [opB, h x (by simp [Op.operands])]
  | convert s t x => simp only [opB, h x (by simp [Op.operands])]
  | makeInterface t x => simp only [opB, h x (by simp [Op.operands])]
  | makeFunc f xs ys => simp only [opB, hl xs (fun x hx => h x (by simp [Op.operands, hx])), hl ys (fun x hx => h x (by simp [Op.operands, hx]))]
  | makeSlice t x y => simp only [opB, h x (by simp [Op.operands]), h y (by simp [Op.operands])]
  | slice t x lo hi mx =>
    simp only [opB, h x (by simp [Op.operands]), ho lo (fun y hy => h y (by simp only [Op.operands, Array.mem_append]; exact .inl (.inl (.inr hy)))), ho hi (fun y hy => h y (by simp only [Op.operands, Array.mem_append]; exact .inl (.inr hy))),
      ho mx (fun y hy => h y (by simp only [Op.operands, Array.mem_append]; exact .inr hy))]
  | fieldAddr t x f => simp only [opB, h x (by simp [Op.operands])]
  | field t x f => simp only [opB, h x (by simp [Op.operands])]
  | indexAddr t x i => simp only [opB, h x (by simp [Op.operands]), h i (by simp [Op.operands])]
  | index t x i => simp only [opB, h x (by simp [Op.operands]), h i (by simp [Op.operands])]
  | typeAssert x xt ty ok => simp only [opB, h x (by simp [Op.operands])]
  | extract x i => simp only [opB, h x (by simp [Op.operands])]
  | call c =>
    obtain ⟨callee, args, ats⟩ := c
    have hargs : args.toList.map ev' = args.toList.map ev := hl args (fun x hx => h x (by simp [Op.operands, Call.operands, hx]))
    cases callee with
    | builtin b => simp only [opB, callB, hargs]
    | value f =>
      have hf := h f (by simp [Op.operands, Call.operands])
      simp only [opB, callB, hargs, hf]
    | invoke recv n =>
      have hf := h recv (by simp [Op.operands, Call.operands])
      simp only [opB, callB, hargs, hf]
  | panic x => simp only [opB, h x (by simp [Op.operands])]
  | _ => rfl
end
end Go.PE
end

section
/- Closed calls: an evaluator that gives the result itself (see PeCa). -/
set_option linter.unusedVariables false
set_option linter.unusedSimpArgs false
namespace Go.PE
open Go

/-! ### equality -/
def eqRaw : Value → Value → Bool
  | .pointer none, .pointer none => true
  | .nilFunc, .nilFunc => true
  | .map none, .map none => true
  | _, _ => false
mutual
def eqDD : D → D → Bool
  | .int k a, .int l b => decide (k = l) && decide (a = b)
  | .bool a, .bool b => a == b
  | .str a, .str b => decide (a = b)
  | .agg a, .agg b => eqDL a b
  | .list a, .list b => eqDLL a b
  | .iface t a, .iface u b => decide (t = u) && eqDD a b
  | .nilI, .nilI => true
  | .raw a, .raw b => eqRaw a b
  | .ref a b, .ref c d => decide (a = c) && decide (b = d)
  | _, _ => false
def eqDL : List D → List D → Bool
  | [], [] => true
  | x :: l, y :: m => eqDD x y && eqDL l m
  | _, _ => false
def eqDLL : List (List D) → List (List D) → Bool
  | [], [] => true
  | x :: l, y :: m => eqDL x y && eqDLL l m
  | _, _ => false
end
theorem eqRaw_sound {a b : Value} (h : eqRaw a b = true) : a = b := by
  unfold eqRaw at h
  split at h <;> first | rfl | cases h
mutual
theorem eqDD_sound : ∀ (a b : D), eqDD a b = true → a = b
  | .int k a, b, h => by
    cases b <;> simp [eqDD] at h
    obtain ⟨rfl, rfl⟩ := h; rfl
  | .bool a, b, h => by
    cases b <;> simp [eqDD] at h
    subst h; rfl
  | .str a, b, h => by
    cases b <;> simp [eqDD] at h
    subst h; rfl
  | .agg a, b, h => by
    cases b <;> simp [eqDD] at h
    rw [eqDL_sound _ _ h]
  | .list a, b, h => by
    cases b <;> simp [eqDD] at h
    rw [eqDLL_sound _ _ h]
  | .iface t a, b, h => by
    cases b <;> simp [eqDD] at h
    obtain ⟨rfl, h⟩ := h
    rw [eqDD_sound _ _ h]
  | .nilI, b, h => by cases b <;> simp [eqDD] at h; rfl
  | .raw a, b, h => by
    cases b <;> simp [eqDD] at h
    rw [eqRaw_sound h]
  | .ref a c, b, h => by
    cases b <;> simp [eqDD] at h
    obtain ⟨rfl, rfl⟩ := h; rfl
theorem eqDL_sound : ∀ (a b : List D), eqDL a b = true → a = b
  | [], b, h => by cases b <;> simp [eqDL] at h; rfl
  | x :: l, b, h => by
    cases b <;> simp [eqDL] at h
    rw [eqDD_sound _ _ h.1, eqDL_sound _ _ h.2]
theorem eqDLL_sound : ∀ (a b : List (List D)), eqDLL a b = true → a = b
  | [], b, h => by cases b <;> simp [eqDLL] at h; rfl
  | x :: l, b, h => by
    cases b <;> simp [eqDLL] at h
    rw [eqDL_sound _ _ h.1, eqDLL_sound _ _ h.2]
end
def eqFn : Fn → Fn → Bool
  | .func a, .func b => decide (a = b)
  | _, _ => false
theorem eqFn_sound {a b : Fn} (h : eqFn a b = true) : a = b := by
  cases a <;> cases b <;> simp [eqFn] at h
  subst h; rfl
mutual
def eqAA : AV → AV → Bool
  | .undef, .undef => true
  | .d a, .d b => eqDD a b
  | .agg a, .agg b => eqAL a b
  | .nilS, .nilS => true
  | .arr a b, .arr c d => decide (a = c) && decide (b = d)
  | .ptr a b, .ptr c d => decide (a = c) && decide (b = d)
  | .cptr a, .cptr b => eqDL a b
  | .eptr a b c d, .eptr e f g h => (decide (a = e) && decide (b = f)) && (decide (c = g) && decide (d = h))
  | .tup a, .tup b => eqAL a b
  | .iface t a, .iface u b => decide (t = u) && eqAA a b
  | .fn f a b, .fn g c d => eqFn f g && (eqAL a c && eqAL b d)
  | .bsl a b, .bsl c d => decide (a = c) && decide (b = d)
  | .full a, .full b => eqDLL a b
  | _, _ => false
def eqAL : List AV → List AV → Bool
  | [], [] => true
  | x :: l, y :: m => eqAA x y && eqAL l m
  | _, _ => false
end
mutual
theorem eqAA_sound : ∀ (a b : AV), eqAA a b = true → a = b
  | .undef, b, h => by cases b <;> simp [eqAA] at h; rfl
  | .d a, b, h => by
    cases b <;> simp [eqAA] at h
    rw [eqDD_sound _ _ h]
  | .agg a, b, h => by
    cases b <;> simp [eqAA] at h
    rw [eqAL_sound _ _ h]
  | .nilS, b, h => by cases b <;> simp [eqAA] at h; rfl
  | .arr i n, b, h => by
    cases b <;> simp [eqAA] at h
    obtain ⟨rfl, rfl⟩ := h; rfl
  | .ptr i n, b, h => by
    cases b <;> simp [eqAA] at h
    obtain ⟨rfl, rfl⟩ := h; rfl
  | .cptr a, b, h => by
    cases b <;> simp [eqAA] at h
    rw [eqDL_sound _ _ h]
  | .eptr i n j o, b, h => by
    cases b <;> simp [eqAA] at h
    obtain ⟨⟨rfl, rfl⟩, rfl, rfl⟩ := h; rfl
  | .tup a, b, h => by
    cases b <;> simp [eqAA] at h
    rw [eqAL_sound _ _ h]
  | .iface t a, b, h => by
    cases b <;> simp [eqAA] at h
    obtain ⟨rfl, h⟩ := h
    rw [eqAA_sound _ _ h]
  | .fn f a c, b, h => by
    cases b <;> simp [eqAA] at h
    rw [eqFn_sound h.1, eqAL_sound _ _ h.2.1, eqAL_sound _ _ h.2.2]
  | .bsl i n, b, h => by
    cases b <;> simp [eqAA] at h
    obtain ⟨rfl, rfl⟩ := h; rfl
  | .full a, b, h => by
    cases b <;> simp [eqAA] at h
    rw [eqDLL_sound _ _ h]
theorem eqAL_sound : ∀ (a b : List AV), eqAL a b = true → a = b
  | [], b, h => by cases b <;> simp [eqAL] at h; rfl
  | x :: l, b, h => by
    cases b <;> simp [eqAL] at h
    rw [eqAA_sound _ _ h.1, eqAL_sound _ _ h.2]
end
def eqBB : List (List AV) → List (List AV) → Bool
  | [], [] => true
  | x :: l, y :: m => eqAL x y && eqBB l m
  | _, _ => false
theorem eqBB_sound : ∀ {a b : List (List AV)}, eqBB a b = true → a = b
  | [], b, h => by cases b <;> simp [eqBB] at h; rfl
  | x :: l, b, h => by
    cases b <;> simp [eqBB] at h
    rw [eqAL_sound _ _ h.1, eqBB_sound h.2]
def eqRR : List Arr → List Arr → Bool
  | [], [] => true
  | x :: l, y :: m => ((decide (x.sz = y.sz) && decide (x.ety = y.ety)) && (x.sh == y.sh && eqDLL x.es y.es)) && eqRR l m
  | _, _ => false
theorem eqRR_sound : ∀ {a b : List Arr}, eqRR a b = true → a = b
  | [], b, h => by cases b <;> simp [eqRR] at h; rfl
  | ⟨s, t, es, sh⟩ :: l, b, h => by
    rcases b with _ | ⟨⟨s', t', es', sh'⟩, m⟩ <;> simp [eqRR] at h
    obtain ⟨⟨⟨rfl, rfl⟩, rfl, h1⟩, h2⟩ := h
    rw [eqDLL_sound _ _ h1, eqRR_sound h2]

/-! ### operations -/
abbrev CallF := FuncId → List AV → List (List AV) → List Arr → Option (Out × List (List AV) × List Arr)
inductive RC where
  | no
  | val (v : AV) (st : St)
  | pan (v : AV) (st : St)
def RC.sem (R : RC) (K KP : AV → St → Prop) : Prop := match R with
  | .no => False
  | .val v st => K v st
  | .pan v st => KP v st
def runC (cf : CallF) (R : RB) : RC := match R with
  | .no => .no
  | .ok c v st => match c with
    | true => .val v st
    | false => .no
  | .elem c es k n st => match c, es[k]? with
    | true, some x => if x.length = n then .val (.cptr x) st else .no
    | _, _ => .no
  | .byte c s k st => match c, s[k]? with
    | true, some x => .val (.d (.int .u8 (x.toNat : Int))) st
    | _, _ => .no
  | .any c b st => match c with
    | true => .val (.d (.bool b)) st
    | false => .no
  | .call f args st => match cf f args st.b st.r with
    | some (.ret x, b, r) => .val x { st with b := b, r := r }
    | some (.panic x, b, r) => .pan x { st with b := b, r := r }
    | none => .no
  | .panic x st => .pan x st

/-- Functions of data, which may come up at any time. -/
abbrev DetF := FuncId → Option (List D → Option AV)
/-- All of these rows are shared. -/
def shAll (r : List Arr) (ids : List Nat) : Bool := ids.all fun id => match r[id]? with
  | some A => A.sh
  | none => true
/-- A function of data: it gives this, and nothing happens. -/
def DetOk (cf : CallF) (df : DetF) : Prop := ∀ f h ds v args b r, df f = some h → toDL r args = some ds → shAll r (arrIdsL args) = true → h ds = some v → cf f args b r = some (.ret v, b, r)
structure CallOk (cf : CallF) (E : Env) : Prop where
  h : ∀ f args b r o b' r', cf f args b r = some (o, b', r') → ∀ K : Out → List (List AV) → List Arr → Prop, K o b' r' → E.H f args b r K
section
variable {P : Program} {E : Env} {cf : CallF} {df : DetF}

theorem runC_sound (hc : CallOk cf E) {R : RB} {R' : Res} (hr : RelB R R') {K KP : AV → St → Prop} (h : (runC cf R).sem K KP) : runK E R' K KP := by
  cases R with
  | no => exact h.elim
  | ok c v st =>
    cases R' <;> first | exact hr.elim | skip
    obtain ⟨rfl, rfl, hp⟩ := hr
    cases c
    · exact h.elim
    · exact ⟨hp rfl, h⟩
  | elem c es k n st =>
    cases R' <;> first | exact hr.elim | skip
    obtain ⟨⟨rfl, rfl, rfl⟩, rfl, hp⟩ := hr
    simp only [runC] at h
    split at h
    · rename_i x hx
      split at h
      · rename_i hn
        refine ⟨hp rfl, fun y hy => ?_⟩
        rw [hx] at hy
        injection hy with hy
        subst hy
        exact ⟨hn, h⟩
      · exact h.elim
    · exact h.elim
  | byte c s k st =>
    cases R' <;> first | exact hr.elim | skip
    obtain ⟨⟨rfl, rfl⟩, rfl, hp⟩ := hr
    simp only [runC] at h
    split at h
    · rename_i x hx
      refine ⟨hp rfl, fun y hy => ?_⟩
      rw [hx] at hy
      injection hy with hy
      subst hy
      exact h
    · exact h.elim
  | any c b st =>
    cases R' <;> first | exact hr.elim | skip
    obtain ⟨rfl, hp⟩ := hr
    cases c
    · exact h.elim
    · refine ⟨(hp rfl).1, fun b' hb => ?_⟩
      rw [(hp rfl).2 b' hb]
      exact h
  | call g args st =>
    cases R' <;> first | exact hr.elim | skip
    obtain ⟨rfl, rfl, rfl⟩ := hr
    simp only [runC] at h
    split at h
    · rename_i x b r e
      exact hc.h _ _ _ _ _ _ _ e _ h
    · rename_i x b r e
      exact hc.h _ _ _ _ _ _ _ e _ h
    · exact h.elim
  | panic v st =>
    cases R' <;> first | exact hr.elim | skip
    obtain ⟨rfl, rfl⟩ := hr
    exact h

/-- What the state is left as. -/
def keepSt (st st' : St) : Bool := eqBB st'.b st.b && eqRR st'.r st.r
theorem keepSt_sound {st st' : St} (h : keepSt st st' = true) : st'.b = st.b ∧ st'.r = st.r := by
  simp only [keepSt, Bool.and_eq_true] at h
  exact ⟨eqBB_sound h.1, eqRR_sound h.2⟩
end

/-! ### one operation after the other; what is not wanted is left as the empty tuple -/
inductive RS where
  | no
  | val (st : St)
  | pan (v : AV) (st : St)
/-- Is it wanted? -/
inductive Want where
  | yes
  | skip
  | no
def wantX (L : List Oper) (o : Oper) (st : St) : Want := match o.guard with
  | none => .yes
  | some (gi, pol) => match L[gi]? with
    | some og => match og.dst with
      | some d => if d < st.t.length then (match st.t.getD d .undef with
        | .d (.bool x) => match x == pol with
          | true => .yes
          | false => .skip
        | .tup [] => .skip
        | _ => .no) else .no
      | none => .no
    | none => .no
def opX (P : Program) (cf : CallF) (L : List Oper) (o : Oper) (st : St) : RS := match wantX L o st with
  | .yes => match runC cf (opB P o st.ev st) with
    | .no => .no
    | .val v st' => .val (st'.put o.dst v)
    | .pan v st' => .pan v st'
  | .skip => .val (st.put o.dst (.tup []))
  | .no => .no
def opsX (P : Program) (cf : CallF) (L : List Oper) : List Oper → St → RS
  | [], st => .val st
  | o :: l, st => match opX P cf L o st with
    | .val st => opsX P cf L l st
    | r => r

/-! ### drawn regions -/
/-- A new row, as data. -/
def bsliceX (P : Program) (t : TypeId) (len : Nat) (ps : List (Nat × AV)) (r : List Arr) : Option AV :=
  match sl? P t with
  | some (e, n, _) => match toDL r (ps.map (·.2)) with
    | some ds => match decide (shAll r (arrIdsL (ps.map (·.2))) = true ∧ lnk1 r ps = none ∧ ps.map (·.1) = List.range len ∧ len * n ≤ 16777216 ∧ ds.all (fun d => decide ((cellsD d).length = n) && (cellsD d).all oneD) = true) with
      | true => some (.d (.list (ds.map cellsD)))
      | false => none
    | none => none
  | none => none
/-- What an operation that only looks comes to. -/
def lookX (P : Program) (df : DetF) (o : Oper) (st : St) : Option AV := match o.op with
  | .buildSlice t n ps => bsliceX P t n (ps.toList.map fun p => (p.1, st.ev p.2)) st.r
  | _ => match opB P o st.ev st with
    | .ok c v st' => match c && keepSt st st' with
      | true => some v
      | false => none
    | .elem c es k n st' => match c && keepSt st st', es[k]? with
      | true, some y => if y.length = n then some (.cptr y) else none
      | _, _ => none
    | .byte c s k st' => match c && keepSt st st', s[k]? with
      | true, some y => some (.d (.int .u8 (y.toNat : Int)))
      | _, _ => none
    | .call f args st' => match df f, toDL st.r args, shAll st.r (arrIdsL args) with
      | some h, some ds, true => h ds
      | _, _, _ => none
    | _ => none
def aheadX (P : Program) (df : DetF) (L : List Oper) (o : Oper) (st : St) : Option AV := match wantX L o st with
  | .yes => lookX P df o st
  | .skip => some (.tup [])
  | .no => none
/-- What is looked at is shared first. -/
def preIds (L : List Oper) (o : Oper) (st : St) : List Nat := match wantX L o st with
  | .yes => match o.op with
    | .slice _ x _ _ _ => arrIds (st.ev x)
    | .convert _ _ x => arrIds (st.ev x)
    | .buildSlice _ _ ps => arrIdsL (ps.toList.map fun p => st.ev p.2)
    | .call c => match c.callee with
      | .builtin _ => []
      | _ => arrIdsL (c.args.toList.map st.ev)
    | _ => []
  | _ => []
def preX (L : List Oper) (o : Oper) (st : St) : St := { st with r := share st.r (preIds L o st) }
/-- Reckoned ahead, and still right. -/
def pendX (P : Program) (df : DetF) (L : List Oper) (st : St) : List Nat → Bool
  | [] => true
  | i :: l => (match L[i]? with
    | some o => match aheadX P df L o st with
      | some v => match o.dst with
        | some d => eqAA v (st.t.getD d .undef)
        | none => true
      | none => false
    | none => false) && pendX P df L st l
def planX (P : Program) (cf : CallF) (df : DetF) (L : List Oper) : List (Nat × Bool × List Nat) → St → RS
  | [], st => .val st
  | (i, ch, rc) :: l, st => match L[i]? with
    | some o => match ch with
      | true => match opX P cf L o st with
        | .val st => match pendX P df L st rc with
          | true => planX P cf df L l st
          | false => .no
        | r => r
      | false => match shAll st.r (preIds L o st) || pendX P df L (preX L o st) rc with
        | true => match aheadX P df L o (preX L o st) with
          | some v => planX P cf df L l ((preX L o st).put o.dst v)
          | none => .no
        | false => .no
    | none => .no
end Go.PE
end

section
/- Closed calls: operations are right (see PeCc). -/
set_option linter.unusedVariables false
set_option linter.unusedSimpArgs false
namespace Go.PE
open Go

def RS.sem (R : RS) (K : St → Prop) (KP : AV → St → Prop) : Prop := match R with
  | .no => False
  | .val st => K st
  | .pan v st => KP v st

theorem tup_nil {w : World} {M : Mem} {r : List Arr} {v : Value} (h : RepA w M r v (.tup [])) : v = undef := by
  cases h with
  | tup vs _ hs _ =>
    have : vs = #[] := Array.eq_empty_of_size_eq_zero (by simpa using hs)
    rw [this]
    rfl
theorem rep_nil (w : World) (M : Mem) (r : List Arr) : RepA w M r undef (.tup []) := .tup #[] [] rfl (fun i hi => absurd hi (by simp))

section
variable {dl : Act → Prop} {P : Program} {E : Env} {cf : CallF} {df : DetF} {w0 : World} {F : List Nat} {W0 : World} {M0 : Mem} {r0 : List Arr} {X : List (Nat × Bool)} {st : St} {a : Act} {w : World} {ops : Array Oper} {o : Oper}

theorem need_looks (hX : ∀ d ∈ o.looksAt ops, valid X d) : need X o.op st := by
  refine need_valid (G := []) (fun d hd _ => hX d (looks_op hd)) ?_
  rw [need_nil]
  trivial

theorem want_spec {M : Mem} (hR : RG w M st.r X a.tmps st.t) (hX : ∀ d ∈ o.looksAt ops, valid X d) :
    (wantX ops.toList o st = .yes → Region.wanted o (yielded ops a.tmps) = true) ∧ (wantX ops.toList o st = .skip → Region.wanted o (yielded ops a.tmps) = false) := by
  unfold wantX
  cases hg : o.guard with
  | none => exact ⟨fun _ => by simp [Region.wanted, hg], fun h => (by cases h)⟩
  | some gp =>
    obtain ⟨gi, pol⟩ := gp
    simp only
    cases ho : ops.toList[gi]? with
    | none => exact ⟨fun h => (by cases h), fun h => (by cases h)⟩
    | some og =>
      have ho' : ops[gi]? = some og := by simpa using ho
      simp only
      cases hd : og.dst with
      | none => exact ⟨fun h => (by cases h), fun h => (by cases h)⟩
      | some d =>
        simp only
        by_cases hlt : d < st.t.length
        · rw [if_pos hlt]
          have hval : valid X d := hX d (looks_guard hg (by simp [ho', hd]))
          have hrep := hR.2 d hlt hval
          have hs : d < a.tmps.size := by rw [hR.1]; exact hlt
          have e : a.tmps.getD d undef = a.tmps[d] := by simp [Array.getD, hs]
          rw [e] at hrep
          have hy : yielded ops a.tmps gi = (match a.tmps[d] with | .bool b => some b | _ => none) := by
            unfold yielded
            simp only [ho', Option.bind_some, hd, Array.getElem?_eq_getElem hs]
            generalize a.tmps[d] = u
            cases u <;> rfl
          generalize a.tmps[d] = u at hrep hy
          split
          · rename_i x hx
            rw [hx] at hrep
            have := hrep.d_inv
            cases this
            simp only at hy
            simp only [Region.wanted, hg, hy]
            cases x <;> cases pol <;> simp
          · rename_i hx
            rw [hx] at hrep
            obtain rfl := tup_nil hrep
            simp only [Region.wanted, hg, hy]
            exact ⟨fun h => (by cases h), fun _ => rfl⟩
          · exact ⟨fun h => (by cases h), fun h => (by cases h)⟩
        · rw [if_neg hlt]
          exact ⟨fun h => (by cases h), fun h => (by cases h)⟩

theorem opX_sound (hE : E.Ok P) (hc : CallOk cf E) (hkd : ∀ (a : Act) u, dl a → dl (a.put o.dst u)) {K : St → Prop} {KP : AV → St → Prop} {next : Act → World → Prop} {Q : Exit → Act → World → Prop}
    (hX : ∀ d ∈ o.looksAt ops, valid X d) (h : At dl w0 F W0 M0 r0 X st a w) (hk : (opX P cf ops.toList o st).sem K KP)
    (next' : ∀ st' u w', At dl w0 F W0 M0 r0 X st' (a.put o.dst u) w' → K st' → next (a.put o.dst u) w')
    (panics : ∀ x st u a w, AtP dl w0 F W0 M0 r0 x st u a w → KP x st → Q (.panic [{ v := u, recovered := false }]) a w) :
    if Region.wanted o (yielded ops a.tmps) then o.wp P a w next Q else next (a.put o.dst undef) w := by
  obtain ⟨M, hI, hR, hd, hC⟩ := h
  obtain ⟨hy, hn⟩ := want_spec hR hX
  unfold opX at hk
  cases hw : wantX ops.toList o st with
  | yes =>
    rw [hw] at hk
    rw [hy hw, if_pos rfl]
    simp only at hk
    refine run_sound (K := fun v st' => K (st'.put o.dst v)) (KP := KP) hE hI hR (need_looks hX) (runC_sound hc (op_rel _ _ _) ?_) (fun v st' M' w' u h1 h2 h3 h4 h5 => next' _ _ _ (At.put h2 h3 (hR.mono h4) (hkd _ _ hd) (hC.trans h4) h5) h1)
      (fun x st' M' w' u h1 h2 h3 h4 => panics x st' u a w' ⟨M', h2, h4, hd, hC.trans h3⟩ h1)
    generalize runC cf (opB P o st.ev st) = R at hk
    cases R <;> exact hk
  | skip =>
    rw [hw] at hk
    rw [hn hw, if_neg (by simp)]
    exact next' _ _ _ (At.put rfl hI hR (hkd _ _ hd) hC (rep_nil _ _ _)) hk
  | no =>
    rw [hw] at hk
    exact hk.elim

theorem opsX_soundT (hE : E.Ok P) (hc : CallOk cf E) {K : St → Prop} {KP : AV → St → Prop} {Q : Exit → Act → World → Prop} (tl : List Oper)
    (next' : ∀ st a w, At dl w0 F W0 M0 r0 [] st a w → K st → wpList P ops Q tl a w)
    (panics : ∀ x st u a w, AtP dl w0 F W0 M0 r0 x st u a w → KP x st → Q (.panic [{ v := u, recovered := false }]) a w) :
    ∀ (l : List Oper), (∀ o ∈ l, ∀ (a : Act) u, dl a → dl (a.put o.dst u)) → ∀ (st : St) (a : Act) (w : World), At dl w0 F W0 M0 r0 [] st a w → (opsX P cf ops.toList l st).sem K KP → wpList P ops Q (l ++ tl) a w
  | [], _, st, a, w, h, hk => next' st a w h hk
  | o :: l, hkd, st, a, w, h, hk => by
    have ih := opsX_soundT hE hc tl next' panics l (fun o ho => hkd o (List.mem_cons_of_mem _ ho))
    have := opX_sound (X := []) (Q := Q) (next := wpList P ops Q (l ++ tl)) (K := fun st => (opsX P cf ops.toList l st).sem K KP) (KP := KP) hE hc (hkd o (List.mem_cons_self ..)) (fun d _ p hp => absurd hp (by simp)) h (by
      unfold opsX at hk
      generalize opX P cf ops.toList o st = R at hk ⊢
      cases R <;> exact hk) (fun st' u w' h hk => ih st' _ w' h hk) panics
    rw [List.cons_append]
    unfold wpList
    split
    · rename_i hw
      rw [if_pos hw] at this
      exact .inl this
    · rename_i hw
      rw [if_neg hw] at this
      exact this

/-! ### a new row, as data -/
theorem idsL_of {nb nr : Nat} : ∀ {l : List AV}, (∀ i, i < l.length → idsA nb nr (l.getD i .undef) = true) → idsL nb nr l = true
  | [], _ => rfl
  | x :: l, h => by
    simp only [idsL, Bool.and_eq_true]
    exact ⟨by simpa using h 0 (by simp), idsL_of fun i hi => by simpa [List.getD] using h (i + 1) (by simpa using hi)⟩
theorem toDL_fnL {r : List Arr} : ∀ {xs : List AV} {ds : List D}, toDL r xs = some ds → fnL xs = false
  | [], _, _ => rfl
  | x :: l, ds, h => by
    simp only [toDL] at h
    split at h
    · rename_i d ds' h1 h2
      have hx : fnO x = false := by cases x <;> first | rfl | (simp [toD] at h1)
      simp [fnL, hx, toDL_fnL h2]
    · cases h
theorem toD_fnA {r : List Arr} {x : AV} {d : D} (h : toD r x = some d) : fnA x = false := by
  cases x with
  | fn f a b => simp [toD] at h
  | agg cs =>
    simp only [toD, Option.map_eq_some_iff] at h
    obtain ⟨ds, h, _⟩ := h
    exact toDL_fnL h
  | _ => rfl
theorem toDL_hasFn {r : List Arr} : ∀ {xs : List AV} {ds : List D}, toDL r xs = some ds → hasFn xs = false
  | [], _, _ => rfl
  | x :: l, ds, h => by
    simp only [toDL] at h
    split at h
    · rename_i d ds' h1 h2
      simp [hasFn, toD_fnA h1, toDL_hasFn h2]
    · cases h
theorem RepA.ids {w : World} {M : Mem} {r : List Arr} {v : Value} {x : AV} (h : RepA w M r v x) : idsA M.bb.length r.length x = true := by
  induction h with
  | undef v => rfl
  | d v x h => rfl
  | agg vs cs hs h1 _ ih => exact idsL_of ih
  | nilS => rfl
  | arr v id n h1 h =>
    obtain ⟨A, hA, _⟩ := h
    simpa [idsA] using (List.getElem?_eq_some_iff.1 hA).1
  | ptr id off h => simpa [idsA] using h
  | cptr a cs f hsp hcell h1 h => rfl
  | eptr v id n i off h1 h =>
    obtain ⟨A, hA, _⟩ := h
    simpa [idsA] using (List.getElem?_eq_some_iff.1 hA).1
  | tup vs cs hs _ ih => exact idsL_of ih
  | iface t v x _ ih => exact ih
  | fn f vs us cs ds hs hs' _ _ ih ih' =>
    simp only [idsA, Bool.and_eq_true]
    exact ⟨idsL_of ih, idsL_of ih'⟩
  | bsl id n h hn => simpa [idsA] using h
  | full A n es h => rfl
theorem idsB_of {nb nr : Nat} : ∀ {b : List (List AV)}, (∀ (i : Nat) (c : List AV), b[i]? = some c → idsL nb nr c = true) → idsB nb nr b = true
  | [], _ => rfl
  | c :: b, h => by
    simp only [idsB, Bool.and_eq_true]
    exact ⟨h 0 c rfl, idsB_of fun i c' hc => h (i + 1) c' (by simpa using hc)⟩
theorem idsR_of {nr : Nat} : ∀ {r : List Arr}, (∀ (i : Nat) (A : Arr), r[i]? = some A → A.sz = 0 → refsL nr A.es) → idsR nr r
  | [], _ => trivial
  | A :: r, h => by
    unfold idsR
    have ih : idsR nr r := idsR_of fun i B hB => h (i + 1) B (by simpa using hB)
    split
    · rename_i h0
      exact ⟨h 0 A rfl h0, ih⟩
    · exact ih
theorem Inv.idsB {M : Mem} {b : List (List AV)} {r : List Arr} (h : Inv w0 F M b r w) : idsB b.length r.length b = true := by
  refine idsB_of (fun i c hc => idsL_of fun j hj => ?_)
  obtain ⟨cs, ty, _, _, _, hr⟩ := h.box i c hc
  have := (hr j hj).ids
  rw [h.lb] at this
  exact this
theorem Inv.idsR {M : Mem} {b : List (List AV)} {r : List Arr} (h : Inv w0 F M b r w) : idsR r.length r := by
  refine idsR_of (fun i A hA h0 e he id n hid => ?_)
  obtain ⟨hz, hel, xs, _, _, hr⟩ := h.row i A hA
  obtain ⟨k, hk, rfl⟩ := List.getElem_of_mem he
  have e0 : A.es.getD k [] = A.es[k] := by simp [List.getD, hk]
  have := hr k 0 hk hz
  rw [e0, hid] at this
  rcases this with h1 | ⟨_, id', n', e1, h1⟩
  · exact absurd h1 Rep.not_ref
  · simp only [List.getD_cons_zero] at e1
    injection e1 with e1 e2
    subst e1
    generalize xs.getD (k * A.w + 0) undef = u at h1
    cases h1 with
    | arr _ _ _ _ h2 =>
      obtain ⟨B, hB, _⟩ := h2
      exact (List.getElem?_eq_some_iff.1 hB).1
theorem leV_refl : ∀ l : List AV, leV l l
  | [] => trivial
  | x :: l => by
    have ih := leV_refl l
    cases x <;> first | exact ih | exact ⟨rfl, ih⟩ | exact ⟨.inl rfl, ih⟩
theorem leB_refl : ∀ l : List (List AV), leB l l
  | [] => trivial
  | x :: l => ⟨leV_refl x, leB_refl l⟩
theorem leR0_pre : ∀ (l m : List Arr), leR0 (l ++ m) l
  | [], m => by cases m <;> trivial
  | x :: l, m => ⟨rfl, leR0_pre l m⟩

theorem Inv.dropRow {M M' : Mem} {b : List (List AV)} {r : List Arr} {w w' : World} {A : Arr} {u : Value} (h0 : Inv w0 F M b r w) (h : Inv w0 F M' b (r ++ [A]) w') (hC : Chg w M r w' M' (r ++ [A])) (hA : A.sz ≠ 0) (hu : RepA w' M' (r ++ [A]) u (.arr r.length A.es.length)) :
    ∃ M'', Inv w0 F M'' b r w' ∧ Chg w M r w' M'' r ∧ RepA w' M'' r u (.d (.list A.es)) := by
  obtain ⟨hI, hc⟩ := h.share1 r.length
  have hget : (r ++ [A])[r.length]? = some A := by simp
  have hs : PE.share1 (r ++ [A]) r.length = r ++ [{ A with sh := true }] := by
    unfold PE.share1
    rw [hget]
    simp
  have hrep := toD_rep hI hc (PE.shared_share1 (r ++ [A]) r.length) (.arr r.length A.es.length) (.list A.es) u (by simp [toD, hA]) (fun id hid => hid) hu
  rw [hs] at hI hc hrep
  have hle : leR (r ++ [{ A with sh := true }]) r := ⟨leR0_pre _ _, h0.idsR⟩
  have hcut := Inv.cut (st := ⟨[], b, r ++ [{ A with sh := true }]⟩) (s := ⟨[], b, r⟩) hI (leB_refl b) hle h0.idsB
  refine ⟨M'.cut b.length r.length, hcut, ⟨fun a u ho hcell => ?_, ?_, fun i hi => ?_, fun id B hB => ?_, hC.no⟩, .d _ _ (hrep.cut hle)⟩
  · obtain ⟨h1, h2⟩ := hC.cell a u ho hcell
    exact ⟨h1, (hc.cell a u h2 h1).2.cut hle⟩
  · simp only [Mem.cut, List.length_take, h0.lb, h.lb]
    omega
  · have hi' : i < b.length := by rw [← h0.lb]; exact hi
    rw [cut_blk hi']
    exact hC.blk i hi
  · have hid := (List.getElem?_eq_some_iff.1 hB).1
    obtain ⟨B', hB', h1, h2, h3⟩ := hC.row id B hB
    rw [List.getElem?_append_left hid, hB] at hB'
    injection hB' with hB'
    subst hB'
    exact ⟨B, hB, h1, h2, by rw [cut_row hid]; exact h3⟩

theorem toDL_len {r : List Arr} : ∀ {l : List AV} {ds : List D}, toDL r l = some ds → ds.length = l.length
  | [], ds, h => by
    simp only [toDL, Option.some.injEq] at h
    subst h
    rfl
  | x :: l, ds, h => by
    simp only [toDL] at h
    split at h
    · rename_i d ds' h1 h2
      injection h with h
      subst h
      simp [toDL_len h2]
    · cases h
theorem share1_of {r : List Arr} {id : Nat} (h : (match r[id]? with | some A => A.sh | none => true) = true) : share1 r id = r := by
  unfold share1
  split
  · rename_i A hA
    rw [hA] at h
    simp only at h
    have : { A with sh := true } = A := by rw [← h]
    rw [this]
    apply List.ext_getElem?
    intro i
    rw [List.getElem?_set]
    split
    · rename_i e
      subst e
      rw [hA]
      simp [(List.getElem?_eq_some_iff.1 hA).1]
    · rfl
  · rfl
theorem share_of : ∀ {ids : List Nat} {r : List Arr}, shAll r ids = true → share r ids = r
  | [], _, _ => rfl
  | id :: l, r, h => by
    simp only [shAll, List.all_cons, Bool.and_eq_true] at h
    show share (share1 r id) l = r
    rw [share1_of h.1]
    exact share_of h.2

/-- An operation that only looks: it comes to this, and nothing happens. -/
theorem lookX_run (hE : E.Ok P) (hc : CallOk cf E) (hdt : DetOk cf df) {M : Mem} (hI : Inv w0 F M st.b st.r w) (hR : RG w M st.r X a.tmps st.t) (hX : ∀ d ∈ o.looksAt ops, valid X d) {v : AV} (h : lookX P df o st = some v) {next : Act → World → Prop} {Q : Exit → Act → World → Prop}
    (next' : ∀ M' w' u, Inv w0 F M' st.b st.r w' → Chg w M st.r w' M' st.r → RepA w' M' st.r u v → next (a.put o.dst u) w') : o.wp P a w next Q := by
  have main : (opR P o st).sem (fun v' st' => v' = v ∧ st'.b = st.b ∧ st'.r = st.r) → o.wp P a w next Q := by
    intro hs
    refine run_sound (E := E) (K := fun v' st' => v' = v ∧ st'.b = st.b ∧ st'.r = st.r) (KP := fun _ _ => False) hE hI hR (need_looks hX) (sem_runK hs) (fun v' st' M' w' u hK ht hI' hC' hu => ?_) (fun _ _ _ _ _ hf => hf.elim)
    obtain ⟨rfl, hb, hr⟩ := hK
    rw [hb, hr] at hI'
    rw [hr] at hC' hu
    exact next' M' w' u hI' hC' hu
  unfold lookX at h
  have hrel := op_rel P o st
  split at h
  · rename_i t n ps hop
    -- a new row
    have hopR : opR P o st = bsliceR P t n (ps.toList.map fun p => (p.1, st.ev p.2)) st := by unfold opR; rw [hop]
    unfold bsliceX at h
    split at h
    · rename_i e sz by_ hsl
      split at h
      · rename_i ds hds
        split at h
        · rename_i hcond
          injection h with h
          subst h
          obtain ⟨hsh, hlnk, hcnd⟩ := of_decide_eq_true hcond
          obtain ⟨_, _, _, _, _, _, hsz0, _, hszE, _⟩ := sl_spec hsl
          have hR2 : opR P o st = .ok (((ps.toList.map fun p => (p.1, st.ev p.2)).map (·.1)) = List.range n ∧ n * sz ≤ 16777216 ∧ ds.all (fun d => decide ((cellsD d).length = sz) && (cellsD d).all oneD) = true) (.arr st.r.length n) (st.row ⟨sz, e, ds.map cellsD, false⟩) := by
            rw [hopR]
            unfold bsliceR
            simp only [hsl, hlnk, toDL_hasFn hds, Bool.false_eq_true, if_false, toDR, hds, share_of hsh]
          have hlen : ds.length = n := by
            have h1 := congrArg List.length hcnd.1
            have h2 : ds.length = (ps.toList.map fun p => (p.1, st.ev p.2)).length := by
              have := toDL_len hds
              simpa using this
            simp only [List.length_map, List.length_range] at h1 h2
            omega
          refine run_sound (E := E) (K := fun v' st' => v' = .arr st.r.length n ∧ st'.b = st.b ∧ st'.r = st.r ++ [⟨sz, e, ds.map cellsD, false⟩]) (KP := fun _ _ => False) hE hI hR (need_looks hX) (by rw [hR2]; exact ⟨hcnd, rfl, rfl, rfl⟩) (fun v' st' M' w' u hK ht hI' hC' hu => ?_) (fun _ _ _ _ _ hf => hf.elim)
          obtain ⟨rfl, hb, hr⟩ := hK
          rw [hb, hr] at hI'
          rw [hr] at hC' hu
          obtain ⟨M'', h1, h2, h3⟩ := Inv.dropRow hI hI' hC' (by show sz ≠ 0; omega) (by simpa [hlen] using hu)
          exact next' M'' w' u h1 h2 h3
        · cases h
      · cases h
    · cases h
  · split at h
    · rename_i c v' st' hop
      rw [hop] at hrel
      split at h
      · rename_i hcs
        simp only [Bool.and_eq_true] at hcs
        injection h with h
        subst h
        refine main ?_
        generalize opR P o st = R' at hrel
        cases R' <;> first | exact hrel.elim | skip
        obtain ⟨rfl, rfl, hp⟩ := hrel
        exact ⟨hp hcs.1, rfl, keepSt_sound hcs.2⟩
      · cases h
    · rename_i c es k n st' hop
      rw [hop] at hrel
      split at h
      · rename_i y hcs hy
        simp only [Bool.and_eq_true] at hcs
        split at h
        · rename_i hn
          injection h with h
          subst h
          refine main ?_
          generalize opR P o st = R' at hrel
          cases R' <;> first | exact hrel.elim | skip
          obtain ⟨⟨rfl, rfl, rfl⟩, rfl, hp⟩ := hrel
          refine ⟨hp hcs.1, fun x hx => ?_⟩
          rw [hy] at hx
          injection hx with hx
          subst hx
          exact ⟨hn, rfl, keepSt_sound hcs.2⟩
        · cases h
      · cases h
    · rename_i c s k st' hop
      rw [hop] at hrel
      split at h
      · rename_i y hcs hy
        simp only [Bool.and_eq_true] at hcs
        injection h with h
        subst h
        refine main ?_
        generalize opR P o st = R' at hrel
        cases R' <;> first | exact hrel.elim | skip
        obtain ⟨⟨rfl, rfl⟩, rfl, hp⟩ := hrel
        refine ⟨hp hcs.1, fun x hx => ?_⟩
        rw [hy] at hx
        injection hx with hx
        subst hx
        exact ⟨rfl, keepSt_sound hcs.2⟩
      · cases h
    · rename_i f args st' hop
      rw [hop] at hrel
      split at h
      · rename_i g ds hf hds hsh
        have hcall := hdt f g ds v args st.b st.r hf hds hsh h
        generalize hR' : opR P o st = R' at hrel
        cases R' <;> first | exact hrel.elim | skip
        obtain ⟨rfl, rfl, rfl⟩ := hrel
        obtain rfl := opR_call_st hR'
        refine run_sound (E := E) (K := fun v' st'' => v' = v ∧ st''.b = st'.b ∧ st''.r = st'.r) (KP := fun _ _ => False) hE hI hR (need_looks hX) (by
          rw [hR']
          exact hc.h _ _ _ _ _ _ _ hcall _ ⟨rfl, rfl, rfl⟩) (fun v' st'' M' w' u hK ht hI' hC' hu => ?_) (fun _ _ _ _ _ hf => hf.elim)
        obtain ⟨rfl, hb, hr⟩ := hK
        rw [hb, hr] at hI'
        rw [hr] at hC' hu
        exact next' M' w' u hI' hC' hu
      · cases h
    · cases h
end
end Go.PE
end

section
/- Closed calls: regions whose order is drawn; variables that come up before they are asked for (see PeCc, PeX). -/
set_option linter.unusedVariables false
set_option linter.unusedSimpArgs false
namespace Go.PE
open Go

/-- As Chg, but that the cells in which no data may lie may be others. -/
structure Chg0 (w : World) (M : Mem) (r : List Arr) (w' : World) (M' : Mem) (r' : List Arr) : Prop where
  cell : ∀ a u, Okc M r a → w.cell? a = some u → w'.cell? a = some u ∧ Okc M' r' a
  lb : M.bb.length ≤ M'.bb.length
  blk : ∀ i, i < M.bb.length → M'.blk i = M.blk i
  row : ∀ id A, r[id]? = some A → ∃ A', r'[id]? = some A' ∧ A.es.length ≤ A'.es.length ∧ A'.w = A.w ∧ (A'.es.length = A.es.length → M'.row id = M.row id)
theorem Chg.chg0 {w w' : World} {M M' : Mem} {r r' : List Arr} (c : Chg w M r w' M' r') : Chg0 w M r w' M' r' := ⟨c.cell, c.lb, c.blk, c.row⟩
theorem Chg0.trans {w w' w'' : World} {M M' M'' : Mem} {r r' r'' : List Arr} (h : Chg0 w M r w' M' r') (k : Chg0 w' M' r' w'' M'' r'') : Chg0 w M r w'' M'' r'' := by
  refine ⟨fun a u ho hc => ?_, Nat.le_trans h.lb k.lb, fun i hi => (k.blk i (Nat.lt_of_lt_of_le hi h.lb)).trans (h.blk i hi), fun id A hA => ?_⟩
  · obtain ⟨h1, h2⟩ := h.cell a u ho hc
    exact k.cell a u h2 h1
  · obtain ⟨A', e', l', z', q'⟩ := h.row id A hA
    obtain ⟨A'', e'', l'', z'', q''⟩ := k.row id A' e'
    exact ⟨A'', e'', Nat.le_trans l' l'', z''.trans z', fun e => (q'' (by omega)).trans (q' (by omega))⟩
theorem RepA.mono0 {w w' : World} {M M' : Mem} {r r' : List Arr} (c : Chg0 w M r w' M' r') {v : Value} {x : AV} (h : RepA w M r v x) : RepA w' M' r' v x := by
  induction h with
  | undef v => exact .undef v
  | d v x h => exact .d v x (h.mono c.cell)
  | agg vs cs hs h1 _ ih => exact .agg vs cs hs h1 ih
  | nilS => exact .nilS
  | arr v id n h1 h =>
    obtain ⟨A, e, hn, hv⟩ := h
    obtain ⟨A', e', hl, _, hr⟩ := c.row id A e
    exact .arr v id n h1 ⟨A', e', by omega, fun he => by rw [hr (by omega)]; exact hv (by omega)⟩
  | ptr id off h =>
    rw [← c.blk id h]
    exact .ptr id off (Nat.lt_of_lt_of_le h c.lb)
  | cptr a cs f hsp hcell h1 h => exact .cptr a cs f hsp (fun j hj => c.cell _ _ (hcell j hj).2 (hcell j hj).1) h1 (fun j hj => (h j hj).mono c.cell)
  | eptr v id n i off h1 h =>
    obtain ⟨A, e, hn, hv⟩ := h
    obtain ⟨A', e', hl, hz, hr⟩ := c.row id A e
    exact .eptr v id n i off h1 ⟨A', e', by omega, fun he => by rw [hr (by omega), hz]; exact hv (by omega)⟩
  | tup vs cs hs _ ih => exact .tup vs cs hs ih
  | iface t v x _ ih => exact .iface t v x ih
  | fn f vs us cs ds hs hs' _ _ ih ih' => exact .fn f vs us cs ds hs hs' ih ih'
  | bsl id n h hn =>
    rw [← c.blk id h]
    exact .bsl id n (Nat.lt_of_lt_of_le h c.lb) hn
  | full A n es h => exact .full A n es (h.mono c.cell)
theorem RepC.mono0 {w w' : World} {M M' : Mem} {r r' : List Arr} (c : Chg0 w M r w' M' r') {A : Arr} {v : Value} {x : D} (h : RepC w M r A v x) : RepC w' M' r' A v x := by
  rcases h with h | ⟨h0, id, n, e, h⟩
  · exact .inl (h.mono c.cell)
  · exact .inr ⟨h0, id, n, e, h.mono0 c⟩
theorem RG.mono0 {w w' : World} {M M' : Mem} {r r' : List Arr} {G : List (Nat × Bool)} {tmps : Array Value} {t : List AV} (c : Chg0 w M r w' M' r') (h : RG w M r G tmps t) : RG w' M' r' G tmps t :=
  ⟨h.1, fun i hi hv => (h.2 i hi hv).mono0 c⟩

theorem Keep.trans {w0 w1 w : World} {F F1 : List Nat} (h : Keep w0 F w1) (k : Keep w1 F1 w) (hF : ∀ k ∈ F1, k ∈ F ∨ w0.heap.size ≤ k) : Keep w0 F w := by
  refine ⟨k.os.trans h.os, k.tape.trans h.tape, k.output.trans h.output, Nat.le_trans h.size k.size, fun j hj hn => ?_⟩
  rw [k.block j (Nat.lt_of_lt_of_le hj h.size) (fun hm => ?_)]
  · exact h.block j hj hn
  · rcases hF j hm with h1 | h1
    · exact hn h1
    · omega
/-- From the view of an earlier world. -/
theorem Inv.rebase {w0 w1 w : World} {F F1 : List Nat} {M : Mem} {b : List (List AV)} {r : List Arr} (h : Inv w1 F1 M b r w) (hk : Keep w0 F w1) (hF : ∀ k ∈ F1, k ∈ F ∨ w0.heap.size ≤ k) (hno : ∀ a, M.no a → a.block < w0.heap.size) : Inv w0 F M b r w := by
  refine ⟨hk.trans h.keep hF, h.lb, h.lr, h.box, h.row, fun i hi => ?_, fun i g hg => ?_, h.dbb, h.drr, h.dbr, fun a ha => ⟨hno a ha, (h.no a ha).2⟩⟩
  · rcases h.fb i hi with h1 | h1
    · exact hF _ h1
    · exact .inr (Nat.le_trans hk.size h1)
  · rcases h.fr i g hg with h1 | h1
    · exact hF _ h1
    · exact .inr (Nat.le_trans hk.size h1)

/-- A variable that has come up, and is not told of yet: its operation, its temporary, its block, its type, its zero value. -/
structure Early where
  i : Nat
  d : Tmp
  g : Nat
  t : TypeId
  z : Value
structure Early.Ok (e : Early) (n0 : Nat) (w1 : World) (F1 : List Nat) (a : Act) : Prop where
  lo : n0 ≤ e.g
  hi : e.g < w1.heap.size
  nF : e.g ∉ F1
  heap : w1.heap[e.g]? = some (.cells e.z.cells e.t (0, 0))
  tmp : a.tmps.getD e.d undef = .pointer (some ⟨e.g, 0, none⟩)
  one : (e.z.cells.toList.map constA).all oneA = true

structure AtB (dl : Act → Prop) (w0 : World) (F : List Nat) (W0 : World) (M0 : Mem) (r0 : List Arr) (es : List Early) (X : List (Nat × Bool)) (st : St) (a : Act) (w : World) (M : Mem) (w1 : World) (F1 : List Nat) : Prop where
  inv : Inv w1 F1 M st.b st.r w
  rg : RG w M st.r X a.tmps st.t
  dl : dl a
  chg : Chg0 W0 M0 r0 w M st.r
  mno : ∀ a, M.no a ↔ M0.no a ∨ ∃ e ∈ es, a.block = e.g
  keep : Keep w0 F w1
  hF : ∀ k ∈ F1, k ∈ F ∨ w0.heap.size ≤ k
  bnd : ∀ a, M0.no a → a.block < w0.heap.size
  early : ∀ e ∈ es, e.Ok w0.heap.size w1 F1 a
  inj : ∀ e ∈ es, ∀ e' ∈ es, e.g = e'.g → e = e'
def AtX (dl : Act → Prop) (w0 : World) (F : List Nat) (W0 : World) (M0 : Mem) (r0 : List Arr) (es : List Early) (X : List (Nat × Bool)) (st : St) (a : Act) (w : World) : Prop := ∃ M w1 F1, AtB dl w0 F W0 M0 r0 es X st a w M w1 F1

section
variable {dl : Act → Prop} {P : Program} {E : Env} {cf : CallF} {df : DetF} {w0 : World} {F : List Nat} {W0 : World} {M0 : Mem} {r0 : List Arr} {X : List (Nat × Bool)} {st : St} {a : Act} {w : World} {ops : Array Oper} {o : Oper} {es : List Early}

theorem At.atX (h : At dl w0 F W0 M0 r0 X st a w) : AtX dl w0 F W0 M0 r0 [] X st a w := by
  obtain ⟨M, hI, hR, hd, hC⟩ := h
  refine ⟨M, w0, F, hI, hR, hd, hC.chg0, fun a => by simp [hC.no], .refl _ _, fun k hk => .inl hk, fun a ha => ?_, fun e he => (nomatch he), fun e he => (nomatch he)⟩
  rw [← hC.no] at ha
  exact (hI.no a ha).1
theorem AtX.at_ (h : AtX dl w0 F W0 M0 r0 [] X st a w) : At dl w0 F W0 M0 r0 X st a w := by
  obtain ⟨M, w1, F1, h⟩ := h
  have hno : M.no = M0.no := by
    funext a
    exact propext ((h.mno a).trans (by simp))
  exact ⟨M, h.inv.rebase h.keep h.hF (fun a ha => h.bnd a (by rw [← hno]; exact ha)), h.rg, h.dl, ⟨h.chg.cell, h.chg.lb, h.chg.blk, h.chg.row, hno⟩⟩

/-- What goes on meanwhile. -/
theorem AtB.at_ {M : Mem} {w1 : World} {F1 : List Nat} (h : AtB dl w0 F W0 M0 r0 es X st a w M w1 F1) : At dl w1 F1 w M st.r X st a w := ⟨M, h.inv, h.rg, h.dl, .refl _ _ _⟩
theorem AtB.step {M : Mem} {w1 : World} {F1 : List Nat} (h : AtB dl w0 F W0 M0 r0 es X st a w M w1 F1) {X' : List (Nat × Bool)} {st' : St} {a' : Act} {w' : World} (ht : ∀ e ∈ es, a'.tmps.getD e.d undef = a.tmps.getD e.d undef) (h' : At dl w1 F1 w M st.r X' st' a' w') : AtX dl w0 F W0 M0 r0 es X' st' a' w' := by
  obtain ⟨M', hI, hR, hd, hC⟩ := h'
  refine ⟨M', w1, F1, hI, hR, hd, h.chg.trans hC.chg0, fun a => by rw [hC.no]; exact h.mno a, h.keep, h.hF, h.bnd, fun e he => ?_, h.inj⟩
  obtain ⟨h1, h2, h3, h4, h5, h6⟩ := h.early e he
  exact ⟨h1, h2, h3, h4, (ht e he).trans h5, h6⟩
theorem AtB.stepP {M : Mem} {w1 : World} {F1 : List Nat} (h : AtB dl w0 F W0 M0 r0 es X st a w M w1 F1) {x : AV} {st' : St} {u : Value} {a' : Act} {w' : World} (h' : AtP dl w1 F1 w M st.r x st' u a' w') : AtP dl w0 F W0 M0 r0 x st' u a' w' := by
  obtain ⟨M', hI, hu, hd, hC⟩ := h'
  have hno : ∀ a, M0.no a → M'.no a := fun a ha => by rw [hC.no]; exact (h.mno a).2 (.inl ha)
  have hc : Chg0 w' M' st'.r w' ⟨M'.bb, M'.av, M0.no⟩ st'.r :=
    ⟨fun a u ho hcell => ⟨hcell, ⟨ho.1.1, fun hn => ho.1.2 (hno a hn)⟩, ho.2⟩, Nat.le_refl _, fun _ _ => rfl, fun _ A hA => ⟨A, hA, Nat.le_refl _, rfl, fun _ => rfl⟩⟩
  have hI2 : Inv w1 F1 ⟨M'.bb, M'.av, M0.no⟩ st'.b st'.r w' := by
    refine ⟨hI.keep, hI.lb, hI.lr, fun i c hi => ?_, fun i A hA => ?_, hI.fb, hI.fr, hI.dbb, hI.drr, hI.dbr, fun a ha => hI.no a (hno a ha)⟩
    · obtain ⟨cs, ty, hh, hs, h1, hr⟩ := hI.box i c hi
      exact ⟨cs, ty, hh, hs, h1, fun j hj => (hr j hj).mono0 hc⟩
    · obtain ⟨hz, he, xs, ho, h1, hr⟩ := hI.row i A hA
      exact ⟨hz, he, xs, ho, h1, fun k j hk hj => (hr k j hk hj).mono0 hc⟩
  have h2 := (h.chg.trans hC.chg0).trans hc
  exact ⟨_, hI2.rebase h.keep h.hF h.bnd, hu.mono0 hc, hd, ⟨h2.cell, h2.lb, h2.blk, h2.row, rfl⟩⟩

/-- A variable comes up. -/
theorem AtB.up {M : Mem} {w1 : World} {F1 : List Nat} (h : AtB dl w0 F W0 M0 r0 es X st a w M w1 F1) (e : Early) (hg : e.g = w.heap.size) (hone : (e.z.cells.toList.map constA).all oneA = true) (hlt : e.d < a.tmps.size) (hne : ∀ e' ∈ es, e'.d ≠ e.d)
    (hd : dl (a.put (some e.d) (.pointer (some ⟨e.g, 0, none⟩)))) (hX : ∀ d, valid X d → True) :
    AtX dl w0 F W0 M0 r0 (e :: es) ((e.d, false) :: X) st (a.put (some e.d) (.pointer (some ⟨e.g, 0, none⟩))) (w.alloc (.cells e.z.cells e.t)) := by
  have hgr : w.grownBy (w.alloc (.cells e.z.cells e.t)) none := World.grownBy_alloc w _ none
  have hc : Chg0 w M st.r (w.alloc (.cells e.z.cells e.t)) ⟨M.bb, M.av, fun a => M.no a ∨ a.block = e.g⟩ st.r := by
    refine ⟨fun a u ho hcell => ⟨hgr.cell hcell (by simp), ⟨ho.1.1, fun hn => ?_⟩, ho.2⟩, Nat.le_refl _, fun _ _ => rfl, fun _ A hA => ⟨A, hA, Nat.le_refl _, rfl, fun _ => rfl⟩⟩
    have hlt := World.block_lt_of_cell? w a hcell
    rcases hn with hn | hn
    · exact ho.1.2 hn
    · omega
  have hI := h.inv
  have hsz : (w.alloc (.cells e.z.cells e.t)).heap.size = w.heap.size + 1 := by simp
  have hk : Keep w0 F (w.alloc (.cells e.z.cells e.t)) := (h.keep.trans hI.keep h.hF).grown hgr (by simp)
  have hblk : ∀ k ∈ M.bb ++ (List.range M.av.length).filterMap (fun j => (M.row j).ownBlock), (k ∈ F1 ∨ w1.heap.size ≤ k) ∧ k < w.heap.size := by
    intro k hk
    rcases List.mem_append.1 hk with h1 | h1
    · obtain ⟨i, hi, rfl⟩ := List.getElem_of_mem h1
      have e1 : M.blk i = M.bb[i] := by simp [Mem.blk, List.getD, hi]
      rw [← e1]
      exact ⟨hI.fb i hi, hI.box_lt hi⟩
    · obtain ⟨j, _, hj⟩ := List.mem_filterMap.1 h1
      exact ⟨hI.fr j k hj, hI.row_lt hj⟩
  refine ⟨⟨M.bb, M.av, fun a => M.no a ∨ a.block = e.g⟩, w.alloc (.cells e.z.cells e.t), M.bb ++ (List.range M.av.length).filterMap (fun j => (M.row j).ownBlock), ?_, ?_, hd, h.chg.trans hc, fun a => ?_, hk, fun k hk => ?_, h.bnd, fun e' he' => ?_, fun e1 h1 e2 h2 hge => ?_⟩
  · refine ⟨.refl _ _, hI.lb, hI.lr, fun i c hi => ?_, fun i A hA => ?_, fun i hi => .inl (List.mem_append.2 (.inl ?_)), fun i g hg' => .inl (List.mem_append.2 (.inr (List.mem_filterMap.2 ⟨i, List.mem_range.2 (row_len hg'), hg'⟩))), hI.dbb, hI.drr, hI.dbr, fun a ha => ?_⟩
    · obtain ⟨cs, ty, hh, hs, h1, hr⟩ := hI.box i c hi
      exact ⟨cs, ty, by show (w.alloc _).heap[M.blk i]? = _; rw [hgr.block _ (blk_lt hh) (by simp)]; exact hh, hs, h1, fun j hj => (hr j hj).mono0 hc⟩
    · obtain ⟨hz, hel, xs, ho, h1, hr⟩ := hI.row i A hA
      exact ⟨hz, hel, xs, ho.alloc _, h1, fun k j hk hj => (hr k j hk hj).mono0 hc⟩
    · show M.blk i ∈ M.bb
      have e1 : M.blk i = M.bb[i] := by simp [Mem.blk, List.getD, show i < M.bb.length from hi]
      rw [e1]
      exact List.getElem_mem _
    · rcases ha with ha | ha
      · refine ⟨?_, (hI.no a ha).2⟩
        have := (hI.no a ha).1
        have := hI.keep.size
        omega
      · refine ⟨by omega, fun i hi => ?_⟩
        have := hI.row_lt hi
        omega
  · refine ⟨by simpa [Act.put] using h.rg.1, fun i hi hv => ?_⟩
    have hid : i ≠ e.d := fun e1 => by
      have := hv (e.d, false) (List.mem_cons_self ..) e1.symm
      cases this
    show RepA _ _ _ ((a.tmps.setIfInBounds e.d _).getD i undef) _
    rw [agetD_set_ne _ _ _ _ (fun h => hid h.symm)]
    exact (h.rg.2 i hi (fun p hp => hv p (List.mem_cons_of_mem _ hp))).mono0 hc
  · show (M.no a ∨ a.block = e.g) ↔ _
    rw [h.mno a]
    constructor
    · rintro ((h1 | ⟨e', he', h1⟩) | h1)
      · exact .inl h1
      · exact .inr ⟨e', List.mem_cons_of_mem _ he', h1⟩
      · exact .inr ⟨e, List.mem_cons_self .., h1⟩
    · rintro (h1 | ⟨e', he', h1⟩)
      · exact .inl (.inl h1)
      · rcases List.mem_cons.1 he' with rfl | he'
        · exact .inr h1
        · exact .inl (.inr ⟨e', he', h1⟩)
  · rcases (hblk k hk).1 with h1 | h1
    · exact h.hF k h1
    · exact .inr (Nat.le_trans h.keep.size h1)
  · rcases List.mem_cons.1 he' with rfl | he'
    · refine ⟨?_, by omega, fun hm => ?_, ?_, ?_, hone⟩
      · have := h.keep.size
        have := hI.keep.size
        omega
      · have := (hblk _ hm).2
        omega
      · rw [hg]
        exact heap_alloc_new w _
      · exact agetD_set_self _ _ _ hlt
    · obtain ⟨h1, h2, h3, h4, h5, h6⟩ := h.early e' he'
      have hw : e'.g < w.heap.size := Nat.lt_of_lt_of_le h2 hI.keep.size
      refine ⟨h1, by omega, fun hm => ?_, ?_, ?_, h6⟩
      · rcases (hblk _ hm).1 with h7 | h7
        · exact h3 h7
        · omega
      · rw [hgr.block _ hw (by simp), hI.keep.block _ h2 h3]
        exact h4
      · show (a.tmps.setIfInBounds e.d _).getD e'.d undef = _
        rw [agetD_set_ne _ _ _ _ (fun h => hne e' he' h.symm)]
        exact h5
  · have hw : ∀ e' ∈ es, e'.g < w.heap.size := fun e' he' => Nat.lt_of_lt_of_le (h.early e' he').hi hI.keep.size
    rcases List.mem_cons.1 h1 with r1 | r1 <;> rcases List.mem_cons.1 h2 with r2 | r2
    · rw [r1, r2]
    · have := hw e2 r2
      rw [r1] at hge
      omega
    · have := hw e1 r1
      rw [r2] at hge
      omega
    · exact h.inj e1 r1 e2 r2 hge

/-- It is told of. -/
theorem AtX.take (h : AtX dl w0 F W0 M0 r0 es X st a w) (e : Early) (he : e ∈ es) (es' : List Early) (hes : ∀ e', e' ∈ es' ↔ e' ∈ es ∧ e' ≠ e) {X' : List (Nat × Bool)} (hX : ∀ d, d ≠ e.d → valid X' d → valid X d) (hlt : e.d < st.t.length) :
    AtX dl w0 F W0 M0 r0 es' X' ((st.new (e.z.cells.toList.map constA)).put (some e.d) (.ptr st.b.length 0)) a w := by
  obtain ⟨M, w1, F1, h⟩ := h
  have hI := h.inv
  obtain ⟨h1, h2, h3, h4, h5, h6⟩ := h.early e he
  have hnoe : ∀ a, a.block = e.g → M.no a := fun a ha => (h.mno a).2 (.inr ⟨e, he, ha⟩)
  have hsub : ∀ a, (M0.no a ∨ ∃ e' ∈ es', a.block = e'.g) → M.no a := by
    rintro a (ha | ⟨e', he', ha⟩)
    · exact (h.mno a).2 (.inl ha)
    · exact (h.mno a).2 (.inr ⟨e', ((hes e').1 he').1, ha⟩)
  have hold : ∀ i, i < M.bb.length → Mem.blk ⟨M.bb ++ [e.g], M.av, fun a => M0.no a ∨ ∃ e' ∈ es', a.block = e'.g⟩ i = M.blk i := fun i hi => getD_append_lt _ _ _ _ hi
  have hnew : Mem.blk ⟨M.bb ++ [e.g], M.av, fun a => M0.no a ∨ ∃ e' ∈ es', a.block = e'.g⟩ M.bb.length = e.g := getD_append_len _ _ _
  have hcase : ∀ i, i < (M.bb ++ [e.g]).length → (i < M.bb.length ∧ Mem.blk ⟨M.bb ++ [e.g], M.av, fun a => M0.no a ∨ ∃ e' ∈ es', a.block = e'.g⟩ i = M.blk i) ∨ (i = M.bb.length ∧ Mem.blk ⟨M.bb ++ [e.g], M.av, fun a => M0.no a ∨ ∃ e' ∈ es', a.block = e'.g⟩ i = e.g) := by
    intro i hi
    simp at hi
    rcases Nat.lt_or_ge i M.bb.length with h1 | h1
    · exact .inl ⟨h1, hold i h1⟩
    · have : i = M.bb.length := by omega
      exact .inr ⟨this, by rw [this]; exact hnew⟩
  have hc : Chg0 w M st.r w ⟨M.bb ++ [e.g], M.av, fun a => M0.no a ∨ ∃ e' ∈ es', a.block = e'.g⟩ st.r := by
    refine ⟨fun a u ho hcell => ⟨hcell, ⟨fun i hi => ?_, fun hn => ho.1.2 (hsub a hn)⟩, ho.2⟩, by simp, hold, fun _ A hA => ⟨A, hA, Nat.le_refl _, rfl, fun _ => rfl⟩⟩
    rcases hcase i hi with ⟨h7, e1⟩ | ⟨_, e1⟩
    · rw [e1]; exact ho.1.1 i h7
    · rw [e1]; exact fun h8 => ho.1.2 (hnoe a h8.symm)
  have hmne : ∀ i, i < M.bb.length → M.blk i ≠ e.g := by
    intro i hi h7
    rcases hI.fb i hi with h8 | h8
    · rw [h7] at h8; exact h3 h8
    · omega
  have hcells := zero_cells (w := w) (M := ⟨M.bb ++ [e.g], M.av, fun a => M0.no a ∨ ∃ e' ∈ es', a.block = e'.g⟩) (r := st.r) h6
  have hheap : w.heap[e.g]? = some (.cells e.z.cells e.t (0, 0)) := by rw [hI.keep.block _ h2 h3]; exact h4
  refine ⟨⟨M.bb ++ [e.g], M.av, fun a => M0.no a ∨ ∃ e' ∈ es', a.block = e'.g⟩, w1, e.g :: F1, ?_, ?_, h.dl, ?_, fun a => Iff.rfl, h.keep, fun k hk => ?_, h.bnd, fun e' he' => ?_, fun e1 g1 e2 g2 hge => h.inj e1 ((hes e1).1 g1).1 e2 ((hes e2).1 g2).1 hge⟩
  · show Inv w1 (e.g :: F1) _ (st.b ++ [e.z.cells.toList.map constA]) st.r w
    refine ⟨⟨hI.keep.os, hI.keep.tape, hI.keep.output, hI.keep.size, fun k hk hn => hI.keep.block k hk (fun hm => hn (List.mem_cons_of_mem _ hm))⟩, by simp [hI.lb], hI.lr, fun i c hi => ?_, fun i A hA => ?_, fun i hi => ?_, fun i g hg => (hI.fr i g hg).imp (List.mem_cons_of_mem _) id, fun i j hi hj e1 => ?_, hI.drr, fun i j hi e1 => ?_, fun a ha => hI.no a (hsub a ha)⟩
    · rcases Nat.lt_or_ge i st.b.length with h7 | h7
      · rw [List.getElem?_append_left h7] at hi
        obtain ⟨cs, ty, hh, hs, h8, hr⟩ := hI.box i c hi
        exact ⟨cs, ty, by rw [hold i (by rw [hI.lb]; exact h7)]; exact hh, hs, h8, fun j hj => (hr j hj).mono0 hc⟩
      · have hlt2 := (List.getElem?_eq_some_iff.1 hi).1
        simp at hlt2
        have hib : i = st.b.length := by omega
        subst hib
        simp at hi
        subst hi
        refine ⟨e.z.cells, e.t, by rw [← hI.lb, hnew]; exact hheap, hcells.size, hcells.one, hcells.rep⟩
    · obtain ⟨hz, hel, xs, ho, h8, hr⟩ := hI.row i A hA
      exact ⟨hz, hel, xs, ho, h8, fun k j hk hj => (hr k j hk hj).mono0 hc⟩
    · rcases hcase i hi with ⟨h7, e1⟩ | ⟨_, e1⟩
      · rw [e1]; exact (hI.fb i h7).imp (List.mem_cons_of_mem _) id
      · rw [e1]; exact .inl (List.mem_cons_self ..)
    · rcases hcase i hi with ⟨h7, e2⟩ | ⟨h7, e2⟩ <;> rcases hcase j hj with ⟨h8, e3⟩ | ⟨h8, e3⟩ <;> rw [e2, e3] at e1
      · exact hI.dbb i j h7 h8 e1
      · exact absurd e1 (hmne i h7)
      · exact absurd e1.symm (hmne j h8)
      · omega
    · rcases hcase i hi with ⟨h7, e2⟩ | ⟨h7, e2⟩ <;> rw [e2] at e1
      · exact hI.dbr i j h7 e1
      · rcases hI.fr j _ e1 with h8 | h8
        · exact h3 h8
        · omega
  · refine ⟨by simpa [St.put, St.new] using h.rg.1, fun i hi hv => ?_⟩
    have hi' : i < st.t.length := by simpa [St.put, St.new] using hi
    show RepA _ _ st.r _ ((st.t.set e.d _).getD i .undef)
    by_cases hid : i = e.d
    · subst hid
      rw [getD_set_self _ _ _ _ hi', h5]
      have := RepA.ptr (w := w) (M := ⟨M.bb ++ [e.g], M.av, fun a => M0.no a ∨ ∃ e' ∈ es', a.block = e'.g⟩) (r := st.r) st.b.length 0 (by simp [hI.lb])
      rw [← hI.lb, hnew, hI.lb] at this
      exact this
    · rw [getD_set_ne _ _ _ _ _ (fun h => hid h.symm)]
      exact (h.rg.2 i hi' (hX i hid hv)).mono0 hc
  · exact h.chg.trans hc
  · rcases List.mem_cons.1 hk with rfl | hk
    · exact .inr h1
    · exact h.hF k hk
  · obtain ⟨g1, g2⟩ := (hes e').1 he'
    obtain ⟨k1, k2, k3, k4, k5, k6⟩ := h.early e' g1
    refine ⟨k1, k2, fun hm => ?_, k4, k5, k6⟩
    rcases List.mem_cons.1 hm with h7 | h7
    · exact g2 (h.inj e' g1 e he h7)
    · exact k3 h7
end
end Go.PE
end

section
/- Closed calls: a region whose order is drawn is right (see PeCf). -/
set_option linter.unusedVariables false
set_option linter.unusedSimpArgs false
namespace Go.PE
open Go

/-- A variable that may come up before it is asked for. -/
def isLate (ops : Array Oper) (k : Nat) : Bool := match ops[k]? with
  | some ⟨some _, .alloc _, _, _, _, none⟩ => true
  | _ => false
def planB2 (ops : Array Oper) : List Nat → List Nat → List (Nat × Bool × List Nat) → Bool
  | V, _, [] => (List.range ops.size).all fun i => V.contains i
  | V, pend, (i, ch, rc) :: l =>
    let pend' := if ch then pend.filter fun p => !(depsOf ops i).contains p else pend
    decide (i < ops.size) && !V.contains i && (depsOf ops i).all (fun k => V.contains k) && !hits (dstOf ops i) (looksOf ops i) &&
    pend'.all (fun p => !hits (dstOf ops i) (looksOf ops p) && ((dstOf ops i).isNone || dstOf ops i != dstOf ops p) && (!hits (dstOf ops p) (looksOf ops i) || (depsOf ops i).contains p)) &&
    (List.range ops.size).all (fun k => V.contains k || k == i || !isLate ops k || (!hits (dstOf ops k) (looksOf ops i) && dstOf ops k != dstOf ops i)) &&
    (if ch then (List.range ops.size).all (fun k => V.contains k || k == i || isLate ops k || !(depsOf ops k).all fun j => V.contains j || (isLate ops j && j != i)) else !isLate ops i) &&
    pend'.all (fun p => rc.contains p) &&
    planB2 ops (i :: V) (if ch then pend' else i :: pend') l
/-- Variables that may come up early: their types' zero values are known, and their temporaries are different ones. -/
def lateX (P : Program) (ops : Array Oper) : Bool := (List.range ops.size).all fun k => match ops[k]? with
  | some ⟨some _, .alloc t, _, _, _, none⟩ => (match zero? P t with
    | some z => z.all oneA
    | none => false) && (List.range ops.size).all fun j => j == k || !isLate ops j || dstOf ops j != dstOf ops k
  | _ => true
def planOk (P : Program) (ops : Array Oper) (l : List (Nat × Bool × List Nat)) : Bool := backB ops && (lateX P ops && planB2 ops [] [] l)

theorem isLate_spec {ops : Array Oper} {k : Nat} (h : isLate ops k = true) : ∃ d t ty p ar, ops[k]? = some ⟨some d, .alloc t, ty, p, ar, none⟩ := by
  unfold isLate at h
  split at h
  · rename_i d t ty p ar hk
    exact ⟨d, t, ty, p, ar, hk⟩
  · cases h

section
variable {dl : Act → Prop} {P : Program} {E : Env} {cf : CallF} {df : DetF} {w0 : World} {F : List Nat} {W0 : World} {M0 : Mem} {r0 : List Arr} {ops : Array Oper}

/-! ### what is reckoned ahead does not see what others write -/
theorem opB_put {o : Oper} {st : St} {dst : Option Tmp} {v : AV} (h : ∀ d, dst = some d → d ∉ o.looksAt ops) : opB P o (st.put dst v).ev (st.put dst v) = (opB P o st.ev st).setT (st.put dst v).t := by
  have := ev_put_looks (st := st) (v := v) h
  rw [opB_ev _ o this, ← opB_tb, ← put_wT]
theorem wantX_put {o : Oper} {st : St} {dst : Option Tmp} {v : AV} (h : ∀ d, dst = some d → d ∉ o.looksAt ops) : wantX ops.toList o (st.put dst v) = wantX ops.toList o st := by
  unfold wantX
  cases hg : o.guard with
  | none => rfl
  | some gp =>
    obtain ⟨gi, pol⟩ := gp
    simp only
    cases ho : ops.toList[gi]? with
    | none => rfl
    | some og =>
      simp only
      cases hd : og.dst with
      | none => rfl
      | some d =>
        have ho' : ops[gi]? = some og := by simpa using ho
        have hl : d ∈ o.looksAt ops := looks_guard hg (by simp [ho', hd])
        have hne : dst ≠ some d := fun e => h d e hl
        simp only [put_len, put_get_ne hne]
theorem keepSt_put {st s : St} {dst : Option Tmp} {v : AV} {t : List AV} : keepSt (st.put dst v) (s.wT t) = keepSt st s := by
  unfold keepSt
  rw [put_put_len.1, put_put_len.2]
  rfl
theorem lookX_put {o : Oper} {st : St} {dst : Option Tmp} {v : AV} (h : ∀ d, dst = some d → d ∉ o.looksAt ops) : lookX P df o (st.put dst v) = lookX P df o st := by
  unfold lookX
  have hb := opB_put (P := P) (st := st) (v := v) h
  have hev := ev_put_looks (st := st) (v := v) h
  split
  · rename_i t n ps hop
    have hp : (ps.toList.map fun p => (p.1, (st.put dst v).ev p.2)) = ps.toList.map fun p => (p.1, st.ev p.2) := by
      refine List.map_congr_left (fun p hm => ?_)
      rw [hev p.2 (by rw [hop]; simp only [Op.operands, List.mem_toArray]; exact List.mem_map_of_mem hm)]
    rw [hp, put_put_len.2]
  · rw [hb]
    cases opB P o st.ev st with
    | ok c x s => simp only [RB.setT, keepSt_put]
    | elem c es k n s => simp only [RB.setT, keepSt_put]
    | byte c x k s => simp only [RB.setT, keepSt_put]
    | call f args s => simp only [RB.setT, put_put_len.2]
    | no => rfl
    | any c b s => rfl
    | panic x s => rfl
theorem aheadX_put {o : Oper} {st : St} {dst : Option Tmp} {v : AV} (h : ∀ d, dst = some d → d ∉ o.looksAt ops) : aheadX P df ops.toList o (st.put dst v) = aheadX P df ops.toList o st := by
  unfold aheadX
  rw [wantX_put h, lookX_put h]

def PendOk (P : Program) (df : DetF) (ops : Array Oper) (p : Nat) (st : St) : Prop := ∃ o, ops[p]? = some o ∧ ∃ v, aheadX P df ops.toList o st = some v ∧ ∀ d, o.dst = some d → d < st.t.length → v = st.t.getD d .undef
theorem pendX_mem {st : St} : ∀ {l : List Nat}, pendX P df ops.toList st l = true → ∀ i ∈ l, PendOk P df ops i st
  | [], _, i, hi => by cases hi
  | j :: l, h, i, hi => by
    unfold pendX at h
    simp only [Bool.and_eq_true] at h
    rcases List.mem_cons.1 hi with e | hi
    · subst e
      have h1 := h.1
      split at h1
      · rename_i o ho
        split at h1
        · rename_i v hv
          refine ⟨o, by simpa using ho, v, hv, fun d hd _ => ?_⟩
          rw [hd] at h1
          exact eqAA_sound _ _ h1
        · cases h1
      · cases h1
    · exact pendX_mem h.2 i hi
theorem PendOk.put {p : Nat} {st : St} {dst : Option Tmp} {v : AV} (h : PendOk P df ops p st) (h1 : ∀ d, dst = some d → d ∉ looksOf ops p) (h2 : ∀ d, dst = some d → dstOf ops p ≠ some d) : PendOk P df ops p (st.put dst v) := by
  obtain ⟨o, ho, x, hx, hd⟩ := h
  have hl : looksOf ops p = o.looksAt ops := by simp [looksOf, ho]
  have hds : dstOf ops p = o.dst := by simp [dstOf, ho]
  refine ⟨o, ho, x, ?_, fun d hdd hlt => ?_⟩
  · rw [aheadX_put (fun d e => by rw [← hl]; exact h1 d e)]
    exact hx
  · rw [put_get_ne (fun e => h2 d e (by rw [hds]; exact hdd))]
    rw [put_len] at hlt
    exact hd d hdd hlt

def maskE (es : List Early) : List (Nat × Bool) := es.map fun e => (e.d, false)
theorem maskE_valid {es : List Early} {d : Nat} : valid (maskE es) d ↔ ∀ e ∈ es, e.d ≠ d := by
  constructor
  · intro h e he hd
    have := h (e.d, false) (List.mem_map.2 ⟨e, he, rfl⟩) hd
    cases this
  · intro h p hp hpd
    obtain ⟨e, he, rfl⟩ := List.mem_map.1 hp
    exact absurd hpd (h e he)

structure SimX (P : Program) (df : DetF) (ops : Array Oper) (dl : Act → Prop) (w0 : World) (F : List Nat) (W0 : World) (M0 : Mem) (r0 : List Arr) (lst : Array Bool) (V pend : List Nat) (es : List Early) (st : St) (a : Act) (w : World) : Prop where
  hs : lst.size = ops.size
  sub : ∀ i, lst.getD i false = true → i ∈ V ∨ ∃ e ∈ es, e.i = i
  vlt : ∀ i ∈ V, i < ops.size
  pnd : ∀ i ∈ V, lst.getD i false = false → i ∈ pend
  pV : ∀ i ∈ pend, i ∈ V
  pw : ∀ p ∈ pend, ∀ q ∈ pend, p ≠ q → (hits (dstOf ops q) (looksOf ops p) = true → q ∈ depsOf ops p) ∧ (∀ d, dstOf ops q = some d → dstOf ops p ≠ some d)
  slf : ∀ p ∈ pend, hits (dstOf ops p) (looksOf ops p) = false
  lt : ∀ p ∈ pend, ∀ k, k < ops.size → k ∉ V → isLate ops k = true → hits (dstOf ops k) (looksOf ops p) = false ∧ dstOf ops k ≠ dstOf ops p
  ev : ∀ e ∈ es, e.i ∉ V ∧ e.i < ops.size ∧ lst.getD e.i false = true ∧ (∀ k ∈ depsOf ops e.i, lst.getD k false = true) ∧ ∃ ty p ar inf, ops[e.i]? = some ⟨some e.d, .alloc e.t, ty, p, ar, none⟩ ∧ P.info? e.t = some inf ∧ inf.zero = some e.z
  ei : ∀ e ∈ es, ∀ e' ∈ es, e.i = e'.i → e = e'
  at_ : AtX dl w0 F W0 M0 r0 es (maskX ops lst pend ++ maskE es) st a w
  pok : ∀ p ∈ pend, lst.getD p false = false → PendOk P df ops p st
  tl : ∀ k d, isLate ops k = true → dstOf ops k = some d → d < a.tmps.size

theorem SimX.late {lst : Array Bool} {V pend : List Nat} {es : List Early} {st : St} {a : Act} {w : World} (h : SimX P df ops dl w0 F W0 M0 r0 lst V pend es st a w) {e : Early} (he : e ∈ es) : isLate ops e.i = true ∧ dstOf ops e.i = some e.d := by
  obtain ⟨_, _, _, _, ty, p, ar, inf, ho, _⟩ := h.ev e he
  exact ⟨by simp [isLate, ho], by simp [dstOf, ho]⟩

/-- An operation that was reckoned ahead comes up. -/
theorem simX_pend (hE : E.Ok P) (hc : CallOk cf E) (hdt : DetOk cf df) (hkd : ∀ o ∈ ops.toList, ∀ (a : Act) u, dl a → dl (a.put o.dst u)) {lst : Array Bool} {V pend : List Nat} {es : List Early} {st : St} {a : Act} {w : World} {p : Nat} {next : Act → World → Prop} {Q : Exit → Act → World → Prop}
    (h : SimX P df ops dl w0 F W0 M0 r0 lst V pend es st a w) (hp : p ∈ pend) (hr : p ∈ Region.ready .any ops lst) (hn : ∀ a' w', SimX P df ops dl w0 F W0 M0 r0 (lst.setIfInBounds p true) V pend es st a' w' → next a' w') :
    wpOp P ops Q p next a w := by
  obtain ⟨h1, _, h2⟩ := ready_deps hr
  obtain ⟨hlt, hun⟩ := lst_lt h1
  obtain ⟨o, ho, v, hv, hvd⟩ := h.pok p hp hun
  have hlooks : looksOf ops p = o.looksAt ops := by simp [looksOf, ho]
  have hdst : dstOf ops p = o.dst := by simp [dstOf, ho]
  have hearly : ∀ e ∈ es, hits (dstOf ops e.i) (looksOf ops p) = false ∧ dstOf ops e.i ≠ dstOf ops p := fun e he => h.lt p hp e.i (h.ev e he).2.1 (h.ev e he).1 (h.late he).1
  have hX : ∀ d ∈ o.looksAt ops, valid (maskX ops lst pend ++ maskE es) d := by
    intro d hd
    refine valid_append.2 ⟨?_, maskE_valid.2 fun e he hed => ?_⟩
    · rw [maskX_valid]
      intro q hq hql hqd
      have hh : hits (dstOf ops q) (looksOf ops p) = true := by rw [hqd, hlooks]; exact hits_some.2 hd
      by_cases e : p = q
      · subst e
        rw [h.slf p hp] at hh
        cases hh
      · have := h2 q ((h.pw p hp q hq e).1 hh)
        rw [hql] at this
        cases this
    · have h3 := (hearly e he).1
      rw [(h.late he).2, hlooks, hed] at h3
      have := hits_some.2 hd
      rw [h3] at this
      cases this
  obtain ⟨M, w1, F1, hB⟩ := h.at_
  have hod : dl a := hB.dl
  have hom : o ∈ ops.toList := by rw [Array.mem_toList_iff]; exact Array.mem_of_getElem? ho
  -- what comes after
  have after : ∀ (M' : Mem) (w' : World) (u : Value), Inv w1 F1 M' st.b st.r w' → Chg w M st.r w' M' st.r → RepA w' M' st.r u v → next (a.put o.dst u) w' := by
    intro M' w' u hI' hC' hu
    refine hn _ _ { hs := by simpa using h.hs, sub := fun i hi => ?_, vlt := h.vlt, pnd := fun i hi hl => ?_, pV := h.pV, pw := h.pw, slf := h.slf, lt := h.lt, ev := fun e he => ?_, ei := h.ei, at_ := ?_, pok := fun q hq hl => ?_, tl := fun k d hk hd => by rw [put_size]; exact h.tl k d hk hd }
    · rw [set_getD hlt] at hi
      split at hi
      · rename_i e; rw [e]; exact .inl (h.pV p hp)
      · exact h.sub i hi
    · rw [set_getD hlt] at hl
      split at hl
      · cases hl
      · exact h.pnd i hi hl
    · obtain ⟨g1, g2, g3, g4, g5⟩ := h.ev e he
      have hset : ∀ k, lst.getD k false = true → (lst.setIfInBounds p true).getD k false = true := fun k hk => by
        rw [set_getD hlt]
        split
        · rfl
        · exact hk
      exact ⟨g1, g2, hset _ g3, fun k hk => hset k (g4 k hk), g5⟩
    · refine hB.step (fun e he => put_tmp_ne (fun hd => ?_)) ⟨M', hI', ⟨?_, fun d hdl hval => ?_⟩, hkd o hom _ _ hod, hC'⟩
      · exact (hearly e he).2 (by rw [(h.late he).2, hdst, hd])
      · cases o.dst <;> simpa [Act.put] using hB.rg.1
      · obtain ⟨hv1, hv2⟩ := valid_append.1 hval
        rw [maskX_valid] at hv1
        by_cases e : o.dst = some d
        · rw [e]
          show RepA w' M' st.r ((a.tmps.setIfInBounds d u).getD d undef) _
          rw [agetD_set_self _ _ _ (by rw [hB.rg.1]; exact hdl), ← hvd d e hdl]
          exact hu
        · rw [put_tmp_ne e]
          refine (hB.rg.2 d hdl (valid_append.2 ⟨maskX_valid.2 fun q hq hql => ?_, hv2⟩)).mono hC'
          by_cases eq : q = p
          · subst eq; rw [hdst]; exact e
          · exact hv1 q hq (by rw [set_getD hlt, if_neg eq]; exact hql)
    · rw [set_getD hlt] at hl
      split at hl
      · cases hl
      · exact h.pok q hq hl
  obtain ⟨hy, hnw⟩ := want_spec hB.rg hX
  unfold wpOp
  rw [ho]
  simp only
  unfold aheadX at hv
  cases hw : wantX ops.toList o st with
  | yes =>
    rw [hw] at hv
    rw [if_pos (hy hw)]
    exact .inl (lookX_run hE hc hdt hB.inv hB.rg hX hv after)
  | skip =>
    rw [hw] at hv
    simp only [Option.some.injEq] at hv
    rw [if_neg (by rw [hnw hw]; simp)]
    exact after M w undef hB.inv (.refl _ _ _) (by rw [← hv]; exact rep_nil _ _ _)
  | no =>
    rw [hw] at hv
    cases hv

/-- A variable comes up before it is asked for. -/
theorem simX_early (hlB : lateX P ops = true) (hkd : ∀ o ∈ ops.toList, ∀ (a : Act) u, dl a → dl (a.put o.dst u)) {lst : Array Bool} {V pend : List Nat} {es : List Early} {st : St} {a : Act} {w : World} {k : Nat} {next : Act → World → Prop} {Q : Exit → Act → World → Prop}
    (h : SimX P df ops dl w0 F W0 M0 r0 lst V pend es st a w) (hk : k ∉ V) (hl : isLate ops k = true) (hr : k ∈ Region.ready .any ops lst) (hn : ∀ e a' w', SimX P df ops dl w0 F W0 M0 r0 (lst.setIfInBounds k true) V pend (e :: es) st a' w' → next a' w') :
    wpOp P ops Q k next a w := by
  obtain ⟨h1, _, h2⟩ := ready_deps hr
  obtain ⟨hlt, hun⟩ := lst_lt h1
  obtain ⟨d, t, ty, p, ar, ho⟩ := isLate_spec hl
  have hks : k < ops.size := (Array.getElem?_eq_some_iff.1 ho).1
  have hlk := List.all_eq_true.1 hlB k (List.mem_range.2 hks)
  rw [ho] at hlk
  simp only [Bool.and_eq_true] at hlk
  obtain ⟨hz, hdd⟩ := hlk
  have hdst : dstOf ops k = some d := by simp [dstOf, ho]
  split at hz
  case h_2 => cases hz
  rename_i z hzz
  obtain ⟨inf, zv, hi, hzv, rfl⟩ := zero_spec hzz
  have hom : (⟨some d, .alloc t, ty, p, ar, none⟩ : Oper) ∈ ops.toList := by rw [Array.mem_toList_iff]; exact Array.mem_of_getElem? ho
  have hdl := h.tl k d hl hdst
  obtain ⟨M, w1, F1, hB⟩ := h.at_
  have hne : ∀ e ∈ es, e.d ≠ d := by
    intro e he hed
    obtain ⟨g1, g2, g3, _⟩ := h.ev e he
    have := List.all_eq_true.1 hdd e.i (List.mem_range.2 g2)
    rw [Bool.or_eq_true, Bool.or_eq_true] at this
    rcases this with (h3 | h3) | h3
    · have : e.i = k := by simpa using h3
      rw [this, hun] at g3
      cases g3
    · rw [(h.late he).1] at h3
      cases h3
    · rw [(h.late he).2, hdst, hed] at h3
      simp at h3
  unfold wpOp
  rw [ho]
  have hw : Region.wanted (⟨some d, .alloc t, ty, p, ar, none⟩ : Oper) (yielded ops a.tmps) = true := rfl
  simp only [hw, if_true]
  refine .inl ?_
  have hrun : (execOp a.eval ⟨some d, .alloc t, ty, p, ar, none⟩).run P w = .ok (.value (.pointer (some ⟨w.heap.size, 0, none⟩))) (w.alloc (.cells zv.cells t)) := by
    simp [execOp, Instr.alloc, zeroValue, typeInfo, hi, hzv, newVar, newRow]
  unfold Oper.wp
  rw [hrun]
  have hat := hB.up ⟨k, d, w.heap.size, t, zv⟩ rfl hz hdl hne (hkd _ hom _ _ hB.dl) (fun _ _ => trivial)
  refine hn ⟨k, d, w.heap.size, t, zv⟩ _ _ { hs := by simpa using h.hs, sub := fun i hi => ?_, vlt := h.vlt, pnd := fun i hi hl' => ?_, pV := h.pV, pw := h.pw, slf := h.slf, lt := h.lt, ev := fun e he => ?_, ei := fun e1 he1 e2 he2 hie => ?_, at_ := ?_, pok := fun q hq hl' => ?_, tl := fun k' d' hk' hd' => (put_size (a := a)).symm ▸ h.tl k' d' hk' hd' }
  · rw [set_getD hlt] at hi
    split at hi
    · rename_i e
      exact .inr ⟨_, List.mem_cons_self .., e.symm⟩
    · rcases h.sub i hi with h3 | ⟨e, he, h3⟩
      · exact .inl h3
      · exact .inr ⟨e, List.mem_cons_of_mem _ he, h3⟩
  · rw [set_getD hlt] at hl'
    split at hl'
    · cases hl'
    · exact h.pnd i hi hl'
  · have hset : ∀ j, lst.getD j false = true → (lst.setIfInBounds k true).getD j false = true := fun j hj => by
      rw [set_getD hlt]
      split
      · rfl
      · exact hj
    rcases List.mem_cons.1 he with rfl | he
    · exact ⟨hk, hks, by rw [set_getD hlt, if_pos rfl], fun j hj => hset j (h2 j hj), ty, p, ar, inf, ho, hi, hzv⟩
    · obtain ⟨g1, g2, g3, g4, g5⟩ := h.ev e he
      exact ⟨g1, g2, hset _ g3, fun j hj => hset j (g4 j hj), g5⟩
  · have hnk : ∀ e ∈ es, e.i ≠ k := fun e he hek => by
      have := (h.ev e he).2.2.1
      rw [hek, hun] at this
      cases this
    rcases List.mem_cons.1 he1 with r1 | r1 <;> rcases List.mem_cons.1 he2 with r2 | r2
    · rw [r1, r2]
    · rw [r1] at hie
      exact absurd hie.symm (hnk e2 r2)
    · rw [r2] at hie
      exact absurd hie (hnk e1 r1)
    · exact h.ei e1 r1 e2 r2 hie
  · obtain ⟨M', w1', F1', hB'⟩ := hat
    refine ⟨M', w1', F1', { hB' with rg := hB'.rg.le (fun d' hv => ?_) }⟩
    obtain ⟨hv1, hv2⟩ := valid_append.1 hv
    have hv2' := maskE_valid.1 hv2
    intro q hq hqd
    rcases List.mem_cons.1 hq with rfl | hq
    · exact absurd hqd (hv2' _ (List.mem_cons_self ..))
    · refine (valid_append.2 ⟨maskX_valid.2 fun q' hq' hql' => ?_, maskE_valid.2 fun e he => hv2' e (List.mem_cons_of_mem _ he)⟩ : valid (maskX ops lst pend ++ maskE es) d') q hq hqd
      refine (maskX_valid.1 hv1) q' hq' ?_
      rw [set_getD hlt, if_neg]
      · exact hql'
      · intro e
        rw [e] at hq'
        exact hk (h.pV k hq')
  · rw [set_getD hlt] at hl'
    split at hl'
    · cases hl'
    · exact h.pok q hq hl'
end
end Go.PE
end

section
/- Closed calls: a region whose order is drawn is right, the whole of it (see PeCg). -/
set_option linter.unusedVariables false
set_option linter.unusedSimpArgs false
namespace Go.PE
open Go

section
variable {dl : Act → Prop} {P : Program} {E : Env} {cf : CallF} {df : DetF} {w0 : World} {F : List Nat} {W0 : World} {M0 : Mem} {r0 : List Arr} {ops : Array Oper}

structure PlanHead (ops : Array Oper) (V pend : List Nat) (i : Nat) (ch : Bool) (rc : List Nat) (l : List (Nat × Bool × List Nat)) : Prop where
  lt : i < ops.size
  nV : i ∉ V
  deps : ∀ k ∈ depsOf ops i, k ∈ V
  self : hits (dstOf ops i) (looksOf ops i) = false
  pair : ∀ p ∈ (if ch then pend.filter fun p => !(depsOf ops i).contains p else pend), hits (dstOf ops i) (looksOf ops p) = false ∧ (∀ d, dstOf ops i = some d → dstOf ops p ≠ some d) ∧ (hits (dstOf ops p) (looksOf ops i) = true → p ∈ depsOf ops i)
  late : ∀ k, k < ops.size → k ∉ V → k ≠ i → isLate ops k = true → hits (dstOf ops k) (looksOf ops i) = false ∧ dstOf ops k ≠ dstOf ops i
  only : ch = true → ∀ k, k < ops.size → k ∉ V → k ≠ i → isLate ops k = false → ∃ j ∈ depsOf ops k, j ∉ V ∧ (isLate ops j = true → j = i)
  still : ch = false → isLate ops i = false
  rc : ∀ p ∈ (if ch then pend.filter fun p => !(depsOf ops i).contains p else pend), p ∈ rc
  rest : planB2 ops (i :: V) (if ch then pend.filter fun p => !(depsOf ops i).contains p else i :: pend) l = true

theorem planB2_head {V pend : List Nat} {i : Nat} {ch : Bool} {rc : List Nat} {l : List (Nat × Bool × List Nat)} (h : planB2 ops V pend ((i, ch, rc) :: l) = true) : PlanHead ops V pend i ch rc l := by
  simp only [planB2, Bool.and_eq_true] at h
  obtain ⟨⟨⟨⟨⟨⟨⟨⟨h1, h2⟩, h3⟩, h4⟩, h5⟩, h6⟩, h7⟩, h8⟩, h9⟩ := h
  refine ⟨by simpa using h1, by simpa using h2, fun k hk => by simpa using List.all_eq_true.1 h3 k hk, by simpa using h4, fun p hp => ?_, fun k hk hkV hki hl => ?_, fun hch k hk hkV hki hl => ?_, fun hch => ?_, fun p hp => by simpa using List.all_eq_true.1 h8 p hp, ?_⟩
  · have := List.all_eq_true.1 h5 p hp
    simp only [Bool.and_eq_true] at this
    obtain ⟨⟨g1, g2⟩, g3⟩ := this
    refine ⟨by simpa using g1, fun d hd hpd => ?_, fun hh => ?_⟩
    · rw [Bool.or_eq_true] at g2
      rcases g2 with g2 | g2
      · rw [hd] at g2; simp at g2
      · rw [hd, hpd] at g2; simp at g2
    · rw [Bool.or_eq_true] at g3
      rcases g3 with g3 | g3
      · rw [hh] at g3; simp at g3
      · simpa using g3
  · have := List.all_eq_true.1 h6 k (List.mem_range.2 hk)
    simp only [Bool.or_eq_true, Bool.and_eq_true] at this
    rcases this with ((g | g) | g) | g
    · exact absurd (by simpa using g) hkV
    · exact absurd (by simpa using g) hki
    · rw [hl] at g; simp at g
    · exact ⟨by simpa using g.1, by simpa using g.2⟩
  · rw [hch, if_pos rfl] at h7
    have := List.all_eq_true.1 h7 k (List.mem_range.2 hk)
    simp only [Bool.or_eq_true] at this
    rcases this with ((g | g) | g) | g
    · exact absurd (by simpa using g) hkV
    · exact absurd (by simpa using g) hki
    · rw [hl] at g; cases g
    · simp only [Bool.not_eq_true', List.all_eq_false] at g
      obtain ⟨j, hj, g⟩ := g
      refine ⟨j, hj, ?_⟩
      rw [Bool.or_eq_true] at g
      refine ⟨fun hm => g (.inl (by simpa using hm)), fun hlj => ?_⟩
      by_cases hji : j = i
      · exact hji
      · exact absurd (.inr (by simp [hlj, hji])) g
  · rw [hch] at h7
    simpa using h7
  · cases ch
    · simpa only [if_false, Bool.false_eq_true] using h9
    · simpa only [if_true] using h9

/-- The plan's next operation is reckoned ahead: nothing has happened yet. -/
theorem simX_still {lst : Array Bool} {V pend rc : List Nat} {es : List Early} {st : St} {a : Act} {w : World} {i : Nat} {l : List (Nat × Bool × List Nat)} {K : St → Prop} {KP : AV → St → Prop}
    (h : SimX P df ops dl w0 F W0 M0 r0 lst V pend es st a w) (hb : planB2 ops V pend ((i, false, rc) :: l) = true) (hk : (planX P cf df ops.toList ((i, false, rc) :: l) st).sem K KP) :
    ∃ st', SimX P df ops dl w0 F W0 M0 r0 lst (i :: V) (i :: pend) es st' a w ∧ planB2 ops (i :: V) (i :: pend) l = true ∧ (planX P cf df ops.toList l st').sem K KP := by
  have ph := planB2_head hb
  have hpair := ph.pair
  have hrc := ph.rc
  have hrest := ph.rest
  simp only [if_false, Bool.false_eq_true] at hpair hrc hrest
  simp only [planX] at hk
  cases ho : ops.toList[i]? with
  | none => rw [ho] at hk; exact hk.elim
  | some o =>
    rw [ho] at hk
    simp only at hk
    have ho' : ops[i]? = some o := by simpa using ho
    have hlooks : looksOf ops i = o.looksAt ops := by simp [looksOf, ho']
    have hdst : dstOf ops i = o.dst := by simp [dstOf, ho']
    split at hk
    case h_2 => exact hk.elim
    rename_i hpre
    split at hk
    case h_2 => exact hk.elim
    rename_i v hv
    have hil : lst.getD i false = false := by
      cases e : lst.getD i false with
      | false => rfl
      | true =>
        rcases h.sub i e with h1 | ⟨e', he', h1⟩
        · exact absurd h1 ph.nV
        · have := (h.late he').1
          rw [h1, ph.still rfl] at this
          cases this
    have hs : ∀ d, o.dst = some d → d ∉ o.looksAt ops := by
      intro d hd hm
      have h1 := ph.self
      rw [hdst, hlooks, hd] at h1
      rw [hits_some.2 hm] at h1
      cases h1
    -- sharing
    have hpend : ∀ p ∈ pend, lst.getD p false = false → PendOk P df ops p (preX ops.toList o st) := by
      intro p hp hl
      rw [Bool.or_eq_true] at hpre
      rcases hpre with h1 | h1
      · have : preX ops.toList o st = st := by
          unfold preX
          rw [share_of h1]
        rw [this]
        exact h.pok p hp hl
      · exact pendX_mem h1 p (hrc p hp)
    refine ⟨(preX ops.toList o st).put o.dst v, { hs := h.hs, sub := fun j hj => (h.sub j hj).imp (List.mem_cons_of_mem _) id, vlt := fun j hj => ?_, pnd := fun j hj hl => ?_, pV := fun j hj => ?_, pw := fun p hp q hq hne => ?_, slf := fun p hp => ?_, lt := fun p hp k hks hkV hkl => ?_, ev := fun e he => ?_, ei := h.ei, at_ := ?_, pok := fun p hp hl => ?_, tl := h.tl }, hrest, hk⟩
    · rcases List.mem_cons.1 hj with rfl | hj
      · exact ph.lt
      · exact h.vlt j hj
    · rcases List.mem_cons.1 hj with rfl | hj
      · exact List.mem_cons_self ..
      · exact List.mem_cons_of_mem _ (h.pnd j hj hl)
    · rcases List.mem_cons.1 hj with rfl | hj
      · exact List.mem_cons_self ..
      · exact List.mem_cons_of_mem _ (h.pV j hj)
    · rcases List.mem_cons.1 hp with ep | hp' <;> rcases List.mem_cons.1 hq with eq | hq'
      · exact absurd (ep.trans eq.symm) hne
      · obtain ⟨h1, h2, h3⟩ := hpair q hq'
        rw [ep]
        exact ⟨h3, fun d hd hd' => h2 d hd' hd⟩
      · obtain ⟨h1, h2, h3⟩ := hpair p hp'
        rw [eq]
        exact ⟨fun hh => (by rw [h1] at hh; cases hh), h2⟩
      · exact h.pw p hp' q hq' hne
    · rcases List.mem_cons.1 hp with rfl | hp
      · exact ph.self
      · exact h.slf p hp
    · have hkV' : k ∉ V := fun hm => hkV (List.mem_cons_of_mem _ hm)
      rcases List.mem_cons.1 hp with rfl | hp
      · exact ph.late k hks hkV' (fun e => hkV (by rw [e]; exact List.mem_cons_self ..)) hkl
      · exact h.lt p hp k hks hkV' hkl
    · obtain ⟨g1, g2⟩ := h.ev e he
      refine ⟨fun hm => ?_, g2⟩
      rcases List.mem_cons.1 hm with h1 | h1
      · have := (h.late he).1
        rw [h1, ph.still rfl] at this
        cases this
      · exact g1 h1
    · obtain ⟨M, w1, F1, hB⟩ := h.at_
      obtain ⟨hI, hC⟩ := hB.inv.shareL (preIds ops.toList o st)
      refine hB.step (fun _ _ => rfl) ⟨M, ?_, ⟨?_, fun d hdl hval => ?_⟩, hB.dl, ?_⟩
      · rw [put_put_len.1, put_put_len.2]; exact hI
      · rw [put_len]; exact hB.rg.1
      · rw [put_len] at hdl
        rw [put_put_len.2]
        obtain ⟨hx, hg⟩ := valid_append.1 hval
        rw [maskX_valid] at hx
        have hne : o.dst ≠ some d := by
          rw [← hdst]
          exact hx i (List.mem_cons_self ..) hil
        rw [put_get_ne hne]
        exact (hB.rg.2 d hdl (valid_append.2 ⟨maskX_valid.2 fun q hq hql => hx q (List.mem_cons_of_mem _ hq) hql, hg⟩)).mono hC
      · rw [put_put_len.2]; exact hC
    · rcases List.mem_cons.1 hp with rfl | hp
      · refine ⟨o, ho', v, ?_, fun d hd hlt => ?_⟩
        · rw [aheadX_put hs]; exact hv
        · rw [put_len] at hlt
          rw [hd, put_get_eq hlt]
      · obtain ⟨h1, h2, h3⟩ := hpair p hp
        refine (hpend p hp hl).put (fun d hd hm => ?_) (fun d hd => h2 d (by rw [hdst]; exact hd))
        rw [hdst, hd] at h1
        rw [hits_some.2 hm] at h1
        cases h1

/-- The one operation that may come up, and does something. -/
theorem simX_chain (hE : E.Ok P) (hc : CallOk cf E) (hkd : ∀ o ∈ ops.toList, ∀ (a : Act) u, dl a → dl (a.put o.dst u)) {lst : Array Bool} {V pend rc : List Nat} {es : List Early} {st : St} {a : Act} {w : World} {i : Nat} {l : List (Nat × Bool × List Nat)} {K : St → Prop} {KP : AV → St → Prop} {next : Act → World → Prop} {Q : Exit → Act → World → Prop}
    (h : SimX P df ops dl w0 F W0 M0 r0 lst V pend es st a w) (hb : planB2 ops V pend ((i, true, rc) :: l) = true) (hk : (planX P cf df ops.toList ((i, true, rc) :: l) st).sem K KP) (hr : i ∈ Region.ready .any ops lst)
    (hn : ∀ st' pend' a' w', SimX P df ops dl w0 F W0 M0 r0 (lst.setIfInBounds i true) (i :: V) pend' es st' a' w' → planB2 ops (i :: V) pend' l = true → (planX P cf df ops.toList l st').sem K KP → next a' w')
    (panics : ∀ x st u a w, AtP dl w0 F W0 M0 r0 x st u a w → KP x st → Q (.panic [{ v := u, recovered := false }]) a w) :
    wpOp P ops Q i next a w := by
  obtain ⟨h1, _, h2⟩ := ready_deps hr
  obtain ⟨hlt, hun⟩ := lst_lt h1
  have ph := planB2_head hb
  have hpair := ph.pair
  have hrc := ph.rc
  have hrest := ph.rest
  simp only [if_true] at hpair hrc hrest
  simp only [planX] at hk
  cases ho : ops.toList[i]? with
  | none => rw [ho] at hk; exact hk.elim
  | some o =>
    rw [ho] at hk
    simp only at hk
    have ho' : ops[i]? = some o := by simpa using ho
    have hom : o ∈ ops.toList := List.mem_of_getElem? ho
    have hlooks : looksOf ops i = o.looksAt ops := by simp [looksOf, ho']
    have hdst : dstOf ops i = o.dst := by simp [dstOf, ho']
    have hpend : ∀ q ∈ pend, lst.getD q false = false → q ∈ pend.filter fun p => !(depsOf ops i).contains p := by
      intro q hq hql
      refine List.mem_filter.2 ⟨hq, ?_⟩
      have : q ∉ depsOf ops i := fun hd => by
        rw [h2 q hd] at hql
        cases hql
      simpa using this
    have hearly : ∀ e ∈ es, hits (dstOf ops e.i) (looksOf ops i) = false ∧ dstOf ops e.i ≠ dstOf ops i := by
      intro e he
      obtain ⟨g1, g2, g3, _⟩ := h.ev e he
      refine ph.late e.i g2 g1 (fun hei => ?_) (h.late he).1
      rw [hei, hun] at g3
      cases g3
    have hX : ∀ d ∈ o.looksAt ops, valid (maskX ops lst pend ++ maskE es) d := by
      intro d hd
      refine valid_append.2 ⟨?_, maskE_valid.2 fun e he hed => ?_⟩
      · rw [maskX_valid]
        intro q hq hql hqd
        have hh : hits (dstOf ops q) (looksOf ops i) = true := by rw [hqd, hlooks]; exact hits_some.2 hd
        have := h2 q ((hpair q (hpend q hq hql)).2.2 hh)
        rw [hql] at this
        cases this
      · have h3 := (hearly e he).1
        rw [(h.late he).2, hlooks, hed] at h3
        rw [hits_some.2 hd] at h3
        cases h3
    obtain ⟨M, w1, F1, hB⟩ := h.at_
    have key := opX_sound (P := P) (ops := ops) (Q := Q) (next := next) (K := fun st' => pendX P df ops.toList st' rc = true ∧ (planX P cf df ops.toList l st').sem K KP) (KP := KP) hE hc (hkd o hom) hX hB.at_ (by
      generalize opX P cf ops.toList o st = R at hk ⊢
      cases R with
      | no => exact hk.elim
      | pan v s => exact hk
      | val s =>
        simp only at hk
        split at hk
        · rename_i hp; exact ⟨hp, hk⟩
        · exact hk.elim) (fun st' u w' hat hK => ?_) (fun x st u a w hp hk => panics x st u a w (hB.stepP hp) hk)
    · unfold wpOp
      rw [ho']
      simp only
      split
      · rename_i hw
        rw [if_pos hw] at key
        exact .inl key
      · rename_i hw
        rw [if_neg hw] at key
        exact key
    · refine hn st' (pend.filter fun p => !(depsOf ops i).contains p) _ w' { hs := by simpa using h.hs, sub := fun j hj => ?_, vlt := fun j hj => ?_, pnd := fun j hj hl => ?_, pV := fun j hj => ?_, pw := fun p hp q hq hne => ?_, slf := fun p hp => ?_, lt := fun p hp k hks hkV hkl => ?_, ev := fun e he => ?_, ei := h.ei, at_ := ?_, pok := fun p hp hl => ?_, tl := fun k d hk hd => by rw [put_size]; exact h.tl k d hk hd } hrest hK.2
      · rw [set_getD hlt] at hj
        split at hj
        · rename_i e; rw [e]; exact .inl (List.mem_cons_self ..)
        · exact (h.sub j hj).imp (List.mem_cons_of_mem _) id
      · rcases List.mem_cons.1 hj with rfl | hj
        · exact ph.lt
        · exact h.vlt j hj
      · rw [set_getD hlt] at hl
        split at hl
        · cases hl
        · rename_i hne
          rcases List.mem_cons.1 hj with e | hj
          · exact absurd e hne
          · exact hpend j (h.pnd j hj hl) hl
      · exact List.mem_cons_of_mem _ (h.pV j (List.mem_filter.1 hj).1)
      · exact h.pw p (List.mem_filter.1 hp).1 q (List.mem_filter.1 hq).1 hne
      · exact h.slf p (List.mem_filter.1 hp).1
      · exact h.lt p (List.mem_filter.1 hp).1 k hks (fun hm => hkV (List.mem_cons_of_mem _ hm)) hkl
      · obtain ⟨g1, g2, g3, g4, g5⟩ := h.ev e he
        have hset : ∀ j, lst.getD j false = true → (lst.setIfInBounds i true).getD j false = true := fun j hj => by
          rw [set_getD hlt]
          split
          · rfl
          · exact hj
        refine ⟨fun hm => ?_, g2, hset _ g3, fun j hj => hset j (g4 j hj), g5⟩
        rcases List.mem_cons.1 hm with h3 | h3
        · rw [h3, hun] at g3
          cases g3
        · exact g1 h3
      · refine hB.step (fun e he => put_tmp_ne (fun hd => ?_)) ?_
        · exact (hearly e he).2 (by rw [(h.late he).2, hdst, hd])
        · obtain ⟨M', hI, hR, hd, hC⟩ := hat
          refine ⟨M', hI, hR.le (fun d hv => ?_), hd, hC⟩
          obtain ⟨hx, hg⟩ := valid_append.1 hv
          refine valid_append.2 ⟨maskX_valid.2 fun q hq hql => ?_, hg⟩
          have hqi : q ≠ i := fun e => ph.nV (by rw [← e]; exact h.pV q hq)
          exact (maskX_valid.1 hx) q (hpend q hq hql) (by rw [set_getD hlt, if_neg hqi]; exact hql)
      · exact pendX_mem hK.1 p (hrc p hp)

/-- A variable that has come up early is asked for. -/
theorem simX_take {lst : Array Bool} {V pend rc : List Nat} {es : List Early} {st : St} {a : Act} {w : World} {i : Nat} {l : List (Nat × Bool × List Nat)} {K : St → Prop} {KP : AV → St → Prop}
    (h : SimX P df ops dl w0 F W0 M0 r0 lst V pend es st a w) (hb : planB2 ops V pend ((i, true, rc) :: l) = true) (hk : (planX P cf df ops.toList ((i, true, rc) :: l) st).sem K KP) {e : Early} (he : e ∈ es) (hei : e.i = i) :
    ∃ es' st' pend', SimX P df ops dl w0 F W0 M0 r0 lst (i :: V) pend' es' st' a w ∧ planB2 ops (i :: V) pend' l = true ∧ (planX P cf df ops.toList l st').sem K KP := by
  have ph := planB2_head hb
  have hrc := ph.rc
  have hrest := ph.rest
  simp only [if_true] at hrc hrest
  obtain ⟨g1, g2, g3, g4, ty, p0, ar, inf, ho', hinf, hzv⟩ := h.ev e he
  rw [hei] at ho' g3 g4
  have ho : ops.toList[i]? = some ⟨some e.d, .alloc e.t, ty, p0, ar, none⟩ := by simpa using ho'
  simp only [planX] at hk
  rw [ho] at hk
  simp only at hk
  have hlooks : looksOf ops i = Oper.looksAt ops ⟨some e.d, .alloc e.t, ty, p0, ar, none⟩ := by simp [looksOf, ho']
  have hdst : dstOf ops i = some e.d := by simp [dstOf, ho']
  have hz : zero? P e.t = some (e.z.cells.toList.map constA) := by
    unfold zero?
    rw [hinf]
    simp [hzv]
  have hop : opX P cf ops.toList ⟨some e.d, .alloc e.t, ty, p0, ar, none⟩ st = if (e.z.cells.toList.map constA).all oneA = true then .val ((st.new (e.z.cells.toList.map constA)).put (some e.d) (.ptr st.b.length 0)) else .no := by
    unfold opX
    have hw : wantX ops.toList ⟨some e.d, .alloc e.t, ty, p0, ar, none⟩ st = .yes := rfl
    rw [hw]
    simp only [opB, allocB, hz, runC]
    cases hone : (e.z.cells.toList.map constA).all oneA <;> simp
  rw [hop] at hk
  obtain ⟨M, w1, F1, hB⟩ := h.at_
  have hone := (hB.early e he).one
  rw [if_pos hone] at hk
  simp only at hk
  split at hk
  case h_2 => exact hk.elim
  rename_i hp
  have hpend : ∀ q ∈ pend, lst.getD q false = false → q ∈ pend.filter fun p => !(depsOf ops i).contains p := by
    intro q hq hql
    refine List.mem_filter.2 ⟨hq, ?_⟩
    have : q ∉ depsOf ops i := fun hd => by
      rw [g4 q hd] at hql
      cases hql
    simpa using this
  have htl : e.d < st.t.length := by
    have := h.tl i e.d (by simp [isLate, ho']) hdst
    rw [hB.rg.1] at this
    exact this
  refine ⟨es.filter fun e' => e'.i != i, _, pend.filter fun p => !(depsOf ops i).contains p, { hs := h.hs, sub := fun j hj => ?_, vlt := fun j hj => ?_, pnd := fun j hj hl => ?_, pV := fun j hj => ?_, pw := fun p hp q hq hne => ?_, slf := fun p hp => ?_, lt := fun p hp k hks hkV hkl => ?_, ev := fun e' he' => ?_, ei := fun e1 h1 e2 h2 => h.ei e1 (List.mem_filter.1 h1).1 e2 (List.mem_filter.1 h2).1, at_ := ?_, pok := fun p hp' hl => pendX_mem hp p (hrc p hp'), tl := h.tl }, hrest, hk⟩
  · rcases h.sub j hj with h3 | ⟨e', he', h3⟩
    · exact .inl (List.mem_cons_of_mem _ h3)
    · by_cases hji : j = i
      · exact .inl (by rw [hji]; exact List.mem_cons_self ..)
      · exact .inr ⟨e', List.mem_filter.2 ⟨he', by simp [h3, hji]⟩, h3⟩
  · rcases List.mem_cons.1 hj with rfl | hj
    · exact ph.lt
    · exact h.vlt j hj
  · rcases List.mem_cons.1 hj with e' | hj
    · rw [e', g3] at hl
      cases hl
    · exact hpend j (h.pnd j hj hl) hl
  · exact List.mem_cons_of_mem _ (h.pV j (List.mem_filter.1 hj).1)
  · exact h.pw p (List.mem_filter.1 hp).1 q (List.mem_filter.1 hq).1 hne
  · exact h.slf p (List.mem_filter.1 hp).1
  · exact h.lt p (List.mem_filter.1 hp).1 k hks (fun hm => hkV (List.mem_cons_of_mem _ hm)) hkl
  · obtain ⟨m1, m2⟩ := List.mem_filter.1 he'
    obtain ⟨k1, k2⟩ := h.ev e' m1
    refine ⟨fun hm => ?_, k2⟩
    rcases List.mem_cons.1 hm with h3 | h3
    · rw [h3] at m2
      simp at m2
    · exact k1 h3
  · refine AtX.take ⟨M, w1, F1, hB⟩ e he _ (fun e' => ?_) (fun d hd hv => ?_) htl
    · constructor
      · intro hm
        obtain ⟨m1, m2⟩ := List.mem_filter.1 hm
        refine ⟨m1, fun hee => ?_⟩
        rw [hee, hei] at m2
        simp at m2
      · rintro ⟨m1, m2⟩
        refine List.mem_filter.2 ⟨m1, ?_⟩
        have : e'.i ≠ i := fun h3 => m2 (h.ei e' m1 e he (by rw [h3, hei]))
        simpa using this
    · obtain ⟨hx, hg⟩ := valid_append.1 hv
      refine valid_append.2 ⟨maskX_valid.2 fun q hq hql => (maskX_valid.1 hx) q (hpend q hq hql) hql, maskE_valid.2 fun e' he' => ?_⟩
      by_cases hee : e' = e
      · rw [hee]
        exact fun h3 => hd h3.symm
      · refine (maskE_valid.1 hg) e' (List.mem_filter.2 ⟨he', ?_⟩)
        have : e'.i ≠ i := fun h3 => hee (h.ei e' he' e he (by rw [h3, hei]))
        simpa using this

theorem planX_sound (hE : E.Ok P) (hc : CallOk cf E) (hdt : DetOk cf df) (hkd : ∀ o ∈ ops.toList, ∀ (a : Act) u, dl a → dl (a.put o.dst u)) (hB : backB ops = true) (hL : lateX P ops = true) {K : St → Prop} {KP : AV → St → Prop} {Q : Exit → Act → World → Prop}
    (next' : ∀ st a w, At dl w0 F W0 M0 r0 [] st a w → K st → Q .normal a w)
    (panics : ∀ x st u a w, AtP dl w0 F W0 M0 r0 x st u a w → KP x st → Q (.panic [{ v := u, recovered := false }]) a w) :
    ∀ (fuel : Nat) (lst : Array Bool) (V pend : List Nat) (l : List (Nat × Bool × List Nat)) (es : List Early) (st : St) (a : Act) (w : World), unl ops lst ≤ fuel → SimX P df ops dl w0 F W0 M0 r0 lst V pend es st a w → planB2 ops V pend l = true → (planX P cf df ops.toList l st).sem K KP →
      wpAny P .any ops Q fuel lst a w := by
  have done : ∀ (l : List (Nat × Bool × List Nat)) (lst : Array Bool) (V pend : List Nat) (es : List Early) (st : St) (a : Act) (w : World), (∀ i, i < ops.size → lst.getD i false = true) → SimX P df ops dl w0 F W0 M0 r0 lst V pend es st a w → planB2 ops V pend l = true → (planX P cf df ops.toList l st).sem K KP → Q .normal a w := by
    intro l
    induction l with
    | nil =>
      intro lst V pend es st a w hall h hb hk
      have hes : es = [] := by
        cases es with
        | nil => rfl
        | cons e es =>
          obtain ⟨g1, g2, _⟩ := h.ev e (List.mem_cons_self ..)
          have := List.all_eq_true.1 hb e.i (List.mem_range.2 g2)
          exact absurd (by simpa using this) g1
      subst hes
      refine next' st a w ?_ hk
      obtain ⟨M, hI, hR, hd, hC⟩ := h.at_.at_
      refine ⟨M, hI, hR.le (fun d hv => valid_append.2 ⟨maskX_valid.2 fun q hq hql => ?_, maskE_valid.2 fun e he => (nomatch he)⟩), hd, hC⟩
      rw [hall q (h.vlt q (h.pV q hq))] at hql
      cases hql
    | cons x l ihl =>
      intro lst V pend es st a w hall h hb hk
      obtain ⟨i, ch, rc⟩ := x
      have ph := planB2_head hb
      cases ch with
      | false =>
        obtain ⟨st', hs, hb', hk'⟩ := simX_still h hb hk
        exact ihl _ _ _ _ _ _ _ hall hs hb' hk'
      | true =>
        rcases h.sub i (hall i ph.lt) with h1 | ⟨e, he, hei⟩
        · exact absurd h1 ph.nV
        · obtain ⟨es', st', pend', hs, hb', hk'⟩ := simX_take h hb hk he hei
          exact ihl _ _ _ _ _ _ _ hall hs hb' hk'
  have alls : ∀ lst : Array Bool, unl ops lst ≤ 0 → ∀ i, i < ops.size → lst.getD i false = true := by
    intro lst h i hi
    have : ((List.range ops.size).filter fun i => !lst.getD i false) = [] := List.eq_nil_of_length_eq_zero (Nat.le_zero.1 h)
    have := List.filter_eq_nil_iff.1 this i (List.mem_range.2 hi)
    simpa using this
  intro fuel
  induction fuel with
  | zero =>
    intro lst V pend l es st a w hu h hb hk
    have hall := alls lst hu
    refine ⟨?_, done l lst V pend es st a w hall h hb hk⟩
    refine List.eq_nil_iff_forall_not_mem.2 (fun i hi => ?_)
    obtain ⟨h1, ⟨o, ho⟩, _⟩ := ready_deps hi
    have hlt : i < ops.size := (Array.getElem?_eq_some_iff.1 ho).1
    have := (lst_lt h1).2
    rw [hall i hlt] at this
    cases this
  | succ fuel ih =>
    intro lst V pend l es st a w hu h hb hk
    refine ⟨fun hr => done l lst V pend es st a w (ready_nil hB h.hs hr) h hb hk, fun i hi => ?_⟩
    obtain ⟨h1, ⟨o, ho⟩, h2⟩ := ready_deps hi
    obtain ⟨hlt, hun⟩ := lst_lt h1
    have hin : i < ops.size := (Array.getElem?_eq_some_iff.1 ho).1
    have hu' : unl ops (lst.setIfInBounds i true) ≤ fuel := by
      have := unl_set (ops := ops) hin hlt hun
      omega
    clear hu
    induction l generalizing V pend es st with
    | nil =>
      have hV : i ∈ V := by
        have := List.all_eq_true.1 hb i (List.mem_range.2 hin)
        simpa using this
      exact simX_pend hE hc hdt hkd h (h.pnd i hV hun) hi (fun a' w' hs => ih _ _ _ _ _ _ _ _ hu' hs hb hk)
    | cons x l ihl =>
      by_cases hV : i ∈ V
      · exact simX_pend hE hc hdt hkd h (h.pnd i hV hun) hi (fun a' w' hs => ih _ _ _ _ _ _ _ _ hu' hs hb hk)
      · obtain ⟨j, ch, rc⟩ := x
        cases ch with
        | false =>
          obtain ⟨st', hs, hb', hk'⟩ := simX_still h hb hk
          exact ihl _ _ _ _ hs hb' hk'
        | true =>
          have ph := planB2_head hb
          by_cases hj : ∃ e ∈ es, e.i = j
          · obtain ⟨e, he, hej⟩ := hj
            obtain ⟨es', st', pend', hs, hb', hk'⟩ := simX_take h hb hk he hej
            exact ihl _ _ _ _ hs hb' hk'
          · by_cases hij : i = j
            · subst hij
              exact simX_chain hE hc hkd h hb hk hi (fun st' pend' a' w' hs hb' hk' => ih _ _ _ _ _ _ _ _ hu' hs hb' hk') panics
            · cases hl : isLate ops i with
              | true => exact simX_early hL hkd h hV hl hi (fun e a' w' hs => ih _ _ _ _ _ _ _ _ hu' hs hb hk)
              | false =>
                exfalso
                obtain ⟨q, hq, hqV, hql⟩ := ph.only rfl i hin hV hij hl
                rcases h.sub q (h2 q hq) with h3 | ⟨e, he, h3⟩
                · exact hqV h3
                · have h4 := (h.late he).1
                  rw [h3] at h4
                  exact hj ⟨e, he, by rw [h3]; exact hql h4⟩

/-- Temporaries of variables that may come up early are there. -/
def lateT (ops : Array Oper) (n : Nat) : Bool := (List.range ops.size).all fun k => !isLate ops k || match dstOf ops k with
  | some d => decide (d < n)
  | none => true
/-- A region whose order is drawn. -/
theorem drawnX_sound (hE : E.Ok P) (hc : CallOk cf E) (hdt : DetOk cf df) (hkd : ∀ o ∈ ops.toList, ∀ (a : Act) u, dl a → dl (a.put o.dst u)) (hm : P.follows .mixedOrders = true) {id : Nat} {plan : List (Nat × Bool × List Nat)} (hB : planOk P ops plan = true) {K : St → Prop} {KP : AV → St → Prop} {Q : Exit → Act → World → Prop} {st : St} {a : Act} {w : World}
    (hT : lateT ops st.t.length = true) (h : At dl w0 F W0 M0 r0 [] st a w) (hk : (planX P cf df ops.toList plan st).sem K KP)
    (next' : ∀ st a w, At dl w0 F W0 M0 r0 [] st a w → K st → Q .normal a w)
    (panics : ∀ x st u a w, AtP dl w0 F W0 M0 r0 x st u a w → KP x st → Q (.panic [{ v := u, recovered := false }]) a w) : (Code.region id ops true).wp P Q a w := by
  simp only [planOk, Bool.and_eq_true] at hB
  refine wp_region_any hm (planX_sound hE hc hdt hkd hB.1 hB.2.1 next' panics ops.size _ [] [] plan [] st a _ ?_ ?_ hB.2.2 hk)
  · refine Nat.le_trans (List.length_filter_le _ _) (by simp)
  · have hsz : a.tmps.size = st.t.length := by
      obtain ⟨M, hI, hR, hd, hC⟩ := h
      exact hR.1
    have h' : At dl w0 F W0 M0 r0 [] st a w.drew := by
      obtain ⟨M, hI, hR, hd, hC⟩ := h
      obtain ⟨hI', hC'⟩ := hI.drew
      exact ⟨M, hI', hR.mono hC', hd, hC.trans hC'⟩
    refine { hs := by simp, sub := fun i hi => ?_, vlt := fun i hi => (nomatch hi), pnd := fun i hi => (nomatch hi), pV := fun i hi => (nomatch hi), pw := fun p hp => (nomatch hp), slf := fun p hp => (nomatch hp), lt := fun p hp => (nomatch hp), ev := fun e he => (nomatch he), ei := fun e he => (nomatch he), at_ := h'.atX, pok := fun p hp => (nomatch hp), tl := fun k d hk hd => ?_ }
    · have : (Array.replicate ops.size false).getD i false = false := by
        simp only [Array.getD, Array.size_replicate]
        split <;> simp
      rw [this] at hi
      cases hi
    · obtain ⟨d', t, ty, p, ar, ho⟩ := isLate_spec hk
      have := List.all_eq_true.1 hT k (List.mem_range.2 (Array.getElem?_eq_some_iff.1 ho).1)
      rw [hk, hd] at this
      rw [hsz]
      simpa using this
end
end Go.PE
end

section
/- Closed calls: code, functions, and that what is given is so (see PeCa, PeCc). -/
set_option linter.unusedVariables false
set_option linter.unusedSimpArgs false
namespace Go.PE
open Go

/-! ### regions that are cut, cleared, constant texts -/
def cutC (P : Program) (nr : Nat) (o : Oper) (st : St) : Option St := match o with
  | ⟨some d, .slice t x lo hi none, _, _, _, none⟩ => match st.ev x with
    | .arr id m => match st.r[id]? with
      | some A => match boundA 0 (lo.map st.ev), boundA A.es.length (hi.map st.ev), sl? P t with
        | some l, some h, some (_, n, _) => match decide (d < st.t.length ∧ nr ≤ id ∧ m = A.es.length ∧ (0 ≤ l ∧ l ≤ h ∧ h ≤ A.es.length) ∧ (n = A.sz ∧ ¬ A.sz = 0 ∧ A.sh = false) ∧ freeB id st.b = true ∧ anyL st.r = false) with
          | true => some ⟨(forgetT id st.t).set d (.arr id (h - l).toNat), st.b, st.r.set id { A with es := (A.es.take h.toNat).drop l.toNat }⟩
          | false => none
        | _, _, _ => none
      | none => none
    | _ => none
  | _ => none
theorem cutC_sound {P : Program} {nr : Nat} {o : Oper} {st s : St} (h : cutC P nr o st = some s) : ∃ q, cutR P nr o st = some q ∧ q.1 ∧ q.2 = s := by
  unfold cutC at h
  split at h
  · split at h
    · rename_i id m hx
      split at h
      · rename_i A hA
        split at h
        · rename_i l h' e n by_ e1 e2 e3
          split at h
          · rename_i hd
            injection h with h
            refine ⟨(_, _), ?_, of_decide_eq_true hd, h⟩
            simp only [cutR, hx, hA, e1, e2, e3]
          · cases h
        · cases h
      · cases h
    · cases h
  · cases h

def litC (P : Program) (l : List Oper) (st : St) : Option St :=
  match l with
  | [⟨some a, .buildSlice t n ps, _, _, _, none⟩, ⟨some b, .convert t1 t2 (.tmp a'), _, _, _, none⟩] => match sl? P t, bytesC ps.toList 0 with
    | some (e, 1, _), some xs => if kd? P e = 14 then (match decide (a' = a ∧ t1 = t ∧ t2 = t ∧ n = xs.length ∧ xs.length ≤ 16777216 ∧ 0 < xs.length ∧ a < st.t.length) with | true => some ⟨(st.t.set a .undef).set b (.d (.list (xs.map fun x => [.int .u8 x]))), st.b, st.r⟩ | false => none) else none
    | _, _ => none
  | _ => none
theorem litC_sound {P : Program} {l : List Oper} {st s : St} (h : litC P l st = some s) : ∃ q, litR P l st = some q ∧ q.1 ∧ q.2 = s := by
  unfold litC at h
  split at h
  · split at h
    · rename_i e by_ xs e1 e2
      split at h
      · rename_i hk
        split at h
        · rename_i hd
          injection h with h
          refine ⟨(_, _), ?_, of_decide_eq_true hd, h⟩
          simp only [litR, e1, e2, hk, if_true]
        · cases h
      · cases h
    · cases h
  · cases h

def clearX0 (P : Program) (l : List Oper) (st : St) : Option St :=
  match l with
  | [⟨some c, .slice t x (some y) none none, _, _, _, none⟩, ⟨none, .call ⟨.builtin .clear, as, ts⟩, _, _, _, none⟩] =>
    match as.toList, ts.toList, st.ev x, st.ev y, sl? P t with
    | [.tmp c'], [t'], .arr id m, .d (.int _ k), some (e, n, _) => match sl? P t', st.r[id]?, zero? P e with
      | some (e', _, _), some A, some z => match toDL [] z with
        | some ds => match decide ((c' = c ∧ c < st.t.length ∧ e' = e) ∧ m = A.es.length ∧ 0 ≤ k ∧ k ≤ m ∧ n = A.sz ∧ A.ety = e ∧ A.sh = false ∧ ds.all oneD = true) with
          | true => some ⟨st.t.set c .undef, st.b, st.r.set id { A with es := A.es.take k.toNat ++ List.replicate (m - k.toNat) ds }⟩
          | false => none
        | none => none
      | _, _, _ => none
    | _, _, _, _, _ => none
  | _ => none
theorem clearC_sound {P : Program} {l : List Oper} {st s : St} (h : clearX0 P l st = some s) : ∃ q, clearR P l st = some q ∧ q.1 ∧ q.2 = s := by
  unfold clearX0 at h
  split at h
  · split at h
    · rename_i c' t' id m kk k e n by_ e1 e2 e3 e4 e5
      split at h
      · rename_i e' n' b' A z f1 f2 f3
        split at h
        · rename_i ds hds
          split at h
          · rename_i hd
            injection h with h
            refine ⟨(_, _), ?_, of_decide_eq_true hd, h⟩
            simp only [clearR, e1, e2, e3, e4, e5, f1, f2, f3, hds]
          · cases h
        · cases h
      · cases h
    · cases h
  · cases h

/-! ### code -/
def iterC (f : St → Option (Ex × St)) : Nat → St → Option (Ex × St)
  | 0, _ => none
  | n + 1, st => match f st with
    | some (.normal, st) => iterC f n st
    | r => r
def rsC (R : RS) : Option (Ex × St) := match R with
  | .no => none
  | .val st => some (.normal, st)
  | .pan v st => some (.panic v, st)
def thenC (R : RS) (f : St → Option (Ex × St)) : Option (Ex × St) := match R with
  | .no => none
  | .val st => f st
  | .pan v st => some (.panic v, st)
def regC (P : Program) (cf : CallF) (pl : Nat → List (Nat × Bool × List Nat)) (id : Nat) (ops : Array Oper) (st : St) : Option (Ex × St) :=
  match cutAt pl id with
  | some i => thenC (opsX P cf ops.toList (ops.toList.take i) st) fun st => match ops.toList[i]? with
    | some o => match cutC P (nrP pl) o st with
      | some s => rsC (opsX P cf ops.toList (ops.toList.drop (i + 1)) s)
      | none => none
    | none => none
  | none => match kindL ops.toList with
    | 0 => rsC (opsX P cf ops.toList ops.toList st)
    | 2 => match litC P (ops.toList.take 2) st with
      | some s => rsC (opsX P cf ops.toList (ops.toList.drop 2) s)
      | none => none
    | _ => thenC (opsX P cf ops.toList (ops.toList.take 2) st) fun st => match clearX0 P (ops.toList.drop 2) st with
      | some s => some (.normal, s)
      | none => none
def evalC (P : Program) (cf : CallF) (df : DetF) (pl : Nat → List (Nat × Bool × List Nat)) (n : Nat) : Code → St → Option (Ex × St)
  | .skip, st => some (.normal, st)
  | .label _, st => some (.normal, st)
  | .seq x y, st => match evalC P cf df pl n x st with
    | some (.normal, st) => evalC P cf df pl n y st
    | r => r
  | .cond c x y, st => match st.ev c with
    | .d (.bool true) => evalC P cf df pl n x st
    | .d (.bool false) => evalC P cf df pl n y st
    | _ => none
  | .block id x, st => match evalC P cf df pl n x st with
    | some (.exit i, st) => if i = id then some (.normal, st) else some (.exit i, st)
    | r => r
  | .exit i, st => some (.exit i, st)
  | .ret, st => some (.ret, st)
  | .loop x, st => iterC (evalC P cf df pl n x) n st
  | .region id ops false, st => match pl (id + 100000) with
    | [] => regC P cf pl id ops st
    | _ => none
  | .region id ops true, st => match pl (id + 100000) with
    | [] => match lateT ops st.t.length with
      | true => rsC (planX P cf df ops.toList (pl id) st)
      | false => none
    | _ => none
  | _, _ => none

/-- Every region of the code that draws has a plan that is good. -/
def drawsX (P : Program) (pl : Nat → List (Nat × Bool × List Nat)) : Code → Bool
  | .seq x y => drawsX P pl x && drawsX P pl y
  | .cond _ x y => drawsX P pl x && drawsX P pl y
  | .block _ x => drawsX P pl x
  | .loop x => drawsX P pl x
  | .region id ops true => planOk P ops (pl id)
  | _ => true

section
variable {dl : Act → Prop} {P : Program} {E : Env} {cf : CallF} {df : DetF} {pl : Nat → List (Nat × Bool × List Nat)} {w0 : World} {F : List Nat} {W0 : World} {M0 : Mem} {r0 : List Arr}

theorem rsC_sem {R : RS} {e : Ex} {s : St} (h : rsC R = some (e, s)) {Q : Ex → St → Prop} (hq : Q e s) : R.sem (fun st => Q .normal st) fun x st => Q (.panic x) st := by
  cases R <;> simp only [rsC] at h
  · cases h
  · injection h with h; injection h with h1 h2; subst h1 h2; exact hq
  · injection h with h; injection h with h1 h2; subst h1 h2; exact hq
theorem thenC_sem {R : RS} {f : St → Option (Ex × St)} {e : Ex} {s : St} (h : thenC R f = some (e, s)) {Q : Ex → St → Prop} (hq : Q e s) {K : St → Prop} (hK : ∀ st, f st = some (e, s) → K st) : R.sem K fun x st => Q (.panic x) st := by
  cases R <;> simp only [thenC] at h
  · cases h
  · exact hK _ h
  · injection h with h; injection h with h1 h2; subst h1 h2; exact hq
theorem opsX_sound (hE : E.Ok P) (hc : CallOk cf E) {ops : Array Oper} {K : St → Prop} {KP : AV → St → Prop} {Q : Exit → Act → World → Prop}
    (next' : ∀ st a w, At dl w0 F W0 M0 r0 [] st a w → K st → Q .normal a w)
    (panics : ∀ x st u a w, AtP dl w0 F W0 M0 r0 x st u a w → KP x st → Q (.panic [{ v := u, recovered := false }]) a w)
    (l : List Oper) (hkd : ∀ o ∈ l, ∀ (a : Act) u, dl a → dl (a.put o.dst u)) (st : St) (a : Act) (w : World) (h : At dl w0 F W0 M0 r0 [] st a w) (hk : (opsX P cf ops.toList l st).sem K KP) : wpList P ops Q l a w := by
  have := opsX_soundT (ops := ops) (Q := Q) hE hc [] next' panics l hkd st a w h hk
  rwa [List.append_nil] at this

theorem regC_sound (hE : E.Ok P) (hc : CallOk cf E) {id : Nat} {ops : Array Oper} {st : St} {a : Act} {w : World} {e : Ex} {s : St} {Q : Ex → St → Prop} (hkd : ∀ o ∈ ops.toList, ∀ (a : Act) u, dl a → dl (a.put o.dst u)) (hnr : r0.length ≤ nrP pl ∨ ∀ i, pl (i + 200000) = [])
    (h0 : At dl w0 F W0 M0 r0 [] st a w) (h : regC P cf pl id ops st = some (e, s)) (hq : Q e s) : (Code.region id ops false).wp P (PostQ dl w0 F W0 M0 r0 Q) a w := by
  have nx : ∀ st a w, At dl w0 F W0 M0 r0 [] st a w → Q .normal st → PostQ dl w0 F W0 M0 r0 Q .normal a w := fun st a w h hq => ⟨st, h, hq⟩
  have px : ∀ x st u a w, AtP dl w0 F W0 M0 r0 x st u a w → Q (.panic x) st → PostQ dl w0 F W0 M0 r0 Q (.panic [{ v := u, recovered := false }]) a w := fun x st u a w h hq => ⟨st, x, u, rfl, h, hq⟩
  unfold regC at h
  split at h
  · rename_i i hci
    have hnr' : r0.length ≤ nrP pl := by
      rcases hnr with h1 | h1
      · exact h1
      · unfold cutAt at hci
        rw [h1] at hci
        cases hci
    have hlist : ops.toList.take i ++ ops.toList.drop i = ops.toList := List.take_append_drop ..
    refine wp_region_list ?_
    rw [← hlist]
    refine opsX_soundT (ops := ops) (Q := PostQ dl w0 F W0 M0 r0 Q) hE hc (ops.toList.drop i) (fun st a w h0 hq => ?_) px _ (fun o ho => hkd o (List.mem_of_mem_take ho)) st a w h0
      (thenC_sem (K := fun st => (match ops.toList[i]? with
        | some o => match cutC P (nrP pl) o st with
          | some s => rsC (opsX P cf ops.toList (ops.toList.drop (i + 1)) s)
          | none => none
        | none => none) = some (e, s)) h hq (fun st h => h))
    split at hq
    case h_2 => cases hq
    rename_i o ho
    split at hq
    case h_2 => cases hq
    rename_i s' hcut
    obtain ⟨q, hq1, hq2, rfl⟩ := cutC_sound hcut
    obtain ⟨hi, rfl⟩ := List.getElem?_eq_some_iff.1 ho
    rw [List.drop_eq_getElem_cons hi]
    exact cut_sound hnr' (hkd _ (List.getElem_mem hi)) h0 hq1 hq2 (fun a w h' => opsX_sound hE hc nx px _ (fun o ho => hkd o (List.mem_of_mem_drop ho)) _ _ _ h' (rsC_sem hq (by assumption)))
  · split at h
    · exact wp_region_list (opsX_sound hE hc nx px _ hkd st a w h0 (rsC_sem h hq))
    · split at h
      case h_2 => cases h
      rename_i s' hs
      obtain ⟨q, hq1, hq2, rfl⟩ := litC_sound hs
      have hl := litK_sound (ops := ops) (Q := PostQ dl w0 F W0 M0 r0 Q) (rest := ops.toList.drop 2) (fun o ho => hkd o (List.mem_of_mem_take ho)) h0 hq1 hq2 (fun a' w' h' => opsX_sound hE hc nx px _ (fun o ho => hkd o (List.mem_of_mem_drop ho)) _ _ _ h' (rsC_sem h hq))
      rw [List.take_append_drop] at hl
      exact wp_region_list hl
    · have := opsX_soundT (ops := ops) (Q := PostQ dl w0 F W0 M0 r0 Q) hE hc (ops.toList.drop 2) (fun st a w h0 hk => clearK_sound (K := fun st => Q .normal st) nx (fun o ho => hkd o (List.mem_of_mem_drop ho)) h0 hk) px _ (fun o ho => hkd o (List.mem_of_mem_take ho)) st a w h0
        (thenC_sem h hq (fun st h => by
          split at h
          case h_2 => cases h
          rename_i s' hs
          obtain ⟨q, hq1, hq2, rfl⟩ := clearC_sound hs
          simp only [clearK, hq1]
          injection h with h; injection h with h1 h2; subst h1 h2
          exact ⟨hq2, hq⟩))
      rw [List.take_append_drop] at this
      exact wp_region_list this

theorem evalC_sound (hE : E.Ok P) (hc : CallOk cf E) (hdt : DetOk cf df) (hm : P.follows .mixedOrders = true) (n : Nat) : ∀ (c : Code), Keeps dl c → drawsX P pl c = true → (r0.length ≤ nrP pl ∨ ∀ i, pl (i + 200000) = []) → ∀ (st : St) (e : Ex) (s : St) (a : Act) (w : World) (Q : Ex → St → Prop), At dl w0 F W0 M0 r0 [] st a w → evalC P cf df pl n c st = some (e, s) → Q e s → c.wp P (PostQ dl w0 F W0 M0 r0 Q) a w := by
  intro c
  induction c with
  | skip =>
    intro _ _ _ st e s a w Q h hk hq
    simp only [evalC] at hk; injection hk with hk; injection hk with h1 h2; subst h1 h2
    exact wp_skip ⟨st, h, hq⟩
  | label l =>
    intro _ _ _ st e s a w Q h hk hq
    simp only [evalC] at hk; injection hk with hk; injection hk with h1 h2; subst h1 h2
    exact wp_label ⟨st, h, hq⟩
  | exit i =>
    intro _ _ _ st e s a w Q h hk hq
    simp only [evalC] at hk; injection hk with hk; injection hk with h1 h2; subst h1 h2
    exact wp_exit ⟨st, h, hq⟩
  | ret =>
    intro _ _ _ st e s a w Q h hk hq
    simp only [evalC] at hk; injection hk with hk; injection hk with h1 h2; subst h1 h2
    exact wp_ret ⟨st, h, hq⟩
  | seq x y ihx ihy =>
    intro hkd hdr hnr st e s a w Q h hk hq
    simp only [drawsX, Bool.and_eq_true] at hdr
    simp only [evalC] at hk
    split at hk
    · rename_i st' hs
      refine wp_seq (Go.wp_mono (ihx hkd.1 hdr.1 hnr st _ _ a w (fun e' s' => e' = .normal ∧ s' = st') h hs ⟨rfl, rfl⟩) (fun e' a' w' hp => ?_))
      cases e' with
      | normal =>
        obtain ⟨s1, h1, _, rfl⟩ := hp
        exact ihy hkd.2 hdr.2 hnr s1 e s a' w' Q h1 hk hq
      | exit i => obtain ⟨_, _, he, _⟩ := hp; cases he
      | ret => obtain ⟨_, _, he, _⟩ := hp; cases he
      | panic ch => obtain ⟨_, _, _, _, _, he, _⟩ := hp; cases he
      | goto l => exact hp.elim
      | outgrown => exact hp.elim
    · rename_i hne
      refine wp_seq (Go.wp_mono (ihx hkd.1 hdr.1 hnr st e s a w (fun e' s' => (e' = e ∧ s' = s) ∧ Q e' s') h hk ⟨⟨rfl, rfl⟩, hq⟩) (fun e' a' w' hp => ?_))
      cases e' with
      | normal =>
        obtain ⟨s1, h1, ⟨he, rfl⟩, _⟩ := hp
        subst he
        exact absurd hk (hne s1)
      | exit i => obtain ⟨s1, h1, _, h2⟩ := hp; exact ⟨s1, h1, h2⟩
      | ret => obtain ⟨s1, h1, _, h2⟩ := hp; exact ⟨s1, h1, h2⟩
      | panic ch => obtain ⟨s1, x, u, e1, h1, _, h2⟩ := hp; exact ⟨s1, x, u, e1, h1, h2⟩
      | goto l => exact hp.elim
      | outgrown => exact hp.elim
  | cond c x y ihx ihy =>
    intro hkd hdr hnr st e s a w Q h hk hq
    simp only [drawsX, Bool.and_eq_true] at hdr
    simp only [evalC] at hk
    have hrep : ∀ b, st.ev c = .d (.bool b) → a.eval c = .bool b := by
      intro b hb
      obtain ⟨M, hI, hR, hd, hC⟩ := h
      have hrep := ev_rep (a := a) (st := st) (w := w) (M := M) (r := st.r) ⟨hR.1, fun i hi => hR.2 i hi (fun p hp => absurd hp (by simp))⟩ c
      rw [hb] at hrep
      have hrep := hrep.d_inv
      generalize a.eval c = u at hrep
      cases hrep
      rfl
    split at hk
    · rename_i hv
      exact wp_cond_split (hrep _ hv) (fun _ => ihx hkd.1 hdr.1 hnr st e s a w Q h hk hq) (fun e' => by cases e')
    · rename_i hv
      exact wp_cond_split (hrep _ hv) (fun e' => by cases e') (fun _ => ihy hkd.2 hdr.2 hnr st e s a w Q h hk hq)
    · cases hk
  | block id x ih =>
    intro hkd hdr hnr st e s a w Q h hk hq
    simp only [evalC] at hk
    have main : ∀ e1 s1, evalC P cf df pl n x st = some (e1, s1) → (∀ i, e1 = .exit i → if i = id then e = .normal ∧ s = s1 else e = .exit i ∧ s = s1) → ((∀ i, e1 ≠ .exit i) → e = e1 ∧ s = s1) → (Code.block id x).wp P (PostQ dl w0 F W0 M0 r0 Q) a w := by
      intro e1 s1 hx hex hno
      refine wp_block (Go.wp_mono (ih hkd hdr hnr st e1 s1 a w (fun e' s' => e' = e1 ∧ s' = s1) h hx ⟨rfl, rfl⟩) (fun e' a' w' hp => ?_))
      cases e' with
      | exit i =>
        obtain ⟨st', h', he, hs⟩ := hp
        simp only [Exit.inBlock]
        have h2 := hex i he.symm
        split
        · rename_i hid
          rw [if_pos hid] at h2
          refine ⟨st', h', ?_⟩
          rw [hs, ← h2.2, ← h2.1]
          exact hq
        · rename_i hid
          rw [if_neg hid] at h2
          refine ⟨st', h', ?_⟩
          rw [hs, ← h2.2, ← h2.1]
          exact hq
      | normal =>
        obtain ⟨st', h', he, hs⟩ := hp
        have h2 := hno (fun i hi => by rw [hi] at he; cases he)
        exact ⟨st', h', by rw [he, hs, ← h2.1, ← h2.2]; exact hq⟩
      | ret =>
        obtain ⟨st', h', he, hs⟩ := hp
        have h2 := hno (fun i hi => by rw [hi] at he; cases he)
        exact ⟨st', h', by rw [he, hs, ← h2.1, ← h2.2]; exact hq⟩
      | panic ch =>
        obtain ⟨st', x', u, e1', h', he, hs⟩ := hp
        have h2 := hno (fun i hi => by rw [hi] at he; cases he)
        exact ⟨st', x', u, e1', h', by rw [he, hs, ← h2.1, ← h2.2]; exact hq⟩
      | goto l => exact hp.elim
      | outgrown => exact hp.elim
    split at hk
    · rename_i i st' hs
      refine main _ _ hs (fun j hj => ?_) (fun hno => absurd rfl (hno i))
      injection hj with hj
      subst hj
      split at hk
      · rename_i hid
        rw [if_pos hid]
        injection hk with hk; injection hk with h1 h2
        exact ⟨h1.symm, h2.symm⟩
      · rename_i hid
        rw [if_neg hid]
        injection hk with hk; injection hk with h1 h2
        exact ⟨h1.symm, h2.symm⟩
    · rename_i hne
      exact main _ _ hk (fun i hi => by subst hi; exact absurd hk (hne i s)) (fun _ => ⟨rfl, rfl⟩)
  | loop x ih =>
    intro hkd hdr hnr st e s a w Q h hk hq
    simp only [evalC] at hk
    refine wp_loop_ghost (fun m a w => ∃ st, At dl w0 F W0 M0 r0 [] st a w ∧ iterC (evalC P cf df pl n x) m st = some (e, s)) n ⟨st, h, hk⟩ (fun m a w hn => ?_)
    obtain ⟨st, h, hk⟩ := hn
    cases m with
    | zero => cases hk
    | succ m =>
      simp only [iterC] at hk
      split at hk
      · rename_i st' hs
        refine Go.wp_mono (ih hkd hdr hnr st _ _ a w (fun e' s' => e' = .normal ∧ s' = st') h hs ⟨rfl, rfl⟩) (fun e' a' w' hp => ?_)
        cases e' with
        | normal =>
          obtain ⟨s1, h1, _, rfl⟩ := hp
          exact ⟨m, Nat.lt_succ_self m, s1, h1, hk⟩
        | exit i => obtain ⟨_, _, he, _⟩ := hp; cases he
        | ret => obtain ⟨_, _, he, _⟩ := hp; cases he
        | panic ch => obtain ⟨_, _, _, _, _, he, _⟩ := hp; cases he
        | goto l => exact hp
        | outgrown => exact hp
      · rename_i hne
        refine Go.wp_mono (ih hkd hdr hnr st e s a w (fun e' s' => (e' = e ∧ s' = s) ∧ Q e' s') h hk ⟨⟨rfl, rfl⟩, hq⟩) (fun e' a' w' hp => ?_)
        cases e' with
        | normal =>
          obtain ⟨s1, h1, ⟨he, rfl⟩, _⟩ := hp
          subst he
          exact absurd hk (hne s1)
        | exit i => obtain ⟨s1, h1, _, h2⟩ := hp; exact ⟨s1, h1, h2⟩
        | ret => obtain ⟨s1, h1, _, h2⟩ := hp; exact ⟨s1, h1, h2⟩
        | panic ch => obtain ⟨s1, x, u, e1, h1, _, h2⟩ := hp; exact ⟨s1, x, u, e1, h1, h2⟩
        | goto l => exact hp
        | outgrown => exact hp
  | region id ops b =>
    intro hkd hdr hnr st e s a w Q h hk hq
    cases b with
    | false =>
      simp only [evalC] at hk
      split at hk
      · exact regC_sound hE hc hkd hnr h hk hq
      · cases hk
    | true =>
      simp only [evalC] at hk
      split at hk
      · split at hk
        · rename_i hT
          exact drawnX_sound hE hc hdt hkd hm hdr hT h (rsC_sem hk hq) (fun st a w h hq => ⟨st, h, hq⟩) (fun x st u a w h hq => ⟨st, x, u, rfl, h, hq⟩)
        · cases hk
      · cases hk
  | _ => intro _ _ _ st e s a w Q h hk hq; simp only [evalC] at hk; cases hk
end

end Go.PE
end

section
/- Closed calls: functions; a closed call is what is reckoned (see PeCd). -/
set_option linter.unusedVariables false
set_option linter.unusedSimpArgs false
namespace Go.PE
open Go

/-! ### functions -/
def resuC (P : Program) (st : St) : List ResultVar → Option (List AV)
  | [] => some []
  | .tmp t :: l => match resuC P st l with
    | some vs => some (st.t.getD t .undef :: vs)
    | none => none
  | .cell a t :: l => match ty? P t, st.t.getD a .undef with
    | some (g, n), .ptr id off => match st.b[id]? with
      | some cells => if off + n ≤ cells.length then (match resuC P st l with
        | some vs => some (mkV g ((cells.drop off).take n) :: vs)
        | none => none) else none
      | none => none
    | _, _ => none
theorem resuC_sound {P : Program} {st : St} : ∀ (l : List ResultVar) {vs : List AV} {K : List AV → Prop}, resuC P st l = some vs → K vs → resK P st l K
  | [], vs, K, h, hK => by simp only [resuC] at h; injection h with h; subst h; exact hK
  | .tmp t :: l, vs, K, h, hK => by
    simp only [resuC] at h
    split at h
    · rename_i vs' hv
      injection h with h; subst h
      exact resuC_sound l hv hK
    · cases h
  | .cell a t :: l, vs, K, h, hK => by
    simp only [resuC] at h
    simp only [resK]
    split at h
    · rename_i g n id off e1 e2
      rw [e1, e2]
      simp only
      split at h
      · rename_i cells e3
        rw [e3]
        simp only
        split at h
        · rename_i hl
          split at h
          · rename_i vs' hv
            injection h with h; subst h
            exact ⟨hl, resuC_sound l hv hK⟩
          · cases h
        · cases h
      · cases h
    · cases h

def endC (P : Program) (rs : List ResultVar) (x : Option (Ex × St)) : Option (Out × List (List AV) × List Arr) := match x with
  | some (.normal, st) => match resuC P st rs with
    | some vs => some (.ret (oneV vs), st.b, st.r)
    | none => none
  | some (.ret, st) => match resuC P st rs with
    | some vs => some (.ret (oneV vs), st.b, st.r)
    | none => none
  | some (.panic x, st) => some (.panic x, st.b, st.r)
  | _ => none
/-- Code with a range over a function on its spine. -/
def isH : Code → Bool
  | .seq a b => (lastR a).isSome || isH b
  | _ => false
def evalHC (P : Program) (cf : CallF) (df : DetF) (pl : Nat → List (Nat × Bool × List Nat)) (n : Nat) : Code → St → Option (Ex × St)
  | .seq a b, st => match lastR a with
    | some (c0, g) => match evalC P cf df pl n c0 st with
      | some (.normal, st1) => match st1.ev g with
        | .fn (.func gf) [] caps => match cf gf (.undef :: caps) st1.b st1.r with
          | some (.ret _, b', r') => evalC P cf df pl n b ⟨st1.t, b', r'⟩
          | _ => none
        | _ => none
      | some (.ret, st1) => some (.ret, st1)
      | _ => none
    | none => match evalC P cf df pl n a st with
      | some (.normal, st1) => evalHC P cf df pl n b st1
      | some (.ret, st1) => some (.ret, st1)
      | _ => none
  | _, _ => none
def drawsHX (P : Program) (pl : Nat → List (Nat × Bool × List Nat)) : Code → Bool
  | .seq a b => (match lastR a with
    | some (c0, _) => drawsX P pl c0 && drawsX P pl b
    | none => drawsX P pl a && drawsHX P pl b)
  | _ => true
def drawsW (P : Program) (pl : Nat → List (Nat × Bool × List Nat)) (c : Code) : Bool := match isH c with
  | true => drawsHX P pl c
  | false => drawsX P pl c
def evalW (P : Program) (cf : CallF) (df : DetF) (pl : Nat → List (Nat × Bool × List Nat)) (n : Nat) (c : Code) (st : St) : Option (Ex × St) := match isH c with
  | true => (match evalHC P cf df pl n c st with
    | some (.normal, s) => some (.normal, s)
    | some (.ret, s) => some (.ret, s)
    | _ => none)
  | false => evalC P cf df pl n c st
def bodyC (P : Program) (cf : CallF) (df : DetF) (pl : Nat → List (Nat × Bool × List Nat)) (n : Nat) (fn : Func) (c : Code) (args : List AV) (b : List (List AV)) (r : List Arr) : Option (Out × List (List AV) × List Arr) :=
  endC P fn.results.toList (evalW P cf df pl n c ⟨args ++ List.replicate (fn.ntmps - args.length) .undef, b, r⟩)
structure Ent where
  f : FuncId
  mem : Bool
  pl : List (Nat × List (Nat × Bool × List Nat))
  ext : Option (List D → Option AV)
def plOf : List (Nat × List (Nat × Bool × List Nat)) → Nat → List (Nat × Bool × List Nat)
  | [], _ => []
  | (k, v) :: l, i => if k = i then v else plOf l i
def entOf : List Ent → FuncId → Option Ent
  | [], _ => none
  | e :: l, f => if e.f = f then some e else entOf l f
def noCut (l : List (Nat × List (Nat × Bool × List Nat))) : Bool := l.all fun p => decide (p.1 < 200000)
theorem noCut_sound : ∀ {l : List (Nat × List (Nat × Bool × List Nat))}, noCut l = true → ∀ i, plOf l (i + 200000) = []
  | [], _, _ => rfl
  | (k, v) :: l, h, i => by
    simp only [noCut, List.all_cons, Bool.and_eq_true, decide_eq_true_eq] at h
    have hne : k ≠ i + 200000 := by omega
    simp only [plOf, hne, if_false]
    exact noCut_sound h.2 i
def okE (P : Program) (e : Ent) : Bool := match e.ext with
  | some _ => !e.mem
  | none => match P.funcs[e.f]? with
    | some fn => match fn.body with
      | some c => !(fn.name == "runtime.NumGoroutine") && drawsW P (plOf e.pl) c && (!isH c || noCut e.pl)
      | none => false
    | none => false
theorem entOf_ok {P : Program} : ∀ {l : List Ent} {f : FuncId} {e : Ent}, l.all (okE P) = true → entOf l f = some e → e.f = f ∧ okE P e = true ∧ e ∈ l
  | [], _, _, _, h => by cases h
  | x :: l, f, e, hl, h => by
    simp only [List.all_cons, Bool.and_eq_true] at hl
    simp only [entOf] at h
    split at h
    · rename_i hf
      injection h with h; subst h
      exact ⟨hf, hl.1, List.mem_cons_self ..⟩
    · obtain ⟨h1, h2, h3⟩ := entOf_ok hl.2 h
      exact ⟨h1, h2, List.mem_cons_of_mem _ h3⟩

def outC (r : List Arr) : Out → Option Out
  | .ret x => match toO r x with | some y => some (.ret y) | none => none
  | .panic x => match toO r x with | some y => some (.panic y) | none => none
def upO (bs : List Nat) (nb : Nat) (rs : List Nat) (nr : Nat) : Out → Out
  | .ret x => .ret (up bs nb rs nr x)
  | .panic x => .panic (up bs nb rs nr x)
def partC (h : List AV → List (List AV) → List Arr → Option (Out × List (List AV) × List Arr)) (bs rs : List Nat) (args : List AV) (b : List (List AV)) (r : List Arr) : Option (Out × List (List AV) × List Arr) :=
  match lowL bs rs args with
  | some args0 => match pickL b bs with
    | some c => match lowB bs rs c with
      | some b0 => match pickL r rs with
        | some r0 => match (nd bs && nd rs) && flatR r0 with
          | true => match h args0 b0 r0 with
            | some (o, b1, r1) => some (upO bs b.length rs r.length o, mergeL bs b (upB bs b.length rs r.length b1), mergeL rs r (upR rs r.length r1))
            | none => none
          | false => none
        | none => none
      | none => none
    | none => none
  | none => none
/-- A plain result leads to nothing that was given. -/
def shareO (r : List Arr) (args : List AV) : Out → List Arr
  | .ret x => match flatA x with
    | true => r
    | false => share r (arrIdsL args)
  | .panic _ => share r (arrIdsL args)
def dtC (T : List Ent) (cf : CallF) : DetF := fun f => match entOf T f with
  | some e => match e.mem with
    | true => none
    | false => some fun ds => match cf f (ds.map .d) [] [] with
      | some (.ret x, _, _) => match dataA x with
        | true => some x
        | false => none
      | _ => none
  | none => none
/-- A function of data. -/
def pureC (g : List D → Option Out) (args : List AV) (b : List (List AV)) (r : List Arr) : Option (Out × List (List AV) × List Arr) := match toDL r args with
  | some ds => match g ds with
    | some o => some (o, b, shareO r args o)
    | none => none
  | none => none
def extC (g : List D → Option AV) (ds : List D) : Option Out := match g ds with
  | some x => some (.ret x)
  | none => none
def runC' (P : Program) (cf : CallF) (df : DetF) (pl : Nat → List (Nat × Bool × List Nat)) (n : Nat) (fn : Func) (c : Code) (ds : List D) : Option Out := match bodyC P cf df pl n fn c (ds.map .d) [] [] with
  | some (o, _, r') => outC r' o
  | none => none
def cutsC (pl : List (Nat × List (Nat × Bool × List Nat))) (h : List AV → List (List AV) → List Arr → Option (Out × List (List AV) × List Arr)) (args : List AV) (b : List (List AV)) (r : List Arr) : Option (Out × List (List AV) × List Arr) :=
  match decide (r.length ≤ nrP (plOf pl)) || noCut pl with
  | true => h args b r
  | false => none
def entC (P : Program) (T : List Ent) (n : Nat) (cf : CallF) (e : Ent) : List AV → List (List AV) → List Arr → Option (Out × List (List AV) × List Arr) := match e.ext with
  | some g => pureC (extC g)
  | none => match P.funcs[e.f]? with
    | some fn => match fn.body with
      | some c => match e.mem with
        | false => pureC (runC' P cf (dtC T cf) (plOf e.pl) n fn c)
        | true => fun args b r => partC (cutsC e.pl (bodyC P cf (dtC T cf) (plOf e.pl) n fn c)) (seeB b args) (seeR b (seeB b args) args) args b r
      | none => fun _ _ _ => none
    | none => fun _ _ _ => none
def callC (P : Program) (T : List Ent) (n : Nat) : Nat → CallF
  | 0, _, _, _, _ => none
  | k + 1, f, args, b, r => match entOf T f with
    | some e => entC P T n (callC P T n k) e args b r
    | none => none

section
variable {P : Program} {E : Env} {cf : CallF} {df : DetF} {pl : Nat → List (Nat × Bool × List Nat)} {w0 : World} {F : List Nat} {M : Mem} {w : World}

theorem Goes.ofC (hE : E.Ok P) (hc : CallOk cf E) (hdt : DetOk cf df) (hm : P.follows .mixedOrders = true) {n : Nat} {c : Code} (hdr : drawsX P pl c = true) (hnc : ∀ i, pl (i + 200000) = []) {st s : St} {e : Ex} (h : evalC P cf df pl n c st = some (e, s)) :
    Goes P c st (fun e' s' => e' = e ∧ s' = s) :=
  fun ds w0 F W0 M0 r0 a w hat => evalC_sound hE hc hdt hm n c (keeps_defers ds c) hdr (.inr hnc) _ _ _ _ _ _ hat h ⟨rfl, rfl⟩
theorem spineG.ofC (hE : E.Ok P) (hc : CallOk cf E) (hdt : DetOk cf df) (hm : P.follows .mixedOrders = true) {n : Nat} (hnc : ∀ i, pl (i + 200000) = []) {fn : Func} {K : Out → List (List AV) → List Arr → Prop} :
    ∀ (c : Code) {st s : St} {e : Ex}, drawsHX P pl c = true → evalHC P cf df pl n c st = some (e, s) → rangeQ P fn K e s → spineG P E fn K c st := by
  intro c
  induction c with
  | seq x y ihx ihy =>
    intro st s e hdr hk hq
    unfold evalHC at hk
    unfold drawsHX at hdr
    unfold spineG
    cases hl : lastR x with
    | none =>
      rw [hl] at hk hdr
      simp only [Bool.and_eq_true] at hk hdr
      split at hk
      · rename_i st1 h1
        refine (Goes.ofC hE hc hdt hm hdr.1 hnc h1).mono (fun e' s' h => ?_)
        obtain ⟨rfl, rfl⟩ := h
        exact ihy hdr.2 hk hq
      · rename_i st1 h1
        injection hk with hk; injection hk with e1 e2; subst e1 e2
        refine (Goes.ofC hE hc hdt hm hdr.1 hnc h1).mono (fun e' s' h => ?_)
        obtain ⟨rfl, rfl⟩ := h
        exact hq
      · cases hk
    | some p =>
      obtain ⟨c0, g⟩ := p
      rw [hl] at hk hdr
      simp only [Bool.and_eq_true] at hk hdr
      split at hk
      · rename_i st1 h1
        refine (Goes.ofC hE hc hdt hm hdr.1 hnc h1).mono (fun e' s' h => ?_)
        obtain ⟨rfl, rfl⟩ := h
        split at hk
        case h_2 => cases hk
        rename_i gf caps hge
        split at hk
        case h_2 => cases hk
        rename_i x b' r' hcall
        refine ⟨fun v s => s = { s' with b := b', r := r' }, ?_, fun v s2 h => ?_⟩
        · unfold rngR
          rw [hge]
          exact hc.h _ _ _ _ _ _ _ hcall _ rfl
        · subst h
          refine (Goes.ofC hE hc hdt hm hdr.2 hnc hk).mono (fun e' s' h => ?_)
          obtain ⟨rfl, rfl⟩ := h
          exact hq
      · rename_i st1 h1
        injection hk with hk; injection hk with e1 e2; subst e1 e2
        refine (Goes.ofC hE hc hdt hm hdr.1 hnc h1).mono (fun e' s' h => ?_)
        obtain ⟨rfl, rfl⟩ := h
        exact hq
      · cases hk
  | _ => intro st s e _ hk _; cases hk
theorem bodyC_calls (hE : E.Ok P) (hc : CallOk cf E) (hdt : DetOk cf df) (hm : P.follows .mixedOrders = true) {f : FuncId} {fn : Func} {c : Code} {n : Nat} (hf : P.funcs[f]? = some fn) (hb : fn.body = some c) (hdr : drawsW P pl c = true) (hH : isH c = true → ∀ i, pl (i + 200000) = []) {b b1 : List (List AV)} {r r1 : List Arr} (hnr : r.length ≤ nrP pl ∨ ∀ i, pl (i + 200000) = []) {vs : Array Value} {args : List AV} {o : Out} {K : Out → List (List AV) → List Arr → Prop}
    (h : Inv w0 F M b r w) (hv : RepL w M r vs args) (hk : bodyC P cf df pl n fn c args b r = some (o, b1, r1)) (hK : K o b1 r1) : Calls P f vs w (EndQ w0 F M r w K) := by
  cases hisH : isH c with
  | true =>
    unfold drawsW at hdr
    rw [hisH] at hdr
    unfold bodyC evalW at hk
    rw [hisH] at hk
    refine spine_calls hE hf hb h hv ?_
    simp only at hk hdr
    cases hev : evalHC P cf df pl n c ⟨args ++ List.replicate (fn.ntmps - args.length) .undef, b, r⟩ with
    | none => rw [hev] at hk; cases hk
    | some q =>
      obtain ⟨e, s⟩ := q
      rw [hev] at hk
      refine spineG.ofC hE hc hdt hm (hH hisH) c hdr hev ?_
      cases e with
      | normal =>
        simp only [endC] at hk
        split at hk
        · rename_i vs hv
          injection hk with hk; injection hk with h1 h2; injection h2 with h2 h3; subst h1 h2 h3
          exact resuC_sound _ hv hK
        · cases hk
      | ret =>
        simp only [endC] at hk
        split at hk
        · rename_i vs hv
          injection hk with hk; injection hk with h1 h2; injection h2 with h2 h3; subst h1 h2 h3
          exact resuC_sound _ hv hK
        · cases hk
      | panic x => cases hk
      | exit i => cases hk
  | false =>
  unfold drawsW at hdr
  rw [hisH] at hdr
  simp only at hdr
  unfold bodyC evalW at hk
  rw [hisH] at hk
  simp only at hk
  refine calls_of_wp hf hb ?_
  have hat : At (fun a => a.defers = []) w0 F w M r [] ⟨args ++ List.replicate (fn.ntmps - args.length) .undef, b, r⟩ { tmps := vs ++ Array.replicate (fn.ntmps - vs.size) undef, defers := [] } w := by
    refine ⟨M, h, ⟨by simp [hv.1], fun i hi _ => ?_⟩, rfl, .refl _ _ _⟩
    rcases Nat.lt_or_ge i args.length with h1 | h1
    · have e1 : (vs ++ Array.replicate (fn.ntmps - vs.size) undef).getD i undef = vs.getD i undef := by
        have h2 : i < vs.size := by rw [hv.1]; exact h1
        simp [Array.getD, h2, Nat.lt_add_right _ h2, Array.getElem_append_left]
      show RepA w M r ((vs ++ Array.replicate (fn.ntmps - vs.size) undef).getD i undef) ((args ++ _).getD i .undef)
      rw [e1, getD_append_lt _ _ _ _ h1]
      exact hv.2 i h1
    · have e : (args ++ List.replicate (fn.ntmps - args.length) AV.undef).getD i .undef = .undef := by
        simp only [List.getD, List.getElem?_append_right h1, List.getElem?_replicate]
        split <;> rfl
      show RepA w M r _ ((args ++ _).getD i .undef)
      rw [e]
      exact .undef _
  have hend : ∃ e s, evalC P cf df pl n c ⟨args ++ List.replicate (fn.ntmps - args.length) .undef, b, r⟩ = some (e, s) ∧ (match e with
      | .normal => resK P s fn.results.toList fun vs => K (.ret (oneV vs)) s.b s.r
      | .ret => resK P s fn.results.toList fun vs => K (.ret (oneV vs)) s.b s.r
      | .panic x => K (.panic x) s.b s.r
      | .exit _ => False) := by
    unfold endC at hk
    split at hk
    · rename_i st hs
      split at hk
      · rename_i vs hv
        injection hk with hk; injection hk with h1 h2; injection h2 with h2 h3; subst h1 h2 h3
        exact ⟨_, _, hs, resuC_sound _ hv hK⟩
      · cases hk
    · rename_i st hs
      split at hk
      · rename_i vs hv
        injection hk with hk; injection hk with h1 h2; injection h2 with h2 h3; subst h1 h2 h3
        exact ⟨_, _, hs, resuC_sound _ hv hK⟩
      · cases hk
    · rename_i x st hs
      injection hk with hk; injection hk with h1 h2; injection h2 with h2 h3; subst h1 h2 h3
      exact ⟨_, _, hs, hK⟩
    · cases hk
  obtain ⟨e0, s0, hev, hq⟩ := hend
  refine Go.wp_mono (evalC_sound hE hc hdt hm n c (keeps_defers [] c) hdr hnr _ e0 s0 _ w (fun e s => match e with
      | .normal => resK P s fn.results.toList fun vs => K (.ret (oneV vs)) s.b s.r
      | .ret => resK P s fn.results.toList fun vs => K (.ret (oneV vs)) s.b s.r
      | .panic x => K (.panic x) s.b s.r
      | .exit _ => False) hat hev hq) (fun e a' w' hq => ?_)
  have ret : ∀ st, At (fun a => a.defers = []) w0 F w M r [] st a' w' → (resK P st fn.results.toList fun vs => K (.ret (oneV vs)) st.b st.r) → a'.defers = [] ∧ ∃ v, (results fn a'.tmps).run P w' = .ok v w' ∧ EndQ w0 F M r w K (.returned v) w' := by
    intro st hst hres
    obtain ⟨M', hI, hR, hd, hC⟩ := hst
    obtain ⟨v, xs, hr, hK, hv⟩ := results_run hI (a := a') ⟨hR.1, fun i hi => hR.2 i hi (fun p hp => absurd hp (by simp))⟩ hres
    exact ⟨hd, v, hr, _, _, _, M', hK, hI, hC, hv⟩
  cases e with
  | normal =>
    obtain ⟨st, hst, hres⟩ := hq
    exact ret st hst hres
  | ret =>
    obtain ⟨st, hst, hres⟩ := hq
    exact ret st hst hres
  | exit i =>
    obtain ⟨st, hst, hres⟩ := hq
    exact hres.elim
  | panic ch =>
    obtain ⟨st, x, u, rfl, ⟨M', hI, hx, hd, hC⟩, hK⟩ := hq
    exact ⟨hd, x, st.b, st.r, M', u, hK, rfl, hI, hC, hx⟩
  | goto l => exact hq.elim
  | outgrown => exact hq.elim

theorem runC_pure (hE : E.Ok P) (hc : CallOk cf E) (hdt : DetOk cf df) (hm : P.follows .mixedOrders = true) {f : FuncId} {fn : Func} {c : Code} {n : Nat} (hf : P.funcs[f]? = some fn) (hn : (fn.name == "runtime.NumGoroutine") = false) (hb : fn.body = some c) (hdr : drawsW P pl c = true) (hH : isH c = true → ∀ i, pl (i + 200000) = []) :
    FPure P f (fun ds K => ∃ o, runC' P cf df pl n fn c ds = some o ∧ K o) := by
  intro w no vs ds K hno hv hs
  obtain ⟨o, hrun, hK⟩ := hs
  unfold runC' at hrun
  split at hrun
  case h_2 => cases hrun
  rename_i o1 b1 r1 hbody
  refine ⟨enters_of hf hn (by rw [hb]; rfl), Calls.mono (bodyC_calls hE hc hdt hm hf hb hdr hH (.inl (Nat.zero_le _)) (mno_inv hno) hv hbody (K := fun o' _ r' => o' = o1 ∧ r' = r1) ⟨rfl, rfl⟩) (fun e w' he => ?_)⟩
  cases e with
  | returned v =>
    obtain ⟨x, b', r', M', ⟨rfl, rfl⟩, hI, hC, hx⟩ := he
    simp only [outC] at hrun
    split at hrun
    · rename_i y hy
      injection hrun with hrun
      subst hrun
      obtain ⟨h1, h2⟩ := toO_rep hI hx hy
      rw [hC.no] at h1
      exact ⟨y, hK, hI.keep, h1, h2⟩
    · cases hrun
  | panicked ch =>
    obtain ⟨x, b', r', M', u, ⟨rfl, rfl⟩, rfl, hI, hC, hx⟩ := he
    simp only [outC] at hrun
    split at hrun
    · rename_i y hy
      injection hrun with hrun
      subst hrun
      obtain ⟨h1, h2⟩ := toO_rep hI hx hy
      rw [hC.no] at h1
      exact ⟨y, u, hK, rfl, hI.keep, h1, h2⟩
    · cases hrun
  | outgrown => exact he.elim

/-- A call of a function of data; a plain result leads to nothing that was given. -/
theorem HOk.pureC {f : FuncId} {g : List D → Option Out} (hp : FPure P f (fun ds K => ∃ o, g ds = some o ∧ K o)) : HOk P f (fun args b r K => ∃ o b' r', PE.pureC g args b r = some (o, b', r') ∧ K o b' r') := by
  intro w0 F M b r w vs args K h1 hv hk
  obtain ⟨o, b', r', hpc, hK⟩ := hk
  unfold PE.pureC at hpc
  split at hpc
  case h_2 => cases hpc
  rename_i ds hds
  split at hpc
  case h_2 => cases hpc
  rename_i o' hg
  injection hpc with hpc; injection hpc with e1 e2; injection e2 with e2 e3; subst e1 e2 e3
  have share : K o' b (PE.share r (arrIdsL args)) → Enters P f ∧ Calls P f vs w (EndQ w0 F M r w K) := by
    intro hK
    exact HOk.ofPure hp h1 hv (by
      unfold specH
      rw [hds]
      exact ⟨o', hg, hK⟩)
  cases o' with
  | panic x => exact share hK
  | ret x =>
    simp only [shareO] at hK
    split at hK
    case h_2 => exact share hK
    rename_i hfl
    obtain ⟨hI, hc⟩ := Inv.shareL (arrIdsL args) h1
    obtain ⟨hl, hrep⟩ := toDL_rep hI hc (shared_share (arrIdsL args) r) args ds hds (fun id hid => hid) (fun i => vs.getD i undef) hv.2
    generalize hr' : PE.share r (arrIdsL args) = r' at *
    let no : Addr → Prop := fun a => ¬ Okc M r' a ∧ a.block < w.heap.size
    have hvs : RepL w (Mno no) [] vs (ds.map .d) := by
      refine ⟨by simp [hl, hv.1], fun i hi => ?_⟩
      have hi' : i < ds.length := by simpa using hi
      rw [getD_map_d _ _ hi']
      exact .d _ _ ((hrep i hi').mono fun a u ho hc => ⟨hc, mno_okc.2 fun hn => hn.1 ho⟩)
    obtain ⟨hent, hcalls⟩ := hp w no vs ds (fun o => o = .ret x) (fun a ha => ha.2) hvs ⟨_, hg, rfl⟩
    refine ⟨hent, Calls.mono hcalls (fun e w' he => ?_)⟩
    cases e with
    | returned v =>
      obtain ⟨x', e, hkeep, hx, hd⟩ := he
      injection e with e
      subst e
      obtain ⟨hI', hc'⟩ := h1.grow hkeep.grown'
      exact ⟨_, b, r, M, hK, hI', hc', flat_rep hx hfl⟩
    | panicked ch =>
      obtain ⟨x', u, e, _⟩ := he
      cases e
    | outgrown => exact he.elim

def handC (cf : CallF) (f : FuncId) : Handler := fun args b r K => ∃ o b' r', cf f args b r = some (o, b', r') ∧ K o b' r'
def envC (cf : CallF) : Env := ⟨handC cf, fun _ => none⟩
theorem envC_ok (cf : CallF) : CallOk cf (envC cf) := ⟨fun f args b r o b' r' h K hK => ⟨o, b', r', h, hK⟩⟩

theorem pureC_any {g : List D → Option Out} {ds : List D} {x : AV} {b1 : List (List AV)} {r1 : List Arr} (h : pureC g (ds.map .d) [] [] = some (.ret x, b1, r1)) {args : List AV} (b : List (List AV)) {r : List Arr} (ha : toDL r args = some ds) (hs : shAll r (arrIdsL args) = true) : pureC g args b r = some (.ret x, b, r) := by
  unfold pureC at h ⊢
  rw [toDL_map] at h
  rw [ha]
  simp only at h ⊢
  split at h
  · rename_i o hg
    injection h with h; injection h with e1 e2
    subst e1
    simp only [shareO, share_of hs]
    split <;> rfl
  · cases h
theorem detC_ok {T : List Ent} (hT : T.all (okE P) = true) {n : Nat} : ∀ k, DetOk (callC P T n k) (dtC T (callC P T n k))
  | 0 => by
    intro f h ds v args b r hf ha hs hv
    unfold dtC at hf
    split at hf
    · split at hf
      · cases hf
      · injection hf with hf
        subst hf
        simp only [callC] at hv
        cases hv
    · cases hf
  | k + 1 => by
    intro f h ds v args b r hf ha hs hv
    unfold dtC at hf
    split at hf
    case h_2 => cases hf
    rename_i e he
    split at hf
    case h_1 => cases hf
    rename_i hme
    injection hf with hf
    subst hf
    simp only at hv
    split at hv
    case h_2 => cases hv
    rename_i x b1 r1 hcall
    split at hv
    case h_2 => cases hv
    injection hv with hv
    subst hv
    simp only [callC, he] at hcall ⊢
    cases hext : e.ext with
    | some g =>
      simp only [entC, hext] at hcall ⊢
      exact pureC_any hcall b ha hs
    | none =>
      simp only [entC, hext] at hcall ⊢
      cases hf : P.funcs[e.f]? with
      | none =>
        rw [hf] at hcall
        cases hcall
      | some fn =>
        rw [hf] at hcall
        simp only at hcall ⊢
        cases hb : fn.body with
        | none =>
          rw [hb] at hcall
          cases hcall
        | some c =>
          rw [hb] at hcall
          simp only [hme] at hcall ⊢
          exact pureC_any hcall b ha hs

theorem callC_sound (hm : P.follows .mixedOrders = true) {T : List Ent} (hT : T.all (okE P) = true) (hX : ∀ e ∈ T, ∀ g, e.ext = some g → FPure P e.f (fun ds K => ∃ o, extC g ds = some o ∧ K o)) (n : Nat) : ∀ (k : Nat) (f : FuncId), HOk P f (handC (callC P T n k) f)
  | 0, f => by
    refine HOk.weaken (HOk.no f) (fun args b r K h => ?_)
    obtain ⟨o, b', r', h, _⟩ := h
    cases h
  | k + 1, f => by
    have hE : (envC (callC P T n k)).Ok P := ⟨fun g => callC_sound hm hT hX n k g, fun g d h => by cases h⟩
    have hc := envC_ok (callC P T n k)
    have hdt := detC_ok (P := P) hT (n := n) k
    cases he : entOf T f with
    | none =>
      refine HOk.weaken (HOk.no f) (fun args b r K h => ?_)
      obtain ⟨o, b', r', h, _⟩ := h
      simp only [callC, he] at h
      cases h
    | some e =>
      obtain ⟨rfl, hok, hmem⟩ := entOf_ok hT he
      have key : HOk P e.f (fun args b r K => ∃ o b' r', entC P T n (callC P T n k) e args b r = some (o, b', r') ∧ K o b' r') := by
        cases hext : e.ext with
        | some g =>
          have := HOk.pureC (hX e hmem g hext)
          simp only [entC, hext]
          exact this
        | none =>
          unfold okE at hok
          rw [hext] at hok
          simp only at hok
          cases hf : P.funcs[e.f]? with
          | none => rw [hf] at hok; cases hok
          | some fn =>
            rw [hf] at hok
            simp only at hok
            cases hb : fn.body with
            | none => rw [hb] at hok; cases hok
            | some c =>
              rw [hb] at hok
              simp only [Bool.and_eq_true, Bool.not_eq_true'] at hok
              obtain ⟨⟨hn, hdr⟩, hcutH⟩ := hok
              have hH : isH c = true → ∀ i, plOf e.pl (i + 200000) = [] := by
                intro h1
                rw [h1] at hcutH
                exact noCut_sound (by simpa using hcutH)
              cases hme : e.mem with
              | false =>
                simp only [entC, hext, hf, hb, hme]
                exact HOk.pureC (runC_pure hE hc hdt hm hf hn hb hdr hH)
              | true =>
                have h0 : HOk P e.f (fun args b r K => ∃ o b' r', cutsC e.pl (bodyC P (callC P T n k) (dtC T (callC P T n k)) (plOf e.pl) n fn c) args b r = some (o, b', r') ∧ K o b' r') := by
                  intro w0 F M b r w vs args K hI hv hk
                  obtain ⟨o, b', r', h, hK⟩ := hk
                  unfold cutsC at h
                  split at h
                  case h_2 => cases h
                  rename_i hcut
                  simp only [Bool.or_eq_true, decide_eq_true_eq] at hcut
                  exact ⟨enters_of hf hn (by rw [hb]; rfl), bodyC_calls hE hc hdt hm hf hb hdr hH (hcut.imp id noCut_sound) hI hv h hK⟩
                simp only [entC, hext, hf, hb, hme]
                refine HOk.weaken (HOk.frame h0) (fun args b r K h => ?_)
                obtain ⟨o, b', r', h, hK⟩ := h
                unfold frameH partH
                unfold partC at h
                split at h
                case h_2 => cases h
                rename_i args0 e1
                rw [e1]
                simp only
                split at h
                case h_2 => cases h
                rename_i c0 e2
                rw [e2]
                simp only
                split at h
                case h_2 => cases h
                rename_i b0 e3
                rw [e3]
                simp only
                split at h
                case h_2 => cases h
                rename_i r0 e4
                rw [e4]
                simp only
                split at h
                case h_2 => cases h
                rename_i hnd
                simp only [Bool.and_eq_true] at hnd
                refine ⟨hnd, ?_⟩
                split at h
                case h_2 => cases h
                rename_i o1 b1 r1 hbody
                injection h with h; injection h with h1 h2; injection h2 with h2 h3; subst h1 h2 h3
                refine ⟨o1, b1, r1, hbody, ?_⟩
                cases o1 <;> exact hK
      refine HOk.weaken key (fun args b r K h => ?_)
      obtain ⟨o, b', r', h, hK⟩ := h
      simp only [callC, he] at h
      exact ⟨o, b', r', h, hK⟩

/-- A call that is closed: it is what is reckoned. -/
theorem FPure.closed (hm : P.follows .mixedOrders = true) {T : List Ent} (hT : T.all (okE P) = true) (hX : ∀ e ∈ T, ∀ g, e.ext = some g → FPure P e.f (fun ds K => ∃ o, extC g ds = some o ∧ K o)) (n k : Nat) {f : FuncId} {ds : List D} {x : AV}
    (h : (match callC P T n k f (ds.map .d) [] [] with | some (.ret y, _, _) => eqAA y x | _ => false) = true) (hx : dataA x = true) : FPure P f (fun ds' K => ds' = ds ∧ K (.ret x)) := by
  intro w no vs ds' K hno hv hs
  obtain ⟨rfl, hK⟩ := hs
  split at h
  case h_2 => cases h
  rename_i y b' r' hcall
  have := eqAA_sound _ _ h
  subst this
  obtain ⟨hent, hcalls⟩ := callC_sound hm hT hX n k f (mno_inv hno) hv (K := fun o b r => o = .ret y) ⟨_, _, _, hcall, rfl⟩
  refine ⟨hent, Calls.mono hcalls (fun e w' he => ?_)⟩
  cases e with
  | returned v =>
    obtain ⟨x, b', r', M', hx', hI, hC, hr⟩ := he
    injection hx' with hx'
    subst hx'
    refine ⟨x, hK, hI.keep, ?_, hx⟩
    refine dataA_mono (fun a u ho hc => ⟨hc, mno_okc.2 ?_⟩) hr hx
    have := ho.1.2
    rw [hC.no] at this
    exact this
  | panicked ch =>
    obtain ⟨x, b', r', M', u, hx', _⟩ := he
    cases hx'
  | outgrown => exact he.elim
end
end Go.PE
end
