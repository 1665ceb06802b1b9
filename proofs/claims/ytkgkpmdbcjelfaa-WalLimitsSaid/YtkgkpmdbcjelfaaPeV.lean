/- Functions of data: their contract, and how a call of one looks from the caller's side (see PeQ). -/
import Derived.Test.YtkgkpmdbcjelfaaPeWf
set_option linter.unusedVariables false
set_option linter.unusedSimpArgs false
namespace Go.PE
open Go

/-- No boxes, no rows; cells that no data may lie in. -/
def Mno (no : Addr → Prop) : Mem := ⟨[], [], no⟩

def dataA : AV → Bool
  | .d _ => true
  | .tup cs => (allD cs).isSome
  | _ => false
/-- What is given back, as data. -/
def toO (r : List Arr) : AV → Option AV
  | .tup cs => (toDL r cs).map fun ds => .tup (ds.map .d)
  | x => (toD r x).map .d
def outK (r : List Arr) (v : AV) (F : AV → Prop) : Prop := match toO r v with | some x => F x | none => False

/-- What a function of data asks, so that K holds of how it ends. -/
abbrev Spec := List D → (Out → Prop) → Prop

def PQ (w : World) (no : Addr → Prop) (K : Out → Prop) : Ending → World → Prop
  | .returned v, w' => ∃ x, K (.ret x) ∧ Keep w [] w' ∧ RepA w' (Mno no) [] v x ∧ dataA x = true
  | .panicked ch, w' => ∃ x u, K (.panic x) ∧ ch = [{ v := u, recovered := false }] ∧ Keep w [] w' ∧ RepA w' (Mno no) [] u x ∧ dataA x = true
  | .outgrown, _ => False

def FPure (P : Program) (f : FuncId) (s : Spec) : Prop :=
  ∀ (w : World) (no : Addr → Prop) (vs : Array Value) (ds : List D) (K : Out → Prop), (∀ a, no a → a.block < w.heap.size) → RepL w (Mno no) [] vs (ds.map .d) → s ds K → Enters P f ∧ Calls P f vs w (PQ w no K)

theorem mno_okc {no : Addr → Prop} {a : Addr} : Okc (Mno no) [] a ↔ ¬ no a :=
  ⟨fun h => h.1.2, fun h => ⟨⟨fun i hi => absurd hi (by simp [Mno]), h⟩, fun k A hk => by simp at hk⟩⟩

theorem mno_inv {w : World} {no : Addr → Prop} (h : ∀ a, no a → a.block < w.heap.size) : Inv w [] (Mno no) [] [] w := by
  have hrow : ∀ i, (Mno no).row i = .nilIface := fun i => by simp [Mno, Mem.row, List.getD]
  refine ⟨.refl _ _, rfl, rfl, fun i _ hi => by simp at hi, fun i _ hi => by simp at hi, fun i hi => absurd hi (by simp [Mno]), fun i g hg => ?_, fun i _ hi => absurd hi (by simp [Mno]), fun i j g hi => absurd hi (by simp [Mno]), fun i _ hi => absurd hi (by simp [Mno]), fun a ha => ⟨h a ha, fun i e => ?_⟩⟩
  · rw [hrow] at hg; cases hg
  · rw [hrow] at e; cases e

theorem allD_map (ds : List D) : allD (ds.map .d) = some ds := by
  induction ds with
  | nil => rfl
  | cons d ds ih => simp [allD, ih]
theorem toDL_map (r : List Arr) (ds : List D) : toDL r (ds.map .d) = some ds := by
  induction ds with
  | nil => rfl
  | cons d ds ih => simp [toDL, toD, ih]
theorem arrIdsL_map (ds : List D) : arrIdsL (ds.map .d) = [] := by
  induction ds with
  | nil => rfl
  | cons d ds ih => simp [arrIdsL, arrIds, ih]

/-- What data is, wherever its cells are. -/
theorem dataA_mono {w w' : World} {M M' : Mem} {r r' : List Arr} (hm : ∀ a u, Okc M r a → w.cell? a = some u → w'.cell? a = some u ∧ Okc M' r' a) {v : Value} {x : AV} (h : RepA w M r v x) (hx : dataA x = true) : RepA w' M' r' v x := by
  cases x with
  | d x => exact .d _ _ (h.d_inv.mono hm)
  | tup cs =>
    simp only [dataA, Option.isSome_iff_exists] at hx
    obtain ⟨ds, hds⟩ := hx
    obtain rfl := allD_spec hds
    cases h with
    | tup vs _ hs hr =>
      refine .tup vs _ hs (fun i hi => ?_)
      have hi' : i < ds.length := by simpa using hi
      have := hr i hi
      rw [getD_map_d _ _ hi'] at this ⊢
      exact .d _ _ (this.d_inv.mono hm)
  | _ => cases hx

section
variable {P : Program} {E : Env} {pl : Nat → List (Nat × Bool × List Nat)}

theorem toO_rep {w0 : World} {F : List Nat} {M : Mem} {b : List (List AV)} {r : List Arr} {w : World} (h : Inv w0 F M b r w) {v : Value} {x y : AV} (hv : RepA w M r v x) (hy : toO r x = some y) :
    RepA w (Mno M.no) [] v y ∧ dataA y = true := by
  have one : ∀ x y, (toD r x).map AV.d = some y → RepA w M r v x → RepA w (Mno M.no) [] v y ∧ dataA y = true := by
    intro x y hy hv
    simp only [Option.map_eq_some_iff] at hy
    obtain ⟨d, hd, rfl⟩ := hy
    obtain ⟨hI, hc⟩ := Inv.shareL (arrIds x) h
    have := toD_rep hI hc (shared_share (arrIds x) r) x d v hd (fun id hid => hid) hv
    exact ⟨.d _ _ (this.mono fun a u ho hc => ⟨hc, mno_okc.2 ho.1.2⟩), rfl⟩
  cases x with
  | tup cs =>
    simp only [toO, Option.map_eq_some_iff] at hy
    obtain ⟨ds, hds, rfl⟩ := hy
    cases hv with
    | tup vs _ hs hr =>
      obtain ⟨hI, hc⟩ := Inv.shareL (arrIdsL cs) h
      obtain ⟨hl, hrep⟩ := toDL_rep hI hc (shared_share (arrIdsL cs) r) cs ds hds (fun id hid => hid) (fun i => vs.getD i undef) hr
      refine ⟨.tup vs _ (by simp [hl, hs]) (fun i hi => ?_), by simp [dataA, allD_map]⟩
      have hi' : i < ds.length := by simpa using hi
      rw [getD_map_d _ _ hi']
      exact .d _ _ ((hrep i hi').mono fun a u ho hc => ⟨hc, mno_okc.2 ho.1.2⟩)
  | _ =>
    have h1 := fun h => one _ y h hv
    exact h1 hy

theorem FPure.ofBody (hE : E.Ok P) (hm : P.follows .mixedOrders = true) {f : FuncId} {fn : Func} {c : Code} {s : Spec} (hf : P.funcs[f]? = some fn) (hn : (fn.name == "runtime.NumGoroutine") = false) (hb : fn.body = some c) (hdr : drawsB pl c = true)
    (h : ∀ ds K, s ds K → bodyK P E pl fn c (ds.map .d) [] [] fun o _ r => match o with | .ret v => outK r v fun x => K (.ret x) | .panic v => outK r v fun x => K (.panic x)) : FPure P f s := by
  intro w no vs ds K hno hv hs
  refine ⟨enters_of hf hn (by rw [hb]; rfl), Calls.mono (body_sound hE hm hf hb hdr (mno_inv hno) hv (h ds K hs)) (fun e w' he => ?_)⟩
  cases e with
  | returned v =>
    obtain ⟨x, b', r', M', hK, hI, hC, hx⟩ := he
    simp only [outK] at hK
    split at hK
    · rename_i y hy
      obtain ⟨h1, h2⟩ := toO_rep hI hx hy
      rw [hC.no] at h1
      exact ⟨y, hK, hI.keep, h1, h2⟩
    · exact hK.elim
  | panicked ch =>
    obtain ⟨x, b', r', M', u, hK, rfl, hI, hC, hx⟩ := he
    simp only [outK] at hK
    split at hK
    · rename_i y hy
      obtain ⟨h1, h2⟩ := toO_rep hI hx hy
      rw [hC.no] at h1
      exact ⟨y, u, hK, rfl, hI.keep, h1, h2⟩
    · exact hK.elim
  | outgrown => exact he.elim

/-- A call of a function of data. -/
def specH (s : Spec) : Handler := fun args b r K => match toDL r args with
  | some ds => s ds fun o => K o b (share r (arrIdsL args))
  | none => False

theorem Keep.grown' {w w' : World} (h : Keep w [] w') : w.grownBy w' none := ⟨h.os, h.tape, h.output, h.size, fun k hk _ => h.block k hk (by simp)⟩

theorem HOk.ofPure {f : FuncId} {s : Spec} (hp : FPure P f s) : HOk P f (specH s) := by
  intro w0 F M b r w vs args K h hv hk
  simp only [specH] at hk
  split at hk
  case h_2 => exact hk.elim
  rename_i ds hds
  obtain ⟨hI, hc⟩ := Inv.shareL (arrIdsL args) h
  obtain ⟨hl, hrep⟩ := toDL_rep hI hc (shared_share (arrIdsL args) r) args ds hds (fun id hid => hid) (fun i => vs.getD i undef) hv.2
  generalize hr' : share r (arrIdsL args) = r' at *
  let no : Addr → Prop := fun a => ¬ Okc M r' a ∧ a.block < w.heap.size
  have hvs : RepL w (Mno no) [] vs (ds.map .d) := by
    refine ⟨by simp [hl, hv.1], fun i hi => ?_⟩
    have hi' : i < ds.length := by simpa using hi
    rw [getD_map_d _ _ hi']
    exact .d _ _ ((hrep i hi').mono fun a u ho hc => ⟨hc, mno_okc.2 fun hn => hn.1 ho⟩)
  obtain ⟨hent, hcalls⟩ := hp w no vs ds _ (fun a ha => ha.2) hvs hk
  refine ⟨hent, Calls.mono hcalls (fun e w' he => ?_)⟩
  have back : ∀ a, Okc (Mno no) [] a → Okc M r' a := by
    intro a ha
    have ha := mno_okc.1 ha
    by_cases hlt : a.block < w.heap.size
    · exact Classical.byContradiction fun hn => ha ⟨hn, hlt⟩
    · refine ⟨⟨fun i hi e => ?_, fun hn => ?_⟩, fun k A hk hb => ?_⟩
      · have := hI.box_lt hi; omega
      · have := (hI.no a hn).1
        have := hI.keep.size
        omega
      · have := hI.row_lt hb; omega
  cases e with
  | returned v =>
    obtain ⟨x, hK, hkeep, hx, hd⟩ := he
    obtain ⟨hI', hc'⟩ := hI.grow hkeep.grown'
    exact ⟨x, b, r', M, hK, hI', hc.trans hc', dataA_mono (fun a u ho hc => ⟨hc, back a ho⟩) hx hd⟩
  | panicked ch =>
    obtain ⟨x, u, hK, rfl, hkeep, hx, hd⟩ := he
    obtain ⟨hI', hc'⟩ := hI.grow hkeep.grown'
    exact ⟨x, b, r', M, u, hK, rfl, hI', hc.trans hc', dataA_mono (fun a u ho hc => ⟨hc, back a ho⟩) hx hd⟩
  | outgrown => exact he.elim

/-- A function of data that gives one thing. -/
def Det.spec (h : Det) : Spec := fun ds K => (h ds).1 ∧ K (.ret (h ds).2)
theorem HOk.ofDet {f : FuncId} {h : Det} (hp : FPure P f h.spec) : HOk P f h.handler := by
  refine HOk.weaken (HOk.ofPure hp) (fun args b r K hk => ?_)
  obtain ⟨ds, hds, hpre, hK⟩ := hk
  obtain rfl := allD_spec hds
  simp only [specH, toDL_map, arrIdsL_map, Det.spec]
  exact ⟨hpre, hK⟩

/-! ### tables of what is known of functions -/
inductive Known where
  | det (h : Det)
  | spec (s : Spec)
  | raw (h : Handler)
  | mem (h : Handler)
def Known.H : Known → Handler
  | .det h => specH h.spec
  | .spec s => specH s
  | .raw h => h
  | .mem h => frameH h
def Known.Dt : Known → Option Det
  | .det h => some h
  | _ => none
def lookK : List (FuncId × Known) → FuncId → Option Known
  | [], _ => none
  | (g, k) :: l, f => if g = f then some k else lookK l f
def hOf : Option Known → Handler
  | some k => k.H
  | none => fun _ _ _ _ => False
def dOf : Option Known → Option Det
  | some k => k.Dt
  | none => none
def mkEnv (l : List (FuncId × Known)) : Env := ⟨fun f => hOf (lookK l f), fun f => dOf (lookK l f)⟩
def KnownOk (P : Program) (f : FuncId) : Known → Prop
  | .det h => FPure P f h.spec
  | .spec s => FPure P f s
  | .raw h => HOk P f h
  | .mem h => HOk P f h
theorem env_ok {l : List (FuncId × Known)} (h : ∀ p ∈ l, KnownOk P p.1 p.2) : (mkEnv l).Ok P := by
  have look : ∀ f k, lookK l f = some k → KnownOk P f k := by
    intro f k
    induction l with
    | nil => intro e; cases e
    | cons p l ih =>
      intro e
      obtain ⟨g, k'⟩ := p
      simp only [lookK] at e
      split at e
      · rename_i hg
        injection e with e
        subst e hg
        exact h _ (List.mem_cons_self ..)
      · exact ih (fun p hp => h p (List.mem_cons_of_mem _ hp)) e
  refine ⟨fun f => ?_, fun f d hd => ?_⟩
  · show HOk P f (hOf (lookK l f))
    cases e : lookK l f with
    | none => exact HOk.no f
    | some k =>
      have hk := look f k e
      cases k with
      | det h => exact HOk.ofPure hk
      | spec s => exact HOk.ofPure hk
      | raw h => exact hk
      | mem h => exact HOk.frame hk
  · have hd : dOf (lookK l f) = some d := hd
    cases e : lookK l f with
    | none => rw [e] at hd; cases hd
    | some k =>
      have hk := look f k e
      rw [e] at hd
      cases k with
      | det h =>
        injection hd with hd
        subst hd
        exact HOk.ofDet hk
      | _ => cases hd
end
end Go.PE
