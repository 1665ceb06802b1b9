/- Small helps for contracts. -/
import Derived.Test.YtkgkpmdbcjelfaaPeWc
import Derived.Laws.BitsLemmas
set_option linter.unusedVariables false
set_option linter.unusedSimpArgs false
namespace Go.PE
open Go

theorem wrap_i64' {n : Int} (h1 : -9223372036854775808 ≤ n) (h2 : n < 9223372036854775808) : IntKind.i64.wrap n = n := by
  rw [IntKind.wrap_i64]
  omega
theorem wrap_u8' {n : Int} (h1 : 0 ≤ n) (h2 : n < 256) : IntKind.u8.wrap n = n := by
  rw [IntKind.wrap_u8]
  omega

/-! ### lists are no longer than lists can be -/
mutual
def okD : D → Prop
  | .list es => es.length ≤ 9223372036854775807 ∧ okLL es
  | .agg cs => okL cs
  | .iface _ d => okD d
  | .int _ _ => True
  | .bool _ => True
  | .str _ => True
  | .nilI => True
  | .raw _ => True
def okL : List D → Prop
  | [] => True
  | x :: l => okD x ∧ okL l
def okLL : List (List D) → Prop
  | [] => True
  | e :: l => okL e ∧ okLL l
end
theorem okL_iff : ∀ {l : List D}, okL l ↔ ∀ d ∈ l, okD d
  | [] => by simp [okL]
  | x :: l => by simp [okL, okL_iff (l := l)]
theorem okLL_iff : ∀ {l : List (List D)}, okLL l ↔ ∀ e ∈ l, okL e
  | [] => by simp [okLL]
  | x :: l => by simp [okLL, okLL_iff (l := l)]
theorem okLL_map {α : Type} (f : α → List D) (l : List α) : okLL (l.map f) ↔ ∀ x ∈ l, okL (f x) := by
  rw [okLL_iff]; simp
theorem getD_mem_of {α : Type} {l : List α} {x d : α} (h : x ∈ l) : ∃ i, i < l.length ∧ l.getD i d = x := by
  obtain ⟨i, hi, e⟩ := List.mem_iff_getElem.1 h
  exact ⟨i, hi, by simp [List.getD, hi, e]⟩
theorem maxLen_le : maxLen ≤ 9223372036854775807 := by simp only [maxLen]; omega
theorem rep_ok {w : World} {ok : Addr → Prop} {v : Value} {x : D} (h : Rep w ok v x) : okD x := by
  induction h with
  | int => simp [okD]
  | bool => simp [okD]
  | str => simp [okD]
  | nilI => simp [okD]
  | raw => simp [okD]
  | iface t v d _ ih => simpa [okD] using ih
  | agg vs cs hs h1 _ ih =>
    simp only [okD]
    refine okL_iff.2 (fun d hd => ?_)
    obtain ⟨i, hi, rfl⟩ := getD_mem_of (d := .nilI) hd
    exact ih i hi
  | list A n c sz es f hn hc hz ha h1 _ ih =>
    simp only [okD]
    refine ⟨?_, okLL_iff.2 (fun e he => okL_iff.2 (fun d hd => ?_))⟩
    · have h1 : n ≤ c := hc.1
      have h2 : c ≤ maxLen := hc.2
      have h3 := maxLen_le
      omega
    · obtain ⟨i, hi, rfl⟩ := getD_mem_of (d := []) he
      obtain ⟨j, hj, rfl⟩ := getD_mem_of (d := .nilI) hd
      exact ih i j (by omega) (by rw [← hz i (by omega)]; exact hj)

def lensOk (ds : List D) : Prop := okL ds
theorem lens_of {w : World} {M : Mem} {r : List Arr} {vs : Array Value} {ds : List D} (h : RepL w M r vs (ds.map .d)) : lensOk ds := by
  refine okL_iff.2 (fun d hd => ?_)
  obtain ⟨i, hi, rfl⟩ := getD_mem_of (d := .nilI) hd
  have := h.2 i (by simpa using hi)
  rw [getD_map_d _ _ hi] at this
  exact rep_ok this.d_inv
theorem lensOk_cons_list (es : List (List D)) (ds : List D) (h : lensOk (.list es :: ds)) : es.length ≤ 9223372036854775807 ∧ lensOk ds := by
  simp only [lensOk, okL, okD] at h
  exact ⟨h.1.1, h.2⟩

/-- A function of data, by running its body; the lists it is handed are no longer than lists can be. -/
theorem FPure.runL {P : Program} (l : List (FuncId × Known)) (pl : Nat → List (Nat × Bool × List Nat)) (hl : ∀ p ∈ l, KnownOk P p.1 p.2) (hm : P.follows .mixedOrders = true) {f : FuncId} {fn : Func} {c : Code} {s : Spec}
    (hf : P.funcs[f]? = some fn) (hn : (fn.name == "runtime.NumGoroutine") = false) (hb : fn.body = some c) (hdr : drawsB pl c = true) (n : Nat) (hnt : fn.ntmps = n) (rs : List ResultVar) (hrs : fn.results = rs.toArray)
    (h : ∀ ds K, lensOk ds → s ds K → @eK ⟨⟨P, l, pl, []⟩⟩ ⟨ds.map .d ++ List.replicate (n - (ds.map AV.d).length) .undef, [], []⟩ ⟨c⟩ ⟨retQ P rs K⟩) : FPure P f s := by
  have h' : FPure P f (fun ds K => lensOk ds ∧ s ds K) := FPure.run l pl hl hm hf hn hb hdr n hnt rs hrs (fun ds K hs => h ds K hs.1 hs.2)
  intro w no vs ds K hno hv hs
  exact h' w no vs ds K hno hv ⟨lens_of hv, hs⟩

def okA : AV → Prop
  | .d x => okD x
  | _ => True
def okSt (args : List AV) (b : List (List AV)) (r : List Arr) : Prop := (∀ x ∈ args, okA x) ∧ (∀ c ∈ b, ∀ x ∈ c, okA x) ∧ ∀ A ∈ r, A.es.length ≤ 9223372036854775807 ∧ okLL A.es
theorem repA_ok {w : World} {M : Mem} {r : List Arr} {v : Value} {x : AV} (h : RepA w M r v x) : okA x := by
  cases x with
  | d x => exact rep_ok h.d_inv
  | _ => trivial
theorem okSt_of {w0 : World} {F : List Nat} {M : Mem} {b : List (List AV)} {r : List Arr} {w : World} {vs : Array Value} {args : List AV} (hI : Inv w0 F M b r w) (hv : RepL w M r vs args) : okSt args b r := by
  refine ⟨fun x hx => ?_, fun c hc x hx => ?_, fun A hA => ?_⟩
  · obtain ⟨i, hi, rfl⟩ := getD_mem_of (d := .undef) hx
    exact repA_ok (hv.2 i hi)
  · obtain ⟨i, hi, e⟩ := List.mem_iff_getElem.1 hc
    obtain ⟨cs, ty, _, _, _, hr⟩ := hI.box i c (by rw [List.getElem?_eq_getElem hi, e])
    obtain ⟨j, hj, rfl⟩ := getD_mem_of (d := .undef) hx
    exact repA_ok (hr j hj)
  · obtain ⟨i, hi, e⟩ := List.mem_iff_getElem.1 hA
    obtain ⟨hz, he, xs, ho, _, hr⟩ := hI.row i A (by rw [List.getElem?_eq_getElem hi, e])
    refine ⟨?_, okLL_iff.2 (fun e' he' => okL_iff.2 (fun d hd => ?_))⟩
    · have h3 := maxLen_le
      rcases ho.2 with ⟨_, hn⟩ | ⟨g, cap, cur, _, _, _, h1, h2, _⟩
      · omega
      · omega
    · have hsz := he e' he'
      obtain ⟨k, hk, rfl⟩ := getD_mem_of (d := []) he'
      obtain ⟨j, hj, rfl⟩ := getD_mem_of (d := .nilI) hd
      exact rep_ok (hr k j hk (by omega))

/-- A function of which the state is told, by running its body. -/
theorem HOk.runL {P : Program} (l : List (FuncId × Known)) (pl : Nat → List (Nat × Bool × List Nat)) (hl : ∀ p ∈ l, KnownOk P p.1 p.2) (hm : P.follows .mixedOrders = true) {f : FuncId} {fn : Func} {c : Code} {hh : Handler}
    (hf : P.funcs[f]? = some fn) (hn : (fn.name == "runtime.NumGoroutine") = false) (hb : fn.body = some c) (hdr : drawsB pl c = true) (n : Nat) (hnt : fn.ntmps = n) (rs : List ResultVar) (hrs : fn.results = rs.toArray)
    (h : ∀ args b r K, okSt args b r → hh args b r K → @eK ⟨⟨P, l, pl, []⟩⟩ ⟨args ++ List.replicate (n - args.length) .undef, b, r⟩ ⟨c⟩ ⟨memQ P rs b.length r.length K⟩) : HOk P f hh := by
  intro w0 F M b r w vs args K hI hv hk
  exact HOk.run0 l pl hl hm hf hn hb hdr n hnt rs hrs hI hv (h args b r K (okSt_of hI hv) hk)
end Go.PE
