/- The evaluator: code with regions whose order is drawn, in which variables come up before they are asked for (see PeZc). -/
import Derived.Test.YtomligcenflpdaaGreatDoorPeZc
set_option linter.unusedVariables false
set_option linter.unusedSimpArgs false
set_option maxHeartbeats 1000000
namespace Go.PE
open Go

/-- Every region of the code that draws has a plan that is good. -/
def drawsL (P : Program) (n : Nat) (pl : Nat → List (Nat × Bool × List Nat)) : Code → Bool
  | .seq x y => drawsL P n pl x && drawsL P n pl y
  | .cond _ x y => drawsL P n pl x && drawsL P n pl y
  | .block _ x => drawsL P n pl x
  | .loop x => drawsL P n pl x
  | .region id ops true => backB ops && (planB ops [] [] (pl id) || (planB3 ops [] [] (pl id) && lateX P ops && lateT ops n))
  | .region _ ops false => nodupN (ops.toList.filterMap (·.dst))
  | _ => true
theorem lateT_mono {ops : Array Oper} {n m : Nat} (h : n ≤ m) (hT : lateT ops n = true) : lateT ops m = true := by
  refine List.all_eq_true.2 (fun k hk => ?_)
  have := List.all_eq_true.1 hT k hk
  rw [Bool.or_eq_true] at this ⊢
  refine this.imp id (fun h1 => ?_)
  split at h1
  · exact decide_eq_true (Nat.lt_of_lt_of_le (of_decide_eq_true h1) h)
  · rfl
theorem keeps_deferL (l : List Deferred) (n : Nat) : ∀ c : Code, Keeps (fun a => a.defers = l ∧ n ≤ a.tmps.size) c := by
  intro c
  induction c with
  | seq x y ihx ihy => exact ⟨ihx, ihy⟩
  | cond c x y ihx ihy => exact ⟨ihx, ihy⟩
  | block i x ih => exact ih
  | loop x ih => exact ih
  | region i ops b => exact fun o _ a u h => ⟨put_defers.trans h.1, by rw [put_size]; exact h.2⟩
  | _ => exact trivial
section
variable {w0 : World} {F : List Nat} {W0 : World} {M0 : Mem} {r0 : List Arr} {G : List (Nat × Bool)} {st : St} {a : Act} {w : World} {M : Mem} {dl : Act → Prop} {P : Program} {E : Env} {pl : Nat → List (Nat × Bool × List Nat)}
theorem evalK_soundL {n : Nat} (hE : E.Ok P) (hm : P.follows .mixedOrders = true) : ∀ (c : Code), Keeps dl c → (∀ a, dl a → n ≤ a.tmps.size) → drawsL P n pl c = true → (r0.length ≤ nrP pl ∨ ∀ i, pl (i + 200000) = []) → ∀ (Q : Ex → St → Prop) (st : St) (a : Act) (w : World), At dl w0 F W0 M0 r0 [] st a w → evalK P E pl c st Q → c.wp P (PostQ dl w0 F W0 M0 r0 Q) a w := by
  intro c
  induction c generalizing dl W0 M0 r0 with
  | skip => exact fun _ _ _ _ Q st a w h hk => wp_skip ⟨st, h, hk⟩
  | label l => exact fun _ _ _ _ Q st a w h hk => wp_label ⟨st, h, hk⟩
  | seq x y ihx ihy =>
    intro hkd hsz hdr hnr Q st a w h hk
    simp only [drawsL, Bool.and_eq_true] at hdr
    replace ihx := @ihx W0 M0 r0 dl hkd.1 hsz hdr.1 hnr
    replace ihy := @ihy W0 M0 r0 dl hkd.2 hsz hdr.2 hnr
    refine wp_seq (Go.wp_mono (ihx _ st a w h hk) (fun e a' w' hq => ?_))
    cases e with
    | normal =>
      obtain ⟨st', h', hq⟩ := hq
      exact ihy Q st' a' w' h' hq
    | exit i => exact hq
    | goto l => exact hq
    | ret => exact hq
    | panic ch => exact hq
    | outgrown => exact hq
  | cond c x y ihx ihy =>
    intro hkd hsz hdr hnr Q st a w h hk
    simp only [drawsL, Bool.and_eq_true] at hdr
    replace ihx := @ihx W0 M0 r0 dl hkd.1 hsz hdr.1 hnr
    replace ihy := @ihy W0 M0 r0 dl hkd.2 hsz hdr.2 hnr
    simp only [evalK] at hk
    split at hk
    · rename_i e he
      obtain ⟨M, hI, hR, hd, hC⟩ := h
      have hrep := ev_rep (a := a) (st := st) (w := w) (M := M) (r := st.r) ⟨hR.1, fun i hi => hR.2 i hi (fun p hp => absurd hp (by simp))⟩ c
      rw [he] at hrep
      have hrep := hrep.d_inv
      generalize hu : a.eval c = u at hrep
      cases hrep
      refine wp_cond_split hu (fun e' => ihx Q st a w ⟨M, hI, hR, hd, hC⟩ (hk.1 e')) (fun e' => ihy Q st a w ⟨M, hI, hR, hd, hC⟩ (hk.2 e'))
    · exact hk.elim
  | block id x ih =>
    intro hkd hsz hdr hnr Q st a w h hk
    replace ih := @ih W0 M0 r0 dl hkd hsz hdr hnr
    refine wp_block (Go.wp_mono (ih _ st a w h hk) (fun e a' w' hq => ?_))
    cases e with
    | exit i =>
      obtain ⟨st', h', hq⟩ := hq
      simp only [Exit.inBlock]
      simp only at hq
      split at hq
      · rw [if_pos (by assumption)]
        exact ⟨st', h', hq⟩
      · rw [if_neg (by assumption)]
        exact ⟨st', h', hq⟩
    | normal => exact hq
    | goto l => exact hq
    | ret => exact hq
    | panic ch => exact hq
    | outgrown => exact hq
  | exit i => exact fun _ _ _ _ Q st a w h hk => wp_exit ⟨st, h, hk⟩
  | ret => exact fun _ _ _ _ Q st a w h hk => wp_ret ⟨st, h, hk⟩
  | loop x ih =>
    intro hkd hsz hdr hnr Q st a w h hk
    have hl := h.lens
    rcases hk with hk | hk | hk
    case inr.inl =>
      obtain ⟨n0, hk⟩ := hk
      refine wp_loop_ghost (fun n a w => ∃ st, At dl w0 F W0 M0 r0 [] st a w ∧ iterK (fun st Q => evalK P E pl x st Q) n st Q) n0 ⟨st, h, hk⟩ (fun n a w hn => ?_)
      obtain ⟨st, h, hk⟩ := hn
      cases n with
      | zero => exact hk.elim
      | succ n =>
        refine Go.wp_mono (@ih W0 M0 r0 dl hkd hsz hdr hnr _ st a w h hk) (fun e a' w' hq => ?_)
        cases e with
        | normal =>
          obtain ⟨st', h', hk'⟩ := hq
          exact ⟨n, Nat.lt_succ_self n, st', h', hk'⟩
        | exit i => exact hq
        | goto l => exact hq
        | ret => exact hq
        | panic ch => exact hq
        | outgrown => exact hq
    case inr.inr =>
      obtain ⟨α, S, μ, a0, ks, hnc, hno, h0, hlen, hround⟩ := hk
      have hlb : ∀ i, M0.bb.length ≤ (S i).b.length := fun i => by
        rw [(hlen i).1.2]
        exact hl.1
      have hlr : ∀ i, r0.length ≤ (S i).r.length := fun i => Nat.le_trans hl.2 (hlen i).2
      refine wp_loop_ghost (fun n a w => ∃ i, n = μ i ∧ At dl w0 F W0 M0 r0 [] (S i) a w) (μ a0) ⟨a0, rfl, h.le h0 (hlb a0) (hlr a0)⟩ (fun n a w hn => ?_)
      obtain ⟨i, rfl, M, hI, hR, hd, hC⟩ := hn
      obtain ⟨hIl, hCl⟩ := hI.lend
      have hat : At (fixL dl ks a.tmps.size a.tmps) w0 F w M (lendR (S i).r) [] (lendS (S i)) a w := ⟨M, hIl, RG.mono hCl hR, ⟨hd, rfl, fun _ _ => rfl⟩, Chg.refl _ _ _⟩
      refine Go.wp_mono (ih (noDst_keepsL x hkd hno) (fun a h => hsz a h.1) hdr (.inr hnc) _ (lendS (S i)) a w hat (hround i)) (fun e a' w' hq => ?_)
      cases e with
      | normal =>
        obtain ⟨st', h', j, hlt, hsame, hle⟩ := hq
        exact ⟨μ j, hlt, j, rfl, (back_at (hlen i).1.1 hI hR hC h' hsame).le hle (hlb j) (hlr j)⟩
      | exit k =>
        obtain ⟨st', h', hsame, hq⟩ := hq
        exact ⟨_, back_at (hlen i).1.1 hI hR hC h' hsame, hq⟩
      | goto l => exact hq
      | ret =>
        obtain ⟨st', ⟨M', hI', hR', hd', hC'⟩, hq⟩ := hq
        exact ⟨st', ⟨M', hI', hR', hd'.1, (hC.trans hCl).trans hC'⟩, hq⟩
      | panic ch =>
        obtain ⟨st', x', u, e', ⟨M', hI', hR', hd', hC'⟩, hq⟩ := hq
        exact ⟨st', x', u, e', ⟨M', hI', hR', hd'.1, (hC.trans hCl).trans hC'⟩, hq⟩
      | outgrown => exact hq
    replace ih := @ih W0 M0 r0 dl hkd hsz hdr hnr
    obtain ⟨α, S, μ, a0, h0, hlen, hround⟩ := hk
    refine wp_loop_ghost (fun n a w => ∃ i, n = μ i ∧ At dl w0 F W0 M0 r0 [] (S i) a w) (μ a0) ⟨a0, rfl, h.le h0 (by rw [(hlen a0).1]; exact hl.1) (Nat.le_trans hl.2 (hlen a0).2)⟩ (fun n a w hn => ?_)
    obtain ⟨i, rfl, hat⟩ := hn
    refine Go.wp_mono (ih _ (S i) a w hat (hround i)) (fun e a' w' hq => ?_)
    cases e with
    | normal =>
      obtain ⟨st', h', j, hlt, hle⟩ := hq
      exact ⟨μ j, hlt, j, rfl, h'.le hle (by rw [(hlen j).1]; exact hl.1) (Nat.le_trans hl.2 (hlen j).2)⟩
    | exit i => exact hq
    | goto l => exact hq
    | ret => exact hq
    | panic ch => exact hq
    | outgrown => exact hq
  | region id ops b =>
    intro hkd hsz hdr hnr Q st a w h hk
    cases b with
    | true =>
      simp only [evalK] at hk
      obtain ⟨st', h', hk'⟩ := ghost_sound _ h hk
      simp only [drawsL, Bool.and_eq_true, Bool.or_eq_true] at hdr
      obtain ⟨hB, hP | ⟨⟨hP, hL⟩, hT⟩⟩ := hdr
      · exact drawn_sound hE hkd hm (by rw [hB, hP]; rfl) h' hk' (fun st a w h hq => ⟨st, h, hq⟩) (fun x st u a w h hq => ⟨st, x, u, rfl, h, hq⟩)
      · refine drawnL_sound hE hkd hm hB hL hP (lateT_mono ?_ hT) h' hk' (fun st a w h hq => ⟨st, h, hq⟩) (fun x st u a w h hq => ⟨st, x, u, rfl, h, hq⟩)
        obtain ⟨M, hI, hR, hd, hC⟩ := h'
        rw [← hR.1]
        exact hsz a hd
    | false =>
      have hnd : nodupN (ops.toList.filterMap (·.dst)) = true := hdr
      have nG : ∀ (l : List Oper), ∀ o ∈ l, ∀ d, o.dst = some d → ∀ p ∈ ([] : List (Nat × Bool)), p.1 ≠ d := fun _ _ _ _ _ p hp => absurd hp (by simp)
      have nU : ∀ t : Array Value, RU [] t := fun _ p hp => absurd hp (by simp)
      simp only [evalK] at hk
      obtain ⟨st, h, hk⟩ := ghost_sound _ h hk
      split at hk
      · rename_i i hci
        have hnr' : r0.length ≤ nrP pl := by
          rcases hnr with h1 | h1
          · exact h1
          · unfold cutAt at hci
            rw [h1] at hci
            cases hci
        have hlist : ops.toList.take i ++ ops.toList.drop i = ops.toList := List.take_append_drop ..
        refine wp_region_list ?_
        rw [← hlist]
        refine opsK_soundT (ops := ops) (Q := PostQ dl w0 F W0 M0 r0 Q) hE (ops.toList.drop i) (fun st a w h hq => ?_) (fun x st u a w h hq => ⟨st, x, u, rfl, h, hq⟩) _ (fun o ho => hkd o (List.mem_of_mem_take ho)) (nodup_take _ _ hnd) [] st a w (nG _) (nU _) h hk
        split at hq
        case h_2 => exact hq.elim
        rename_i o ho
        split at hq
        case h_2 => exact hq.elim
        rename_i q hcut
        obtain ⟨hi, rfl⟩ := List.getElem?_eq_some_iff.1 ho
        rw [List.drop_eq_getElem_cons hi]
        exact cut_sound hnr' (hkd _ (List.getElem_mem hi)) h hcut hq.1 (fun a w h' => opsK_sound hE (fun st a w h hq => ⟨st, h, hq⟩) (fun x st u a w h hq => ⟨st, x, u, rfl, h, hq⟩) _ (fun o ho => hkd o (List.mem_of_mem_drop ho)) (nodup_drop _ _ hnd) _ _ _ h' hq.2)
      split at hk
      · exact wp_region_list (opsK_sound hE (fun st a w h hq => ⟨st, h, hq⟩) (fun x st u a w h hq => ⟨st, x, u, rfl, h, hq⟩) _ hkd hnd st a w h hk)
      · split at hk
        · rename_i q hq
          have hl := litK_sound (ops := ops) (Q := PostQ dl w0 F W0 M0 r0 Q) (rest := ops.toList.drop 2) (fun o ho => hkd o (List.mem_of_mem_take ho)) h hq hk.1 (fun a' w' h' => opsK_sound hE (fun st a w h hq => ⟨st, h, hq⟩) (fun x st u a w h hq => ⟨st, x, u, rfl, h, hq⟩) _ (fun o ho => hkd o (List.mem_of_mem_drop ho)) (nodup_drop _ _ hnd) _ _ _ h' hk.2)
          rw [List.take_append_drop] at hl
          exact wp_region_list hl
        · exact hk.elim
      · have := opsK_soundT (ops := ops) (Q := PostQ dl w0 F W0 M0 r0 Q) hE (ops.toList.drop 2) (fun st a w h hq => clearK_sound (fun st a w h hq => ⟨st, h, hq⟩) (fun o ho => hkd o (List.mem_of_mem_drop ho)) h hq) (fun x st u a w h hq => ⟨st, x, u, rfl, h, hq⟩) _ (fun o ho => hkd o (List.mem_of_mem_take ho)) (nodup_take _ _ hnd) [] st a w (nG _) (nU _) h hk
        rw [List.take_append_drop] at this
        exact wp_region_list this
  | _ => exact fun _ _ _ _ Q st a w h hk => hk.elim

theorem body_soundL (hE : E.Ok P) (hm : P.follows .mixedOrders = true) {f : FuncId} {fn : Func} {c : Code} (hf : P.funcs[f]? = some fn) (hb : fn.body = some c) (hdr : drawsL P fn.ntmps pl c = true) {b : List (List AV)} {r : List Arr} (hnr : r.length ≤ nrP pl ∨ ∀ i, pl (i + 200000) = []) {vs : Array Value} {args : List AV} {K : Out → List (List AV) → List Arr → Prop}
    (h : Inv w0 F M b r w) (hv : RepL w M r vs args) (hk : bodyK P E pl fn c args b r K) : Calls P f vs w (EndQ w0 F M r w K) := by
  refine calls_of_wp hf hb ?_
  have hat : At (fun a => a.defers = [] ∧ fn.ntmps ≤ a.tmps.size) w0 F w M r [] ⟨args ++ List.replicate (fn.ntmps - args.length) .undef, b, r⟩ { tmps := vs ++ Array.replicate (fn.ntmps - vs.size) undef, defers := [] } w := by
    refine ⟨M, h, ⟨by simp [hv.1], fun i hi _ => ?_⟩, ⟨rfl, by simp; omega⟩, .refl _ _ _⟩
    rcases Nat.lt_or_ge i args.length with h1 | h1
    · have e1 : (vs ++ Array.replicate (fn.ntmps - vs.size) undef).getD i undef = vs.getD i undef := by
        have h2 : i < vs.size := by rw [hv.1]; exact h1
        simp [Array.getD, h2, Nat.lt_add_right _ h2, Array.getElem_append_left]
      show RepA w M r ((vs ++ Array.replicate (fn.ntmps - vs.size) undef).getD i undef) ((args ++ _).getD i .undef)
      rw [e1, getD_append_lt _ _ _ _ h1]
      exact hv.2 i h1
    · have e : (args ++ List.replicate (fn.ntmps - args.length) AV.undef).getD i .undef = .undef := by
        simp only [List.getD, List.getElem?_append_right h1, List.getElem?_replicate]
        split <;> rfl
      show RepA w M r _ ((args ++ _).getD i .undef)
      rw [e]
      exact .undef _
  refine Go.wp_mono (evalK_soundL hE hm c (keeps_deferL [] fn.ntmps c) (fun a h => h.2) hdr hnr _ _ _ w hat hk) (fun e a' w' hq => ?_)
  have ret : ∀ st, At (fun a => a.defers = [] ∧ fn.ntmps ≤ a.tmps.size) w0 F w M r [] st a' w' → (resK P st fn.results.toList fun vs => K (.ret (oneV vs)) st.b st.r) → a'.defers = [] ∧ ∃ v, (results fn a'.tmps).run P w' = .ok v w' ∧ EndQ w0 F M r w K (.returned v) w' := by
    intro st hst hres
    obtain ⟨M', hI, hR, hd, hC⟩ := hst
    obtain ⟨v, xs, hr, hK, hv⟩ := results_run hI (a := a') ⟨hR.1, fun i hi => hR.2 i hi (fun p hp => absurd hp (by simp))⟩ hres
    exact ⟨hd.1, v, hr, _, _, _, M', hK, hI, hC, hv⟩
  cases e with
  | normal =>
    obtain ⟨st, hst, hres⟩ := hq
    exact ret st hst hres
  | ret =>
    obtain ⟨st, hst, hres⟩ := hq
    exact ret st hst hres
  | exit i =>
    obtain ⟨st, hst, hres⟩ := hq
    exact hres.elim
  | panic ch =>
    obtain ⟨st, x, u, rfl, ⟨M', hI, hx, hd, hC⟩, hK⟩ := hq
    exact ⟨hd.1, x, st.b, st.r, M', u, hK, rfl, hI, hC, hx⟩
  | goto l => exact hq.elim
  | outgrown => exact hq.elim

end

section
variable {P : Program} {E : Env} {pl : Nat → List (Nat × Bool × List Nat)}
theorem FPure.ofBodyL (hE : E.Ok P) (hm : P.follows .mixedOrders = true) {f : FuncId} {fn : Func} {c : Code} {s : Spec} (hf : P.funcs[f]? = some fn) (hn : (fn.name == "runtime.NumGoroutine") = false) (hb : fn.body = some c) (hdr : drawsL P fn.ntmps pl c = true)
    (h : ∀ ds K, s ds K → bodyK P E pl fn c (ds.map .d) [] [] fun o _ r => match o with | .ret v => outK r v fun x => K (.ret x) | .panic v => outK r v fun x => K (.panic x)) : FPure P f s := by
  intro w no vs ds K hno hv hs
  refine ⟨enters_of hf hn (by rw [hb]; rfl), Calls.mono (body_soundL hE hm hf hb hdr (.inl (Nat.zero_le _)) (mno_inv hno) hv (h ds K hs)) (fun e w' he => ?_)⟩
  cases e with
  | returned v =>
    obtain ⟨x, b', r', M', hK, hI, hC, hx⟩ := he
    simp only [outK] at hK
    split at hK
    · rename_i y hy
      obtain ⟨h1, h2⟩ := toO_rep hI hx hy
      rw [hC.no] at h1
      exact ⟨y, hK, hI.keep, h1, h2⟩
    · exact hK.elim
  | panicked ch =>
    obtain ⟨x, b', r', M', u, hK, rfl, hI, hC, hx⟩ := he
    simp only [outK] at hK
    split at hK
    · rename_i y hy
      obtain ⟨h1, h2⟩ := toO_rep hI hx hy
      rw [hC.no] at h1
      exact ⟨y, u, hK, rfl, hI.keep, h1, h2⟩
    · exact hK.elim
  | outgrown => exact he.elim


end

theorem FPure.runLate0 {P : Program} (l : List (FuncId × Known)) (pl : Nat → List (Nat × Bool × List Nat)) (hl : ∀ p ∈ l, KnownOk P p.1 p.2) (hm : P.follows .mixedOrders = true) {f : FuncId} {fn : Func} {c : Code} {s : Spec}
    (hf : P.funcs[f]? = some fn) (hn : (fn.name == "runtime.NumGoroutine") = false) (hb : fn.body = some c) (n : Nat) (hnt : fn.ntmps = n) (hdr : drawsL P n pl c = true) (rs : List ResultVar) (hrs : fn.results = rs.toArray)
    (h : ∀ ds K, s ds K → @eK ⟨⟨P, l, pl, []⟩⟩ ⟨ds.map .d ++ List.replicate (n - (ds.map AV.d).length) .undef, [], []⟩ ⟨c⟩ ⟨retQ P rs K⟩) : FPure P f s := by
  refine FPure.ofBodyL (E := mkEnv l) (pl := pl) (env_ok hl) hm hf hn hb (by rw [hnt]; exact hdr) (fun ds K hs => ?_)
  have h1 := h ds K hs
  unfold bodyK
  rw [hnt, hrs]
  have e : (fun (e : Ex) (st : St) => (match e with
    | .normal => resK P st rs.toArray.toList fun vs => outK st.r (oneV vs) fun x => K (.ret x)
    | .ret => resK P st rs.toArray.toList fun vs => outK st.r (oneV vs) fun x => K (.ret x)
    | .panic x => outK st.r x fun x => K (.panic x)
    | .exit _ => False : Prop)) = retQ P rs K := by
    funext e st
    cases e <;> rfl
  exact e ▸ h1

theorem FPure.runLate {P : Program} (l : List (FuncId × Known)) (pl : Nat → List (Nat × Bool × List Nat)) (hl : ∀ p ∈ l, KnownOk P p.1 p.2) (hm : P.follows .mixedOrders = true) {f : FuncId} {fn : Func} {c : Code} {s : Spec}
    (hf : P.funcs[f]? = some fn) (hn : (fn.name == "runtime.NumGoroutine") = false) (hb : fn.body = some c) (n : Nat) (hnt : fn.ntmps = n) (hdr : drawsL P n pl c = true) (rs : List ResultVar) (hrs : fn.results = rs.toArray)
    (h : ∀ ds K, lensOk ds → s ds K → @eK ⟨⟨P, l, pl, []⟩⟩ ⟨ds.map .d ++ List.replicate (n - (ds.map AV.d).length) .undef, [], []⟩ ⟨c⟩ ⟨retQ P rs K⟩) : FPure P f s := by
  have h' : FPure P f (fun ds K => lensOk ds ∧ s ds K) := FPure.runLate0 l pl hl hm hf hn hb n hnt hdr rs hrs (fun ds K hs => h ds K hs.1 hs.2)
  intro w no vs ds K hno hv hs
  exact h' w no vs ds K hno hv ⟨lens_of hv, hs⟩

end Go.PE
