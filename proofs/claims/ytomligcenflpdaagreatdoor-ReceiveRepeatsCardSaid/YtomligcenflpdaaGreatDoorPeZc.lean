/- The evaluator: regions whose order is drawn, in which variables come up before they are asked for (see PeX, PeCf). -/
import Derived.Test.YtomligcenflpdaaGreatDoorPe4
set_option linter.unusedVariables false
set_option linter.unusedSimpArgs false
set_option maxHeartbeats 1000000
namespace Go.PE
open Go

def planB3 (ops : Array Oper) : List Nat → List Nat → List (Nat × Bool × List Nat) → Bool
  | V, _, [] => (List.range ops.size).all fun i => V.contains i
  | V, pend, (i, ch, rc) :: l =>
    let pend' := if ch then pend.filter fun p => !(depsOf ops i).contains p else pend
    decide (i < ops.size) && !V.contains i && (depsOf ops i).all (fun k => V.contains k) && !hits (dstOf ops i) (looksOf ops i) &&
    pend'.all (fun p => !hits (dstOf ops i) (looksOf ops p) && ((dstOf ops i).isNone || dstOf ops i != dstOf ops p) && (!hits (dstOf ops p) (looksOf ops i) || (depsOf ops i).contains p)) &&
    (List.range ops.size).all (fun k => V.contains k || k == i || !isLate ops k || (!hits (dstOf ops k) (looksOf ops i) && dstOf ops k != dstOf ops i)) &&
    (if ch then (List.range ops.size).all (fun k => V.contains k || k == i || isLate ops k || !(depsOf ops k).all fun j => V.contains j || (isLate ops j && j != i)) else !isLate ops i) &&
    (!ch || pend'.all (fun p => rc.contains p)) &&
    planB3 ops (i :: V) (if ch then pend' else i :: pend') l
section
variable {dl : Act → Prop} {P : Program} {E : Env} {w0 : World} {F : List Nat} {W0 : World} {M0 : Mem} {r0 : List Arr} {ops : Array Oper}

structure PlanHead3 (ops : Array Oper) (V pend : List Nat) (i : Nat) (ch : Bool) (rc : List Nat) (l : List (Nat × Bool × List Nat)) : Prop where
  lt : i < ops.size
  nV : i ∉ V
  deps : ∀ k ∈ depsOf ops i, k ∈ V
  self : hits (dstOf ops i) (looksOf ops i) = false
  pair : ∀ p ∈ (if ch then pend.filter fun p => !(depsOf ops i).contains p else pend), hits (dstOf ops i) (looksOf ops p) = false ∧ (∀ d, dstOf ops i = some d → dstOf ops p ≠ some d) ∧ (hits (dstOf ops p) (looksOf ops i) = true → p ∈ depsOf ops i)
  late : ∀ k, k < ops.size → k ∉ V → k ≠ i → isLate ops k = true → hits (dstOf ops k) (looksOf ops i) = false ∧ dstOf ops k ≠ dstOf ops i
  only : ch = true → ∀ k, k < ops.size → k ∉ V → k ≠ i → isLate ops k = false → ∃ j ∈ depsOf ops k, j ∉ V ∧ (isLate ops j = true → j = i)
  still : ch = false → isLate ops i = false
  rc : ch = true → ∀ p ∈ (if ch then pend.filter fun p => !(depsOf ops i).contains p else pend), p ∈ rc
  rest : planB3 ops (i :: V) (if ch then pend.filter fun p => !(depsOf ops i).contains p else i :: pend) l = true

theorem planB3_head {V pend : List Nat} {i : Nat} {ch : Bool} {rc : List Nat} {l : List (Nat × Bool × List Nat)} (h : planB3 ops V pend ((i, ch, rc) :: l) = true) : PlanHead3 ops V pend i ch rc l := by
  simp only [planB3, Bool.and_eq_true] at h
  obtain ⟨⟨⟨⟨⟨⟨⟨⟨h1, h2⟩, h3⟩, h4⟩, h5⟩, h6⟩, h7⟩, h8⟩, h9⟩ := h
  refine ⟨by simpa using h1, by simpa using h2, fun k hk => by simpa using List.all_eq_true.1 h3 k hk, by simpa using h4, fun p hp => ?_, fun k hk hkV hki hl => ?_, fun hch k hk hkV hki hl => ?_, fun hch => ?_, fun hch p hp => by rw [hch] at h8; simp only [Bool.not_true, Bool.false_or] at h8; rw [hch] at hp; simpa using List.all_eq_true.1 h8 p hp, ?_⟩
  · have := List.all_eq_true.1 h5 p hp
    simp only [Bool.and_eq_true] at this
    obtain ⟨⟨g1, g2⟩, g3⟩ := this
    refine ⟨by simpa using g1, fun d hd hpd => ?_, fun hh => ?_⟩
    · rw [Bool.or_eq_true] at g2
      rcases g2 with g2 | g2
      · rw [hd] at g2; simp at g2
      · rw [hd, hpd] at g2; simp at g2
    · rw [Bool.or_eq_true] at g3
      rcases g3 with g3 | g3
      · rw [hh] at g3; simp at g3
      · simpa using g3
  · have := List.all_eq_true.1 h6 k (List.mem_range.2 hk)
    simp only [Bool.or_eq_true, Bool.and_eq_true] at this
    rcases this with ((g | g) | g) | g
    · exact absurd (by simpa using g) hkV
    · exact absurd (by simpa using g) hki
    · rw [hl] at g; simp at g
    · exact ⟨by simpa using g.1, by simpa using g.2⟩
  · rw [hch, if_pos rfl] at h7
    have := List.all_eq_true.1 h7 k (List.mem_range.2 hk)
    simp only [Bool.or_eq_true] at this
    rcases this with ((g | g) | g) | g
    · exact absurd (by simpa using g) hkV
    · exact absurd (by simpa using g) hki
    · rw [hl] at g; cases g
    · simp only [Bool.not_eq_true', List.all_eq_false] at g
      obtain ⟨j, hj, g⟩ := g
      refine ⟨j, hj, ?_⟩
      rw [Bool.or_eq_true] at g
      refine ⟨fun hm => g (.inl (by simpa using hm)), fun hlj => ?_⟩
      by_cases hji : j = i
      · exact hji
      · exact absurd (.inr (by simp [hlj, hji])) g
  · rw [hch] at h7
    simpa using h7
  · cases ch
    · simpa only [if_false, Bool.false_eq_true] using h9
    · simpa only [if_true] using h9

structure SimK (P : Program) (E : Env) (ops : Array Oper) (dl : Act → Prop) (w0 : World) (F : List Nat) (W0 : World) (M0 : Mem) (r0 : List Arr) (lst : Array Bool) (V pend : List Nat) (es : List Early) (G : List (Nat × Bool)) (st : St) (a : Act) (w : World) : Prop where
  hs : lst.size = ops.size
  sub : ∀ i, lst.getD i false = true → i ∈ V ∨ ∃ e ∈ es, e.i = i
  vlt : ∀ i ∈ V, i < ops.size
  pnd : ∀ i ∈ V, lst.getD i false = false → i ∈ pend
  pV : ∀ i ∈ pend, i ∈ V
  pw : ∀ p ∈ pend, ∀ q ∈ pend, p ≠ q → (hits (dstOf ops q) (looksOf ops p) = true → q ∈ depsOf ops p) ∧ (∀ d, dstOf ops q = some d → dstOf ops p ≠ some d)
  slf : ∀ p ∈ pend, hits (dstOf ops p) (looksOf ops p) = false
  lt : ∀ p ∈ pend, ∀ k, k < ops.size → k ∉ V → isLate ops k = true → hits (dstOf ops k) (looksOf ops p) = false ∧ dstOf ops k ≠ dstOf ops p
  ev : ∀ e ∈ es, e.i ∉ V ∧ e.i < ops.size ∧ lst.getD e.i false = true ∧ (∀ k ∈ depsOf ops e.i, lst.getD k false = true) ∧ ∃ ty p ar inf, ops[e.i]? = some ⟨some e.d, .alloc e.t, ty, p, ar, none⟩ ∧ P.info? e.t = some inf ∧ inf.zero = some e.z
  ei : ∀ e ∈ es, ∀ e' ∈ es, e.i = e'.i → e = e'
  at_ : AtX dl w0 F W0 M0 r0 es ((maskX ops lst pend ++ maskE es) ++ G) st a w
  pok : ∀ p ∈ pend, lst.getD p false = false → ∃ o, ops[p]? = some o ∧ pendO P E ops.toList o G st
  tl : ∀ k d, isLate ops k = true → dstOf ops k = some d → d < a.tmps.size
theorem SimK.late {lst : Array Bool} {V pend : List Nat} {es : List Early} {G : List (Nat × Bool)} {st : St} {a : Act} {w : World} (h : SimK P E ops dl w0 F W0 M0 r0 lst V pend es G st a w) {e : Early} (he : e ∈ es) : isLate ops e.i = true ∧ dstOf ops e.i = some e.d := by
  obtain ⟨_, _, _, _, ty, p, ar, inf, ho, _⟩ := h.ev e he
  exact ⟨by simp [isLate, ho], by simp [dstOf, ho]⟩

/-- An operation that was reckoned ahead comes up. -/
theorem simK_pend (hE : E.Ok P) (hkd : ∀ o ∈ ops.toList, ∀ (a : Act) u, dl a → dl (a.put o.dst u)) {lst : Array Bool} {V pend : List Nat} {es : List Early} {G : List (Nat × Bool)} {st : St} {a : Act} {w : World} {p : Nat} {next : Act → World → Prop} {Q : Exit → Act → World → Prop}
    (h : SimK P E ops dl w0 F W0 M0 r0 lst V pend es G st a w) (hp : p ∈ pend) (hr : p ∈ Region.ready .any ops lst) (hn : ∀ a' w', SimK P E ops dl w0 F W0 M0 r0 (lst.setIfInBounds p true) V pend es G st a' w' → next a' w') :
    wpOp P ops Q p next a w := by
  obtain ⟨h1, _, h2⟩ := ready_deps hr
  obtain ⟨hlt, hun⟩ := lst_lt h1
  obtain ⟨o, ho, hpo⟩ := h.pok p hp hun
  have hlooks : looksOf ops p = o.looksAt ops := by simp [looksOf, ho]
  have hdst : dstOf ops p = o.dst := by simp [dstOf, ho]
  have hearly : ∀ e ∈ es, hits (dstOf ops e.i) (looksOf ops p) = false ∧ dstOf ops e.i ≠ dstOf ops p := fun e he => h.lt p hp e.i (h.ev e he).2.1 (h.ev e he).1 (h.late he).1
  have hX : ∀ d ∈ o.looksAt ops, valid (maskX ops lst pend ++ maskE es) d := by
    intro d hd
    refine valid_append.2 ⟨?_, maskE_valid.2 fun e he hed => ?_⟩
    · rw [maskX_valid]
      intro q hq hql hqd
      have hh : hits (dstOf ops q) (looksOf ops p) = true := by rw [hqd, hlooks]; exact hits_some.2 hd
      by_cases e : p = q
      · subst e
        rw [h.slf p hp] at hh
        cases hh
      · have := h2 q ((h.pw p hp q hq e).1 hh)
        rw [hql] at this
        cases this
    · have h3 := (hearly e he).1
      rw [(h.late he).2, hlooks, hed] at h3
      have := hits_some.2 hd
      rw [h3] at this
      cases this
  obtain ⟨M, w1, F1, hB⟩ := h.at_
  have hod : dl a := hB.dl
  have hom : o ∈ ops.toList := by rw [Array.mem_toList_iff]; exact Array.mem_of_getElem? ho
  have hI := hB.inv
  have hR := hB.rg
  -- what comes after
  have after : ∀ (M' : Mem) (w' : World) (u : Value), Inv w1 F1 M' st.b st.r w' → Chg w M st.r w' M' st.r → (∀ d, o.dst = some d → d < st.t.length → valid G d → RepA w' M' st.r u (st.t.getD d .undef)) → next (a.put o.dst u) w' := by
    intro M' w' u hI' hC' hu
    refine hn _ _ { hs := by simpa using h.hs, sub := fun i hi => ?_, vlt := h.vlt, pnd := fun i hi hl => ?_, pV := h.pV, pw := h.pw, slf := h.slf, lt := h.lt, ev := fun e he => ?_, ei := h.ei, at_ := ?_, pok := fun q hq hl => ?_, tl := fun k d hk hd => by rw [put_size]; exact h.tl k d hk hd }
    · rw [set_getD hlt] at hi
      split at hi
      · rename_i e; rw [e]; exact .inl (h.pV p hp)
      · exact h.sub i hi
    · rw [set_getD hlt] at hl
      split at hl
      · cases hl
      · exact h.pnd i hi hl
    · obtain ⟨g1, g2, g3, g4, g5⟩ := h.ev e he
      have hset : ∀ k, lst.getD k false = true → (lst.setIfInBounds p true).getD k false = true := fun k hk => by
        rw [set_getD hlt]
        split
        · rfl
        · exact hk
      exact ⟨g1, g2, hset _ g3, fun k hk => hset k (g4 k hk), g5⟩
    · refine hB.step (fun e he => put_tmp_ne (fun hd => ?_)) ⟨M', hI', ⟨?_, fun d hdl hval => ?_⟩, hkd o hom _ _ hod, hC'⟩
      · exact (hearly e he).2 (by rw [(h.late he).2, hdst, hd])
      · cases o.dst <;> simpa [Act.put] using hB.rg.1
      · obtain ⟨hv1, hv3⟩ := valid_append.1 hval
        obtain ⟨hv1, hv2⟩ := valid_append.1 hv1
        rw [maskX_valid] at hv1
        by_cases e : o.dst = some d
        · rw [e]
          show RepA w' M' st.r ((a.tmps.setIfInBounds d u).getD d undef) _
          rw [agetD_set_self _ _ _ (by rw [hB.rg.1]; exact hdl)]
          exact hu d e hdl hv3
        · rw [put_tmp_ne e]
          refine (hB.rg.2 d hdl (valid_append.2 ⟨valid_append.2 ⟨maskX_valid.2 fun q hq hql => ?_, hv2⟩, hv3⟩)).mono hC'
          by_cases eq : q = p
          · subst eq; rw [hdst]; exact e
          · exact hv1 q hq (by rw [set_getD hlt, if_neg eq]; exact hql)
    · rw [set_getD hlt] at hl
      split at hl
      · cases hl
      · exact h.pok q hq hl
  -- it is wanted
  have go : ∀ g, g = true → pendV P E o g G st → o.wp P a w next Q := by
    intro g hg hv
    obtain ⟨hneed, hsem⟩ := hv.2 hg
    have hneed' : need ((maskX ops lst pend ++ maskE es) ++ G) o.op st := need_valid (fun d hd hv => valid_append.2 ⟨hX d (looks_op hd), hv⟩) hneed
    refine run_sound (E := E.det) (K := fun v st' => (∀ d, o.dst = some d → d < st.t.length → v = st.t.getD d .undef) ∧ st'.b = st.b ∧ st'.r = st.r) (KP := fun _ _ => False) hE.det hI hR hneed' (sem_runD hsem) (fun v st' M' w' u hK ht hI' hC' hu => ?_) (fun _ _ _ _ _ hf => hf.elim)
    obtain ⟨hv', hb, hr'⟩ := hK
    rw [hb, hr'] at hI'
    rw [hr'] at hC' hu
    exact after M' w' u hI' hC' (fun d hdd hlt' _ => by rw [← hv' d hdd hlt']; exact hu)
  unfold wpOp
  rw [ho]
  simp only
  unfold pendO at hpo
  cases hg : o.guard with
  | none =>
    rw [hg] at hpo
    have hw : Region.wanted o (yielded ops a.tmps) = true := by simp [Region.wanted, hg]
    rw [if_pos hw]
    exact .inl (go true rfl hpo)
  | some gp =>
    obtain ⟨gi, pol⟩ := gp
    rw [hg] at hpo
    simp only at hpo
    cases hgv : gval ops.toList st gi with
    | none => rw [hgv] at hpo; exact hpo.elim
    | some gx =>
      obtain ⟨gd, x⟩ := gx
      rw [hgv] at hpo
      obtain ⟨hval, hpv⟩ := hpo
      obtain ⟨hy, _, _⟩ := gval_spec hR hgv (valid_append.2 ⟨hX gd (looks_guard hg (gval_dst hgv)), hval⟩)
      have hw : Region.wanted o (yielded ops a.tmps) = (x == pol) := by
        simp only [Region.wanted, hg, hy]
        cases x <;> cases pol <;> rfl
      rw [hw]
      cases e : (x == pol) with
      | true =>
        rw [if_pos rfl]
        exact .inl (go _ e hpv)
      | false =>
        rw [if_neg (by simp)]
        refine after M w undef hI (.refl _ _ _) (fun d hdd _ hv => ?_)
        have := hpv.1 d hdd hv
        rw [e] at this
        cases this

/-- A variable comes up before it is asked for. -/
theorem simK_early (hlB : lateX P ops = true) (hkd : ∀ o ∈ ops.toList, ∀ (a : Act) u, dl a → dl (a.put o.dst u)) {lst : Array Bool} {V pend : List Nat} {es : List Early} {G : List (Nat × Bool)} {st : St} {a : Act} {w : World} {k : Nat} {next : Act → World → Prop} {Q : Exit → Act → World → Prop}
    (h : SimK P E ops dl w0 F W0 M0 r0 lst V pend es G st a w) (hk : k ∉ V) (hl : isLate ops k = true) (hr : k ∈ Region.ready .any ops lst) (hn : ∀ e a' w', SimK P E ops dl w0 F W0 M0 r0 (lst.setIfInBounds k true) V pend (e :: es) G st a' w' → next a' w') :
    wpOp P ops Q k next a w := by
  obtain ⟨h1, _, h2⟩ := ready_deps hr
  obtain ⟨hlt, hun⟩ := lst_lt h1
  obtain ⟨d, t, ty, p, ar, ho⟩ := isLate_spec hl
  have hks : k < ops.size := (Array.getElem?_eq_some_iff.1 ho).1
  have hlk := List.all_eq_true.1 hlB k (List.mem_range.2 hks)
  rw [ho] at hlk
  simp only [Bool.and_eq_true] at hlk
  obtain ⟨hz, hdd⟩ := hlk
  have hdst : dstOf ops k = some d := by simp [dstOf, ho]
  split at hz
  case h_2 => cases hz
  rename_i z hzz
  obtain ⟨inf, zv, hi, hzv, rfl⟩ := zero_spec hzz
  have hom : (⟨some d, .alloc t, ty, p, ar, none⟩ : Oper) ∈ ops.toList := by rw [Array.mem_toList_iff]; exact Array.mem_of_getElem? ho
  have hdl := h.tl k d hl hdst
  obtain ⟨M, w1, F1, hB⟩ := h.at_
  have hne : ∀ e ∈ es, e.d ≠ d := by
    intro e he hed
    obtain ⟨g1, g2, g3, _⟩ := h.ev e he
    have := List.all_eq_true.1 hdd e.i (List.mem_range.2 g2)
    rw [Bool.or_eq_true, Bool.or_eq_true] at this
    rcases this with (h3 | h3) | h3
    · have : e.i = k := by simpa using h3
      rw [this, hun] at g3
      cases g3
    · rw [(h.late he).1] at h3
      cases h3
    · rw [(h.late he).2, hdst, hed] at h3
      simp at h3
  unfold wpOp
  rw [ho]
  have hw : Region.wanted (⟨some d, .alloc t, ty, p, ar, none⟩ : Oper) (yielded ops a.tmps) = true := rfl
  simp only [hw, if_true]
  refine .inl ?_
  have hrun : (execOp a.eval ⟨some d, .alloc t, ty, p, ar, none⟩).run P w = .ok (.value (.pointer (some ⟨w.heap.size, 0, none⟩))) (w.alloc (.cells zv.cells t)) := by
    simp [execOp, Instr.alloc, zeroValue, typeInfo, hi, hzv, newVar, newRow]
  unfold Oper.wp
  rw [hrun]
  have hat := hB.up ⟨k, d, w.heap.size, t, zv⟩ rfl hz hdl hne (hkd _ hom _ _ hB.dl) (fun _ _ => trivial)
  refine hn ⟨k, d, w.heap.size, t, zv⟩ _ _ { hs := by simpa using h.hs, sub := fun i hi => ?_, vlt := h.vlt, pnd := fun i hi hl' => ?_, pV := h.pV, pw := h.pw, slf := h.slf, lt := h.lt, ev := fun e he => ?_, ei := fun e1 he1 e2 he2 hie => ?_, at_ := ?_, pok := fun q hq hl' => ?_, tl := fun k' d' hk' hd' => (put_size (a := a)).symm ▸ h.tl k' d' hk' hd' }
  · rw [set_getD hlt] at hi
    split at hi
    · rename_i e
      exact .inr ⟨_, List.mem_cons_self .., e.symm⟩
    · rcases h.sub i hi with h3 | ⟨e, he, h3⟩
      · exact .inl h3
      · exact .inr ⟨e, List.mem_cons_of_mem _ he, h3⟩
  · rw [set_getD hlt] at hl'
    split at hl'
    · cases hl'
    · exact h.pnd i hi hl'
  · have hset : ∀ j, lst.getD j false = true → (lst.setIfInBounds k true).getD j false = true := fun j hj => by
      rw [set_getD hlt]
      split
      · rfl
      · exact hj
    rcases List.mem_cons.1 he with rfl | he
    · exact ⟨hk, hks, by rw [set_getD hlt, if_pos rfl], fun j hj => hset j (h2 j hj), ty, p, ar, inf, ho, hi, hzv⟩
    · obtain ⟨g1, g2, g3, g4, g5⟩ := h.ev e he
      exact ⟨g1, g2, hset _ g3, fun j hj => hset j (g4 j hj), g5⟩
  · have hnk : ∀ e ∈ es, e.i ≠ k := fun e he hek => by
      have := (h.ev e he).2.2.1
      rw [hek, hun] at this
      cases this
    rcases List.mem_cons.1 he1 with r1 | r1 <;> rcases List.mem_cons.1 he2 with r2 | r2
    · rw [r1, r2]
    · rw [r1] at hie
      exact absurd hie.symm (hnk e2 r2)
    · rw [r2] at hie
      exact absurd hie (hnk e1 r1)
    · exact h.ei e1 r1 e2 r2 hie
  · obtain ⟨M', w1', F1', hB'⟩ := hat
    refine ⟨M', w1', F1', { hB' with rg := hB'.rg.le (fun d' hv => ?_) }⟩
    obtain ⟨hv1, hv3⟩ := valid_append.1 hv
    obtain ⟨hv1, hv2⟩ := valid_append.1 hv1
    have hv2' := maskE_valid.1 hv2
    intro q hq hqd
    rcases List.mem_cons.1 hq with rfl | hq
    · exact absurd hqd (hv2' _ (List.mem_cons_self ..))
    · refine (valid_append.2 ⟨valid_append.2 ⟨maskX_valid.2 fun q' hq' hql' => ?_, maskE_valid.2 fun e he => hv2' e (List.mem_cons_of_mem _ he)⟩, hv3⟩ : valid ((maskX ops lst pend ++ maskE es) ++ G) d') q hq hqd
      refine (maskX_valid.1 hv1) q' hq' ?_
      rw [set_getD hlt, if_neg]
      · exact hql'
      · intro e
        rw [e] at hq'
        exact hk (h.pV k hq')
  · rw [set_getD hlt] at hl'
    split at hl'
    · cases hl'
    · exact h.pok q hq hl'

/-- The plan's next operation is reckoned ahead: nothing has happened yet. -/
theorem simK_still {lst : Array Bool} {V pend rc : List Nat} {es : List Early} {G : List (Nat × Bool)} {st : St} {a : Act} {w : World} {i : Nat} {l : List (Nat × Bool × List Nat)} {K : St → Prop} {KP : AV → St → Prop}
    (h : SimK P E ops dl w0 F W0 M0 r0 lst V pend es G st a w) (hb : planB3 ops V pend ((i, false, rc) :: l) = true) (hk : planK P E ops.toList ((i, false, rc) :: l) G st K KP) :
    ∃ G' st', SimK P E ops dl w0 F W0 M0 r0 lst (i :: V) (i :: pend) es G' st' a w ∧ planB3 ops (i :: V) (i :: pend) l = true ∧ planK P E ops.toList l G' st' K KP := by
  have ph := planB3_head hb
  have hpair := ph.pair
  have hrest := ph.rest
  simp only [if_false, Bool.false_eq_true] at hpair hrest
  simp only [planK] at hk
  cases ho : ops.toList[i]? with
  | none => rw [ho] at hk; exact hk.elim
  | some o =>
    rw [ho] at hk
    simp only at hk
    have ho' : ops[i]? = some o := by simpa using ho
    have hlooks : looksOf ops i = o.looksAt ops := by simp [looksOf, ho']
    have hdst : dstOf ops i = o.dst := by simp [dstOf, ho']
    have hil : lst.getD i false = false := by
      cases e : lst.getD i false with
      | false => rfl
      | true =>
        rcases h.sub i e with h1 | ⟨e', he', h1⟩
        · exact absurd h1 ph.nV
        · have := (h.late he').1
          rw [h1, ph.still rfl] at this
          cases this
    have hs : ∀ d, o.dst = some d → d ∉ o.looksAt ops := by
      intro d hd hm
      have h1 := ph.self
      rw [hdst, hlooks, hd] at h1
      rw [hits_some.2 hm] at h1
      cases h1
    obtain ⟨v, G', hK, hg1, hg2, hpo⟩ := still_pend hs hk
    refine ⟨G', st.put o.dst v, { hs := h.hs, sub := fun j hj => (h.sub j hj).imp (List.mem_cons_of_mem _) id, vlt := fun j hj => ?_, pnd := fun j hj hl => ?_, pV := fun j hj => ?_, pw := fun p hp q hq hne => ?_, slf := fun p hp => ?_, lt := fun p hp k hks hkV hkl => ?_, ev := fun e he => ?_, ei := h.ei, at_ := ?_, pok := fun p hp hl => ?_, tl := h.tl }, hrest, hK⟩
    · rcases List.mem_cons.1 hj with rfl | hj
      · exact ph.lt
      · exact h.vlt j hj
    · rcases List.mem_cons.1 hj with rfl | hj
      · exact List.mem_cons_self ..
      · exact List.mem_cons_of_mem _ (h.pnd j hj hl)
    · rcases List.mem_cons.1 hj with rfl | hj
      · exact List.mem_cons_self ..
      · exact List.mem_cons_of_mem _ (h.pV j hj)
    · rcases List.mem_cons.1 hp with ep | hp' <;> rcases List.mem_cons.1 hq with eq | hq'
      · exact absurd (ep.trans eq.symm) hne
      · obtain ⟨h1, h2, h3⟩ := hpair q hq'
        rw [ep]
        exact ⟨h3, fun d hd hd' => h2 d hd' hd⟩
      · obtain ⟨h1, h2, h3⟩ := hpair p hp'
        rw [eq]
        exact ⟨fun hh => (by rw [h1] at hh; cases hh), h2⟩
      · exact h.pw p hp' q hq' hne
    · rcases List.mem_cons.1 hp with rfl | hp
      · exact ph.self
      · exact h.slf p hp
    · have hkV' : k ∉ V := fun hm => hkV (List.mem_cons_of_mem _ hm)
      rcases List.mem_cons.1 hp with rfl | hp
      · exact ph.late k hks hkV' (fun e => hkV (by rw [e]; exact List.mem_cons_self ..)) hkl
      · exact h.lt p hp k hks hkV' hkl
    · obtain ⟨g1, g2⟩ := h.ev e he
      refine ⟨fun hm => ?_, g2⟩
      rcases List.mem_cons.1 hm with h1 | h1
      · have := (h.late he).1
        rw [h1, ph.still rfl] at this
        cases this
      · exact g1 h1
    · obtain ⟨M, w1, F1, hB⟩ := h.at_
      refine hB.step (fun _ _ => rfl) ⟨M, ?_, ⟨?_, fun d hdl hval => ?_⟩, hB.dl, ?_⟩
      · rw [put_put_len.1, put_put_len.2]; exact hB.inv
      · rw [put_len]; exact hB.rg.1
      · rw [put_len] at hdl
        rw [put_put_len.2]
        obtain ⟨hx, hg⟩ := valid_append.1 hval
        obtain ⟨hx, hge⟩ := valid_append.1 hx
        rw [maskX_valid] at hx
        have hne : o.dst ≠ some d := by
          rw [← hdst]
          exact hx i (List.mem_cons_self ..) hil
        rw [put_get_ne hne]
        exact hB.rg.2 d hdl (valid_append.2 ⟨valid_append.2 ⟨maskX_valid.2 fun q hq hql => hx q (List.mem_cons_of_mem _ hq) hql, hge⟩, hg1 d hg⟩)
      · rw [put_put_len.2]; exact .refl _ _ _
    · rcases List.mem_cons.1 hp with rfl | hp
      · exact ⟨o, ho', hpo⟩
      · obtain ⟨op, hop, hpp⟩ := h.pok p hp hl
        obtain ⟨h1, h2, h3⟩ := hpair p hp
        have hlp : looksOf ops p = op.looksAt ops := by simp [looksOf, hop]
        have hdp : dstOf ops p = op.dst := by simp [dstOf, hop]
        have hno : ∀ d, o.dst = some d → d ∉ op.looksAt ops := by
          intro d hd hm
          rw [hdst, hlp, hd] at h1
          have := hits_some.2 hm
          rw [h1] at this
          cases this
        refine ⟨op, hop, pendO_put hno (fun d hd hdd => ?_) (fun d hd hval => hg2 d (fun hdd => hno d hdd hd) hval) hg1 hpp⟩
        exact h2 d (by rw [hdst]; exact hdd) (by rw [hdp]; exact hd)

/-- The one operation that may come up, and does something. -/
theorem simK_chain (hE : E.Ok P) (hkd : ∀ o ∈ ops.toList, ∀ (a : Act) u, dl a → dl (a.put o.dst u)) {lst : Array Bool} {V pend rc : List Nat} {es : List Early} {G : List (Nat × Bool)} {st : St} {a : Act} {w : World} {i : Nat} {l : List (Nat × Bool × List Nat)} {K : St → Prop} {KP : AV → St → Prop} {next : Act → World → Prop} {Q : Exit → Act → World → Prop}
    (h : SimK P E ops dl w0 F W0 M0 r0 lst V pend es G st a w) (hb : planB3 ops V pend ((i, true, rc) :: l) = true) (hk : planK P E ops.toList ((i, true, rc) :: l) G st K KP) (hr : i ∈ Region.ready .any ops lst)
    (hn : ∀ G' st' pend' a' w', SimK P E ops dl w0 F W0 M0 r0 (lst.setIfInBounds i true) (i :: V) pend' es G' st' a' w' → planB3 ops (i :: V) pend' l = true → planK P E ops.toList l G' st' K KP → next a' w')
    (panics : ∀ x st u a w, AtP dl w0 F W0 M0 r0 x st u a w → KP x st → Q (.panic [{ v := u, recovered := false }]) a w) :
    wpOp P ops Q i next a w := by
  obtain ⟨h1, _, h2⟩ := ready_deps hr
  obtain ⟨hlt, hun⟩ := lst_lt h1
  have ph := planB3_head hb
  have hpair := ph.pair
  have hrc := ph.rc rfl
  have hrest := ph.rest
  simp only [if_true] at hpair hrc hrest
  simp only [planK] at hk
  cases ho : ops.toList[i]? with
  | none => rw [ho] at hk; exact hk.elim
  | some o =>
    rw [ho] at hk
    simp only at hk
    have ho' : ops[i]? = some o := by simpa using ho
    have hom : o ∈ ops.toList := List.mem_of_getElem? ho
    have hlooks : looksOf ops i = o.looksAt ops := by simp [looksOf, ho']
    have hdst : dstOf ops i = o.dst := by simp [dstOf, ho']
    have hpend : ∀ q ∈ pend, lst.getD q false = false → q ∈ pend.filter fun p => !(depsOf ops i).contains p := by
      intro q hq hql
      refine List.mem_filter.2 ⟨hq, ?_⟩
      have : q ∉ depsOf ops i := fun hd => by
        rw [h2 q hd] at hql
        cases hql
      simpa using this
    have hearly : ∀ e ∈ es, hits (dstOf ops e.i) (looksOf ops i) = false ∧ dstOf ops e.i ≠ dstOf ops i := by
      intro e he
      obtain ⟨g1, g2, g3, _⟩ := h.ev e he
      refine ph.late e.i g2 g1 (fun hei => ?_) (h.late he).1
      rw [hei, hun] at g3
      cases g3
    have hX : ∀ d ∈ o.looksAt ops, valid (maskX ops lst pend ++ maskE es) d := by
      intro d hd
      refine valid_append.2 ⟨?_, maskE_valid.2 fun e he hed => ?_⟩
      · rw [maskX_valid]
        intro q hq hql hqd
        have hh : hits (dstOf ops q) (looksOf ops i) = true := by rw [hqd, hlooks]; exact hits_some.2 hd
        have := h2 q ((hpair q (hpend q hq hql)).2.2 hh)
        rw [hql] at this
        cases this
      · have h3 := (hearly e he).1
        rw [(h.late he).2, hlooks, hed] at h3
        rw [hits_some.2 hd] at h3
        cases h3
    obtain ⟨M, w1, F1, hB⟩ := h.at_
    have key := opK_sound (Q := Q) (next := next) hE (hkd o hom) hX hB.at_ hk (fun G1 st1 a1 w1' hsame hat hK => ?_) (fun x st u a w hp hk => panics x st u a w (hB.stepP hp) hk)
    · unfold wpOp
      rw [ho']
      simp only
      split
      · rename_i hw
        rw [if_pos hw] at key
        exact .inl key
      · rename_i hw
        rw [if_neg hw] at key
        exact key
    · refine hn G1 st1 (pend.filter fun p => !(depsOf ops i).contains p) a1 w1' { hs := by simpa using h.hs, sub := fun j hj => ?_, vlt := fun j hj => ?_, pnd := fun j hj hl => ?_, pV := fun j hj => ?_, pw := fun p hp q hq hne => ?_, slf := fun p hp => ?_, lt := fun p hp k hks hkV hkl => ?_, ev := fun e he => ?_, ei := h.ei, at_ := ?_, pok := fun p hp hl => ?_, tl := fun k d hk hd => by obtain ⟨⟨u, rfl⟩, _⟩ := hsame; rw [put_size]; exact h.tl k d hk hd } hrest hK.2
      · rw [set_getD hlt] at hj
        split at hj
        · rename_i e; rw [e]; exact .inl (List.mem_cons_self ..)
        · exact (h.sub j hj).imp (List.mem_cons_of_mem _) id
      · rcases List.mem_cons.1 hj with rfl | hj
        · exact ph.lt
        · exact h.vlt j hj
      · rw [set_getD hlt] at hl
        split at hl
        · cases hl
        · rename_i hne
          rcases List.mem_cons.1 hj with e | hj
          · exact absurd e hne
          · exact hpend j (h.pnd j hj hl) hl
      · exact List.mem_cons_of_mem _ (h.pV j (List.mem_filter.1 hj).1)
      · exact h.pw p (List.mem_filter.1 hp).1 q (List.mem_filter.1 hq).1 hne
      · exact h.slf p (List.mem_filter.1 hp).1
      · exact h.lt p (List.mem_filter.1 hp).1 k hks (fun hm => hkV (List.mem_cons_of_mem _ hm)) hkl
      · obtain ⟨g1, g2, g3, g4, g5⟩ := h.ev e he
        have hset : ∀ j, lst.getD j false = true → (lst.setIfInBounds i true).getD j false = true := fun j hj => by
          rw [set_getD hlt]
          split
          · rfl
          · exact hj
        refine ⟨fun hm => ?_, g2, hset _ g3, fun j hj => hset j (g4 j hj), g5⟩
        rcases List.mem_cons.1 hm with h3 | h3
        · rw [h3, hun] at g3
          cases g3
        · exact g1 h3
      · obtain ⟨⟨u, rfl⟩, _⟩ := hsame
        refine hB.step (fun e he => put_tmp_ne (fun hd => ?_)) ?_
        · exact (hearly e he).2 (by rw [(h.late he).2, hdst, hd])
        · obtain ⟨M', hI, hR, hd, hC⟩ := hat
          refine ⟨M', hI, hR.le (fun d hv => ?_), hd, hC⟩
          obtain ⟨hx, hg⟩ := valid_append.1 hv
          obtain ⟨hx, hge⟩ := valid_append.1 hx
          refine valid_append.2 ⟨valid_append.2 ⟨maskX_valid.2 fun q hq hql => ?_, hge⟩, hg⟩
          have hqi : q ≠ i := fun e => ph.nV (by rw [← e]; exact h.pV q hq)
          exact (maskX_valid.1 hx) q (hpend q hq hql) (by rw [set_getD hlt, if_neg hqi]; exact hql)
      · obtain ⟨op, hop, hpp⟩ := pendL_mem hK.1 p (hrc p hp)
        exact ⟨op, by simpa using hop, hpp⟩

/-- A variable that has come up early is asked for. -/
theorem simK_take {lst : Array Bool} {V pend rc : List Nat} {es : List Early} {G : List (Nat × Bool)} {st : St} {a : Act} {w : World} {i : Nat} {l : List (Nat × Bool × List Nat)} {K : St → Prop} {KP : AV → St → Prop}
    (h : SimK P E ops dl w0 F W0 M0 r0 lst V pend es G st a w) (hb : planB3 ops V pend ((i, true, rc) :: l) = true) (hk : planK P E ops.toList ((i, true, rc) :: l) G st K KP) {e : Early} (he : e ∈ es) (hei : e.i = i) :
    ∃ es' G' st' pend', SimK P E ops dl w0 F W0 M0 r0 lst (i :: V) pend' es' G' st' a w ∧ planB3 ops (i :: V) pend' l = true ∧ planK P E ops.toList l G' st' K KP := by
  have ph := planB3_head hb
  have hrc := ph.rc rfl
  have hrest := ph.rest
  simp only [if_true] at hrc hrest
  obtain ⟨g1, g2, g3, g4, ty, p0, ar, inf, ho', hinf, hzv⟩ := h.ev e he
  rw [hei] at ho' g3 g4
  have ho : ops.toList[i]? = some ⟨some e.d, .alloc e.t, ty, p0, ar, none⟩ := by simpa using ho'
  simp only [planK] at hk
  rw [ho] at hk
  simp only at hk
  have hlooks : looksOf ops i = Oper.looksAt ops ⟨some e.d, .alloc e.t, ty, p0, ar, none⟩ := by simp [looksOf, ho']
  have hdst : dstOf ops i = some e.d := by simp [dstOf, ho']
  have hz : zero? P e.t = some (e.z.cells.toList.map constA) := by
    unfold zero?
    rw [hinf]
    simp [hzv]
  obtain ⟨M, w1, F1, hB⟩ := h.at_
  have hone := (hB.early e he).one
  have hk' : pendL P E ops.toList G ((st.new (e.z.cells.toList.map constA)).put (some e.d) (.ptr st.b.length 0)) rc ∧ planK P E ops.toList l G ((st.new (e.z.cells.toList.map constA)).put (some e.d) (.ptr st.b.length 0)) K KP := by
    simp only [opK, opR, allocR, hz, runK] at hk
    exact hk.2.2
  obtain ⟨hp, hk⟩ := hk'
  have hpend : ∀ q ∈ pend, lst.getD q false = false → q ∈ pend.filter fun p => !(depsOf ops i).contains p := by
    intro q hq hql
    refine List.mem_filter.2 ⟨hq, ?_⟩
    have : q ∉ depsOf ops i := fun hd => by
      rw [g4 q hd] at hql
      cases hql
    simpa using this
  have htl : e.d < st.t.length := by
    have := h.tl i e.d (by simp [isLate, ho']) hdst
    rw [hB.rg.1] at this
    exact this
  refine ⟨es.filter fun e' => e'.i != i, G, _, pend.filter fun p => !(depsOf ops i).contains p, { hs := h.hs, sub := fun j hj => ?_, vlt := fun j hj => ?_, pnd := fun j hj hl => ?_, pV := fun j hj => ?_, pw := fun p hp q hq hne => ?_, slf := fun p hp => ?_, lt := fun p hp k hks hkV hkl => ?_, ev := fun e' he' => ?_, ei := fun e1 h1 e2 h2 => h.ei e1 (List.mem_filter.1 h1).1 e2 (List.mem_filter.1 h2).1, at_ := ?_, pok := fun p hp' hl => (by obtain ⟨op, hop, hpp⟩ := pendL_mem hp p (hrc p hp'); exact ⟨op, by simpa using hop, hpp⟩), tl := h.tl }, hrest, hk⟩
  · rcases h.sub j hj with h3 | ⟨e', he', h3⟩
    · exact .inl (List.mem_cons_of_mem _ h3)
    · by_cases hji : j = i
      · exact .inl (by rw [hji]; exact List.mem_cons_self ..)
      · exact .inr ⟨e', List.mem_filter.2 ⟨he', by simp [h3, hji]⟩, h3⟩
  · rcases List.mem_cons.1 hj with rfl | hj
    · exact ph.lt
    · exact h.vlt j hj
  · rcases List.mem_cons.1 hj with e' | hj
    · rw [e', g3] at hl
      cases hl
    · exact hpend j (h.pnd j hj hl) hl
  · exact List.mem_cons_of_mem _ (h.pV j (List.mem_filter.1 hj).1)
  · exact h.pw p (List.mem_filter.1 hp).1 q (List.mem_filter.1 hq).1 hne
  · exact h.slf p (List.mem_filter.1 hp).1
  · exact h.lt p (List.mem_filter.1 hp).1 k hks (fun hm => hkV (List.mem_cons_of_mem _ hm)) hkl
  · obtain ⟨m1, m2⟩ := List.mem_filter.1 he'
    obtain ⟨k1, k2⟩ := h.ev e' m1
    refine ⟨fun hm => ?_, k2⟩
    rcases List.mem_cons.1 hm with h3 | h3
    · rw [h3] at m2
      simp at m2
    · exact k1 h3
  · refine AtX.take ⟨M, w1, F1, hB⟩ e he _ (fun e' => ?_) (fun d hd hv => ?_) htl
    · constructor
      · intro hm
        obtain ⟨m1, m2⟩ := List.mem_filter.1 hm
        refine ⟨m1, fun hee => ?_⟩
        rw [hee, hei] at m2
        simp at m2
      · rintro ⟨m1, m2⟩
        refine List.mem_filter.2 ⟨m1, ?_⟩
        have : e'.i ≠ i := fun h3 => m2 (h.ei e' m1 e he (by rw [h3, hei]))
        simpa using this
    · obtain ⟨hx, hg0⟩ := valid_append.1 hv
      obtain ⟨hx, hg⟩ := valid_append.1 hx
      refine valid_append.2 ⟨valid_append.2 ⟨maskX_valid.2 fun q hq hql => (maskX_valid.1 hx) q (hpend q hq hql) hql, maskE_valid.2 fun e' he' => ?_⟩, hg0⟩
      by_cases hee : e' = e
      · rw [hee]
        exact fun h3 => hd h3.symm
      · refine (maskE_valid.1 hg) e' (List.mem_filter.2 ⟨he', ?_⟩)
        have : e'.i ≠ i := fun h3 => hee (h.ei e' he' e he (by rw [h3, hei]))
        simpa using this

theorem planL_sound (hE : E.Ok P) (hkd : ∀ o ∈ ops.toList, ∀ (a : Act) u, dl a → dl (a.put o.dst u)) (hB : backB ops = true) (hL : lateX P ops = true) {K : St → Prop} {KP : AV → St → Prop} {Q : Exit → Act → World → Prop}
    (next' : ∀ st a w, At dl w0 F W0 M0 r0 [] st a w → K st → Q .normal a w)
    (panics : ∀ x st u a w, AtP dl w0 F W0 M0 r0 x st u a w → KP x st → Q (.panic [{ v := u, recovered := false }]) a w) :
    ∀ (fuel : Nat) (lst : Array Bool) (V pend : List Nat) (l : List (Nat × Bool × List Nat)) (es : List Early) (G : List (Nat × Bool)) (st : St) (a : Act) (w : World), unl ops lst ≤ fuel → SimK P E ops dl w0 F W0 M0 r0 lst V pend es G st a w → planB3 ops V pend l = true → planK P E ops.toList l G st K KP →
      wpAny P .any ops Q fuel lst a w := by
  have done : ∀ (l : List (Nat × Bool × List Nat)) (lst : Array Bool) (V pend : List Nat) (es : List Early) (G : List (Nat × Bool)) (st : St) (a : Act) (w : World), (∀ i, i < ops.size → lst.getD i false = true) → SimK P E ops dl w0 F W0 M0 r0 lst V pend es G st a w → planB3 ops V pend l = true → planK P E ops.toList l G st K KP → Q .normal a w := by
    intro l
    induction l with
    | nil =>
      intro lst V pend es G st a w hall h hb hk
      have hes : es = [] := by
        cases es with
        | nil => rfl
        | cons e es =>
          obtain ⟨g1, g2, _⟩ := h.ev e (List.mem_cons_self ..)
          have := List.all_eq_true.1 hb e.i (List.mem_range.2 g2)
          exact absurd (by simpa using this) g1
      subst hes
      refine next' _ a w (At.clean (G := G) ?_) hk
      obtain ⟨M, hI, hR, hd, hC⟩ := h.at_.at_
      refine ⟨M, hI, hR.le (fun d hv => valid_append.2 ⟨valid_append.2 ⟨maskX_valid.2 fun q hq hql => ?_, maskE_valid.2 fun e he => (nomatch he)⟩, hv⟩), hd, hC⟩
      rw [hall q (h.vlt q (h.pV q hq))] at hql
      cases hql
    | cons x l ihl =>
      intro lst V pend es G st a w hall h hb hk
      obtain ⟨i, ch, rc⟩ := x
      have ph := planB3_head hb
      cases ch with
      | false =>
        obtain ⟨G', st', hs, hb', hk'⟩ := simK_still h hb hk
        exact ihl _ _ _ _ _ _ _ _ hall hs hb' hk'
      | true =>
        rcases h.sub i (hall i ph.lt) with h1 | ⟨e, he, hei⟩
        · exact absurd h1 ph.nV
        · obtain ⟨es', G', st', pend', hs, hb', hk'⟩ := simK_take h hb hk he hei
          exact ihl _ _ _ _ _ _ _ _ hall hs hb' hk'
  have alls : ∀ lst : Array Bool, unl ops lst ≤ 0 → ∀ i, i < ops.size → lst.getD i false = true := by
    intro lst h i hi
    have : ((List.range ops.size).filter fun i => !lst.getD i false) = [] := List.eq_nil_of_length_eq_zero (Nat.le_zero.1 h)
    have := List.filter_eq_nil_iff.1 this i (List.mem_range.2 hi)
    simpa using this
  intro fuel
  induction fuel with
  | zero =>
    intro lst V pend l es G st a w hu h hb hk
    have hall := alls lst hu
    refine ⟨?_, done l lst V pend es G st a w hall h hb hk⟩
    refine List.eq_nil_iff_forall_not_mem.2 (fun i hi => ?_)
    obtain ⟨h1, ⟨o, ho⟩, _⟩ := ready_deps hi
    have hlt : i < ops.size := (Array.getElem?_eq_some_iff.1 ho).1
    have := (lst_lt h1).2
    rw [hall i hlt] at this
    cases this
  | succ fuel ih =>
    intro lst V pend l es G st a w hu h hb hk
    refine ⟨fun hr => done l lst V pend es G st a w (ready_nil hB h.hs hr) h hb hk, fun i hi => ?_⟩
    obtain ⟨h1, ⟨o, ho⟩, h2⟩ := ready_deps hi
    obtain ⟨hlt, hun⟩ := lst_lt h1
    have hin : i < ops.size := (Array.getElem?_eq_some_iff.1 ho).1
    have hu' : unl ops (lst.setIfInBounds i true) ≤ fuel := by
      have := unl_set (ops := ops) hin hlt hun
      omega
    clear hu
    induction l generalizing V pend es G st with
    | nil =>
      have hV : i ∈ V := by
        have := List.all_eq_true.1 hb i (List.mem_range.2 hin)
        simpa using this
      exact simK_pend hE hkd h (h.pnd i hV hun) hi (fun a' w' hs => ih _ _ _ _ _ _ _ _ _ hu' hs hb hk)
    | cons x l ihl =>
      by_cases hV : i ∈ V
      · exact simK_pend hE hkd h (h.pnd i hV hun) hi (fun a' w' hs => ih _ _ _ _ _ _ _ _ _ hu' hs hb hk)
      · obtain ⟨j, ch, rc⟩ := x
        cases ch with
        | false =>
          obtain ⟨G', st', hs, hb', hk'⟩ := simK_still h hb hk
          exact ihl _ _ _ _ _ hs hb' hk'
        | true =>
          have ph := planB3_head hb
          by_cases hj : ∃ e ∈ es, e.i = j
          · obtain ⟨e, he, hej⟩ := hj
            obtain ⟨es', G', st', pend', hs, hb', hk'⟩ := simK_take h hb hk he hej
            exact ihl _ _ _ _ _ hs hb' hk'
          · by_cases hij : i = j
            · subst hij
              exact simK_chain hE hkd h hb hk hi (fun G' st' pend' a' w' hs hb' hk' => ih _ _ _ _ _ _ _ _ _ hu' hs hb' hk') panics
            · cases hl : isLate ops i with
              | true => exact simK_early hL hkd h hV hl hi (fun e a' w' hs => ih _ _ _ _ _ _ _ _ _ hu' hs hb hk)
              | false =>
                exfalso
                obtain ⟨q, hq, hqV, hql⟩ := ph.only rfl i hin hV hij hl
                rcases h.sub q (h2 q hq) with h3 | ⟨e, he, h3⟩
                · exact hqV h3
                · have h4 := (h.late he).1
                  rw [h3] at h4
                  exact hj ⟨e, he, by rw [h3]; exact hql h4⟩

/-- A region whose order is drawn. -/
theorem drawnL_sound (hE : E.Ok P) (hkd : ∀ o ∈ ops.toList, ∀ (a : Act) u, dl a → dl (a.put o.dst u)) (hm : P.follows .mixedOrders = true) {id : Nat} {plan : List (Nat × Bool × List Nat)} (hB : backB ops = true) (hL : lateX P ops = true) (hP : planB3 ops [] [] plan = true) {K : St → Prop} {KP : AV → St → Prop} {Q : Exit → Act → World → Prop} {st : St} {a : Act} {w : World}
    (hT : lateT ops st.t.length = true) (h : At dl w0 F W0 M0 r0 [] st a w) (hk : planK P E ops.toList plan [] st K KP)
    (next' : ∀ st a w, At dl w0 F W0 M0 r0 [] st a w → K st → Q .normal a w)
    (panics : ∀ x st u a w, AtP dl w0 F W0 M0 r0 x st u a w → KP x st → Q (.panic [{ v := u, recovered := false }]) a w) : (Code.region id ops true).wp P Q a w := by
  refine wp_region_any hm (planL_sound hE hkd hB hL next' panics ops.size _ [] [] plan [] [] st a _ ?_ ?_ hP hk)
  · refine Nat.le_trans (List.length_filter_le _ _) (by simp)
  · have hsz : a.tmps.size = st.t.length := by
      obtain ⟨M, hI, hR, hd, hC⟩ := h
      exact hR.1
    have h' : At dl w0 F W0 M0 r0 [] st a w.drew := by
      obtain ⟨M, hI, hR, hd, hC⟩ := h
      obtain ⟨hI', hC'⟩ := hI.drew
      exact ⟨M, hI', hR.mono hC', hd, hC.trans hC'⟩
    refine { hs := by simp, sub := fun i hi => ?_, vlt := fun i hi => (nomatch hi), pnd := fun i hi => (nomatch hi), pV := fun i hi => (nomatch hi), pw := fun p hp => (nomatch hp), slf := fun p hp => (nomatch hp), lt := fun p hp => (nomatch hp), ev := fun e he => (nomatch he), ei := fun e he => (nomatch he), at_ := (show AtX dl w0 F W0 M0 r0 [] (([] ++ []) ++ []) st a w.drew from h'.atX), pok := fun p hp => (nomatch hp), tl := fun k d hk hd => ?_ }
    · have : (Array.replicate ops.size false).getD i false = false := by
        simp only [Array.getD, Array.size_replicate]
        split <;> simp
      rw [this] at hi
      cases hi
    · obtain ⟨d', t, ty, p, ar, ho⟩ := isLate_spec hk
      have := List.all_eq_true.1 hT k (List.mem_range.2 (Array.getElem?_eq_some_iff.1 ho).1)
      rw [hk, hd] at this
      rw [hsz]
      simpa using this
end
end Go.PE
