/- The evaluator: a region whose order is drawn is right, end (see PeX). -/
import Derived.Test.YtkgkpmdbcjelfaaPeZ
set_option linter.unusedVariables false
set_option linter.unusedSimpArgs false
namespace Go.PE
open Go

section
variable {dl : Act → Prop} {P : Program} {E : Env} {w0 : World} {F : List Nat} {W0 : World} {M0 : Mem} {r0 : List Arr} {ops : Array Oper}

theorem pendL_mem {L : List Oper} {G : List (Nat × Bool)} {st : St} : ∀ {l : List Nat}, pendL P L G st l → ∀ i ∈ l, ∃ o, L[i]? = some o ∧ pendO P L o G st
  | [], _, i, hi => by cases hi
  | j :: l, h, i, hi => by
    rcases List.mem_cons.1 hi with e | hi
    · subst e
      have h1 := h.1
      cases ho : L[i]? with
      | none => rw [ho] at h1; exact h1.elim
      | some o => rw [ho] at h1; exact ⟨o, rfl, h1⟩
    · exact pendL_mem h.2 i hi

/-- The one operation that may come up, and does something. -/
theorem sim_chain (hE : E.Ok P) (hkd : ∀ o ∈ ops.toList, ∀ (a : Act) u, dl a → dl (a.put o.dst u))  {lst : Array Bool} {V pend rc : List Nat} {G : List (Nat × Bool)} {st : St} {a : Act} {w : World} {i : Nat} {l : List (Nat × Bool × List Nat)} {K : St → Prop} {KP : AV → St → Prop} {next : Act → World → Prop} {Q : Exit → Act → World → Prop}
    (h : Sim P ops dl w0 F W0 M0 r0 lst V pend G st a w) (hb : planB ops V pend ((i, true, rc) :: l) = true) (hk : planK P E ops.toList ((i, true, rc) :: l) G st K KP) (hr : i ∈ Region.ready .any ops lst)
    (hn : ∀ G' st' pend' a' w', Sim P ops dl w0 F W0 M0 r0 (lst.setIfInBounds i true) (i :: V) pend' G' st' a' w' → planB ops (i :: V) pend' l = true → planK P E ops.toList l G' st' K KP → next a' w')
    (panics : ∀ x st u a w, AtP dl w0 F W0 M0 r0 x st u a w → KP x st → Q (.panic [{ v := u, recovered := false }]) a w) :
    wpOp P ops Q i next a w := by
  obtain ⟨h1, _, h2⟩ := ready_deps hr
  obtain ⟨hlt, hun⟩ := lst_lt h1
  simp only [planB, Bool.and_eq_true, decide_eq_true_eq, Bool.not_eq_true', List.all_eq_true, if_true] at hb
  obtain ⟨⟨⟨⟨⟨⟨hlt', hiV⟩, hdeps⟩, hself⟩, hpw⟩, ⟨_, hrc⟩⟩, hb⟩ := hb
  have hiV' : i ∉ V := by simpa using hiV
  simp only [planK] at hk
  cases ho : ops.toList[i]? with
  | none => rw [ho] at hk; exact hk.elim
  | some o =>
    rw [ho] at hk
    simp only at hk
    have ho' : ops[i]? = some o := by simpa using ho
    have hlooks : looksOf ops i = o.looksAt ops := by simp [looksOf, ho']
    have hdst : dstOf ops i = o.dst := by simp [dstOf, ho']
    have hpend : ∀ q ∈ pend, lst.getD q false = false → q ∈ pend.filter fun p => !(depsOf ops i).contains p := by
      intro q hq hql
      refine List.mem_filter.2 ⟨hq, ?_⟩
      have : q ∉ depsOf ops i := fun hd => by
        rw [h2 q hd] at hql
        cases hql
      simpa using this
    have hX : ∀ d ∈ o.looksAt ops, valid (maskX ops lst pend) d := by
      intro d hd
      rw [maskX_valid]
      intro q hq hql hqd
      have hh : hits (dstOf ops q) (looksOf ops i) = true := by rw [hqd, hlooks]; exact hits_some.2 hd
      obtain ⟨_, h3⟩ := hpw q (hpend q hq hql)
      rw [Bool.or_eq_true] at h3
      rcases h3 with h3 | h3
      · rw [hh] at h3; simp at h3
      · have := h2 q (by simpa using h3)
        rw [hql] at this
        cases this
    have key := opK_sound (Q := Q) (next := next) hE (hkd o (List.mem_of_getElem? ho)) hX h.at_ hk (fun G1 st1 a1 w1 hat hK => ?_) panics
    · unfold wpOp
      rw [ho']
      simp only
      split
      · rename_i hw
        rw [if_pos hw] at key
        exact .inl key
      · rename_i hw
        rw [if_neg hw] at key
        exact key
    · refine hn G1 st1 (pend.filter fun p => !(depsOf ops i).contains p) a1 w1 { hs := by simpa using h.hs, sub := fun j hj => ?_, vlt := fun j hj => ?_, pnd := fun j hj hl => ?_, pV := fun j hj => ?_, pw := fun p hp q hq hne => ?_, slf := fun p hp => ?_, dep := fun j hj k hk => ?_, at_ := ?_, pok := fun p hp hl => ?_ } hb hK.2
      · rw [set_getD hlt] at hj
        split at hj
        · rename_i e; rw [e]; exact List.mem_cons_self ..
        · exact List.mem_cons_of_mem _ (h.sub j hj)
      · rcases List.mem_cons.1 hj with rfl | hj
        · exact hlt'
        · exact h.vlt j hj
      · rw [set_getD hlt] at hl
        split at hl
        · cases hl
        · rename_i hne
          rcases List.mem_cons.1 hj with e | hj
          · exact absurd e hne
          · exact hpend j (h.pnd j hj hl) hl
      · exact List.mem_cons_of_mem _ (h.pV j (List.mem_filter.1 hj).1)
      · exact h.pw p (List.mem_filter.1 hp).1 q (List.mem_filter.1 hq).1 hne
      · exact h.slf p (List.mem_filter.1 hp).1
      · rcases List.mem_cons.1 hj with e | hj
        · rw [e] at hk
          exact List.mem_cons_of_mem _ (by simpa using hdeps k hk)
        · exact List.mem_cons_of_mem _ (h.dep j hj k hk)
      · obtain ⟨M, hI, hR, hd, hC⟩ := hat
        refine ⟨M, hI, hR.le (fun d hv => ?_), hd, hC⟩
        obtain ⟨hx, hg⟩ := valid_append.1 hv
        refine valid_append.2 ⟨maskX_valid.2 fun q hq hql => ?_, hg⟩
        have hqi : q ≠ i := fun e => hiV' (by rw [← e]; exact h.pV q hq)
        exact (maskX_valid.1 hx) q (hpend q hq hql) (by rw [set_getD hlt, if_neg hqi]; exact hql)
      · obtain ⟨op, hop, hpp⟩ := pendL_mem hK.1 p (by simpa using hrc p hp)
        exact ⟨op, by simpa using hop, hpp⟩

/-- How many have not come up. -/
def unl (ops : Array Oper) (lst : Array Bool) : Nat := ((List.range ops.size).filter fun i => !lst.getD i false).length
theorem filter_lt {α : Type} (p q : α → Bool) (h : ∀ x, q x = true → p x = true) : ∀ (l : List α), (∃ x ∈ l, p x = true ∧ q x = false) → (l.filter q).length < (l.filter p).length := by
  have le : ∀ l : List α, (l.filter q).length ≤ (l.filter p).length := by
    intro l
    induction l with
    | nil => simp
    | cons x l ih =>
      simp only [List.filter_cons]
      cases hq : q x with
      | true => simp [h x hq, ih]
      | false =>
        cases p x with
        | true => simp; omega
        | false => simpa using ih
  intro l
  induction l with
  | nil => rintro ⟨x, hx, _⟩; cases hx
  | cons x l ih =>
    rintro ⟨y, hy, h1, h2⟩
    rcases List.mem_cons.1 hy with e | hy
    · subst e
      have := le l
      simp [List.filter_cons, h1, h2]
      omega
    · have := ih ⟨y, hy, h1, h2⟩
      simp only [List.filter_cons]
      cases hq : q x with
      | true => simp [h x hq]; exact this
      | false =>
        cases p x with
        | true => simp; omega
        | false => simpa using this
theorem unl_set {lst : Array Bool} {i : Nat} (h1 : i < ops.size) (h2 : i < lst.size) (h3 : lst.getD i false = false) : unl ops (lst.setIfInBounds i true) < unl ops lst := by
  refine filter_lt _ _ (fun x hx => ?_) _ ⟨i, List.mem_range.2 h1, by simp [h3], by rw [set_getD h2]; simp⟩
  rw [set_getD h2] at hx
  split at hx
  · simp at hx
  · exact hx

/-- All have come up, or one may. -/
theorem ready_nil {lst : Array Bool} (hB : backB ops = true) (hs : lst.size = ops.size) (h : Region.ready .any ops lst = []) : ∀ i, i < ops.size → lst.getD i false = true := by
  intro i
  induction i using Nat.strongRecOn with
  | _ i ih =>
    intro hi
    cases e : lst.getD i false with
    | true => rfl
    | false =>
      exfalso
      have hmem : i ∈ Region.ready .any ops lst := by
        refine mem_ready.2 ⟨?_, ops[i], by simp [hi], fun ed hed hbn => ?_⟩
        · have hl : i < lst.size := by rw [hs]; exact hi
          simp only [Array.getD, hl, dif_pos] at e ⊢
          exact e
        · have : ed.on < i := by
            have h1 := List.all_eq_true.1 hB i (List.mem_range.2 hi)
            have h2 := List.all_eq_true.1 h1 ed.on ((depsOf_mem (by simp [hi])).2 ⟨ed, hed, hbn, rfl⟩)
            simpa using h2
          exact ih ed.on this (by omega)
      rw [h] at hmem
      cases hmem

theorem plan_sound (hE : E.Ok P) (hkd : ∀ o ∈ ops.toList, ∀ (a : Act) u, dl a → dl (a.put o.dst u))  (hB : backB ops = true) {K : St → Prop} {KP : AV → St → Prop} {Q : Exit → Act → World → Prop}
    (next' : ∀ st a w, At dl w0 F W0 M0 r0 [] st a w → K st → Q .normal a w)
    (panics : ∀ x st u a w, AtP dl w0 F W0 M0 r0 x st u a w → KP x st → Q (.panic [{ v := u, recovered := false }]) a w) :
    ∀ (fuel : Nat) (lst : Array Bool) (V pend : List Nat) (l : List (Nat × Bool × List Nat)) (G : List (Nat × Bool)) (st : St) (a : Act) (w : World), unl ops lst ≤ fuel → Sim P ops dl w0 F W0 M0 r0 lst V pend G st a w → planB ops V pend l = true → planK P E ops.toList l G st K KP →
      wpAny P .any ops Q fuel lst a w := by
  have done : ∀ (lst : Array Bool) (V pend : List Nat) (l : List (Nat × Bool × List Nat)) (G : List (Nat × Bool)) (st : St) (a : Act) (w : World), (∀ i, i < ops.size → lst.getD i false = true) → Sim P ops dl w0 F W0 M0 r0 lst V pend G st a w → planB ops V pend l = true → planK P E ops.toList l G st K KP → Q .normal a w := by
    intro lst V pend l G st a w hall h hb hk
    cases l with
    | nil =>
      refine next' _ a w (At.clean (G := G) ?_) hk
      obtain ⟨M, hI, hR, hd, hC⟩ := h.at_
      refine ⟨M, hI, hR.le (fun d hv => valid_append.2 ⟨maskX_valid.2 fun q hq hql => ?_, hv⟩), hd, hC⟩
      rw [hall q (h.vlt q (h.pV q hq))] at hql
      cases hql
    | cons x l =>
      obtain ⟨i, ch, rc⟩ := x
      simp only [planB, Bool.and_eq_true, decide_eq_true_eq, Bool.not_eq_true'] at hb
      have h1 := hb.1.1.1.1.1.1
      have h2 := hb.1.1.1.1.1.2
      have := h.sub i (hall i h1)
      simp [this] at h2
  have alls : ∀ lst : Array Bool, unl ops lst ≤ 0 → ∀ i, i < ops.size → lst.getD i false = true := by
    intro lst h i hi
    have : ((List.range ops.size).filter fun i => !lst.getD i false) = [] := List.eq_nil_of_length_eq_zero (Nat.le_zero.1 h)
    have := List.filter_eq_nil_iff.1 this i (List.mem_range.2 hi)
    simpa using this
  intro fuel
  induction fuel with
  | zero =>
    intro lst V pend l G st a w hu h hb hk
    have hall := alls lst hu
    refine ⟨?_, done lst V pend l G st a w hall h hb hk⟩
    refine List.eq_nil_iff_forall_not_mem.2 (fun i hi => ?_)
    obtain ⟨h1, ⟨o, ho⟩, _⟩ := ready_deps hi
    have hlt : i < ops.size := (Array.getElem?_eq_some_iff.1 ho).1
    have := (lst_lt h1).2
    rw [hall i hlt] at this
    cases this
  | succ fuel ih =>
    intro lst V pend l G st a w hu h hb hk
    refine ⟨fun hr => done lst V pend l G st a w (ready_nil hB h.hs hr) h hb hk, fun i hi => ?_⟩
    obtain ⟨h1, ⟨o, ho⟩, h2⟩ := ready_deps hi
    obtain ⟨hlt, hun⟩ := lst_lt h1
    have hin : i < ops.size := (Array.getElem?_eq_some_iff.1 ho).1
    have hu' : unl ops (lst.setIfInBounds i true) ≤ fuel := by
      have := unl_set (ops := ops) hin hlt hun
      omega
    clear hu
    induction l generalizing V pend G st with
    | nil =>
      have hV : i ∈ V := by
        have := List.all_eq_true.1 hb i (List.mem_range.2 hin)
        simpa using this
      exact sim_pend hE hkd h (h.pnd i hV hun) hi (fun a' w' hs => ih _ _ _ _ _ _ _ _ hu' hs hb hk)
    | cons x l ihl =>
      by_cases hV : i ∈ V
      · exact sim_pend hE hkd h (h.pnd i hV hun) hi (fun a' w' hs => ih _ _ _ _ _ _ _ _ hu' hs hb hk)
      · obtain ⟨j, ch, rc⟩ := x
        cases ch with
        | false =>
          obtain ⟨G', st', hs, hb', hk'⟩ := sim_still h hb hk
          exact ihl _ _ _ _ hs hb' hk'
        | true =>
          have hij : i = j := by
            have hb2 := hb
            simp only [planB, Bool.and_eq_true, decide_eq_true_eq, Bool.not_eq_true', List.all_eq_true, if_true] at hb2
            have h3 := hb2.1.2.1 i (List.mem_range.2 hin)
            rw [Bool.or_eq_true, Bool.or_eq_true] at h3
            rcases h3 with (h3 | h3) | h3
            · exact absurd (by simpa using h3) hV
            · simpa using h3
            · exfalso
              simp only [Bool.not_eq_true', List.all_eq_false] at h3
              obtain ⟨k, hk, hkV⟩ := h3
              exact hkV (by simpa using h.sub k (h2 k hk))
          subst hij
          exact sim_chain hE hkd h hb hk hi (fun G' st' pend' a' w' hs hb' hk' => ih _ _ _ _ _ _ _ _ hu' hs hb' hk') panics

/-- A region whose order is drawn. -/
theorem drawn_sound (hE : E.Ok P) (hkd : ∀ o ∈ ops.toList, ∀ (a : Act) u, dl a → dl (a.put o.dst u))  (hm : P.follows .mixedOrders = true) {id : Nat} {plan : List (Nat × Bool × List Nat)} (hB : (backB ops && planB ops [] [] plan) = true) {K : St → Prop} {KP : AV → St → Prop} {Q : Exit → Act → World → Prop} {st : St} {a : Act} {w : World}
    (h : At dl w0 F W0 M0 r0 [] st a w) (hk : planK P E ops.toList plan [] st K KP)
    (next' : ∀ st a w, At dl w0 F W0 M0 r0 [] st a w → K st → Q .normal a w)
    (panics : ∀ x st u a w, AtP dl w0 F W0 M0 r0 x st u a w → KP x st → Q (.panic [{ v := u, recovered := false }]) a w) : (Code.region id ops true).wp P Q a w := by
  rw [Bool.and_eq_true] at hB
  refine wp_region_any hm (plan_sound hE hkd hB.1 next' panics ops.size _ [] [] plan [] st a _ ?_ ?_ hB.2 hk)
  · refine Nat.le_trans (List.length_filter_le _ _) (by simp)
  · obtain ⟨M, hI, hR, hd, hC⟩ := h
    obtain ⟨hI', hC'⟩ := hI.drew
    refine { hs := by simp, sub := fun i hi => ?_, vlt := fun i hi => (nomatch hi), pnd := fun i hi => (nomatch hi), pV := fun i hi => (nomatch hi), pw := fun p hp => (nomatch hp), slf := fun p hp => (nomatch hp), dep := fun i hi => (nomatch hi), at_ := ⟨M, hI', hR.mono hC', hd, hC.trans hC'⟩, pok := fun p hp => (nomatch hp) }
    have : (Array.replicate ops.size false).getD i false = false := by
      simp only [Array.getD, Array.size_replicate]
      split <;> simp
    rw [this] at hi
    cases hi
end
end Go.PE
