/- The evaluator of code is right, 3: forgetting; code (see PeQ). -/
import Derived.Test.YtkgkpmdbcjelfaaPeZb
import Derived.Deep.LoopGhost
set_option linter.unusedVariables false
set_option linter.unusedSimpArgs false
namespace Go.PE
open Go

/-! ### forgetting -/
theorem leV_cons {x y : AV} {l m : List AV} (h : leV (x :: l) (y :: m)) : leV l m ∧ (y = .undef ∨ y = x ∨ (x = .nilS ∧ y = .d (.list []))) := by
  unfold leV at h
  split at h
  · rename_i e _; cases e
  · rename_i e1 e2
    injection e1 with e1 e1'; injection e2 with e2 e2'
    subst e1' e2'
    exact ⟨h, .inl e2⟩
  · rename_i e1 e2
    injection e1 with e1 e1'; injection e2 with e2 e2'
    subst e1 e1' e2 e2'
    exact ⟨h.2, .inr (h.1.imp id fun e => ⟨rfl, e⟩)⟩
  · rename_i e1 e2
    injection e1 with e1 e1'; injection e2 with e2 e2'
    subst e1 e1' e2 e2'
    exact ⟨h.2, .inr (.inl h.1.symm)⟩
  · exact h.elim
theorem leV_len : ∀ {l m : List AV}, leV l m → l.length = m.length
  | [], [], _ => rfl
  | x :: l, y :: m, h => by simp [leV_len (leV_cons h).1]
  | [], _ :: _, h => h.elim
  | _ :: _, [], h => by simp [leV] at h
theorem leV_get : ∀ {l m : List AV}, leV l m → ∀ i, i < m.length → m.getD i .undef = .undef ∨ m.getD i .undef = l.getD i .undef ∨ (l.getD i .undef = .nilS ∧ m.getD i .undef = .d (.list []))
  | [], [], _, i, hi => absurd hi (by simp)
  | x :: l, y :: m, h, 0, _ => (leV_cons h).2
  | x :: l, y :: m, h, i + 1, hi => by
    simpa [List.getD] using leV_get (leV_cons h).1 i (by simpa using hi)
  | [], _ :: _, h, _, _ => h.elim
  | _ :: _, [], h, _, hi => absurd hi (by simp)
theorem nilS_list {w : World} {M : Mem} {r : List Arr} {v : Value} (h : RepA w M r v .nilS) : RepA w M r v (.d (.list [])) := by
  cases h
  refine .d _ _ (.list none 0 0 0 [] (fun _ _ => .nilIface) rfl ⟨Nat.le_refl _, Nat.zero_le _⟩ (fun i hi => absurd hi (Nat.not_lt_zero _)) (fun h => absurd h (Nat.lt_irrefl _)) (fun i j hi => absurd hi (Nat.not_lt_zero _)) (fun i j hi => absurd hi (Nat.not_lt_zero _)))
theorem leB_len : ∀ {l m : List (List AV)}, leB l m → m.length ≤ l.length
  | _, [], _ => Nat.zero_le _
  | c :: l, d :: m, h => Nat.succ_le_succ (leB_len h.2)
  | [], _ :: _, h => h.elim
theorem leB_get : ∀ {l m : List (List AV)}, leB l m → ∀ (i : Nat) (d : List AV), m[i]? = some d → ∃ c, l[i]? = some c ∧ leV c d
  | _, [], _, i, d, h => by simp at h
  | c :: l, d :: m, h, 0, d', h' => by
    simp at h'
    subst h'
    exact ⟨c, rfl, h.1⟩
  | c :: l, d :: m, h, i + 1, d', h' => by
    simpa using leB_get h.2 i d' (by simpa using h')
  | [], _ :: _, h, _, _, _ => h.elim
theorem leR_len : ∀ {l m : List Arr}, leR l m → m.length ≤ l.length
  | _, [], _ => Nat.zero_le _
  | c :: l, d :: m, h => Nat.succ_le_succ (leR_len h.2)
  | [], _ :: _, h => h.elim
theorem leR_get : ∀ {l m : List Arr}, leR l m → ∀ i, i < m.length → m[i]? = l[i]?
  | _, [], _, i, h => absurd h (by simp)
  | c :: l, d :: m, h, 0, _ => by simp [h.1]
  | c :: l, d :: m, h, i + 1, h' => by
    simpa using leR_get h.2 i (by simpa using h')
  | [], _ :: _, h, _, _ => h.elim

def Mem.cut (M : Mem) (nb nr : Nat) : Mem := ⟨M.bb.take nb, M.av.take nr, M.no⟩
theorem cut_blk {M : Mem} {nb nr i : Nat} (h : i < nb) : (M.cut nb nr).blk i = M.blk i := by
  simp [Mem.cut, Mem.blk, List.getD, h]
theorem cut_row {M : Mem} {nb nr i : Nat} (h : i < nr) : (M.cut nb nr).row i = M.row i := by
  simp [Mem.cut, Mem.row, List.getD, h]
theorem cut_row_own {M : Mem} {nb nr i g : Nat} (h : ((M.cut nb nr).row i).ownBlock = some g) : i < nr ∧ (M.row i).ownBlock = some g := by
  rcases Nat.lt_or_ge i nr with h1 | h1
  · rw [cut_row h1] at h; exact ⟨h1, h⟩
  · have : (M.cut nb nr).row i = .nilIface := by
      have h2 : (M.av.take nr)[i]? = none := List.getElem?_eq_none (by simp; omega)
      simp [Mem.cut, Mem.row, List.getD, h2]
    rw [this] at h; cases h

section
variable {w : World} {M : Mem} {r s : List Arr} {nb : Nat}

theorem Okc.cut (hr : leR r s) {a : Addr} (h : Okc M r a) : Okc (M.cut nb s.length) s a := by
  refine ⟨⟨fun i hi => ?_, h.1.2⟩, fun k A hk hb => ?_⟩
  · have hi' : i < nb ∧ i < M.bb.length := by simpa [Mem.cut, Nat.lt_min] using hi
    rw [cut_blk hi'.1]
    exact h.1.1 i hi'.2
  · obtain ⟨h1, h2⟩ := cut_row_own hb
    rw [leR_get hr k h1] at hk
    exact h.2 k A hk h2
theorem Rep.cut (hr : leR r s) {v : Value} {x : D} (h : Rep w (Okc M r) v x) : Rep w (Okc (M.cut nb s.length) s) v x :=
  h.mono (fun _ _ ho hc => ⟨hc, ho.cut hr⟩)

theorem idsL_get {nb nr : Nat} : ∀ {l : List AV}, idsL nb nr l = true → ∀ i, i < l.length → idsA nb nr (l.getD i .undef) = true
  | [], _, i, hi => absurd hi (by simp)
  | x :: l, h, 0, _ => by
    simp only [idsL, Bool.and_eq_true] at h
    exact h.1
  | x :: l, h, i + 1, hi => by
    simp only [idsL, Bool.and_eq_true] at h
    simpa [List.getD] using idsL_get h.2 i (by simpa using hi)
theorem idsB_get {nb nr : Nat} : ∀ {l : List (List AV)}, idsB nb nr l = true → ∀ (i : Nat) (c : List AV), l[i]? = some c → idsL nb nr c = true
  | [], _, i, c, h => by simp at h
  | x :: l, h, 0, c, hc => by
    simp at hc
    subst hc
    simp only [idsB, Bool.and_eq_true] at h
    exact h.1
  | x :: l, h, i + 1, c, hc => by
    simp only [idsB, Bool.and_eq_true] at h
    exact idsB_get h.2 i c (by simpa using hc)

theorem RepA.cut (hr : leR r s) {v : Value} {x : AV} (h : RepA w M r v x) (hx : idsA nb s.length x = true) : RepA w (M.cut nb s.length) s v x := by
  induction h with
  | undef v => exact .undef v
  | d v x h => exact .d v x (h.cut hr)
  | agg vs cs hs h1 _ ih => exact .agg vs cs hs h1 (fun i hi => ih i hi (idsL_get (by simpa [idsA] using hx) i hi))
  | nilS => exact .nilS
  | arr v id n h1 h =>
    have hid : id < s.length := by simpa [idsA] using hx
    obtain ⟨A, hA, h2, h3⟩ := h
    exact .arr v id n h1 ⟨A, by rw [leR_get hr id hid]; exact hA, h2, by rw [cut_row hid]; exact h3⟩
  | ptr id off h =>
    have hid : id < nb := by simpa [idsA] using hx
    have := RepA.ptr (w := w) (M := M.cut nb s.length) (r := s) id off (by simp [Mem.cut, Nat.lt_min, hid, h])
    rw [cut_blk hid] at this
    exact this
  | cptr a cs f hsp hcell h1 h => exact .cptr a cs f hsp (fun j hj => ⟨(hcell j hj).1, (hcell j hj).2.cut hr⟩) h1 (fun j hj => (h j hj).cut hr)
  | eptr v id n i off h1 h =>
    have hid : id < s.length := by simpa [idsA] using hx
    obtain ⟨A, hA, h2, h3⟩ := h
    exact .eptr v id n i off h1 ⟨A, by rw [leR_get hr id hid]; exact hA, h2, by rw [cut_row hid]; exact h3⟩
  | tup vs cs hs _ ih => exact .tup vs cs hs (fun i hi => ih i hi (idsL_get (by simpa [idsA] using hx) i hi))
  | iface t v x _ ih => exact .iface t v x (ih (by simpa [idsA] using hx))
  | fn f vs us cs ds hs hs' _ _ ih ih' =>
    have : idsL nb s.length cs = true ∧ idsL nb s.length ds = true := by simpa [idsA] using hx
    exact .fn f vs us cs ds hs hs' (fun i hi => ih i hi (idsL_get this.1 i hi)) (fun i hi => ih' i hi (idsL_get this.2 i hi))
end

section
variable {dl : Act → Prop} {w0 : World} {F : List Nat} {W0 : World} {M0 : Mem} {r0 : List Arr} {a : Act} {w : World} {st s : St}

theorem Inv.cut {M : Mem} (h : Inv w0 F M st.b st.r w) (hb : leB st.b s.b) (hr : leR st.r s.r) (hi : idsB s.b.length s.r.length s.b = true) : Inv w0 F (M.cut s.b.length s.r.length) s.b s.r w := by
  have hlb : s.b.length ≤ M.bb.length := by rw [h.lb]; exact leB_len hb
  have hlr : s.r.length ≤ M.av.length := by rw [h.lr]; exact leR_len hr
  refine ⟨h.keep, by simp [Mem.cut]; omega, by simp [Mem.cut]; omega, fun i d hd => ?_, fun i A hA => ?_, fun i hi => ?_, fun i g hg => h.fr i g (cut_row_own hg).2, fun i j hi hj e => ?_,
    fun i j g hi hj h1 h2 => ?_, fun i j hi e => ?_, fun a ha => ⟨(h.no a ha).1, fun i e => (h.no a ha).2 i (cut_row_own e).2⟩⟩
  · have hlt := (List.getElem?_eq_some_iff.1 hd).1
    obtain ⟨c, hc, hle⟩ := leB_get hb i d hd
    obtain ⟨cs, ty, hh, hs, h1, h2⟩ := h.box i c hc
    have hlen := leV_len hle
    rw [cut_blk hlt]
    refine ⟨cs, ty, hh, by rw [hs, hlen], fun j hj => h1 j (by omega), fun j hj => ?_⟩
    rcases leV_get hle j hj with e | e | ⟨e1, e2⟩
    · rw [e]; exact .undef _
    · have hids := idsL_get (idsB_get hi i d hd) j hj
      rw [e] at hids ⊢
      exact (h2 j (by omega)).cut hr hids
    · have h3 := h2 j (by omega)
      rw [e1] at h3
      rw [e2]
      exact (nilS_list h3).cut hr rfl
  · have hlt := (List.getElem?_eq_some_iff.1 hA).1
    rw [leR_get hr i hlt] at hA
    obtain ⟨hz, he, xs, ho, h1, h2⟩ := h.row i A hA
    rw [cut_row hlt]
    exact ⟨hz, he, xs, ho, h1, fun k j hk hj => (h2 k j hk hj).cut hr⟩
  · have hi' : i < s.b.length := by
      have : i < s.b.length ∧ i < M.bb.length := by simpa [Mem.cut, Nat.lt_min] using hi
      exact this.1
    rw [cut_blk hi']
    exact h.fb i (by omega)
  · have hi' : i < s.b.length := by
      have : i < s.b.length ∧ i < M.bb.length := by simpa [Mem.cut, Nat.lt_min] using hi
      exact this.1
    have hj' : j < s.b.length := by
      have : j < s.b.length ∧ j < M.bb.length := by simpa [Mem.cut, Nat.lt_min] using hj
      exact this.1
    rw [cut_blk hi', cut_blk hj'] at e
    exact h.dbb i j (by omega) (by omega) e
  · obtain ⟨hi', h1⟩ := cut_row_own h1
    obtain ⟨hj', h2⟩ := cut_row_own h2
    exact h.drr i j g (by omega) (by omega) h1 h2
  · have hi' : i < s.b.length := by
      have : i < s.b.length ∧ i < M.bb.length := by simpa [Mem.cut, Nat.lt_min] using hi
      exact this.1
    rw [cut_blk hi'] at e
    exact h.dbr i j (by omega) (cut_row_own e).2

theorem At.le (h : At dl w0 F W0 M0 r0 [] st a w) (hl : st.le s) (hb : M0.bb.length ≤ s.b.length) (hr : r0.length ≤ s.r.length) : At dl w0 F W0 M0 r0 [] s a w := by
  obtain ⟨M, hI, hR, hd, hC⟩ := h
  have hlen := leV_len hl.t
  have hlb : s.b.length ≤ M.bb.length := by rw [hI.lb]; exact leB_len hl.b
  refine ⟨M.cut s.b.length s.r.length, hI.cut hl.b hl.r hl.ib, ⟨by rw [hR.1, hlen], fun i hi _ => ?_⟩, hd, ⟨fun a u ho hc => ?_, ?_, fun i hi => ?_, fun id A hA => ?_, hC.no⟩⟩
  · rcases leV_get hl.t i hi with e | e | ⟨e1, e2⟩
    · rw [e]; exact .undef _
    · have hids := idsL_get hl.it i hi
      rw [e] at hids ⊢
      exact (hR.2 i (by omega) (fun p hp => absurd hp (by simp))).cut hl.r hids
    · have h3 := hR.2 i (by omega) (fun p hp => absurd hp (by simp))
      rw [e1] at h3
      rw [e2]
      exact (nilS_list h3).cut hl.r rfl
  · obtain ⟨h1, h2⟩ := hC.cell a u ho hc
    exact ⟨h1, h2.cut hl.r⟩
  · simp only [Mem.cut, List.length_take]; omega
  · rw [cut_blk (by omega)]; exact hC.blk i hi
  · have hid : id < s.r.length := by
      have := (List.getElem?_eq_some_iff.1 hA).1
      omega
    obtain ⟨A', hA', h1, h2, h3⟩ := hC.row id A hA
    exact ⟨A', by rw [leR_get hl.r id hid]; exact hA', h1, h2, by rw [cut_row hid]; exact h3⟩

theorem At.lens (h : At dl w0 F W0 M0 r0 [] st a w) : M0.bb.length ≤ st.b.length ∧ r0.length ≤ st.r.length := by
  obtain ⟨M, hI, _, _, hC⟩ := h
  refine ⟨by rw [← hI.lb]; exact hC.lb, ?_⟩
  rcases Nat.eq_zero_or_pos r0.length with e | e
  · omega
  · obtain ⟨A', hA', _⟩ := hC.row (r0.length - 1) _ (List.getElem?_eq_getElem (by omega))
    have := (List.getElem?_eq_some_iff.1 hA').1
    omega

/-! ### code -/
/-- What holds where code ends. -/
def PostQ (dl : Act → Prop) (w0 : World) (F : List Nat) (W0 : World) (M0 : Mem) (r0 : List Arr) (Q : Ex → St → Prop) : Exit → Act → World → Prop
  | .normal, a, w => ∃ st, At dl w0 F W0 M0 r0 [] st a w ∧ Q .normal st
  | .exit i, a, w => ∃ st, At dl w0 F W0 M0 r0 [] st a w ∧ Q (.exit i) st
  | .ret, a, w => ∃ st, At dl w0 F W0 M0 r0 [] st a w ∧ Q .ret st
  | .panic chain, a, w => ∃ st x u, chain = [{ v := u, recovered := false }] ∧ AtP dl w0 F W0 M0 r0 x st u a w ∧ Q (.panic x) st
  | _, _, _ => False

variable {dl : Act → Prop} {P : Program} {E : Env} {pl : Nat → List (Nat × Bool × List Nat)}

/-- What holds of the frame is kept by all that the code writes. -/
def Keeps (dl : Act → Prop) : Code → Prop
  | .seq x y => Keeps dl x ∧ Keeps dl y
  | .cond _ x y => Keeps dl x ∧ Keeps dl y
  | .block _ x => Keeps dl x
  | .loop x => Keeps dl x
  | .region _ ops _ => ∀ o ∈ ops.toList, ∀ (a : Act) u, dl a → dl (a.put o.dst u)
  | _ => True
theorem keeps_defers (l : List Deferred) : ∀ c : Code, Keeps (fun a => a.defers = l) c := by
  intro c
  induction c with
  | seq x y ihx ihy => exact ⟨ihx, ihy⟩
  | cond c x y ihx ihy => exact ⟨ihx, ihy⟩
  | block i x ih => exact ih
  | loop x ih => exact ih
  | region i ops b => exact fun o _ a u h => put_defers.trans h
  | _ => exact trivial
theorem evalK_sound (hE : E.Ok P) (hm : P.follows .mixedOrders = true) : ∀ (c : Code), Keeps dl c → drawsB pl c = true → ∀ (Q : Ex → St → Prop) (st : St) (a : Act) (w : World), At dl w0 F W0 M0 r0 [] st a w → evalK P E pl c st Q → c.wp P (PostQ dl w0 F W0 M0 r0 Q) a w := by
  intro c
  induction c with
  | skip => exact fun _ _ Q st a w h hk => wp_skip ⟨st, h, hk⟩
  | label l => exact fun _ _ Q st a w h hk => wp_label ⟨st, h, hk⟩
  | seq x y ihx ihy =>
    intro hkd hdr Q st a w h hk
    simp only [drawsB, Bool.and_eq_true] at hdr
    replace ihx := ihx hkd.1 hdr.1
    replace ihy := ihy hkd.2 hdr.2
    refine wp_seq (Go.wp_mono (ihx _ st a w h hk) (fun e a' w' hq => ?_))
    cases e with
    | normal =>
      obtain ⟨st', h', hq⟩ := hq
      exact ihy Q st' a' w' h' hq
    | exit i => exact hq
    | goto l => exact hq
    | ret => exact hq
    | panic ch => exact hq
    | outgrown => exact hq
  | cond c x y ihx ihy =>
    intro hkd hdr Q st a w h hk
    simp only [drawsB, Bool.and_eq_true] at hdr
    replace ihx := ihx hkd.1 hdr.1
    replace ihy := ihy hkd.2 hdr.2
    simp only [evalK] at hk
    split at hk
    · rename_i e he
      obtain ⟨M, hI, hR, hd, hC⟩ := h
      have hrep := ev_rep (a := a) (st := st) (w := w) (M := M) (r := st.r) ⟨hR.1, fun i hi => hR.2 i hi (fun p hp => absurd hp (by simp))⟩ c
      rw [he] at hrep
      have hrep := hrep.d_inv
      generalize hu : a.eval c = u at hrep
      cases hrep
      refine wp_cond_split hu (fun e' => ihx Q st a w ⟨M, hI, hR, hd, hC⟩ (hk.1 e')) (fun e' => ihy Q st a w ⟨M, hI, hR, hd, hC⟩ (hk.2 e'))
    · exact hk.elim
  | block id x ih =>
    intro hkd hdr Q st a w h hk
    replace ih := ih hkd hdr
    refine wp_block (Go.wp_mono (ih _ st a w h hk) (fun e a' w' hq => ?_))
    cases e with
    | exit i =>
      obtain ⟨st', h', hq⟩ := hq
      simp only [Exit.inBlock]
      simp only at hq
      split at hq
      · rw [if_pos (by assumption)]
        exact ⟨st', h', hq⟩
      · rw [if_neg (by assumption)]
        exact ⟨st', h', hq⟩
    | normal => exact hq
    | goto l => exact hq
    | ret => exact hq
    | panic ch => exact hq
    | outgrown => exact hq
  | exit i => exact fun _ _ Q st a w h hk => wp_exit ⟨st, h, hk⟩
  | ret => exact fun _ _ Q st a w h hk => wp_ret ⟨st, h, hk⟩
  | loop x ih =>
    intro hkd hdr Q st a w h hk
    replace ih := ih hkd hdr
    obtain ⟨α, S, μ, a0, h0, hlen, hround⟩ := hk
    have hl := h.lens
    refine wp_loop_ghost (fun n a w => ∃ i, n = μ i ∧ At dl w0 F W0 M0 r0 [] (S i) a w) (μ a0) ⟨a0, rfl, h.le h0 (by rw [(hlen a0).1]; exact hl.1) (by rw [(hlen a0).2]; exact hl.2)⟩ (fun n a w hn => ?_)
    obtain ⟨i, rfl, hat⟩ := hn
    refine Go.wp_mono (ih _ (S i) a w hat (hround i)) (fun e a' w' hq => ?_)
    cases e with
    | normal =>
      obtain ⟨st', h', j, hlt, hle⟩ := hq
      exact ⟨μ j, hlt, j, rfl, h'.le hle (by rw [(hlen j).1]; exact hl.1) (by rw [(hlen j).2]; exact hl.2)⟩
    | exit i => exact hq
    | goto l => exact hq
    | ret => exact hq
    | panic ch => exact hq
    | outgrown => exact hq
  | region id ops b =>
    intro hkd hdr Q st a w h hk
    cases b with
    | true => exact drawn_sound hE hkd hm hdr h hk (fun st a w h hq => ⟨st, h, hq⟩) (fun x st u a w h hq => ⟨st, x, u, rfl, h, hq⟩)
    | false => exact wp_region_list (opsK_sound hE (fun st a w h hq => ⟨st, h, hq⟩) (fun x st u a w h hq => ⟨st, x, u, rfl, h, hq⟩) _ hkd [] st a w h hk)
  | _ => exact fun _ _ Q st a w h hk => hk.elim
end
end Go.PE
