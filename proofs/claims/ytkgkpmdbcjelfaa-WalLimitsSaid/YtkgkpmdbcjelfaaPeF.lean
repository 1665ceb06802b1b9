/- The evaluator is right, 2: loads, stores, addresses (see PeA, PeD). -/
import Derived.Test.YtkgkpmdbcjelfaaPeE
set_option linter.unusedVariables false
set_option linter.unusedSimpArgs false
namespace Go.PE
open Go

def Res.sem (R : Res) (K : AV → St → Prop) : Prop :=
  match R with
  | .ok p v st => p ∧ K v st
  | .elem p es k n st => p ∧ ∀ x, es[k]? = some x → x.length = n ∧ K (.cptr x) st
  | .byte p s k st => p ∧ ∀ c, s[k]? = some c → K (.d (.int .u8 (c.toNat : Int))) st
  | _ => False

/-- What an operation comes to. -/
def OpOk (P : Program) (w0 : World) (F : List Nat) (M : Mem) (t : List AV) (r : List Arr) (w : World) (s : Sem Value) (K : AV → St → Prop) : Prop :=
  ∃ v st' M' w' u, K v st' ∧ s.run P w = .ok u w' ∧ Inv w0 F M' st'.b st'.r w' ∧ Chg w M r w' M' st'.r ∧ RepA w' M' st'.r u v ∧ st'.t = t

theorem getD_sub {α : Type} (xs : List α) (o n j : Nat) (x : α) (hj : j < n) : ((xs.drop o).take n).getD j x = xs.getD (o + j) x := by
  simp only [List.getD, List.getElem?_take, if_pos hj, List.getElem?_drop]
theorem len_sub {α : Type} (xs : List α) (o n : Nat) (h : o + n ≤ xs.length) : ((xs.drop o).take n).length = n := by
  simp; omega
theorem toArray_getD {α : Type} (xs : List α) (j : Nat) (x : α) : xs.toArray.getD j x = xs.getD j x := by
  simp [Array.getD, List.getD]
  split <;> simp_all
theorem toList_getD {α : Type} (xs : Array α) (j : Nat) (x : α) : xs.toList.getD j x = xs.getD j x := by
  simp [Array.getD, List.getD]
  split <;> simp_all

section
variable {P : Program} {w0 : World} {F : List Nat} {M : Mem} {st : St} {w : World} {K : AV → St → Prop}

theorem CellsOk.sub {r : List Arr} {cs : Array Value} {xs : List AV} (h : CellsOk w M r cs xs) (o n : Nat) (hn : o + n ≤ xs.length) : CellsOk w M r ((cs.toList.drop o).take n).toArray ((xs.drop o).take n) := by
  have hl : ((xs.drop o).take n).length = n := len_sub xs o n hn
  refine ⟨by rw [List.size_toArray, len_sub _ _ _ (by simp [h.size]; omega), hl], fun j hj => ?_, fun j hj => ?_⟩ <;> rw [hl] at hj <;> rw [toArray_getD, getD_sub _ _ _ _ _ hj, toList_getD]
  · exact h.one _ (by omega)
  · rw [getD_sub _ _ _ _ _ hj]
    exact h.rep _ (by omega)

theorem ok_stay (h : Inv w0 F M st.b st.r w) {s : Sem Value} {u : Value} {v : AV} (hK : K v st) (hr : s.run P w = .ok u w) (hv : RepA w M st.r u v) : OpOk P w0 F M st.t st.r w s K :=
  ⟨v, st, M, w, u, hK, hr, h, Chg.refl _ _ _, hv, rfl⟩

theorem box_cells (h : Inv w0 F M st.b st.r w) {id : Nat} {cells : List AV} (hb : st.b[id]? = some cells) : ∃ cs ty, w.heap[M.blk id]? = some (.cells cs ty (0, 0)) ∧ CellsOk w M st.r cs cells := by
  obtain ⟨cs, ty, hh, hs, h1, hr⟩ := h.box id cells hb
  exact ⟨cs, ty, hh, hs, h1, hr⟩

theorem cell_at {b o : Nat} {cs : Array Value} {ty : TypeId} {fr : Nat × Nat} (hh : w.heap[b]? = some (.cells cs ty fr)) (j : Nat) : w.cell? ((⟨b, o, none⟩ : Addr).add j) = cs.toList[o + j]? := by
  rw [Addr.add_lit]
  simp [World.cell?, hh]

theorem load_sound {t : TypeId} {x : AV} {u : Value} (h : Inv w0 F M st.b st.r w) (hx : RepA w M st.r u x) (hs : (loadR P t x st).sem K) : OpOk P w0 F M st.t st.r w (Instr.loadAt t u) K := by
  unfold loadR at hs
  cases hty : ty? P t with
  | none => simp [hty, Res.sem] at hs
  | some gn =>
    obtain ⟨g, n⟩ := gn
    have hg1 : g = false → n = 1 := (ty_info hty).choose_spec.2.2.1
    rw [hty] at hs
    cases x with
    | ptr id off =>
      cases hb : st.b[id]? with
      | none => simp [hb, Res.sem] at hs
      | some cells =>
        simp only [hb, Res.sem] at hs
        obtain ⟨hn, hK⟩ := hs
        obtain ⟨cs, ty, hh, hc⟩ := box_cells h hb
        cases hx
        have hcs : off + n ≤ cs.toList.length := by have := hc.size; simp; omega
        have hsub := hc.sub off n hn
        refine ok_stay h hK (u := mkVal g ((cs.toList.drop off).take n).toArray) ?_ (mkV_rep hsub (fun e => by rw [len_sub _ _ _ hn]; exact hg1 e))
        simp only [Instr.loadAt, Instr.sureAddr, Sem.run_bind, Sem.run_pure, Result.andThen_ok]
        refine run_loadVar_cells hty w _ _ (len_sub _ _ _ hcs) (fun j v hj => ?_)
        rw [cell_at hh]
        rw [List.getElem?_take] at hj
        split at hj
        · rw [List.getElem?_drop] at hj; exact hj
        · cases hj
    | cptr cs =>
      simp only [Res.sem] at hs
      obtain ⟨hn, hK⟩ := hs
      cases hx with
      | cptr a _ f hsp hc h1 hr =>
        have hl : ((List.range n).map f).length = n := by simp
        have hget : ∀ j, j < n → ((List.range n).map f).toArray.getD j undef = f j := fun j hj => by rw [toArray_getD]; simp [List.getD, hj]
        have hct : ∀ j, j < n → (cs.take n).getD j .nilI = cs.getD j .nilI := fun j hj => by simp only [List.getD, List.getElem?_take, if_pos hj]
        have htl : (cs.take n).length = n := by simp; omega
        refine ok_stay h hK (u := mkVal g ((List.range n).map f).toArray) ?_ (.d _ _ (mkD_rep (by simp; omega) (fun j hj => ?_) (fun j hj => ?_) (fun e => by rw [htl]; exact hg1 e)))
        · simp only [Instr.loadAt, Instr.sureAddr, Sem.run_bind, Sem.run_pure, Result.andThen_ok]
          refine run_loadVar_cells hty w _ _ hl (fun j v hj => ?_)
          have hj' : j < n := by have := (List.getElem?_eq_some_iff.1 hj).1; simpa using this
          rw [(hc j (by omega)).1]
          simpa [hj'] using hj
        · rw [htl] at hj
          rw [hget j hj]; exact h1 j (by omega)
        · rw [htl] at hj
          rw [hget j hj, hct j hj]; exact hr j (by omega)
    | eptr id m i off =>
      cases hA : st.r[id]? with
      | none => simp [hA, Res.sem] at hs
      | some A =>
        simp only [hA, Res.sem] at hs
        obtain ⟨⟨hm, hi, hoff⟩, hK⟩ := hs
        cases hx with
        | eptr _ _ _ _ _ h1 hv =>
          obtain ⟨A', hA', _, hv⟩ := hv
          rw [hA] at hA'
          injection hA' with hA'
          subst hA'
          obtain ⟨g', hg', rfl⟩ := hv hm
          obtain ⟨hz, he, xs, ho, hx1, hxr⟩ := h.row id A hA
          have hel : (A.es.getD i []).length = A.sz := by
            have : A.es.getD i [] = A.es[i] := by simp [List.getD, hi]
            rw [this]; exact he _ (List.getElem_mem hi)
          have hxl : xs.length = A.es.length * A.sz := ho.1
          have hend : i * A.sz + A.sz ≤ xs.length := by
            rw [hxl]
            calc i * A.sz + A.sz = (i + 1) * A.sz := by rw [Nat.add_mul, Nat.one_mul]
              _ ≤ A.es.length * A.sz := Nat.mul_le_mul_right _ hi
          have hl : ((xs.drop (i * A.sz + off)).take n).length = n := len_sub _ _ _ (by omega)
          have hdl : (((A.es.getD i []).drop off).take n).length = n := len_sub _ _ _ (by omega)
          refine ok_stay h hK (u := mkVal g ((xs.drop (i * A.sz + off)).take n).toArray) ?_ (.d _ _ (mkD_rep (by rw [List.size_toArray, hl, hdl]) (fun j hj => ?_) (fun j hj => ?_) (fun e => by rw [hdl]; exact hg1 e)))
          · simp only [Instr.loadAt, Instr.sureAddr, Sem.run_bind, Sem.run_pure, Result.andThen_ok]
            refine run_loadVar_cells hty w _ _ hl (fun j v hj => ?_)
            rw [List.getElem?_take] at hj
            split at hj
            · rw [List.getElem?_drop] at hj
              rw [Addr.add_lit]
              have hM : ∃ c, M.row id = .slice (some ⟨g', 0, none⟩) A.es.length c := by
                rcases ho.2 with ⟨e1, e2⟩ | ⟨g2, cap, cur, e1, _⟩
                · rw [e1] at hg'; simp [Value.ownBlock] at hg'
                · rw [e1] at hg' ⊢
                  simp [Value.ownBlock] at hg'
                  subst hg'
                  exact ⟨cap, rfl⟩
              have := ho.cells hg' _ _ hj
              rw [Addr.add_lit] at this
              simpa using this
            · cases hj
          · rw [hdl] at hj
            rw [toArray_getD, getD_sub _ _ _ _ _ hj]
            have hlt : i * A.sz + off + j < xs.length := by omega
            have : xs.getD (i * A.sz + off + j) undef = xs[i * A.sz + off + j] := by simp [List.getD, hlt]
            rw [this]
            exact hx1 _ (List.getElem_mem hlt)
          · rw [hdl] at hj
            rw [toArray_getD, getD_sub _ _ _ _ _ hj, getD_sub _ _ _ _ _ hj, Nat.add_assoc]
            exact hxr i (off + j) hi (by omega)
    | _ => simp [Res.sem] at hs

theorem fo_spec {t : TypeId} {f o ft : Nat} (h : fo? P t f = some (o, ft)) : ∃ fs fd i, P.underlying t = some (.struct fs) ∧ fs[f]? = some fd ∧ fd.offset = o ∧ fd.type = ft ∧ P.info? ft = some i ∧ i.size ≠ 0 := by
  unfold fo? at h
  split at h
  · rename_i fs hu
    split at h
    · rename_i x hx
      split at h
      · rename_i i hi
        split at h
        · cases h
        · rename_i hn
          simp only [Option.some.injEq, Prod.mk.injEq] at h
          obtain ⟨rfl, rfl⟩ := h
          exact ⟨fs, x, i, hu, hx, rfl, rfl, hi, hn⟩
      · cases h
    · cases h
  · cases h
theorem sl_spec {t : TypeId} {e n y : Nat} (h : sl? P t = some (e, n, y)) : ∃ i z, P.underlying t = some (.slice e) ∧ P.info? e = some i ∧ i.zero = some z ∧ z.cells.size = i.size ∧ 0 < i.size ∧ 0 < i.bytes ∧ n = i.size ∧ y = i.bytes := by
  unfold sl? at h
  split at h
  · rename_i e' hu
    split at h
    · rename_i i hi
      split at h
      · rename_i z hz
        split at h
        · rename_i hc
          simp only [Option.some.injEq, Prod.mk.injEq] at h
          obtain ⟨rfl, rfl, rfl⟩ := h
          exact ⟨i, z, hu, hi, hz, hc.1, hc.2.1, hc.2.2, rfl, rfl⟩
        · cases h
      · cases h
    · cases h
  · cases h
theorem ar_spec {t : TypeId} {m n : Nat} (h : ar? P t = some (m, n)) : ∃ e i, P.underlying t = some (.array m e) ∧ P.info? e = some i ∧ n = i.size := by
  unfold ar? at h
  split at h
  · rename_i m' e hu
    simp only [Option.map_eq_some_iff] at h
    obtain ⟨i, hi, he⟩ := h
    simp only [Prod.mk.injEq] at he
    obtain ⟨rfl, rfl⟩ := he
    exact ⟨e, i, hu, hi, rfl⟩
  · cases h

theorem add_lit' (a : Addr) (hs : a.spot = none) (n m : Nat) : (a.add n).add m = a.add (n + m) := by
  obtain ⟨b, o, s⟩ := a
  simp at hs
  subst hs
  simp [Addr.add_lit, Nat.add_assoc]

theorem cptr_drop {r : List Arr} {a : Addr} {cs : List D} (h : RepA w M r (.pointer (some a)) (.cptr cs)) (o : Nat) (ho : o ≤ cs.length) : RepA w M r (.pointer (some (a.add o))) (.cptr (cs.drop o)) := by
  cases h with
  | cptr _ _ f hsp hc h1 hr =>
    have hsp' : (a.add o).spot = none := by unfold Addr.add; split <;> simp [hsp]
    refine .cptr _ _ (fun j => f (o + j)) hsp' (fun j hj => ?_) (fun j hj => ?_) (fun j hj => ?_) <;> simp at hj
    · rw [add_lit' a hsp]; exact hc _ (by omega)
    · exact h1 _ (by omega)
    · have e : (cs.drop o).getD j .nilI = cs.getD (o + j) .nilI := by simp only [List.getD, List.getElem?_drop]
      rw [e]; exact hr _ (by omega)

theorem fieldAddr_sound {t : TypeId} {f : Nat} {x : AV} {u : Value} (h : Inv w0 F M st.b st.r w) (hx : RepA w M st.r u x) (hs : (fieldAddrR P t f x st).sem K) : OpOk P w0 F M st.t st.r w (Instr.fieldAt t u f) K := by
  unfold fieldAddrR at hs
  cases hf : fo? P t f with
  | none => simp [hf, Res.sem] at hs
  | some p =>
    obtain ⟨o, ft⟩ := p
    rw [hf] at hs
    obtain ⟨fs, fd, i, hu, hfd, rfl, rfl, hi, hz⟩ := fo_spec hf
    have hrun : ∀ a : Addr, (Instr.fieldAt t (.pointer (some a)) f).run P w = .ok (.pointer (some (a.add fd.offset))) w := fun a => by
      simp [Instr.fieldAt, Instr.sureAddr, run_underlying hu, hfd, fieldPlace, sizeOf, typeInfo, hi, hz]
    cases x with
    | ptr id off =>
      simp only [Res.sem, true_and] at hs
      cases hx with
      | ptr _ _ hid => exact ok_stay h hs (by rw [hrun, Addr.add_lit]) (.ptr id (off + fd.offset) hid)
    | cptr cs =>
      simp only [Res.sem] at hs
      cases hx with
      | cptr a _ f' hsp hc h1 hr => exact ok_stay h hs.2 (hrun a) (cptr_drop (.cptr a cs f' hsp hc h1 hr) _ hs.1)
    | eptr id m k off =>
      cases hA : st.r[id]? with
      | none => simp [hA, Res.sem] at hs
      | some A =>
        simp only [hA, Res.sem] at hs
        cases hx with
        | eptr _ _ _ _ _ h1 hv =>
          obtain ⟨A', hA', hn, hv⟩ := hv
          rw [hA] at hA'
          injection hA' with hA'
          subst hA'
          obtain ⟨g, hg, rfl⟩ := hv hs.1
          exact ok_stay h hs.2 (by rw [hrun, Addr.add_lit]) (.eptr _ _ _ _ _ rfl ⟨A, hA, hn, fun _ => ⟨g, hg, by rw [Nat.add_assoc]⟩⟩)
    | _ => simp [Res.sem] at hs

theorem indexAddr_sound {t : TypeId} {x i : AV} {u ui : Value} (h : Inv w0 F M st.b st.r w) (hx : RepA w M st.r u x) (hi : RepA w M st.r ui i) (hs : (indexAddrR P t x i st).sem K) : OpOk P w0 F M st.t st.r w (Instr.indexAt t u ui) K := by
  have hint : ∀ k n, i = .d (.int k n) → ui = .int k n := fun k n e => by
    subst e
    have := hi.d_inv
    cases this
    rfl
  unfold indexAddrR at hs
  split at hs
  · -- data
    rename_i es k kk
    have e := hint _ _ rfl
    subst e
    cases hsl : sl? P t with
    | none => simp [hsl, Res.sem] at hs
    | some p =>
      obtain ⟨e, n, y⟩ := p
      obtain ⟨inf, z, hu, hin, hz, hzs, hp, _, rfl, _⟩ := sl_spec hsl
      simp only [hsl, Res.sem] at hs
      obtain ⟨⟨h0, h1⟩, hK⟩ := hs
      have hx' := hx.d_inv
      cases hx' with
      | list A m c sz es f hn hc hzz ha h1' hr =>
        have hlt : kk.toNat < es.length := by omega
        have hget : es[kk.toNat]? = some es[kk.toNat] := List.getElem?_eq_getElem hlt
        obtain ⟨hlen, hK'⟩ := hK _ hget
        have hgd : es.getD kk.toNat [] = es[kk.toNat] := by simp [List.getD, hlt]
        have hsz : sz = inf.size := by rw [← hzz kk.toNat (by omega), hgd, hlen]
        obtain ⟨a, rfl, hsp, hcell⟩ := ha (by omega)
        refine ok_stay h hK' (u := .pointer (some (a.add (kk.toNat * inf.size)))) ?_ (.cptr _ _ (fun j => f kk.toNat j) (by unfold Addr.add; split <;> simp [hsp]) (fun j hj => ?_) (fun j hj => ?_) (fun j hj => ?_))
        · have : (0 ≤ kk ∧ kk < (m : Int)) := ⟨h0, by omega⟩
          simp [Instr.indexAt, asIntOf, run_underlying hu, sizeOf, typeInfo, hin, this]
        · rw [add_lit' a hsp, ← hsz]
          exact hcell _ j (by omega) (by rw [hsz]; omega)
        · exact h1' _ j (by omega) (by rw [hsz]; omega)
        · have := hr kk.toNat j (by omega) (by rw [hsz]; omega)
          rw [hgd] at this
          exact this
  · rename_i id m k kk
    have e := hint _ _ rfl
    subst e
    split at hs
    · rename_i e n y A hsl hA
      obtain ⟨inf, z, hu, hin, hz, hzs, hp, _, rfl, _⟩ := sl_spec hsl
      simp only [Res.sem] at hs
      obtain ⟨⟨hm, h0, h1, hn⟩, hK⟩ := hs
      cases hx with
      | arr _ _ _ h1' hv =>
        obtain ⟨A', hA', hnn, hv⟩ := hv
        rw [hA] at hA'
        injection hA' with hA'
        subst hA'
        have e := hv hm
        obtain ⟨hz, he, xs, ho, _⟩ := h.row id A hA
        rcases ho.2 with ⟨e1, e2⟩ | ⟨g, cap, cur, e1, _⟩
        · omega
        · have e3 : u = .slice (some ⟨g, 0, none⟩) A.es.length cap := by rw [e, e1]
          subst e3
          refine ok_stay h hK (u := .pointer (some ⟨g, kk.toNat * A.sz, none⟩)) ?_ (.eptr _ _ _ _ _ rfl ⟨A, hA, hnn, fun _ => ⟨g, by rw [e1]; rfl, by rw [Nat.add_zero]⟩⟩)
          have : (0 ≤ kk ∧ kk < (A.es.length : Int)) := ⟨h0, h1⟩
          simp [Instr.indexAt, asIntOf, run_underlying hu, sizeOf, typeInfo, hin, this, Addr.add_lit, ← hn]
    · simp [Res.sem] at hs
  · rename_i id off k kk
    have e := hint _ _ rfl
    subst e
    split at hs
    · rename_i len n har
      obtain ⟨e, inf, hu, hin, rfl⟩ := ar_spec har
      simp only [Res.sem] at hs
      obtain ⟨⟨h0, h1⟩, hK⟩ := hs
      cases hx with
      | ptr _ _ hid =>
        refine ok_stay h hK (u := .pointer (some ⟨M.blk id, off + kk.toNat * inf.size, none⟩)) ?_ (.ptr _ _ hid)
        have : (0 ≤ kk ∧ kk < (len : Int)) := ⟨h0, h1⟩
        simp [Instr.indexAt, asIntOf, Instr.sureAddr, run_underlying hu, sizeOf, typeInfo, hin, this, Addr.add_lit]
    · simp [Res.sem] at hs
  · rename_i cs k kk
    have e := hint _ _ rfl
    subst e
    split at hs
    · rename_i len n har
      obtain ⟨e, inf, hu, hin, rfl⟩ := ar_spec har
      simp only [Res.sem] at hs
      obtain ⟨⟨h0, h1, h2⟩, hK⟩ := hs
      cases hx with
      | cptr a _ f' hsp hc h1' hr =>
        refine ok_stay h hK (u := .pointer (some (a.add (kk.toNat * inf.size)))) ?_ (cptr_drop (.cptr a cs f' hsp hc h1' hr) _ h2)
        have : (0 ≤ kk ∧ kk < (len : Int)) := ⟨h0, h1⟩
        simp [Instr.indexAt, asIntOf, Instr.sureAddr, run_underlying hu, sizeOf, typeInfo, hin, this]
    · simp [Res.sem] at hs
  · simp [Res.sem] at hs
end
end Go.PE
