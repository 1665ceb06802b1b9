/- The evaluator is right, 3: data out of abstract values; stores; new boxes and rows (see PeA, PeD). -/
import Derived.Test.YtkgkpmdbcjelfaaPeF
set_option linter.unusedVariables false
set_option linter.unusedSimpArgs false
namespace Go.PE
open Go

def SharedOf (r r' : List Arr) (ids : List Nat) : Prop := ∀ id A, r[id]? = some A → ∃ A', r'[id]? = some A' ∧ A'.es = A.es ∧ (A.sh = true → A'.sh = true) ∧ (id ∈ ids → A'.sh = true)

theorem shared_share1 (r : List Arr) (id : Nat) : SharedOf r (share1 r id) [id] := by
  intro k A hA
  unfold share1
  cases e : r[id]? with
  | none => exact ⟨A, hA, rfl, fun h => h, fun h => by simp at h; subst h; rw [e] at hA; cases hA⟩
  | some B =>
    by_cases hk : k = id
    · subst hk
      rw [e] at hA
      injection hA with hA
      subst hA
      exact ⟨_, set_at e, rfl, fun _ => rfl, fun _ => rfl⟩
    · exact ⟨A, by rw [set_ne hk]; exact hA, rfl, fun h => h, fun h => by simp at h; exact absurd h hk⟩
theorem shared_share : ∀ (ids : List Nat) (r : List Arr), SharedOf r (share r ids) ids
  | [], r => fun k A hA => ⟨A, hA, rfl, fun h => h, fun h => by cases h⟩
  | id :: l, r => by
    intro k A hA
    obtain ⟨A1, h1, e1, s1, m1⟩ := shared_share1 r id k A hA
    obtain ⟨A2, h2, e2, s2, m2⟩ := shared_share l (share1 r id) k A1 h1
    refine ⟨A2, h2, e2.trans e1, fun h => s2 (s1 h), fun h => ?_⟩
    rcases List.mem_cons.1 h with rfl | h
    · exact s2 (m1 (by simp))
    · exact m2 h

section
variable {P : Program} {w0 : World} {F : List Nat} {M : Mem} {b : List (List AV)} {r : List Arr} {w : World}

theorem Inv.share1 (h : Inv w0 F M b r w) (id : Nat) : Inv w0 F M b (share1 r id) w ∧ Chg w M r w M (share1 r id) := by
  unfold PE.share1
  split
  · rename_i A hA
    exact h.share id A hA
  · exact ⟨h, Chg.refl _ _ _⟩
theorem Inv.shareL : ∀ (ids : List Nat) {r : List Arr}, Inv w0 F M b r w → Inv w0 F M b (PE.share r ids) w ∧ Chg w M r w M (PE.share r ids)
  | [], _, h => ⟨h, Chg.refl _ _ _⟩
  | id :: l, _, h => by
    obtain ⟨h1, c1⟩ := h.share1 id
    obtain ⟨h2, c2⟩ := Inv.shareL l h1
    exact ⟨h2, c1.trans c2⟩

mutual
theorem toD_rep {r' : List Arr} (hI : Inv w0 F M b r' w) (hc : Chg w M r w M r') {ids : List Nat} (hs : SharedOf r r' ids) : ∀ (x : AV) (d : D) (v : Value), toD r x = some d → (∀ id ∈ arrIds x, id ∈ ids) → RepA w M r v x → Rep w (Okc M r') v d
  | .d x, d, v, h, _, hr => by
    simp [toD] at h
    subst h
    exact hr.d_inv.mono hc.cell
  | .nilS, d, v, h, _, hr => by
    simp [toD] at h
    subst h
    cases hr
    exact .list none 0 0 0 [] (fun _ _ => undef) rfl ⟨Nat.le_refl _, Nat.zero_le _⟩ (fun i hi => absurd hi (by omega)) (fun h => absurd h (by omega)) (fun i _ hi => absurd hi (by omega)) (fun i _ hi => absurd hi (by omega))
  | .arr id n, d, v, h, hm, hr => by
    simp only [toD] at h
    cases hA : r[id]? with
    | none => simp [hA] at h
    | some A =>
      rw [hA] at h
      simp only at h
      split at h
      · rename_i hn
        injection h with h
        subst h
        cases hr with
        | arr _ _ _ h1 hv =>
          obtain ⟨A', hA', _, hv⟩ := hv
          rw [hA] at hA'
          injection hA' with hA'
          subst hA'
          obtain ⟨A2, h2, e2, _, m2⟩ := hs id A hA
          have := hI.rowData id A2 h2 (m2 (hm id (by simp [arrIds])))
          rw [e2] at this
          rw [hv hn]
          exact this
      · cases h
  | .agg cs, d, v, h, hm, hr => by
    simp only [toD, Option.map_eq_some_iff] at h
    obtain ⟨ds, h1, rfl⟩ := h
    cases hr with
    | agg vs _ hsz h1' hrr =>
      obtain ⟨hl, hrep⟩ := toDL_rep hI hc hs cs ds h1 (fun id hid => hm id (by simpa [arrIds] using hid)) (fun i => vs.getD i undef) hrr
      exact .agg vs ds (by omega) (fun i hi => h1' i (by omega)) hrep
  | .iface t x, d, v, h, hm, hr => by
    simp only [toD, Option.map_eq_some_iff] at h
    obtain ⟨d', h1, rfl⟩ := h
    cases hr with
    | iface _ v' _ hr' => exact .iface t v' d' (toD_rep hI hc hs x d' v' h1 (fun id hid => hm id (by simpa [arrIds] using hid)) hr')
  | .undef, _, _, h, _, _ | .ptr _ _, _, _, h, _, _ | .cptr _, _, _, h, _, _ | .eptr _ _ _ _, _, _, h, _, _ | .tup _, _, _, h, _, _ | .fn _ _ _, _, _, h, _, _ => by simp [toD] at h
theorem toDL_rep {r' : List Arr} (hI : Inv w0 F M b r' w) (hc : Chg w M r w M r') {ids : List Nat} (hs : SharedOf r r' ids) : ∀ (xs : List AV) (ds : List D), toDL r xs = some ds → (∀ id ∈ arrIdsL xs, id ∈ ids) → ∀ (f : Nat → Value), (∀ i, i < xs.length → RepA w M r (f i) (xs.getD i .undef)) →
    ds.length = xs.length ∧ ∀ i, i < ds.length → Rep w (Okc M r') (f i) (ds.getD i .nilI)
  | [], ds, h, _, f, _ => by
    simp [toDL] at h
    subst h
    exact ⟨rfl, fun i hi => absurd hi (by simp)⟩
  | x :: l, ds, h, hm, f, hr => by
    simp only [toDL] at h
    split at h
    · rename_i d ds' h1 h2
      injection h with h
      subst h
      have hx := toD_rep hI hc hs x d (f 0) h1 (fun id hid => hm id (by simp [arrIdsL, hid])) (hr 0 (by simp))
      obtain ⟨hl, hrep⟩ := toDL_rep hI hc hs l ds' h2 (fun id hid => hm id (by simp [arrIdsL, hid])) (fun i => f (i + 1)) (fun i hi => hr (i + 1) (by simpa using hi))
      refine ⟨by simp [hl], fun i hi => ?_⟩
      cases i with
      | zero => exact hx
      | succ i => exact hrep i (by simpa using hi)
    · cases h
end

/-- Arguments turned into data: their rows are shared from now on. -/
theorem toDR_sound {args : List AV} {st : St} {f : List D → St → Res} {K : AV → St → Prop} (h : Inv w0 F M st.b st.r w) (vs : Nat → Value) (hr : ∀ i, i < args.length → RepA w M st.r (vs i) (args.getD i .undef)) (hs : (toDR args st f).sem K) :
    ∃ ds, (f ds { st with r := share st.r (arrIdsL args) }).sem K ∧ ds.length = args.length ∧ Inv w0 F M st.b (share st.r (arrIdsL args)) w ∧ Chg w M st.r w M (share st.r (arrIdsL args)) ∧
      ∀ i, i < ds.length → Rep w (Okc M (share st.r (arrIdsL args))) (vs i) (ds.getD i .nilI) := by
  unfold toDR at hs
  split at hs
  · rename_i ds hds
    obtain ⟨hI, hc⟩ := Inv.shareL (arrIdsL args) h
    obtain ⟨hl, hrep⟩ := toDL_rep hI hc (shared_share (arrIdsL args) st.r) args ds hds (fun id hid => hid) vs hr
    exact ⟨ds, hs, hl, hI, hc, hrep⟩
  · exact hs.elim
end

/-- An operation after which a state of this kind is there. -/
theorem OpOk.chg {P : Program} {w0 : World} {F : List Nat} {M : Mem} {t : List AV} {r r' : List Arr} {w : World} {s : Sem Value} {K : AV → St → Prop} (c : Chg w M r w M r') (h : OpOk P w0 F M t r' w s K) : OpOk P w0 F M t r w s K := by
  obtain ⟨v, st', M', w', u, hK, hr, hI, hc, hv, ht⟩ := h
  exact ⟨v, st', M', w', u, hK, hr, hI, c.trans hc, hv, ht⟩

section
variable {P : Program} {w0 : World} {F : List Nat} {M : Mem} {st : St} {w : World} {K : AV → St → Prop}

/-- What a store comes to. -/
def StOk (P : Program) (w0 : World) (F : List Nat) (M : Mem) (t : List AV) (r : List Arr) (w : World) (s : Sem Unit) (K : AV → St → Prop) : Prop :=
  ∃ v st' M' w', K v st' ∧ s.run P w = .ok () w' ∧ Inv w0 F M' st'.b st'.r w' ∧ Chg w M r w' M' st'.r ∧ RepA w' M' st'.r undef v ∧ st'.t = t

theorem mem_getD {cs : Array Value} {u : Value} (h : u ∈ cs.toList) : ∃ j, j < cs.size ∧ cs.getD j undef = u := by
  obtain ⟨j, hj, rfl⟩ := List.getElem_of_mem h
  have hj' : j < cs.size := by simpa using hj
  exact ⟨j, hj', by simp [Array.getD, hj']⟩
theorem CellsOk.all {r : List Arr} {cs : Array Value} {xs : List AV} (h : CellsOk w M r cs xs) : ∀ u ∈ cs.toList, u.oneCell' = true := by
  intro u hu
  obtain ⟨j, hj, rfl⟩ := mem_getD hu
  exact h.one j (by rw [← h.size]; exact hj)

theorem getD_splice {α : Type} (cs : List α) (off : Nat) (new : List α) (x : α) (j : Nat) (h : off + new.length ≤ cs.length) :
    (splice cs off new).getD j x = if j < off then cs.getD j x else if j < off + new.length then new.getD (j - off) x else cs.getD j x := by
  unfold splice
  have hl : (cs.take off).length = off := by simp; omega
  rcases Nat.lt_or_ge j off with h1 | h1
  · rw [if_pos h1, List.append_assoc, getD_append_lt _ _ _ _ (by omega)]
    simp only [List.getD, List.getElem?_take, if_pos h1]
  · rw [if_neg (by omega)]
    have e1 : (List.take off cs ++ new ++ List.drop (off + new.length) cs).getD j x = (new ++ List.drop (off + new.length) cs).getD (j - off) x := by
      rw [List.append_assoc]
      simp only [List.getD]
      rw [List.getElem?_append_right (by omega), hl]
    rw [e1]
    rcases Nat.lt_or_ge j (off + new.length) with h2 | h2
    · rw [if_pos h2, getD_append_lt _ _ _ _ (by omega)]
    · rw [if_neg (by omega)]
      simp only [List.getD]
      rw [List.getElem?_append_right (by omega), List.getElem?_drop]
      congr 2
      omega
theorem len_splice {α : Type} (cs : List α) (off : Nat) (new : List α) (h : off + new.length ≤ cs.length) : (splice cs off new).length = cs.length := by
  simp [splice]; omega

theorem CellsOk.spl {r : List Arr} {cs ns : Array Value} {xs ys : List AV} (h : CellsOk w M r cs xs) (k : CellsOk w M r ns ys) (off : Nat) (hf : off + ys.length ≤ xs.length) :
    CellsOk w M r (cs.toList.take off ++ ns.toList ++ cs.toList.drop (off + ns.toList.length)).toArray (splice xs off ys) := by
  have e : (cs.toList.take off ++ ns.toList ++ cs.toList.drop (off + ns.toList.length)) = splice cs.toList off ns.toList := rfl
  rw [e]
  have hl : ns.toList.length = ys.length := by simpa using k.size
  have hl2 : cs.toList.length = xs.length := by simpa using h.size
  have hf' : off + ns.toList.length ≤ cs.toList.length := by omega
  refine ⟨by rw [List.size_toArray, len_splice _ _ _ hf', len_splice _ _ _ hf, hl2], fun j hj => ?_, fun j hj => ?_⟩ <;> rw [len_splice _ _ _ hf] at hj <;> rw [toArray_getD, getD_splice _ _ _ _ _ hf']
  · rw [hl]
    split
    · rw [toList_getD]; exact h.one j hj
    · split
      · rw [toList_getD]; exact k.one _ (by omega)
      · rw [toList_getD]; exact h.one j hj
  · rw [getD_splice _ _ _ _ _ hf, hl]
    split
    · rw [toList_getD]; exact h.rep j hj
    · split
      · rw [toList_getD]; exact k.rep _ (by omega)
      · rw [toList_getD]; exact h.rep j hj

theorem Rep.oneL {ok : Addr → Prop} {v : Value} {d : D} (h : Rep w ok v d) (h1 : (cellsD d).all oneD = true) : v.cells.size = (cellsD d).length ∧ (∀ j, j < (cellsD d).length → (v.cells.getD j undef).oneCell' = true) ∧ ∀ j, j < (cellsD d).length → Rep w ok (v.cells.getD j undef) ((cellsD d).getD j .nilI) := by
  have single : oneD d = true → cellsD d = [d] → v.cells.size = (cellsD d).length ∧ (∀ j, j < (cellsD d).length → (v.cells.getD j undef).oneCell' = true) ∧ ∀ j, j < (cellsD d).length → Rep w ok (v.cells.getD j undef) ((cellsD d).getD j .nilI) := by
    intro h2 h3
    have hv := h.one h2
    rw [cells_one hv, h3]
    refine ⟨rfl, fun j hj => ?_, fun j hj => ?_⟩ <;>
      (have e : j = 0 := by
        simp at hj
        exact hj
       subst e)
    · exact hv
    · exact h
  cases d with
  | agg cs =>
    cases h with
    | agg vs _ hs h1' hr => exact ⟨hs, h1', hr⟩
  | _ => exact single (by simpa [cellsD] using h1) rfl

theorem store_sound {t : TypeId} {x y : AV} {u v : Value} (h : Inv w0 F M st.b st.r w) (hx : RepA w M st.r u x) (hy : RepA w M st.r v y) (hs : (storeR P t x y st).sem K) : StOk P w0 F M st.t st.r w (Instr.storeAt t u v) K := by
  unfold storeR at hs
  cases hty : ty? P t with
  | none => simp [hty, Res.sem] at hs
  | some gn =>
    obtain ⟨g, n⟩ := gn
    rw [hty] at hs
    cases x with
    | ptr id off =>
      cases hb : st.b[id]? with
      | none => simp [hb, Res.sem] at hs
      | some cells =>
        simp only [hb, Res.sem] at hs
        obtain ⟨⟨hl, hn, h1⟩, hK⟩ := hs
        obtain ⟨cs, ty, hh, hc⟩ := box_cells h hb
        cases hx
        have hv := cells_rep hy h1
        have hnew := hc.spl hv off (by omega)
        obtain ⟨hI, hch⟩ := h.setBox id cells hb _ _ hnew.size hnew.one hnew.rep
        refine ⟨.undef, _, M, _, hK, ?_, hI, hch, .undef _, rfl⟩
        simp only [Instr.storeAt, Instr.sureAddr, Sem.run_bind, Sem.run_pure, Result.andThen_ok]
        exact run_storeVar_at hty w _ off v cs ty hh (by rw [hv.size, hl]) (by rw [hc.size]; exact hn) hv.all
    | eptr id m i off =>
      simp only at hs
      have hr1 : ∀ k, k < [y].length → RepA w M st.r v ([y].getD k .undef) := fun k hk => by
        have e : k = 0 := by simpa using hk
        subst e
        exact hy
      obtain ⟨ds, hs, hl, hI, hc, hrep⟩ := toDR_sound h (fun _ => v) hr1 hs
      cases ds with
      | nil => simp at hl
      | cons d ds =>
        cases ds with
        | cons _ _ => simp at hl
        | nil =>
          have hd : Rep w (Okc M (share st.r (arrIdsL [y]))) v d := hrep 0 (by simp)
          simp only at hs
          cases hA : (share st.r (arrIdsL [y]))[id]? with
          | none => simp [hA, Res.sem] at hs
          | some A =>
            simp only [hA, Res.sem] at hs
            obtain ⟨⟨hm, hi, hdl, hoff, hsh, h1⟩, hK⟩ := hs
            have hx' := hx.mono hc
            cases hx' with
            | eptr _ _ _ _ _ h1' hv =>
              obtain ⟨A', hA', _, hv⟩ := hv
              rw [hA] at hA'
              injection hA' with hA'
              subst hA'
              obtain ⟨g', hg', rfl⟩ := hv hm
              obtain ⟨hz, he, xs, ho, hx1, hxr⟩ := hI.row id A hA
              have hxl : xs.length = A.es.length * A.sz := ho.1
              rcases ho.2 with ⟨e1, e2⟩ | ⟨g2, cap, cur, e1, _, hh, hnc, hcm, hcs, htk⟩
              · rw [e1] at hg'; simp [Value.ownBlock] at hg'
              · rw [e1] at hg'
                simp [Value.ownBlock] at hg'
                subst hg'
                obtain ⟨hvs, hv1, hvr⟩ := hd.oneL h1
                have hvl : v.cells.toList.length = n := by simp [hvs, hdl]
                have hend : i * A.sz + A.sz ≤ xs.length := by
                  rw [hxl]
                  calc i * A.sz + A.sz = (i + 1) * A.sz := by rw [Nat.add_mul, Nat.one_mul]
                    _ ≤ A.es.length * A.sz := Nat.mul_le_mul_right _ hi
                have hel : (A.es.getD i []).length = A.sz := by
                  have : A.es.getD i [] = A.es[i] := by simp [List.getD, hi]
                  rw [this]; exact he _ (List.getElem_mem hi)
                have hcl : cur.toList.length = cap * A.sz := by simpa using hcs
                have hncm := Nat.mul_le_mul_right A.sz hnc
                -- the cells behind the store
                have hxs : splice xs (i * A.sz + off) v.cells.toList ++ cur.toList.drop (A.es.length * A.sz) = cur.toList.take (i * A.sz + off) ++ v.cells.toList ++ cur.toList.drop (i * A.sz + off + v.cells.toList.length) := by
                  rw [← htk]
                  unfold splice
                  rw [List.take_take, List.drop_take, Nat.min_eq_left (by omega), List.append_assoc, List.append_assoc, List.append_assoc]
                  congr 2
                  have := List.take_append_drop (A.es.length * A.sz - (i * A.sz + off + v.cells.toList.length)) (cur.toList.drop (i * A.sz + off + v.cells.toList.length))
                  rw [List.drop_drop] at this
                  rw [show i * A.sz + off + v.cells.toList.length + (A.es.length * A.sz - (i * A.sz + off + v.cells.toList.length)) = A.es.length * A.sz by omega] at this
                  exact this
                have hspl : (splice xs (i * A.sz + off) v.cells.toList).length = A.es.length * A.sz := by rw [len_splice _ _ _ (by omega), hxl]
                have hsetl : ∀ e ∈ A.es.set i (splice (A.es.getD i []) off (cellsD d)), e.length = A.sz := by
                  intro e hm
                  rcases List.mem_or_eq_of_mem_set hm with h2 | h2
                  · exact he e h2
                  · rw [h2, len_splice _ _ _ (by omega), hel]
                obtain ⟨hI', hch'⟩ := hI.setRowElems id A hA hsh g2 cap cur e1 hh hcs hnc hcm (splice xs (i * A.sz + off) v.cells.toList) (A.es.set i (splice (A.es.getD i []) off (cellsD d))) (by simp) hsetl hspl
                  (fun x hx => by
                    unfold splice at hx
                    rcases List.mem_append.1 hx with h2 | h2
                    · rcases List.mem_append.1 h2 with h3 | h3
                      · exact hx1 x (List.mem_of_mem_take h3)
                      · obtain ⟨j, hj, rfl⟩ := mem_getD h3
                        exact hv1 j (by rw [← hvs]; exact hj)
                    · exact hx1 x (List.mem_of_mem_drop h2))
                  (fun k j hk hj => by
                    simp at hk
                    have hkj : k * A.sz + j < xs.length := by
                      rw [hxl]
                      calc k * A.sz + j < k * A.sz + A.sz := Nat.add_lt_add_left hj _
                        _ = (k + 1) * A.sz := by rw [Nat.add_mul, Nat.one_mul]
                        _ ≤ A.es.length * A.sz := Nat.mul_le_mul_right _ hk
                    rw [getD_splice _ _ _ _ _ (by omega)]
                    by_cases hki : k = i
                    · subst hki
                      have e3 : (A.es.set k (splice (A.es.getD k []) off (cellsD d))).getD k [] = splice (A.es.getD k []) off (cellsD d) := by simp [List.getD, hk]
                      rw [e3, getD_splice _ _ _ _ _ (by omega)]
                      by_cases hj1 : j < off
                      · rw [if_pos (by omega), if_pos hj1]; exact hxr k j hk hj
                      · rw [if_neg (by omega), if_neg hj1]
                        by_cases hj2 : j < off + (cellsD d).length
                        · rw [if_pos (by omega), if_pos hj2, show k * A.sz + j - (k * A.sz + off) = j - off by omega, toList_getD]
                          exact hvr _ (by omega)
                        · rw [if_neg (by omega), if_neg hj2]; exact hxr k j hk hj
                    · have e3 : (A.es.set i (splice (A.es.getD i []) off (cellsD d))).getD k [] = A.es.getD k [] := by
                        simp only [List.getD, List.getElem?_set, if_neg (Ne.symm hki)]
                      rw [e3]
                      have hout : k * A.sz + j < i * A.sz + off ∨ i * A.sz + off + v.cells.toList.length ≤ k * A.sz + j := by
                        rcases Nat.lt_or_gt_of_ne hki with h2 | h2
                        · have := Nat.mul_le_mul_right A.sz (show k + 1 ≤ i from h2)
                          rw [Nat.add_mul, Nat.one_mul] at this
                          left; omega
                        · have := Nat.mul_le_mul_right A.sz (show i + 1 ≤ k from h2)
                          rw [Nat.add_mul, Nat.one_mul] at this
                          right; omega
                      rcases hout with h2 | h2
                      · rw [if_pos h2]; exact hxr k j hk hj
                      · rw [if_neg (by omega), if_neg (by omega)]; exact hxr k j hk hj)
                refine ⟨.undef, _, M, _, hK, ?_, hI', hc.trans hch', .undef _, rfl⟩
                rw [hxs]
                simp only [Instr.storeAt, Instr.sureAddr, Sem.run_bind, Sem.run_pure, Result.andThen_ok]
                exact run_storeVar_at hty w _ _ v cur A.ety hh (by rw [hvs, hdl]) (by rw [hcs]; omega) (fun u hu => by
                  obtain ⟨j, hj, rfl⟩ := mem_getD hu
                  exact hv1 j (by rw [← hvs]; exact hj))
    | _ => simp [Res.sem] at hs
end
end Go.PE
