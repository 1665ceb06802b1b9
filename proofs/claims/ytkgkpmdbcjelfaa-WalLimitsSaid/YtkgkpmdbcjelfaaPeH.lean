/- The evaluator is right, 4: making (see PeA, PeD). -/
import Derived.Test.YtkgkpmdbcjelfaaPeG
import Derived.Great.BuildSlice
set_option linter.unusedVariables false
set_option linter.unusedSimpArgs false
namespace Go.PE
open Go

section
variable {P : Program} {w0 : World} {F : List Nat} {M : Mem} {st : St} {w : World} {K : AV → St → Prop}

theorem newBox_ok (h : Inv w0 F M st.b st.r w) {s : Sem Value} {cs : Array Value} {ty : TypeId} {cells : List AV} (hc : CellsOk w M st.r cs cells)
    (hr : s.run P w = .ok (.pointer (some ⟨w.heap.size, 0, none⟩)) (w.alloc (.cells cs ty))) (hK : K (.ptr st.b.length 0) (st.new cells)) : OpOk P w0 F M st.t st.r w s K := by
  obtain ⟨hI, hch, hb⟩ := h.newBox cs ty cells hc.size hc.one hc.rep
  refine ⟨_, _, _, _, _, hK, hr, hI, hch, ?_, rfl⟩
  have e : RepA (w.alloc (.cells cs ty)) ⟨M.bb ++ [w.heap.size], M.av, M.no⟩ st.r (.pointer (some ⟨Mem.blk ⟨M.bb ++ [w.heap.size], M.av, M.no⟩ st.b.length, 0, none⟩)) (.ptr st.b.length 0) :=
    .ptr _ 0 (by have := h.lb; simp; omega)
  rw [hb] at e
  exact e

theorem zero_spec {t : TypeId} {z : List AV} (h : zero? P t = some z) : ∃ i zv, P.info? t = some i ∧ i.zero = some zv ∧ z = zv.cells.toList.map constA := by
  unfold zero? at h
  split at h
  · rename_i i hi
    simp only [Option.map_eq_some_iff] at h
    obtain ⟨zv, hz, rfl⟩ := h
    exact ⟨i, zv, hi, hz, rfl⟩
  · cases h
theorem zero_cells {zv : Value} {r : List Arr} (h : (zv.cells.toList.map constA).all oneA = true) : CellsOk w M r zv.cells (zv.cells.toList.map constA) := by
  refine .mk' (by simp) h (fun j hj => ?_)
  have hj' : j < zv.cells.size := by simpa using hj
  have e : (zv.cells.toList.map constA).getD j .undef = constA (zv.cells.getD j undef) := by simp [List.getD, Array.getD, hj']
  rw [e]
  exact constA_rep _

theorem alloc_sound {t : TypeId} (h : Inv w0 F M st.b st.r w) (hs : (allocR P t st).sem K) : OpOk P w0 F M st.t st.r w (Instr.alloc t true (.tuple #[])) K := by
  unfold allocR at hs
  split at hs
  · rename_i z hz
    obtain ⟨i, zv, hi, hzv, rfl⟩ := zero_spec hz
    simp only [Res.sem] at hs
    exact newBox_ok h (zero_cells hs.1) (ty := t) (by simp [Instr.alloc, zeroValue, typeInfo, hi, hzv, newVar, newRow]) hs.2
  · exact hs.elim
theorem box_sound {t : TypeId} {x : AV} {u : Value} (h : Inv w0 F M st.b st.r w) (hx : RepA w M st.r u x) (hs : (boxR x st).sem K) : OpOk P w0 F M st.t st.r w (Instr.box t u) K := by
  simp only [boxR, Res.sem] at hs
  exact newBox_ok h (cells_rep hx hs.1) (ty := t) (by simp [Instr.box, newVar, newRow]) hs.2

theorem fill_step (o : Nat) (ns cs : Array Value) (h : o + ns.size ≤ cs.size) :
    ns.zipIdx.foldl (fun cs (x : Value × Nat) => cs.setIfInBounds (o + x.2) x.1) cs = (cs.toList.take o ++ ns.toList ++ cs.toList.drop (o + ns.toList.length)).toArray := by
  rw [← Array.foldl_toList, Array.toList_zipIdx]
  obtain ⟨h1, h2⟩ := Great.foldl_set o ns.toList 0 cs
  apply Array.ext_getElem?
  intro k
  have e := h2 k
  simp only [Nat.add_zero] at e
  have hL : (cs.toList.take o ++ ns.toList ++ cs.toList.drop (o + ns.toList.length)).toArray[k]? = (cs.toList.take o ++ ns.toList ++ cs.toList.drop (o + ns.toList.length))[k]? := List.getElem?_toArray
  rw [e, hL]
  have hl : (cs.toList.take o).length = o := by simp; omega
  split
  · rename_i hk
    rw [List.append_assoc, List.getElem?_append_right (by omega), hl, List.getElem?_append_left (by omega)]
  · rename_i hk
    rcases Nat.lt_or_ge k o with h3 | h3
    · rw [List.append_assoc, List.getElem?_append_left (by omega), List.getElem?_take, if_pos h3]; simp
    · rw [List.append_assoc, List.getElem?_append_right (by omega), hl]
      rcases Nat.lt_or_ge k (o + ns.toList.length) with h4 | h4
      · have h5 : cs.size ≤ k := by omega
        simp at h4
        omega
      · rw [List.getElem?_append_right (by omega), List.getElem?_drop]
        rw [show o + ns.toList.length + (k - o - ns.toList.length) = k by omega]
        simp

theorem fill_rep {r : List Arr} {pl : Nat → Option (Nat × Nat)} {place : Nat → Option (Nat × Nat)} (hp : ∀ f x, pl f = some x → place f = some x) {a : Act} {t : List AV} {st : St} (ht : Rept w M r a.tmps st.t) :
    ∀ (l : List (Nat × Operand)) (cells : Array Value) (z out : List AV), CellsOk w M r cells z → fillA pl z (l.map fun p => (p.1, st.ev p.2)) = some out →
    ∃ cs, Instr.fill place cells (l.map fun p => (p.1, a.eval p.2)) = some cs ∧ CellsOk w M r cs out
  | [], cells, z, out, hc, h => by
    simp [fillA] at h
    subst h
    exact ⟨cells, rfl, hc⟩
  | (f, x) :: l, cells, z, out, hc, h => by
    simp only [List.map_cons, fillA] at h
    split at h
    · rename_i o n hpl
      split at h
      · rename_i hcond
        obtain ⟨h1, h2, h3⟩ := hcond
        have hx := cells_rep (ev_rep ht x) h3
        have hnew := hc.spl hx o (by omega)
        obtain ⟨cs, hcs, hok⟩ := fill_rep hp (t := t) ht l _ _ out hnew h
        refine ⟨cs, ?_, hok⟩
        simp only [List.map_cons, Instr.fill, hp _ _ hpl]
        have hsz : (a.eval x).cells.size = n := by rw [hx.size, h1]
        rw [if_neg (by simp [hsz, hc.size]; omega)]
        rw [fill_step o (a.eval x).cells cells (by rw [hsz, hc.size]; exact h2)]
        exact hcs
      · cases h
    · cases h

theorem mapM_all : ∀ (fs : List Field), fs.all (fun f => (P.info? f.type).isSome) = true → ∃ places, fs.mapM (fun f => (P.info? f.type).map fun i => (f.offset, i.size)) = some places ∧
    ∀ (k : Nat) (fd : Field) (i : TypeInfo), fs[k]? = some fd → P.info? fd.type = some i → places[k]? = some (fd.offset, i.size)
  | [], _ => ⟨[], by simp, fun k fd i h => by simp at h⟩
  | f :: fs, h => by
    simp only [List.all_cons, Bool.and_eq_true] at h
    obtain ⟨h1, h2⟩ := h
    obtain ⟨places, hp, hk⟩ := mapM_all fs h2
    cases hi : P.info? f.type with
    | none => simp [hi] at h1
    | some i =>
      refine ⟨(f.offset, i.size) :: places, by simp [List.mapM_cons, hi, hp], fun k fd j h3 h4 => ?_⟩
      cases k with
      | zero => simp at h3; subst h3; rw [hi] at h4; injection h4 with h4; subst h4; rfl
      | succ k => exact hk k fd j (by simpa using h3) h4

theorem build_sound {a : Act} {t : TypeId} {parts : Array (Nat × Operand)} (h : Inv w0 F M st.b st.r w) (ht : Rept w M st.r a.tmps st.t) (hs : (buildR P t (parts.toList.map fun p => (p.1, st.ev p.2)) st).sem K) :
    OpOk P w0 F M st.t st.r w (Instr.build t (parts.map fun p => (p.1, a.eval p.2))) K := by
  have main : ∀ (z out : List AV) (zv : Value) (i : TypeInfo) (pl place : Nat → Option (Nat × Nat)), P.info? t = some i → i.zero = some zv → z = zv.cells.toList.map constA → z.all oneA = true →
      (∀ f x, pl f = some x → place f = some x) → fillA pl z (parts.toList.map fun p => (p.1, st.ev p.2)) = some out → (∀ cs, Instr.fill place zv.cells (parts.map fun p => (p.1, a.eval p.2)).toList = some cs → P.built t (parts.map fun p => (p.1, a.eval p.2)).toList = some cs) →
      K (mkAgg out) st → OpOk P w0 F M st.t st.r w (Instr.build t (parts.map fun p => (p.1, a.eval p.2))) K := by
    intro z out zv i pl place hi hzv hz hone hp hf hb hK
    subst hz
    obtain ⟨cs, hcs, hok⟩ := fill_rep (t := st.t) hp ht parts.toList zv.cells _ out (zero_cells hone) hf
    exact ok_stay h hK (run_build w t _ cs (hb cs (by simpa using hcs))) (mkAgg_rep hok)
  unfold buildR at hs
  split at hs
  · rename_i z hz
    obtain ⟨i, zv, hi, hzv, hzz⟩ := zero_spec hz
    split at hs
    · rename_i hone
      split at hs
      · rename_i hk
        split at hs
        · rename_i cs hf
          simp only [Res.sem, true_and] at hs
          cases hu : P.underlying t with
          | none => simp [kd?, hu] at hk
          | some d =>
            cases d with
            | struct fs =>
              simp only [kd?, hu] at hk
              split at hk
              · rename_i hall
                obtain ⟨places, hpl, hget⟩ := mapM_all fs.toList hall
                refine main z cs zv i (plS P t) (places.toArray[·]?) hi hzv hzz hone (fun f x hx => ?_) hf (fun cs' h' => ?_) hs
                · unfold plS at hx
                  cases hfo : fo? P t f with
                  | none => simp [hfo] at hx
                  | some q =>
                    obtain ⟨o, ft⟩ := q
                    rw [hfo] at hx
                    simp only [Option.map_eq_some_iff] at hx
                    obtain ⟨g, hg, rfl⟩ := hx
                    obtain ⟨g1, g2⟩ := g
                    obtain ⟨fs', fd, j, hu', hfd, rfl, rfl, hj, _⟩ := fo_spec hfo
                    rw [hu] at hu'
                    injection hu' with hu'
                    injection hu' with hu'
                    subst hu'
                    obtain ⟨j', hj', hsz, _⟩ := ty_info hg
                    rw [hj] at hj'
                    injection hj' with hj'
                    subst hj'
                    have := hget f fd j (by simpa using hfd) hj
                    simpa [hsz] using this
                · simp [Program.built, hi, hu, hzv, hpl]
                  simpa using h'
              · cases hk
            | int k => simp only [kd?, hu] at hk; cases k <;> cases hk
            | _ => simp [kd?, hu] at hk
        · exact hs.elim
      · rename_i n n' hk har
        split at hs
        · rename_i cs hf
          simp only [Res.sem, true_and] at hs
          obtain ⟨e, j, hu, hj, rfl⟩ := ar_spec har
          refine main z cs zv i (plA j.size) (fun i => some (i * j.size, j.size)) hi hzv hzz hone (fun f x hx => hx) hf (fun cs' h' => ?_) hs
          simp [Program.built, hi, hu, hzv, hj]
          simpa using h'
        · exact hs.elim
      · exact hs.elim
    · exact hs.elim
  · exact hs.elim

theorem zip_parts {α : Type} : ∀ (l : List (Nat × α)) (k : Nat), l.map (·.1) = List.range' k l.length → l = ((l.map (·.2)).zipIdx k).map fun x => (x.2, x.1)
  | [], _, _ => rfl
  | (i, x) :: l, k, h => by
    simp only [List.map_cons, List.length_cons, List.range'_succ, List.cons.injEq] at h
    obtain ⟨rfl, h⟩ := h
    simp only [List.map_cons, List.zipIdx_cons, List.map_cons]
    congr 1
    exact zip_parts l _ h

theorem newRow_ok (h : Inv w0 F M st.b st.r w) {s : Sem Value} {A : Arr} (hsz : 0 < A.sz) (he : ∀ e ∈ A.es, e.length = A.sz) {u : Value} {w' : World} (hg : w.grownBy w' none) {xs : List Value} (ho : w'.ownsRow 0 A.ety A.sz u A.es.length xs)
    (h1 : ∀ x ∈ xs, x.oneCell' = true) (hr : ∀ k j, k < A.es.length → j < A.sz → Rep w (Okc M st.r) (xs.getD (k * A.sz + j) undef) ((A.es.getD k []).getD j .nilI)) (hv : ∀ g, u.ownBlock = some g → w.heap.size ≤ g)
    (hrun : s.run P w = .ok u w') (hK : K (.arr st.r.length A.es.length) (st.row A)) : OpOk P w0 F M st.t st.r w s K := by
  obtain ⟨hI, hch, hb⟩ := h.newRow hg u A hsz he xs ho h1 hr hv
  refine ⟨_, _, _, _, _, hK, hrun, hI, hch, .arr _ _ _ ?_ ⟨A, by simp [St.row], Nat.le_refl _, fun _ => hb.symm⟩, rfl⟩
  rcases ho.2 with ⟨rfl, _⟩ | ⟨g, cap, cur, rfl, _⟩ <;> rfl

theorem getD_flat {α : Type} (sz : Nat) (hs : 0 < sz) : ∀ (vs : List (List α)) (k j : Nat) (x : α), (∀ v ∈ vs, v.length = sz) → k < vs.length → j < sz → (vs.flatten).getD (k * sz + j) x = (vs.getD k []).getD j x
  | [], k, _, _, _, hk, _ => absurd hk (by simp)
  | v :: vs, k, j, x, h, hk, hj => by
    have hv := h v (by simp)
    rw [List.flatten_cons]
    cases k with
    | zero =>
      rw [Nat.zero_mul, Nat.zero_add, getD_append_lt _ _ _ _ (by omega)]
      rfl
    | succ k =>
      have e : (v ++ vs.flatten).getD ((k + 1) * sz + j) x = vs.flatten.getD (k * sz + j) x := by
        rw [Nat.add_mul, Nat.one_mul]
        simp only [List.getD]
        rw [List.getElem?_append_right (by omega)]
        congr 2
        omega
      rw [e, getD_flat sz hs vs k j x (fun u hu => h u (by simp [hu])) (by simpa using hk) hj]
      rfl

theorem bslice_sound {a : Act} {t : TypeId} {len : Nat} {parts : Array (Nat × Operand)} (h : Inv w0 F M st.b st.r w) (ht : Rept w M st.r a.tmps st.t) (hs : (bsliceR P t len (parts.toList.map fun p => (p.1, st.ev p.2)) st).sem K) :
    OpOk P w0 F M st.t st.r w (Instr.buildSlice t len (parts.map fun p => (p.1, a.eval p.2))) K := by
  obtain ⟨l, rfl⟩ : ∃ l : List (Nat × Operand), parts = l.toArray := ⟨parts.toList, by simp⟩
  rw [show l.toArray.toList = l from by simp] at hs
  unfold bsliceR at hs
  split at hs
  · rename_i e n y hsl
    obtain ⟨inf, z, hu, hin, hz, hzs, hp, _, rfl, _⟩ := sl_spec hsl
    have hgetp : ∀ i, i < l.length → (((l.map fun p => (p.1, st.ev p.2)).map (·.2)).getD i .undef) = st.ev (l.getD i (0, .const undef)).2 := by
      intro i hi; simp [List.getD, hi]
    obtain ⟨ds, hs, hl, hI, hc, hrep⟩ := toDR_sound h (fun i => a.eval (l.getD i (0, .const undef)).2) (fun i hi => by
      rw [hgetp i (by simpa using hi)]
      exact ev_rep ht _) hs
    simp only [Res.sem] at hs
    obtain ⟨⟨hidx, hsm, hall⟩, hK⟩ := hs
    refine OpOk.chg hc ?_
    have hpl : l.length = len := by
      have := congrArg List.length hidx
      simpa using this
    have hdl : ds.length = len := by rw [hl]; simpa using hpl
    have hd1 : ∀ i, i < ds.length → (cellsD (ds.getD i .nilI)).length = inf.size ∧ (cellsD (ds.getD i .nilI)).all oneD = true := by
      intro i hi
      have := List.all_eq_true.1 hall _ (List.getElem_mem hi)
      simp only [Bool.and_eq_true, decide_eq_true_eq] at this
      have e : ds.getD i .nilI = ds[i] := by simp [List.getD, hi]
      rw [e]
      exact this
    have hparts : (l.toArray.map fun p => (p.1, a.eval p.2)).toList = ((l.map fun p => a.eval p.2).zipIdx 0).map fun x => (x.2, x.1) := by
      have := zip_parts (l.map fun p => (p.1, a.eval p.2)) 0 (by
        rw [← List.range_eq_range', List.length_map, hpl, ← hidx]
        simp [Function.comp_def])
      simpa [Function.comp_def] using this
    have hvget : ∀ i, i < len → (l.map fun p => a.eval p.2).getD i undef = a.eval (l.getD i (0, .const undef)).2 := by
      intro i hi; simp [List.getD, hpl, hi]
    have hvs : ∀ i, i < len → ((l.map fun p => a.eval p.2).getD i undef).cells.size = inf.size ∧ _ := fun i hi => by
      rw [hvget i hi]
      have h2 := (hrep i (by omega)).oneL (hd1 i (by omega)).2
      exact ⟨by rw [h2.1, (hd1 i (by omega)).1], h2⟩
    have hmemv : ∀ v ∈ (l.map fun p => a.eval p.2), v.cells.size = inf.size ∧ (∀ j, j < inf.size → (v.cells.getD j undef).oneCell' = true) := by
      intro v hv
      obtain ⟨i, hi, rfl⟩ := List.getElem_of_mem hv
      have hi' : i < len := by simpa [hpl] using hi
      have h3 := hvs i hi'
      have e : (l.map fun p => a.eval p.2).getD i undef = (l.map fun p => a.eval p.2)[i] := by simp [List.getD, hpl, hi']
      rw [e] at h3
      refine ⟨h3.1, fun j hj => ?_⟩
      have := h3.2.2.1 j (by rw [(hd1 i (by omega)).1]; exact hj)
      rw [← hvget i hi', e] at this
      exact this
    have hflat : ((l.map fun p => a.eval p.2).flatMap fun v => v.cells.toList) = ((l.map fun p => a.eval p.2).map fun v => v.cells.toList).flatten := by rw [List.flatMap_def]
    have hrun : (Instr.buildSlice t len (l.toArray.map fun p => (p.1, a.eval p.2))).run P w =
        .ok (.slice (some ⟨w.heap.size, 0, none⟩) len len) (w.alloc (.cells ((l.map fun p => a.eval p.2).flatMap fun v => v.cells.toList).toArray e)) := by
      rcases Nat.eq_zero_or_pos len with h0 | h0
      · subst h0
        have hnil : l = [] := List.eq_nil_of_length_eq_zero hpl
        subst hnil
        have hr0 : ∀ f : Nat → Value, Array.map f (Array.range 0) = #[] := fun f => Array.eq_empty_of_size_eq_zero (by simp)
        simp [Instr.buildSlice, run_underlying hu, sizeOf, typeInfo, hin, newRow, Instr.fill, hr0]
      · refine run_buildSlice w t e len _ _ inf z hu hin hz (by omega) (by have := Nat.mul_pos h0 hp; omega) ?_
        rw [hparts]
        exact Great.fill_whole hp _ _ (fun v hv => (hmemv v hv).1) (by simp [hpl])
    have hlen0 : (ds.map cellsD).length = len := by simp [hdl]
    have hK' : K (.arr (share st.r (arrIdsL ((l.map fun p => (p.1, st.ev p.2)).map (·.2)))).length (ds.map cellsD).length) (St.row { st with r := share st.r (arrIdsL ((l.map fun p => (p.1, st.ev p.2)).map (·.2))) } ⟨inf.size, e, ds.map cellsD, false⟩) := by
      rw [hlen0]; exact hK
    refine newRow_ok (st := { st with r := share st.r (arrIdsL ((l.map fun p => (p.1, st.ev p.2)).map (·.2))) }) hI (A := ⟨inf.size, e, ds.map cellsD, false⟩) hp (fun e' he' => ?_) (World.grownBy_alloc w _ none)
      (u := .slice (some ⟨w.heap.size, 0, none⟩) len len) (xs := (l.map fun p => a.eval p.2).flatMap fun v => v.cells.toList) ?_ (fun x hx => ?_) (fun k j hk hj => ?_) (fun g hg => by simp [Value.ownBlock] at hg; omega) hrun hK'
    · obtain ⟨d, hd, rfl⟩ := List.mem_map.1 he'
      obtain ⟨i, hi, rfl⟩ := List.getElem_of_mem hd
      have := (hd1 i hi).1
      simpa [List.getD, hi] using this
    · have hxl : ((l.map fun p => a.eval p.2).flatMap fun v => v.cells.toList).length = len * inf.size := by
        rw [List.length_flatMap]
        have e2 : (l.map fun p => a.eval p.2).map (fun v => v.cells.toList.length) = List.replicate len inf.size := by
          apply List.ext_getElem
          · simp [hpl]
          · intro i h1 h2
            have := (hmemv _ (List.getElem_mem (show i < (l.map fun p => a.eval p.2).length by simpa using h1))).1
            simpa using this
        rw [e2]
        simp
      refine ⟨by rw [hlen0, hxl], .inr ⟨w.heap.size, len, _, by rw [hlen0], Nat.zero_le _, heap_alloc_new w _, by rw [hlen0]; exact Nat.le_refl _, ?_, by rw [List.size_toArray, hxl], by rw [hlen0]; exact List.take_of_length_le (Nat.le_of_eq hxl)⟩⟩
      simp only [maxLen]
      have := Nat.le_mul_of_pos_right len hp
      omega
    · obtain ⟨v, hv, hx⟩ := List.mem_flatMap.1 hx
      obtain ⟨j, hj, rfl⟩ := mem_getD hx
      obtain ⟨h2, h3⟩ := hmemv v hv
      exact h3 j (by omega)
    · have hk' : k < len := by simpa [hdl] using hk
      rw [hflat, getD_flat inf.size hp _ k j undef (fun v hv => by
        obtain ⟨v', hv', rfl⟩ := List.mem_map.1 hv
        simpa using (hmemv v' hv').1) (by simp [hpl, hk']) hj]
      have e1 : ((l.map fun p => a.eval p.2).map fun v => v.cells.toList).getD k [] = ((l.map fun p => a.eval p.2).getD k undef).cells.toList := by simp [List.getD, hpl, hk']
      have e2 : (ds.map cellsD).getD k [] = cellsD (ds.getD k .nilI) := by
        have hk2 : k < ds.length := by omega
        simp [List.getD, hk2]
      rw [e1, e2, toList_getD, hvget k hk']
      exact ((hrep k (by omega)).oneL (hd1 k (by omega)).2).2.2 j (by rw [(hd1 k (by omega)).1]; exact hj)
  · exact hs.elim
end
end Go.PE
