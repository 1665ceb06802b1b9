/- What writing to boxes and rows does to the state of a call (see PeA). -/
import Derived.Test.YtkgkpmdbcjelfaaPeB
set_option linter.unusedVariables false
set_option linter.unusedSimpArgs false
namespace Go.PE
open Go

theorem grown_setRow (w : World) (g : Nat) (cs : Array Value) : w.grownBy (w.setRow g cs) (some g) :=
  ⟨rfl, rfl, rfl, by simp [World.setRow], fun k _ hk => setRow_other w g k cs (fun e => hk (by rw [e]))⟩

theorem bset_at {b : List (List AV)} {i : Nat} {c d : List AV} (h : b[i]? = some c) : (b.set i d)[i]? = some d := by
  have hid : i < b.length := (List.getElem?_eq_some_iff.1 h).1
  simp [hid]
theorem bset_cases {b : List (List AV)} {id : Nat} {c d : List AV} (hA : b[id]? = some c) : ∀ i A', (b.set id d)[i]? = some A' → (i = id ∧ A' = d) ∨ (i ≠ id ∧ b[i]? = some A') := by
  intro i A' hi
  have hid : id < b.length := (List.getElem?_eq_some_iff.1 hA).1
  rw [List.getElem?_set] at hi
  by_cases e : id = i
  · subst e
    simp [hid] at hi
    exact .inl ⟨rfl, hi.symm⟩
  · rw [if_neg e] at hi
    exact .inr ⟨fun h => e h.symm, hi⟩

section
variable {w0 : World} {F : List Nat} {M : Mem} {b : List (List AV)} {r : List Arr} {w : World}

theorem Inv.setBox (h : Inv w0 F M b r w) (i : Nat) (cells : List AV) (hi : b[i]? = some cells) (cs : Array Value) (cells' : List AV) (hs : cs.size = cells'.length)
    (h1 : ∀ j, j < cells'.length → (cs.getD j undef).oneCell' = true) (hr : ∀ j, j < cells'.length → RepA w M r (cs.getD j undef) (cells'.getD j .undef)) :
    Inv w0 F M (b.set i cells') r (w.setRow (M.blk i) cs) ∧ Chg w M r (w.setRow (M.blk i) cs) M r := by
  have hib : i < M.bb.length := by rw [h.lb]; exact (List.getElem?_eq_some_iff.1 hi).1
  have hg := grown_setRow w (M.blk i) cs
  have hc : Chg w M r (w.setRow (M.blk i) cs) M r :=
    ⟨fun a u hok hcell => ⟨hg.cell hcell (fun e => hok.1.1 i hib (by injection e with e; exact e.symm)), hok⟩, Nat.le_refl _, fun _ _ => rfl, fun _ A hA => ⟨A, hA, Nat.le_refl _, rfl, fun _ => rfl⟩, rfl⟩
  refine ⟨⟨h.keep.grown hg (fun g e => by injection e with e; rw [← e]; exact h.fb i hib), by simp [h.lb], h.lr, fun k cs' hk => ?_, fun k A hk => ?_, h.fb, h.fr, h.dbb, h.drr, h.dbr, h.no⟩, hc⟩
  · rcases bset_cases hi k cs' hk with ⟨rfl, rfl⟩ | ⟨hne, hk'⟩
    · obtain ⟨old, ty, hh, _⟩ := h.box k cells hi
      exact ⟨cs, ty, setRow_heap w _ old cs ty _ hh, hs, h1, fun j hj => (hr j hj).mono hc⟩
    · obtain ⟨old, ty, hh, hs', h1', hr'⟩ := h.box k cs' hk'
      refine ⟨old, ty, ?_, hs', h1', fun j hj => (hr' j hj).mono hc⟩
      rw [setRow_other w _ _ cs (fun e => hne (h.dbb k i (by rw [h.lb]; exact (List.getElem?_eq_some_iff.1 hk').1) hib e))]
      exact hh
  · obtain ⟨hz, he, xs, ho, h1', hr'⟩ := h.row k A hk
    refine ⟨hz, he, xs, ho.kept hg ?_, h1', fun q j hq hj => (hr' q j hq hj).mono hc.cell⟩
    cases e : (M.row k).ownBlock with
    | none => exact .inl rfl
    | some g => exact .inr fun e2 => h.dbr i k hib (by rw [e]; exact e2)

theorem Inv.setRowElems (h : Inv w0 F M b r w) (id : Nat) (A : Arr) (hA : r[id]? = some A) (hsh : A.sh = false) (g cap : Nat) (cur : Array Value) (hv : M.row id = .slice (some ⟨g, 0, none⟩) A.es.length cap)
    (hg : w.heap[g]? = some (.cells cur A.ety (0, 0))) (hcs : cur.size = cap * A.sz) (hn : A.es.length ≤ cap) (hm : cap ≤ maxLen) (xs' : List Value) (es' : List (List D)) (hl : es'.length = A.es.length) (he : ∀ e ∈ es', e.length = A.sz)
    (hx : xs'.length = A.es.length * A.sz) (h1 : ∀ x ∈ xs', x.oneCell' = true) (hr : ∀ k j, k < es'.length → j < A.sz → Rep w (Okc M r) (xs'.getD (k * A.sz + j) undef) ((es'.getD k []).getD j .nilI)) :
    Inv w0 F M b (r.set id { A with es := es' }) (w.setRow g (xs' ++ cur.toList.drop (A.es.length * A.sz)).toArray) ∧
    Chg w M r (w.setRow g (xs' ++ cur.toList.drop (A.es.length * A.sz)).toArray) M (r.set id { A with es := es' }) := by
  have hset := set_cases (B := { A with es := es' }) hA
  have hid : id < M.av.length := by rw [h.lr]; exact (List.getElem?_eq_some_iff.1 hA).1
  have hbk : (M.row id).ownBlock = some g := by rw [hv]; rfl
  have hgr := grown_setRow w g (xs' ++ cur.toList.drop (A.es.length * A.sz)).toArray
  have hc : Chg w M r (w.setRow g (xs' ++ cur.toList.drop (A.es.length * A.sz)).toArray) M (r.set id { A with es := es' }) := by
    refine ⟨fun a u hok hcell => ⟨hgr.cell hcell (fun e => ?_), hok.1, fun k A' hk hb => ?_⟩, Nat.le_refl _, fun _ _ => rfl, fun i A' hA' => ?_, rfl⟩
    · injection e with e
      have := (hok.2 id A hA (by rw [hbk, e])).1
      rw [hsh] at this
      cases this
    · rcases hset k A' hk with ⟨rfl, rfl⟩ | ⟨_, hk'⟩
      · have := (hok.2 k A hA hb).1
        rw [hsh] at this
        cases this
      · exact hok.2 k A' hk' hb
    · by_cases e : i = id
      · subst e
        rw [hA] at hA'
        injection hA' with hA'
        subst hA'
        exact ⟨_, set_at hA, by simp [hl], rfl, fun _ => rfl⟩
      · exact ⟨A', by rw [set_ne e]; exact hA', Nat.le_refl _, rfl, fun _ => rfl⟩
  have hgF : g ∈ F ∨ w0.heap.size ≤ g := h.fr id g hbk
  refine ⟨⟨h.keep.grown hgr (fun k e => by injection e with e; rw [← e]; exact hgF), h.lb, by simp [h.lr], fun i cells hi => ?_, fun i A' hA' => ?_, h.fb, h.fr, h.dbb, h.drr, h.dbr, h.no⟩, hc⟩
  · obtain ⟨cs, ty, hh, hs, h1', hr'⟩ := h.box i cells hi
    refine ⟨cs, ty, ?_, hs, h1', fun j hj => (hr' j hj).mono hc⟩
    rw [setRow_other w _ _ _ (fun e => h.dbr i id (by rw [h.lb]; exact (List.getElem?_eq_some_iff.1 hi).1) (by rw [hbk]; exact congrArg some e.symm))]
    exact hh
  · rcases hset i A' hA' with ⟨rfl, rfl⟩ | ⟨hne, hA''⟩
    · obtain ⟨hz, _⟩ := h.row i A hA
      refine ⟨hz, he, xs', ⟨by rw [hx, hl], .inr ⟨g, cap, _, by rw [hl]; exact hv, Nat.zero_le _, setRow_heap w g cur _ A.ety _ hg, by rw [hl]; exact hn, hm, ?_, ?_⟩⟩, h1, fun k j hk hj => (hr k j hk hj).mono hc.cell⟩
      · have := Nat.mul_le_mul_right A.sz hn
        simp only [List.size_toArray, List.length_append, List.length_drop, Array.length_toList, hx]
        omega
      · rw [hl, ← hx]
        exact List.take_left
    · obtain ⟨hz, he', xs'', ho'', h1'', hr''⟩ := h.row i A' hA''
      refine ⟨hz, he', xs'', ho''.kept hgr ?_, h1'', fun k j hk hj => (hr'' k j hk hj).mono hc.cell⟩
      cases e : (M.row i).ownBlock with
      | none => exact .inl rfl
      | some k =>
        refine .inr fun e2 => hne (h.drr i id k (by rw [h.lr]; exact (List.getElem?_eq_some_iff.1 hA'').1) hid e ?_)
        rw [hbk]; exact e2.symm
end
end Go.PE
