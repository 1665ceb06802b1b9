/- What making, writing and appending do to the state of a call (see PeA). -/
import Derived.Test.YtkgkpmdbcjelfaaPeA
import Derived.Deep.AppendSrc
set_option linter.unusedVariables false
set_option linter.unusedSimpArgs false
namespace Go.PE
open Go

theorem getD_append_lt {α : Type} (l m : List α) (i : Nat) (x : α) (h : i < l.length) : (l ++ m).getD i x = l.getD i x := by
  simp [List.getD, List.getElem?_append_left h]
theorem getD_append_len {α : Type} (l : List α) (y x : α) : (l ++ [y]).getD l.length x = y := by
  simp [List.getD]
theorem blk_lt {w : World} {g : Nat} {o : Obj} (h : w.heap[g]? = some o) : g < w.heap.size := (Array.getElem?_eq_some_iff.1 h).1

theorem Keep.grown {w0 : World} {F : List Nat} {w w' : World} {row : Option Nat} (h : Keep w0 F w) (hg : w.grownBy w' row) (hr : ∀ g, row = some g → g ∈ F ∨ w0.heap.size ≤ g) : Keep w0 F w' := by
  refine ⟨hg.os.trans h.os, hg.tape.trans h.tape, hg.output.trans h.output, Nat.le_trans h.size hg.size, fun k hk hF => ?_⟩
  rw [hg.block k (Nat.lt_of_lt_of_le hk h.size) (fun e => ?_)]
  · exact h.block k hk hF
  · rcases hr k e.symm with h1 | h1
    · exact hF h1
    · omega

section
variable {w0 : World} {F : List Nat} {M : Mem} {b : List (List AV)} {r : List Arr} {w w' : World}

theorem Inv.box_lt (h : Inv w0 F M b r w) {i : Nat} (hi : i < M.bb.length) : M.blk i < w.heap.size := by
  obtain ⟨cs, ty, hh, _⟩ := h.box i _ (List.getElem?_eq_getElem (by rw [← h.lb]; exact hi))
  exact blk_lt hh
theorem Inv.row_lt (h : Inv w0 F M b r w) {i g : Nat} (hi : (M.row i).ownBlock = some g) : g < w.heap.size := by
  have hl : i < M.av.length := by
    rcases Nat.lt_or_ge i M.av.length with h1 | h1
    · exact h1
    · simp [Mem.row, List.getD, List.getElem?_eq_none h1, Value.ownBlock] at hi
  obtain ⟨_, _, xs, ho, _⟩ := h.row i _ (List.getElem?_eq_getElem (by rw [← h.lr]; exact hl))
  exact (ho.lt g hi).2
theorem row_len {M : Mem} {i g : Nat} (hi : (M.row i).ownBlock = some g) : i < M.av.length := by
  rcases Nat.lt_or_ge i M.av.length with h1 | h1
  · exact h1
  · simp [Mem.row, List.getD, List.getElem?_eq_none h1, Value.ownBlock] at hi

/-- Only new blocks (or draws): all stays. -/
theorem Inv.grow (h : Inv w0 F M b r w) (hg : w.grownBy w' none) : Inv w0 F M b r w' ∧ Chg w M r w' M r := by
  have hc : Chg w M r w' M r := ⟨fun a u ho hc => ⟨hg.cell hc (by simp), ho⟩, Nat.le_refl _, fun _ _ => rfl, fun _ A hA => ⟨A, hA, Nat.le_refl _, rfl, fun _ => rfl⟩, rfl⟩
  refine ⟨⟨h.keep.grown hg (by simp), h.lb, h.lr, fun i cells hi => ?_, fun i A hA => ?_, h.fb, h.fr, h.dbb, h.drr, h.dbr, h.no⟩, hc⟩
  · obtain ⟨cs, ty, hh, hs, h1, hr⟩ := h.box i cells hi
    exact ⟨cs, ty, by rw [hg.block _ (blk_lt hh) (by simp)]; exact hh, hs, h1, fun j hj => (hr j hj).mono hc⟩
  · obtain ⟨hz, he, xs, ho, h1, hr⟩ := h.row i A hA
    exact ⟨hz, he, xs, ho.kept hg (by cases (M.row i).ownBlock <;> simp), h1, fun k j hk hj => (hr k j hk hj).mono hc.cell⟩

theorem grown_drew (w : World) : w.grownBy w.drew none := ⟨rfl, rfl, rfl, Nat.le_refl _, fun _ _ _ => rfl⟩
theorem Inv.drew (h : Inv w0 F M b r w) : Inv w0 F M b r w.drew ∧ Chg w M r w.drew M r := h.grow (grown_drew w)

/-- A new box. -/
theorem Inv.newBox (h : Inv w0 F M b r w) (cs : Array Value) (ty : TypeId) (cells : List AV) (hs : cs.size = cells.length) (h1 : ∀ j, j < cells.length → (cs.getD j undef).oneCell' = true)
    (hr : ∀ j, j < cells.length → RepA w M r (cs.getD j undef) (cells.getD j .undef)) :
    Inv w0 F ⟨M.bb ++ [w.heap.size], M.av, M.no⟩ (b ++ [cells]) r (w.alloc (.cells cs ty)) ∧ Chg w M r (w.alloc (.cells cs ty)) ⟨M.bb ++ [w.heap.size], M.av, M.no⟩ r ∧
    Mem.blk ⟨M.bb ++ [w.heap.size], M.av, M.no⟩ b.length = w.heap.size := by
  have hg : w.grownBy (w.alloc (.cells cs ty)) none := World.grownBy_alloc w _ _
  have hold : ∀ i, i < M.bb.length → Mem.blk ⟨M.bb ++ [w.heap.size], M.av, M.no⟩ i = M.blk i := fun i hi => getD_append_lt _ _ _ _ hi
  have hnew : Mem.blk ⟨M.bb ++ [w.heap.size], M.av, M.no⟩ b.length = w.heap.size := by rw [← h.lb]; exact getD_append_len _ _ _
  have hrow : ∀ i, Mem.row ⟨M.bb ++ [w.heap.size], M.av, M.no⟩ i = M.row i := fun _ => rfl
  have hcase : ∀ i, i < (M.bb ++ [w.heap.size]).length → (i < M.bb.length ∧ Mem.blk ⟨M.bb ++ [w.heap.size], M.av, M.no⟩ i = M.blk i) ∨ (i = M.bb.length ∧ Mem.blk ⟨M.bb ++ [w.heap.size], M.av, M.no⟩ i = w.heap.size) := by
    intro i hi
    simp at hi
    rcases Nat.lt_or_ge i M.bb.length with h1 | h1
    · exact .inl ⟨h1, hold i h1⟩
    · have : i = M.bb.length := by omega
      exact .inr ⟨this, by rw [this, h.lb]; exact hnew⟩
  have hc : Chg w M r (w.alloc (.cells cs ty)) ⟨M.bb ++ [w.heap.size], M.av, M.no⟩ r := by
    refine ⟨fun a u ho hcell => ⟨hg.cell hcell (by simp), ⟨fun i hi => ?_, ho.1.2⟩, ho.2⟩, by simp, hold, fun _ A hA => ⟨A, hA, Nat.le_refl _, rfl, fun _ => rfl⟩, rfl⟩
    have hlt := World.block_lt_of_cell? w a hcell
    rcases hcase i hi with ⟨h2, e⟩ | ⟨_, e⟩
    · rw [e]; exact ho.1.1 i h2
    · rw [e]; omega
  refine ⟨⟨h.keep.grown hg (by simp), by simp [h.lb], h.lr, fun i cells' hi => ?_, fun i A hA => ?_, fun i hi => ?_, h.fr, fun i j hi hj e => ?_, h.drr, fun i j hi => ?_, h.no⟩, hc, hnew⟩
  · rcases Nat.lt_or_ge i b.length with h2 | h2
    · rw [List.getElem?_append_left h2] at hi
      obtain ⟨cs', ty', hh, hs', h1', hr'⟩ := h.box i cells' hi
      exact ⟨cs', ty', by rw [hold i (by rw [h.lb]; exact h2), hg.block _ (blk_lt hh) (by simp)]; exact hh, hs', h1', fun j hj => (hr' j hj).mono hc⟩
    · have hlt := (List.getElem?_eq_some_iff.1 hi).1
      simp at hlt
      have hib : i = b.length := by omega
      subst hib
      simp at hi
      subst hi
      exact ⟨cs, ty, by rw [hnew]; exact heap_alloc_new w _, hs, h1, fun j hj => (hr j hj).mono hc⟩
  · obtain ⟨hz, he, xs, ho, h1', hr'⟩ := h.row i A hA
    exact ⟨hz, he, xs, ho.alloc _, h1', fun k j hk hj => (hr' k j hk hj).mono hc.cell⟩
  · rcases hcase i hi with ⟨h2, e⟩ | ⟨_, e⟩
    · rw [e]; exact h.fb i h2
    · rw [e]; exact .inr h.keep.size
  · rcases hcase i hi with ⟨h2, e2⟩ | ⟨h2, e2⟩ <;> rcases hcase j hj with ⟨h3, e3⟩ | ⟨h3, e3⟩ <;> rw [e2, e3] at e
    · exact h.dbb i j h2 h3 e
    · have := h.box_lt h2; omega
    · have := h.box_lt h3; omega
    · omega
  · rcases hcase i hi with ⟨h2, e2⟩ | ⟨h2, e2⟩ <;> rw [e2]
    · exact h.dbr i j h2
    · intro e
      have := h.row_lt e
      omega

/-- A new row. v: nil, or the new block. -/
theorem Inv.newRow (h : Inv w0 F M b r w) (hg : w.grownBy w' none) (v : Value) (A : Arr) (hsz : 0 < A.sz) (he : ∀ e ∈ A.es, e.length = A.sz) (xs : List Value) (ho : w'.ownsRow 0 A.ety A.sz v A.es.length xs)
    (h1 : ∀ x ∈ xs, x.oneCell' = true) (hr : ∀ k j, k < A.es.length → j < A.sz → Rep w (Okc M r) (xs.getD (k * A.sz + j) undef) ((A.es.getD k []).getD j .nilI)) (hv : ∀ g, v.ownBlock = some g → w.heap.size ≤ g) :
    Inv w0 F ⟨M.bb, M.av ++ [v], M.no⟩ b (r ++ [A]) w' ∧ Chg w M r w' ⟨M.bb, M.av ++ [v], M.no⟩ (r ++ [A]) ∧ Mem.row ⟨M.bb, M.av ++ [v], M.no⟩ r.length = v := by
  have hold : ∀ i, i < M.av.length → Mem.row ⟨M.bb, M.av ++ [v], M.no⟩ i = M.row i := fun i hi => getD_append_lt _ _ _ _ hi
  have hnew : Mem.row ⟨M.bb, M.av ++ [v], M.no⟩ r.length = v := by rw [← h.lr]; exact getD_append_len _ _ _
  have hcase : ∀ i g, (Mem.row ⟨M.bb, M.av ++ [v], M.no⟩ i).ownBlock = some g → (i < M.av.length ∧ (M.row i).ownBlock = some g ∧ g < w.heap.size) ∨ (i = M.av.length ∧ w.heap.size ≤ g) := by
    intro i g hi
    have hl := row_len hi
    simp at hl
    rcases Nat.lt_or_ge i M.av.length with h2 | h2
    · rw [hold i h2] at hi
      exact .inl ⟨h2, hi, h.row_lt hi⟩
    · have e : i = M.av.length := by omega
      subst e
      rw [h.lr, hnew] at hi
      exact .inr ⟨rfl, hv g hi⟩
  have hc : Chg w M r w' ⟨M.bb, M.av ++ [v], M.no⟩ (r ++ [A]) := by
    refine ⟨fun a u hok hcell => ⟨hg.cell hcell (by simp), hok.1, fun k A' hk hb => ?_⟩, Nat.le_refl _, fun _ _ => rfl, fun i A' hA => ?_, rfl⟩
    · rcases hcase k _ hb with ⟨h2, h3, _⟩ | ⟨_, h3⟩
      · rw [List.getElem?_append_left (by rw [← h.lr]; exact h2)] at hk
        exact hok.2 k A' hk h3
      · have := World.block_lt_of_cell? w a hcell
        omega
    · have hi := (List.getElem?_eq_some_iff.1 hA).1
      exact ⟨A', by rw [List.getElem?_append_left hi]; exact hA, Nat.le_refl _, rfl, fun _ => hold i (by rw [h.lr]; exact hi)⟩
  refine ⟨⟨h.keep.grown hg (by simp), h.lb, by simp [h.lr], fun i cells hi => ?_, fun i A' hA => ?_, h.fb, fun i g hi => ?_, h.dbb, fun i j g hi hj e1 e2 => ?_, fun i j hi e => ?_, fun a ha => ⟨(h.no a ha).1, fun i e => ?_⟩⟩, hc, hnew⟩
  · obtain ⟨cs, ty, hh, hs, h1', hr'⟩ := h.box i cells hi
    exact ⟨cs, ty, by show w'.heap[M.blk i]? = _; rw [hg.block _ (blk_lt hh) (by simp)]; exact hh, hs, h1', fun j hj => (hr' j hj).mono hc⟩
  · rcases Nat.lt_or_ge i r.length with h2 | h2
    · rw [List.getElem?_append_left h2] at hA
      obtain ⟨hz, he', xs', ho', h1', hr'⟩ := h.row i A' hA
      rw [hold i (by rw [h.lr]; exact h2)]
      exact ⟨hz, he', xs', ho'.kept hg (by cases (M.row i).ownBlock <;> simp), h1', fun k j hk hj => (hr' k j hk hj).mono hc.cell⟩
    · have hlt := (List.getElem?_eq_some_iff.1 hA).1
      simp at hlt
      have hib : i = r.length := by omega
      subst hib
      simp at hA
      subst hA
      rw [hnew]
      exact ⟨hsz, he, xs, ho, h1, fun k j hk hj => (hr k j hk hj).mono hc.cell⟩
  · rcases hcase i g hi with ⟨_, h3, _⟩ | ⟨_, h3⟩
    · exact h.fr i g h3
    · exact .inr (Nat.le_trans h.keep.size h3)
  · rcases hcase i g e1 with ⟨h2, h3, h4⟩ | ⟨h2, h3⟩ <;> rcases hcase j g e2 with ⟨h5, h6, h7⟩ | ⟨h5, h6⟩
    · exact h.drr i j g h2 h5 h3 h6
    · omega
    · omega
    · omega
  · rcases hcase j _ e with ⟨_, h3, _⟩ | ⟨_, h3⟩
    · exact h.dbr i j hi h3
    · have : M.blk i < w.heap.size := h.box_lt hi
      have h4 : w.heap.size ≤ M.blk i := h3
      omega
  · rcases hcase i _ e with ⟨_, h3, _⟩ | ⟨_, h3⟩
    · exact (h.no a ha).2 i h3
    · have := (h.no a ha).1
      have := h.keep.size
      omega

theorem Mem.row_set {M : Mem} {id : Nat} {v : Value} (hid : id < M.av.length) (i : Nat) : Mem.row ⟨M.bb, M.av.set id v, M.no⟩ i = if i = id then v else M.row i := by
  unfold Mem.row
  simp only [List.getD, List.getElem?_set]
  by_cases e : id = i
  · subst e; simp [hid]
  · simp [e, show ¬ i = id from fun h => e h.symm]

end

/-- append onto an owned row, of whatever is appended; where the new row lies. -/
theorem run_append_src {P : Program} (w : World) (t tx ty e : TypeId) (i : TypeInfo) (z : Value) (ht : P.underlying t = some (.slice e)) (hi : P.info? e = some i) (hz : i.zero = some z)
    (hzs : z.cells.size = i.size) (hsz : 0 < i.size) (v : Value) (n : Nat) (xs : List Value) (hown : w.ownsRow 0 e i.size v n xs) (x : Value) (m : Nat) (news : List Value) (hs : Src P i.size tx x m news w)
    (hb0 : 0 < i.bytes) (hbytes : (n + m) * i.bytes ≤ 140737488355328) :
    ∃ v' w', (Builtin.append_ #[t, tx] ty #[v, x]).run P w = .ok v' w' ∧ w'.ownsRow 0 e i.size v' (n + m) (xs ++ news) ∧
      ((v'.ownBlock = v.ownBlock ∧ w.grownBy w' v.ownBlock) ∨ (v'.ownBlock = some w.heap.size ∧ w.grownBy w' none)) ∧ (m = 0 → v' = v) := by
  have hsm : n + m ≤ 140737488355328 := Nat.le_trans (Nat.le_mul_of_pos_right _ hb0) hbytes
  have h63 : n + m ≤ maxLen := by simp only [maxLen]; omega
  have hl := hs.newsLen
  have hlen : (xs ++ news).length = (n + m) * i.size := by rw [List.length_append, hown.1, hl, Nat.add_mul]
  have grown : ∀ (old : Nat), old < n + m →
      (w.drew.alloc (.cells ((xs ++ news).toArray ++ Builtin.zeroCells z.cells (grownCap w (n + m) old e - (n + m))) e)).ownsRow 0 e i.size
        (.slice (some ⟨w.heap.size, 0, none⟩) (n + m) (grownCap w (n + m) old e)) (n + m) (xs ++ news) ∧
      w.grownBy (w.drew.alloc (.cells ((xs ++ news).toArray ++ Builtin.zeroCells z.cells (grownCap w (n + m) old e - (n + m))) e)) none := by
    intro old ho
    have hge := grownCap_ge w (n + m) old e
    have hcm : grownCap w (n + m) old e ≤ maxLen := grownCap_le_maxLen w (n + m) old e h63
    refine ⟨⟨hlen, .inr ⟨w.heap.size, _, _, rfl, Nat.zero_le _, heap_alloc_new w.drew _, hge, hcm, ?_, ?_⟩⟩, ⟨rfl, rfl, rfl, by simp, fun k hk _ => heap_alloc_old w.drew _ hk⟩⟩
    · simp only [Array.size_append, List.size_toArray, size_zeroCells, hzs, hlen, ← Nat.add_mul]
      congr 1
      omega
    · simp only [Array.toList_append]
      rw [← hlen]
      exact List.take_left
  rcases hown.2 with ⟨rfl, rfl⟩ | ⟨g, cap, cur, rfl, hbg, hg, hnc, hcm, hcs, htake⟩
  · have hx : xs = [] := List.eq_nil_of_length_eq_zero (by simpa using hown.1)
    subst hx
    by_cases hm : m = 0
    · subst hm
      have hn : news = [] := List.eq_nil_of_length_eq_zero (by simpa using hl)
      subst hn
      refine ⟨.slice none 0 0, w, ?_, World.ownsRow_nil w 0 e i.size, .inl ⟨rfl, ⟨rfl, rfl, rfl, Nat.le_refl _, fun _ _ _ => rfl⟩⟩, fun _ => rfl⟩
      rcases hs.kind with ⟨e', hk⟩ | hk <;> simp [Builtin.append_, run_underlying ht, run_underlying hk, sizeOf, typeInfo, hi, hs.len, hs.cells]
    · have hr := run_append_grow_src (P := P) w t tx ty e i z ht hi hz none 0 0 [] (by simp [Builtin.firstCells]) x m news hs (by omega) (by omega) (growslice_fits (by omega) hbytes)
      have hgr := grown 0 (by omega)
      exact ⟨_, _, hr, hgr.1, .inr ⟨rfl, hgr.2⟩, fun h => absurd h hm⟩
  · by_cases hroom : n + m ≤ cap
    · have hfit : 0 + n * i.size + news.length ≤ cur.size := by rw [hl, hcs, Nat.zero_add, ← Nat.add_mul]; exact Nat.mul_le_mul_right _ hroom
      have hst := run_storeCells_at (P := P) g (0 + n * i.size) e news 0 cur w hg (by simpa using hfit) hs.one
      have hr : (Builtin.append_ #[t, tx] ty #[.slice (some ⟨g, 0, none⟩) n cap, x]).run P w = .ok (.slice (some ⟨g, 0, none⟩) (n + m) cap) (w.setRow g (cur.toList.take (n * i.size) ++ news ++ cur.toList.drop (n * i.size + news.length)).toArray) := by
        simp only [Nat.zero_add, Nat.add_zero] at hst
        rcases hs.kind with ⟨e', hk⟩ | hk <;> simp [Builtin.append_, run_underlying ht, run_underlying hk, sizeOf, typeInfo, hi, hs.len, hroom, hs.cells, Addr.add_lit, hst]
      refine ⟨_, _, hr, ⟨hlen, .inr ⟨g, cap, _, rfl, Nat.zero_le _, setRow_heap w g cur _ e _ hg, hroom, hcm, ?_, ?_⟩⟩, .inl ⟨rfl, ⟨rfl, rfl, rfl, by simp, fun k _ hk => setRow_other w g k _ (fun e => hk (by simp [Value.ownBlock, e]))⟩⟩, fun h => by subst h; rfl⟩
      · simp only [List.size_toArray, List.length_append, List.length_take, List.length_drop, Array.length_toList]
        omega
      · rw [htake, ← hlen]
        exact List.take_left
    · have holds : ∀ j u, xs[j]? = some u → w.drew.cell? ((⟨g, 0, none⟩ : Addr).add j) = some u := fun j u h => by rw [World.cell?_drew]; exact hown.cells (g := g) rfl j u h
      have hr := run_append_grow_src (P := P) w t tx ty e i z ht hi hz (some ⟨g, 0, none⟩) n cap xs (run_firstCells_some (P := P) w.drew i.size n ⟨g, 0, none⟩ n cap xs hown.1 holds) x m news hs (by omega) (by omega) (growslice_fits (by omega) hbytes)
      have hgr := grown cap (by omega)
      exact ⟨_, _, hr, hgr.1, .inr ⟨rfl, hgr.2⟩, fun h => by omega⟩

section
variable {w0 : World} {F : List Nat} {M : Mem} {b : List (List AV)} {r : List Arr} {w w' : World}

theorem set_cases {r : List Arr} {id : Nat} {A B : Arr} (hA : r[id]? = some A) : ∀ i A', (r.set id B)[i]? = some A' → (i = id ∧ A' = B) ∨ (i ≠ id ∧ r[i]? = some A') := by
  intro i A' hi
  have hid : id < r.length := (List.getElem?_eq_some_iff.1 hA).1
  rw [List.getElem?_set] at hi
  by_cases e : id = i
  · subst e
    simp [hid] at hi
    exact .inl ⟨rfl, hi.symm⟩
  · rw [if_neg e] at hi
    exact .inr ⟨fun h => e h.symm, hi⟩
theorem set_at {r : List Arr} {id : Nat} {A B : Arr} (hA : r[id]? = some A) : (r.set id B)[id]? = some B := by
  have hid : id < r.length := (List.getElem?_eq_some_iff.1 hA).1
  simp [hid]
theorem set_ne {r : List Arr} {id i : Nat} {B : Arr} (h : i ≠ id) : (r.set id B)[i]? = r[i]? := by
  rw [List.getElem?_set, if_neg (fun e => h e.symm)]

/-- A row that grows at its end, in place or anew. -/
theorem Inv.append (h : Inv w0 F M b r w) (id : Nat) (A : Arr) (hA : r[id]? = some A) (news : List (List D)) (v' : Value) (xs ys : List Value)
    (ho : w.ownsRow 0 A.ety A.sz (M.row id) A.es.length xs) (hx1 : ∀ x ∈ xs, x.oneCell' = true)
    (hxr : ∀ k j, k < A.es.length → j < A.sz → Rep w (Okc M r) (xs.getD (k * A.sz + j) undef) ((A.es.getD k []).getD j .nilI))
    (ho' : w'.ownsRow 0 A.ety A.sz v' (A.es.length + news.length) (xs ++ ys))
    (hb : (v'.ownBlock = (M.row id).ownBlock ∧ w.grownBy w' (M.row id).ownBlock) ∨ (v'.ownBlock = some w.heap.size ∧ w.grownBy w' none)) (hn : ∀ e ∈ news, e.length = A.sz) (hne : news.length = 0 → v' = M.row id)
    (hy1 : ∀ x ∈ ys, x.oneCell' = true) (hyr : ∀ k j, k < news.length → j < A.sz → Rep w (Okc M r) (ys.getD (k * A.sz + j) undef) ((news.getD k []).getD j .nilI)) :
    Inv w0 F ⟨M.bb, M.av.set id v', M.no⟩ b (r.set id { A with es := A.es ++ news }) w' ∧ Chg w M r w' ⟨M.bb, M.av.set id v', M.no⟩ (r.set id { A with es := A.es ++ news }) ∧
    Mem.row ⟨M.bb, M.av.set id v', M.no⟩ id = v' := by
  have hid : id < r.length := (List.getElem?_eq_some_iff.1 hA).1
  have hid' : id < M.av.length := by rw [h.lr]; exact hid
  have hrow := Mem.row_set (M := M) (v := v') hid'
  have hnew : Mem.row ⟨M.bb, M.av.set id v', M.no⟩ id = v' := by rw [hrow]; simp
  have hset := set_cases (B := { A with es := A.es ++ news }) hA
  have hxl : xs.length = A.es.length * A.sz := ho.1
  have hgall : w.grownBy w' (M.row id).ownBlock := by
    rcases hb with ⟨_, hg⟩ | ⟨_, hg⟩
    · exact hg
    · exact ⟨hg.os, hg.tape, hg.output, hg.size, fun k hk _ => hg.block k hk (by simp)⟩
  -- cells of the old row below its end stay
  have hcell : ∀ a u, Okc M r a → w.cell? a = some u → w'.cell? a = some u := by
    intro a u hok hc
    rcases hb with ⟨hb, hg⟩ | ⟨_, hg⟩
    case inr => exact hg.cell hc (by simp)
    by_cases e : some a.block = (M.row id).ownBlock
    · have hoff := (hok.2 id A hA e.symm).2
      obtain ⟨ho1, ho2⟩ := ho
      rcases ho2 with ⟨h1, _⟩ | ⟨g, cap, cur, h1, _, h3, h4, h5, h6, h7⟩
      · rw [h1] at e; simp [Value.ownBlock] at e
      · rw [h1] at e
        simp [Value.ownBlock] at e
        obtain ⟨_, ho2'⟩ := ho'
        rcases ho2' with ⟨h1', _⟩ | ⟨g', cap', cur', h1', _, h3', h4', h5', h6', h7'⟩
        · rw [h1', h1] at hb; simp [Value.ownBlock] at hb
        · rw [h1', h1] at hb
          simp [Value.ownBlock] at hb
          subst hb
          simp only [World.cell?, e, h3] at hc
          simp only [World.cell?, e, h3']
          by_cases hs : a.spot.isSome = true
          · simp [hs] at hc
          · simp only [hs] at hc ⊢
            have e1 : cur[a.off]? = xs[a.off]? := by
              rw [← h7, List.getElem?_take, if_pos hoff]; simp
            have e2 : cur'[a.off]? = (xs ++ ys)[a.off]? := by
              rw [← h7', List.getElem?_take, if_pos (by rw [Nat.add_mul]; omega)]; simp
            have hc' : cur[a.off]? = some u := by simpa using hc
            show (if false = true then none else cur'[a.off]?) = some u
            rw [if_neg (by simp), e2, List.getElem?_append_left (by omega), ← e1]
            exact hc'
    · exact hg.cell hc e
  have hcase : ∀ i g, (Mem.row ⟨M.bb, M.av.set id v', M.no⟩ i).ownBlock = some g → (i ≠ id ∧ (M.row i).ownBlock = some g) ∨ (i = id ∧ ((M.row id).ownBlock = some g ∨ g = w.heap.size)) := by
    intro i g hi
    rw [hrow] at hi
    by_cases e : i = id
    · subst e
      simp at hi
      rcases hb with ⟨hb, _⟩ | ⟨hb, _⟩
      · exact .inr ⟨rfl, .inl (hb ▸ hi)⟩
      · rw [hb] at hi; exact .inr ⟨rfl, .inr (by injection hi with hi; exact hi.symm)⟩
    · rw [if_neg e] at hi
      exact .inl ⟨e, hi⟩
  have hc : Chg w M r w' ⟨M.bb, M.av.set id v', M.no⟩ (r.set id { A with es := A.es ++ news }) := by
    refine ⟨fun a u hok hcell' => ⟨hcell a u hok hcell', hok.1, fun k A' hk hbk => ?_⟩, Nat.le_refl _, fun _ _ => rfl, fun i A' hA' => ?_, rfl⟩
    · have hlt := World.block_lt_of_cell? w a hcell'
      rcases hset k A' hk with ⟨rfl, rfl⟩ | ⟨hne', hk'⟩
      · rcases hcase k _ hbk with ⟨h1, _⟩ | ⟨_, h1 | h1⟩
        · exact absurd rfl h1
        · obtain ⟨h2, h3⟩ := hok.2 k A hA h1
          refine ⟨h2, Nat.lt_of_lt_of_le h3 (Nat.mul_le_mul_right _ ?_)⟩
          simp
        · omega
      · rcases hcase k _ hbk with ⟨_, h1⟩ | ⟨h1, _⟩
        · exact hok.2 k A' hk' h1
        · exact absurd h1 hne'
    · by_cases e : i = id
      · subst e
        rw [hA] at hA'
        injection hA' with hA'
        subst hA'
        refine ⟨_, set_at hA, by simp, rfl, fun hl => ?_⟩
        rw [hnew]
        exact hne (by simpa using hl)
      · exact ⟨A', by rw [set_ne e]; exact hA', Nat.le_refl _, rfl, fun _ => by rw [hrow, if_neg e]⟩
  refine ⟨⟨h.keep.grown hgall (fun g hg => h.fr id g hg), h.lb, by simp [h.lr], fun i cells hi => ?_, fun i A' hA' => ?_, h.fb, fun i g hi => ?_, h.dbb, fun i j g hi hj e1 e2 => ?_, fun i j hi e => ?_, fun a ha => ⟨(h.no a ha).1, fun i e => ?_⟩⟩, hc, hnew⟩
  · obtain ⟨cs, ty, hh, hs, h1', hr'⟩ := h.box i cells hi
    exact ⟨cs, ty, by show w'.heap[M.blk i]? = _; rw [hgall.block _ (blk_lt hh) (fun e => h.dbr i id (by rw [h.lb]; exact (List.getElem?_eq_some_iff.1 hi).1) e.symm)]; exact hh, hs, h1', fun j hj => (hr' j hj).mono hc⟩
  · rcases hset i A' hA' with ⟨rfl, rfl⟩ | ⟨hne', hA''⟩
    · obtain ⟨hz, he, _⟩ := h.row i A hA
      rw [hnew]
      refine ⟨hz, fun e he' => ?_, xs ++ ys, by simpa using ho', fun x hx => ?_, fun k j hk hj => ?_⟩
      · rcases List.mem_append.1 he' with h2 | h2
        · exact he e h2
        · exact hn e h2
      · rcases List.mem_append.1 hx with h2 | h2
        · exact hx1 x h2
        · exact hy1 x h2
      · show Rep w' _ ((xs ++ ys).getD (k * A.sz + j) undef) (((A.es ++ news).getD k []).getD j .nilI)
        rcases Nat.lt_or_ge k A.es.length with h2 | h2
        · have h3 : k * A.sz + j < xs.length := by
            rw [hxl]
            calc k * A.sz + j < k * A.sz + A.sz := Nat.add_lt_add_left hj _
              _ = (k + 1) * A.sz := by rw [Nat.add_mul, Nat.one_mul]
              _ ≤ A.es.length * A.sz := Nat.mul_le_mul_right _ h2
          rw [getD_append_lt _ _ _ _ h3, getD_append_lt _ _ _ _ h2]
          exact (hxr k j h2 hj).mono hc.cell
        · have hk' : k - A.es.length < news.length := by simp at hk; omega
          have e1 : (xs ++ ys).getD (k * A.sz + j) undef = ys.getD ((k - A.es.length) * A.sz + j) undef := by
            have h5 : xs.length ≤ k * A.sz + j := by rw [hxl]; exact Nat.le_trans (Nat.mul_le_mul_right _ h2) (Nat.le_add_right _ _)
            have h6 : k * A.sz + j - xs.length = (k - A.es.length) * A.sz + j := by
              rw [hxl, Nat.sub_mul]
              have := Nat.mul_le_mul_right A.sz h2
              omega
            simp only [List.getD, List.getElem?_append_right h5, h6]
          have e2 : (A.es ++ news).getD k [] = news.getD (k - A.es.length) [] := by
            simp only [List.getD, List.getElem?_append_right h2]
          rw [e1, e2]
          exact (hyr _ j hk' hj).mono hc.cell
    · obtain ⟨hz, he, xs', ho'', h1', hr'⟩ := h.row i A' hA''
      rw [hrow, if_neg hne']
      refine ⟨hz, he, xs', ho''.kept hgall ?_, h1', fun k j hk hj => (hr' k j hk hj).mono hc.cell⟩
      cases e : (M.row i).ownBlock with
      | none => exact .inl rfl
      | some g =>
        refine .inr fun e2 => hne' (h.drr i id g (by rw [h.lr]; exact (List.getElem?_eq_some_iff.1 hA'').1) hid' e e2.symm)
  · rcases hcase i g hi with ⟨_, h3⟩ | ⟨rfl, h3 | h3⟩
    · exact h.fr i g h3
    · exact h.fr i g h3
    · exact .inr (h3 ▸ h.keep.size)
  · simp at hi hj
    rcases hcase i g e1 with ⟨h2, h3⟩ | ⟨h2, h3⟩ <;> rcases hcase j g e2 with ⟨h5, h6⟩ | ⟨h5, h6⟩
    · exact h.drr i j g hi hj h3 h6
    · rcases h6 with h6 | h6
      · exact absurd (h.drr i id g hi hid' h3 h6) h2
      · have := h.row_lt h3; omega
    · rcases h3 with h3 | h3
      · exact absurd (h.drr j id g hj hid' h6 h3) h5
      · have := h.row_lt h6; omega
    · omega
  · rcases hcase j _ e with ⟨_, h3⟩ | ⟨_, h3 | h3⟩
    · exact h.dbr i j hi h3
    · exact h.dbr i id hi h3
    · have := h.box_lt hi
      have h4 : M.blk i = w.heap.size := h3
      omega
  · rcases hcase i _ e with ⟨_, h3⟩ | ⟨_, h3 | h3⟩
    · exact (h.no a ha).2 i h3
    · exact (h.no a ha).2 id h3
    · have := (h.no a ha).1
      have := h.keep.size
      omega

/-- A row is handed on: nothing in it may be overwritten from now on. -/
theorem Inv.share (h : Inv w0 F M b r w) (id : Nat) (A : Arr) (hA : r[id]? = some A) :
    Inv w0 F M b (r.set id { A with sh := true }) w ∧ Chg w M r w M (r.set id { A with sh := true }) := by
  have hset := set_cases (B := { A with sh := true }) hA
  have hc : Chg w M r w M (r.set id { A with sh := true }) := by
    refine ⟨fun a u hok hcell => ⟨hcell, hok.1, fun k A' hk hb => ?_⟩, Nat.le_refl _, fun _ _ => rfl, fun i A' hA' => ?_, rfl⟩
    · rcases hset k A' hk with ⟨rfl, rfl⟩ | ⟨_, hk'⟩
      · exact ⟨rfl, (hok.2 k A hA hb).2⟩
      · exact hok.2 k A' hk' hb
    · by_cases e : i = id
      · subst e
        rw [hA] at hA'
        injection hA' with hA'
        subst hA'
        exact ⟨_, set_at hA, Nat.le_refl _, rfl, fun _ => rfl⟩
      · exact ⟨A', by rw [set_ne e]; exact hA', Nat.le_refl _, rfl, fun _ => rfl⟩
  refine ⟨⟨h.keep, h.lb, by simp [h.lr], fun i cells hi => ?_, fun i A' hA' => ?_, h.fb, h.fr, h.dbb, h.drr, h.dbr, h.no⟩, hc⟩
  · obtain ⟨cs, ty, hh, hs, h1', hr'⟩ := h.box i cells hi
    exact ⟨cs, ty, hh, hs, h1', fun j hj => (hr' j hj).mono hc⟩
  · have key : ∀ A', r[i]? = some A' → _ := fun A' hA' => h.row i A' hA'
    rcases hset i A' hA' with ⟨rfl, rfl⟩ | ⟨_, hA''⟩
    · obtain ⟨hz, he, xs, ho, h1, hr⟩ := key A hA
      exact ⟨hz, he, xs, ho, h1, fun k j hk hj => (hr k j hk hj).mono hc.cell⟩
    · obtain ⟨hz, he, xs, ho, h1, hr⟩ := key A' hA''
      exact ⟨hz, he, xs, ho, h1, fun k j hk hj => (hr k j hk hj).mono hc.cell⟩

/-- The row of a shared slice, as data. -/
theorem Inv.rowData (h : Inv w0 F M b r w) (id : Nat) (A : Arr) (hA : r[id]? = some A) (hsh : A.sh = true) : Rep w (Okc M r) (M.row id) (.list A.es) := by
  obtain ⟨hz, he, xs, ho, h1, hr⟩ := h.row id A hA
  have hid : id < M.av.length := by rw [h.lr]; exact (List.getElem?_eq_some_iff.1 hA).1
  have hxl : xs.length = A.es.length * A.sz := ho.1
  have hlt : ∀ i j, i < A.es.length → j < A.sz → i * A.sz + j < xs.length := fun i j hi hj => by
    rw [hxl]
    calc i * A.sz + j < i * A.sz + A.sz := Nat.add_lt_add_left hj _
      _ = (i + 1) * A.sz := by rw [Nat.add_mul, Nat.one_mul]
      _ ≤ A.es.length * A.sz := Nat.mul_le_mul_right _ hi
  have hel : ∀ i, i < A.es.length → (A.es.getD i []).length = A.sz := fun i hi => by
    have : A.es.getD i [] = A.es[i] := by simp [List.getD, hi]
    rw [this]
    exact he _ (List.getElem_mem hi)
  have hone : ∀ i j, i < A.es.length → j < A.sz → (xs.getD (i * A.sz + j) undef).oneCell' = true := fun i j hi hj => by
    have h3 := hlt i j hi hj
    have : xs.getD (i * A.sz + j) undef = xs[i * A.sz + j] := by simp [List.getD, h3]
    rw [this]
    exact h1 _ (List.getElem_mem h3)
  have ho2 := ho.2
  rcases ho2 with ⟨h2, h3⟩ | ⟨g, cap, cur, h2, _, h4, h5, h6, h7, h8⟩
  · rw [h2]
    exact .list none 0 0 A.sz A.es (fun _ _ => undef) h3.symm ⟨Nat.le_refl _, Nat.zero_le _⟩ (fun i hi => absurd hi (by omega)) (fun h => absurd h (by omega)) (fun i _ hi => absurd hi (by omega)) (fun i _ hi => absurd hi (by omega))
  · have hbk : (M.row id).ownBlock = some g := by rw [h2]; rfl
    rw [h2]
    refine .list _ _ cap A.sz A.es (fun i j => xs.getD (i * A.sz + j) undef) rfl ⟨h5, h6⟩ hel (fun _ => ⟨_, rfl, rfl, fun i j hi hj => ?_⟩) hone hr
    have h9 := hlt i j hi hj
    have hgx : xs[i * A.sz + j]? = some (xs.getD (i * A.sz + j) undef) := by simp [List.getD, h9]
    refine ⟨ho.cells hbk _ _ hgx, ⟨fun k hk e => ?_, fun hno => ?_⟩, fun k A' hk e => ?_⟩
    · rw [Addr.add_lit] at e
      exact h.dbr k id hk (by rw [hbk]; exact congrArg some e.symm)
    · have := (h.no _ hno).2 id
      rw [Addr.add_lit] at this
      exact this hbk
    · rw [Addr.add_lit] at e ⊢
      have hk' : k < M.av.length := row_len e
      have := h.drr k id g hk' hid e hbk
      subst this
      rw [hA] at hk
      injection hk with hk
      subst hk
      refine ⟨hsh, ?_⟩
      show 0 + (i * A.sz + j) < A.es.length * A.sz
      rw [hxl] at h9
      omega
end
end Go.PE
