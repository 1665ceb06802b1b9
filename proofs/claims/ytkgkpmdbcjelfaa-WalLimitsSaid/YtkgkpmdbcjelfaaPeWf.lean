/- A call sees only the part of the state that its arguments lead to: the law. -/
import Derived.Test.YtkgkpmdbcjelfaaPeWe
set_option linter.unusedVariables false
set_option linter.unusedSimpArgs false
namespace Go.PE
open Go

def partF (M : Mem) (bs rs : List Nat) : List Nat := bs.map M.blk ++ rs.filterMap fun j => (M.row j).ownBlock
def partNo (w : World) (M : Mem) (r : List Arr) (bs rs : List Nat) : Addr → Prop := fun a => a.block < w.heap.size ∧ a.block ∉ partF M bs rs ∧ ¬ Okc M r a
def Mem.part (M : Mem) (no : Addr → Prop) (bs rs : List Nat) : Mem := ⟨bs.map M.blk, rs.map M.row, no⟩

theorem mem_partF {M : Mem} {bs rs : List Nat} {g : Nat} : g ∈ partF M bs rs ↔ (∃ i ∈ bs, M.blk i = g) ∨ ∃ j ∈ rs, (M.row j).ownBlock = some g := by
  simp [partF]
theorem part_blk {M : Mem} {no : Addr → Prop} {bs rs : List Nat} {k i : Nat} (h : bs[k]? = some i) : (M.part no bs rs).blk k = M.blk i := by
  simp [Mem.part, Mem.blk, List.getD, h]
theorem part_row {M : Mem} {no : Addr → Prop} {bs rs : List Nat} {k i : Nat} (h : rs[k]? = some i) : (M.part no bs rs).row k = M.row i := by
  simp [Mem.part, Mem.row, List.getD, h]
theorem part_row_own {M : Mem} {no : Addr → Prop} {bs rs : List Nat} {k g : Nat} (h : ((M.part no bs rs).row k).ownBlock = some g) : ∃ i, rs[k]? = some i ∧ (M.row i).ownBlock = some g := by
  have hl := row_len h
  have hl : k < rs.length := by simpa [Mem.part] using hl
  refine ⟨rs[k], List.getElem?_eq_getElem hl, ?_⟩
  rw [part_row (List.getElem?_eq_getElem hl)] at h
  exact h

section
variable {w0 : World} {F : List Nat} {M : Mem} {b : List (List AV)} {r : List Arr} {w : World} {bs rs : List Nat} {c b0 : List (List AV)} {r0 : List Arr}

theorem part_okc (e4 : pickL r rs = some r0) (hb : ∀ i ∈ bs, i < M.bb.length) {a : Addr} (h : Okc M r a) : Okc (M.part (partNo w M r bs rs) bs rs) r0 a := by
  refine ⟨⟨fun k hk => ?_, fun hn => hn.2.2 h⟩, fun k A hk hbk => ?_⟩
  · have hk' : k < bs.length := by simpa [Mem.part] using hk
    rw [part_blk (List.getElem?_eq_getElem hk')]
    exact h.1.1 _ (hb _ (List.getElem_mem hk'))
  · obtain ⟨i, hi, hg⟩ := part_row_own hbk
    obtain ⟨_, h2⟩ := pickL_spec e4
    rw [(h2 k i hi).1] at hk
    exact h.2 i A hk hg

theorem part_rep (h : Inv w0 F M b r w) (e4 : pickL r rs = some r0) (hb : ∀ i ∈ bs, i < M.bb.length) {v : Value} {x y : AV} (hv : RepA w M r v x) (hy : low bs rs x = some y) : RepA w (M.part (partNo w M r bs rs) bs rs) r0 v y := by
  refine low_rep (fun i k hk => ?_) (fun i k hk => ?_) (fun a ha => part_okc e4 hb ha) hv y hy
  · have hk := ixOf_get hk
    exact ⟨by simp [Mem.part, (List.getElem?_eq_some_iff.1 hk).1], part_blk hk⟩
  · have hk := ixOf_get hk
    obtain ⟨_, h2⟩ := pickL_spec e4
    exact ⟨(h2 k i hk).1, part_row hk⟩

theorem part_inv (h : Inv w0 F M b r w) (nb : nd bs = true) (nr : nd rs = true) (e2 : pickL b bs = some c) (e3 : lowB bs rs c = some b0) (e4 : pickL r rs = some r0) :
    Inv w (partF M bs rs) (M.part (partNo w M r bs rs) bs rs) b0 r0 w := by
  obtain ⟨l2, s2⟩ := pickL_spec e2
  obtain ⟨l3, s3⟩ := lowB_spec e3
  obtain ⟨l4, s4⟩ := pickL_spec e4
  have hb : ∀ i ∈ bs, i < M.bb.length := by
    intro i hi
    obtain ⟨k, hk, e⟩ := List.mem_iff_getElem.1 hi
    rw [h.lb]
    exact (s2 k i (by rw [List.getElem?_eq_getElem hk, e])).2
  have hr : ∀ i ∈ rs, i < M.av.length := by
    intro i hi
    obtain ⟨k, hk, e⟩ := List.mem_iff_getElem.1 hi
    rw [h.lr]
    exact (s4 k i (by rw [List.getElem?_eq_getElem hk, e])).2
  have bsl : ∀ k, k < (M.part (partNo w M r bs rs) bs rs).bb.length → ∃ i, bs[k]? = some i ∧ i ∈ bs := by
    intro k hk
    have hk' : k < bs.length := by simpa [Mem.part] using hk
    exact ⟨bs[k], List.getElem?_eq_getElem hk', List.getElem_mem hk'⟩
  refine ⟨.refl _ _, by simp [Mem.part, l2, l3], by simp [Mem.part, l4], fun k cells hk => ?_, fun k A hk => ?_, fun k hk => ?_, fun k g hg => ?_, fun k j hk hj e => ?_, fun k j g hk hj e1 e2 => ?_, fun k j hk e => ?_, fun a ha => ⟨ha.1, fun k e => ?_⟩⟩
  · obtain ⟨d, hd, hlow⟩ := s3 k cells hk
    have hkc := (List.getElem?_eq_some_iff.1 hd).1
    obtain ⟨i, hi, hm⟩ := bsl k (by simp [Mem.part]; omega)
    rw [(s2 k i hi).1] at hd
    obtain ⟨cs, ty, hh, hs, h1, h2⟩ := h.box i d hd
    obtain ⟨hl, hlo⟩ := lowL_spec hlow
    rw [part_blk hi]
    exact ⟨cs, ty, hh, by omega, fun j hj => h1 j (by omega), fun j hj => part_rep h e4 hb (h2 j (by omega)) (hlo j (by omega))⟩
  · have hkl : k < rs.length := by rw [← l4]; exact (List.getElem?_eq_some_iff.1 hk).1
    have hi := List.getElem?_eq_getElem hkl
    rw [(s4 k _ hi).1] at hk
    obtain ⟨hz, he, xs, ho, h1, h2⟩ := h.row _ A hk
    rw [part_row hi]
    exact ⟨hz, he, xs, ho, h1, fun k j hk hj => (h2 k j hk hj).mono fun a u h1 h2 => ⟨h2, part_okc e4 hb h1⟩⟩
  · obtain ⟨i, hi, hm⟩ := bsl k hk
    rw [part_blk hi]
    exact .inl (mem_partF.2 (.inl ⟨i, hm, rfl⟩))
  · obtain ⟨i, hi, hg'⟩ := part_row_own hg
    exact .inl (mem_partF.2 (.inr ⟨i, List.mem_of_getElem? hi, hg'⟩))
  · obtain ⟨i, hi, hm⟩ := bsl k hk
    obtain ⟨i', hi', hm'⟩ := bsl j hj
    rw [part_blk hi, part_blk hi'] at e
    have := h.dbb i i' (hb i hm) (hb i' hm') e
    subst this
    exact nd_spec nb hi hi'
  · obtain ⟨i, hi, hg⟩ := part_row_own e1
    obtain ⟨i', hi', hg'⟩ := part_row_own e2
    have := h.drr i i' g (hr i (List.mem_of_getElem? hi)) (hr i' (List.mem_of_getElem? hi')) hg hg'
    subst this
    exact nd_spec nr hi hi'
  · obtain ⟨i, hi, hm⟩ := bsl k hk
    obtain ⟨i', hi', hg'⟩ := part_row_own e
    rw [part_blk hi] at hg'
    exact h.dbr i i' (hb i hm) hg'
  · obtain ⟨i, hi, hg⟩ := part_row_own e
    exact ha.2.1 (mem_partF.2 (.inr ⟨i, List.mem_of_getElem? hi, hg⟩))

/-- What the part has become, put back. -/
def Mem.back (M M1 : Mem) (bs rs : List Nat) : Mem := ⟨mergeL bs M.bb M1.bb, mergeL rs M.av M1.av, M.no⟩

theorem part_back (h : Inv w0 F M b r w) (nb : nd bs = true) (nr : nd rs = true) (e2 : pickL b bs = some c) (e3 : lowB bs rs c = some b0) (e4 : pickL r rs = some r0)
    {M1 : Mem} {b1 : List (List AV)} {r1 : List Arr} {w' : World} (hI : Inv w (partF M bs rs) M1 b1 r1 w') (hC : Chg w (M.part (partNo w M r bs rs) bs rs) r0 w' M1 r1) :
    Inv w0 F (M.back M1 bs rs) (mergeL bs b (upB bs b.length rs r.length b1)) (mergeL rs r r1) w' ∧
    Chg w M r w' (M.back M1 bs rs) (mergeL rs r r1) ∧
    ∀ v x, RepA w' M1 r1 v x → RepA w' (M.back M1 bs rs) (mergeL rs r r1) v (up bs b.length rs r.length x) := by
  obtain ⟨l2, s2⟩ := pickL_spec e2
  obtain ⟨l3, s3⟩ := lowB_spec e3
  obtain ⟨l4, s4⟩ := pickL_spec e4
  have h0 := part_inv h nb nr e2 e3 e4
  have hbm : ∀ i ∈ bs, i < M.bb.length := by
    intro i hi
    obtain ⟨k, hk, e⟩ := List.mem_iff_getElem.1 hi
    rw [h.lb]
    exact (s2 k i (by rw [List.getElem?_eq_getElem hk, e])).2
  have hrm : ∀ i ∈ rs, i < M.av.length := by
    intro i hi
    obtain ⟨k, hk, e⟩ := List.mem_iff_getElem.1 hi
    rw [h.lr]
    exact (s4 k i (by rw [List.getElem?_eq_getElem hk, e])).2
  have hlb1 : bs.length ≤ M1.bb.length := by
    have := hC.lb
    simpa [Mem.part] using this
  have hlr1 : rs.length ≤ M1.av.length := by
    rw [hI.lr]
    rcases Nat.eq_zero_or_pos rs.length with e | e
    · omega
    · obtain ⟨A', hA', _⟩ := hC.row (r0.length - 1) _ (List.getElem?_eq_getElem (by omega))
      have := (List.getElem?_eq_some_iff.1 hA').1
      omega
  -- blocks
  have blkO : ∀ j, j ∉ bs → j < M.bb.length → (M.back M1 bs rs).blk j = M.blk j := by
    intro j h1 h2
    simp only [Mem.back, Mem.blk, List.getD, mergeL_other bs M.bb M1.bb j h1 h2]
  have blkN : ∀ k, k < M1.bb.length → (M.back M1 bs rs).blk (upI bs b.length k) = M1.blk k := by
    intro k hk
    simp only [Mem.back, Mem.blk, List.getD]
    rw [← h.lb, mergeL_get bs M.bb M1.bb k nb hbm hlb1 hk]
  have lenB : (M.back M1 bs rs).bb.length = M.bb.length + (M1.bb.length - bs.length) := mergeL_len bs M.bb M1.bb hlb1
  have upB_lt : ∀ k, k < M1.bb.length → upI bs b.length k < (M.back M1 bs rs).bb.length := by
    intro k hk
    have := mergeL_get bs M.bb M1.bb k nb hbm hlb1 hk
    rw [List.getElem?_eq_getElem hk] at this
    rw [← h.lb]
    exact (List.getElem?_eq_some_iff.1 this).1
  have clB : ∀ j, j < (M.back M1 bs rs).bb.length → (j ∉ bs ∧ j < M.bb.length ∧ (M.back M1 bs rs).blk j = M.blk j) ∨ ∃ k, k < M1.bb.length ∧ j = upI bs b.length k ∧ (M.back M1 bs rs).blk j = M1.blk k := by
    intro j hj
    rcases mergeL_class bs M.bb M1.bb j hlb1 hj with ⟨h1, h2⟩ | ⟨k, h1, h2⟩
    · exact .inl ⟨h1, h2, blkO j h1 h2⟩
    · rw [h.lb] at h2
      exact .inr ⟨k, h1, h2, by rw [h2]; exact blkN k h1⟩
  -- rows
  have rowO : ∀ j, j ∉ rs → j < M.av.length → (M.back M1 bs rs).row j = M.row j := by
    intro j h1 h2
    simp only [Mem.back, Mem.row, List.getD, mergeL_other rs M.av M1.av j h1 h2]
  have rowN : ∀ k, k < M1.av.length → (M.back M1 bs rs).row (upI rs r.length k) = M1.row k := by
    intro k hk
    simp only [Mem.back, Mem.row, List.getD]
    rw [← h.lr, mergeL_get rs M.av M1.av k nr hrm hlr1 hk]
  have lenR : (M.back M1 bs rs).av.length = M.av.length + (M1.av.length - rs.length) := mergeL_len rs M.av M1.av hlr1
  have clR : ∀ j, j < (M.back M1 bs rs).av.length → (j ∉ rs ∧ j < M.av.length ∧ (M.back M1 bs rs).row j = M.row j) ∨ ∃ k, k < M1.av.length ∧ j = upI rs r.length k ∧ (M.back M1 bs rs).row j = M1.row k := by
    intro j hj
    rcases mergeL_class rs M.av M1.av j hlr1 hj with ⟨h1, h2⟩ | ⟨k, h1, h2⟩
    · exact .inl ⟨h1, h2, rowO j h1 h2⟩
    · rw [h.lr] at h2
      exact .inr ⟨k, h1, h2, by rw [h2]; exact rowN k h1⟩
  have rO : ∀ j, j ∉ rs → j < r.length → (mergeL rs r r1)[j]? = r[j]? := mergeL_other rs r r1
  have rN : ∀ k, k < r1.length → (mergeL rs r r1)[upI rs r.length k]? = r1[k]? := fun k hk => mergeL_get rs r r1 k nr (fun i hi => by rw [← h.lr]; exact hrm i hi) (by rw [← hI.lr]; exact hlr1) hk
  -- blocks of the part are its own, or new; all others' are neither
  have FF : ∀ g, g ∈ partF M bs rs → g ∈ F ∨ w0.heap.size ≤ g := by
    intro g hg
    rcases mem_partF.1 hg with ⟨i, hi, rfl⟩ | ⟨j, hj, hg⟩
    · exact h.fb i (hbm i hi)
    · exact h.fr j g hg
  have FS : ∀ g, g ∈ partF M bs rs ∨ w.heap.size ≤ g → g ∈ F ∨ w0.heap.size ≤ g := by
    intro g hg
    rcases hg with hg | hg
    · exact FF g hg
    · have := h.keep.size
      exact .inr (by omega)
  have nB : ∀ j, j ∉ bs → j < M.bb.length → ¬ (M.blk j ∈ partF M bs rs ∨ w.heap.size ≤ M.blk j) := by
    intro j h1 h2 h3
    rcases h3 with h3 | h3
    · rcases mem_partF.1 h3 with ⟨i, hi, e⟩ | ⟨i, hi, e⟩
      · have := h.dbb i j (hbm i hi) h2 e
        subst this
        exact h1 hi
      · exact h.dbr j i h2 e
    · have := h.box_lt h2
      omega
  have nR : ∀ j g, j ∉ rs → (M.row j).ownBlock = some g → ¬ (g ∈ partF M bs rs ∨ w.heap.size ≤ g) := by
    intro j g h1 h2 h3
    rcases h3 with h3 | h3
    · rcases mem_partF.1 h3 with ⟨i, hi, e⟩ | ⟨i, hi, e⟩
      · subst e
        exact h.dbr i j (hbm i hi) h2
      · have := h.drr i j g (hrm i hi) (row_len h2) e h2
        subst this
        exact h1 hi
    · have := h.row_lt h2
      omega
  have sB : ∀ k, k < M1.bb.length → M1.blk k ∈ partF M bs rs ∨ w.heap.size ≤ M1.blk k := hI.fb
  have sR : ∀ k g, (M1.row k).ownBlock = some g → g ∈ partF M bs rs ∨ w.heap.size ≤ g := hI.fr
  have oldB : ∀ i ∈ bs, ∃ k, k < M1.bb.length ∧ M1.blk k = M.blk i := by
    intro i hi
    obtain ⟨k, hk, e⟩ := List.mem_iff_getElem.1 hi
    have hk' : bs[k]? = some i := by rw [List.getElem?_eq_getElem hk, e]
    refine ⟨k, by omega, ?_⟩
    rw [hC.blk k (by simp [Mem.part]; omega), part_blk hk']
  have hno : M1.no = partNo w M r bs rs := hC.no
  -- cells that nobody overwrites
  have okN : ∀ a, Okc M1 r1 a → Okc (M.back M1 bs rs) (mergeL rs r r1) a := by
    intro a ha
    have hna : ¬ partNo w M r bs rs a := by rw [← hno]; exact ha.1.2
    have hcase : (a.block ∈ partF M bs rs ∨ w.heap.size ≤ a.block) ∨ Okc M r a := by
      by_cases h1 : a.block < w.heap.size
      · by_cases h2 : a.block ∈ partF M bs rs
        · exact .inl (.inl h2)
        · exact .inr (Classical.byContradiction fun h3 => hna ⟨h1, h2, h3⟩)
      · exact .inl (.inr (by omega))
    refine ⟨⟨fun j hj => ?_, fun hn => ?_⟩, fun j A hj hg => ?_⟩
    · rcases clB j hj with ⟨h1, h2, e⟩ | ⟨k, hk, _, e⟩
      · rw [e]
        rcases hcase with hc | hc
        · intro e2
          rw [← e2] at hc
          exact nB j h1 h2 hc
        · exact hc.1.1 j h2
      · rw [e]
        exact ha.1.1 k hk
    · rcases hcase with hc | hc
      · have h1 := h.no a hn
        rcases hc with hc | hc
        · rcases mem_partF.1 hc with ⟨i, hi, e⟩ | ⟨i, hi, e⟩
          · obtain ⟨k, hk, e2⟩ := oldB i hi
            exact ha.1.1 k hk (by rw [e2, e])
          · exact h1.2 i e
        · have := h.keep.size
          omega
      · exact hc.1.2 hn
    · rcases clR j (row_len hg) with ⟨h1, h2, e⟩ | ⟨k, hk, ek, e⟩
      · rw [e] at hg
        rw [rO j h1 (by rw [← h.lr]; exact h2)] at hj
        rcases hcase with hc | hc
        · exact absurd hc (nR j _ h1 hg)
        · exact hc.2 j A hj hg
      · rw [e] at hg
        rw [ek, rN k (by rw [← hI.lr]; exact hk)] at hj
        exact ha.2 k A hj hg
  have chg : Chg w M r w' (M.back M1 bs rs) (mergeL rs r r1) := by
    refine ⟨fun a u ho hc => ?_, by rw [lenB]; omega, fun j hj => ?_, fun j A hA => ?_, rfl⟩
    · obtain ⟨h1, h2⟩ := hC.cell a u (part_okc e4 hbm ho) hc
      exact ⟨h1, okN a h2⟩
    · by_cases hm : j ∈ bs
      · obtain ⟨k, hk, e⟩ := List.mem_iff_getElem.1 hm
        have hk' : bs[k]? = some j := by rw [List.getElem?_eq_getElem hk, e]
        have := blkN k (by omega)
        rw [upI_lt b.length hk'] at this
        rw [this, hC.blk k (by simp [Mem.part]; omega), part_blk hk']
      · exact blkO j hm hj
    · by_cases hm : j ∈ rs
      · obtain ⟨k, hk, e⟩ := List.mem_iff_getElem.1 hm
        have hk' : rs[k]? = some j := by rw [List.getElem?_eq_getElem hk, e]
        have hA0 : r0[k]? = some A := by rw [(s4 k j hk').1]; exact hA
        obtain ⟨A', hA', h1, h2, h3⟩ := hC.row k A hA0
        have hk1 : k < M1.av.length := by omega
        have hN := rN k (by rw [← hI.lr]; exact hk1)
        have hW := rowN k hk1
        rw [upI_lt r.length hk'] at hN hW
        exact ⟨A', by rw [hN]; exact hA', h1, h2, fun e => by rw [hW, h3 e, part_row hk']⟩
      · have hj : j < r.length := (List.getElem?_eq_some_iff.1 hA).1
        exact ⟨A, by rw [rO j hm hj]; exact hA, Nat.le_refl _, rfl, fun _ => rowO j hm (by rw [h.lr]; exact hj)⟩
  have rep : ∀ v x, RepA w' M1 r1 v x → RepA w' (M.back M1 bs rs) (mergeL rs r r1) v (up bs b.length rs r.length x) := by
    intro v x hx
    refine up_rep (fun k hk => ⟨upB_lt k hk, blkN k hk⟩) (fun k A hk => ?_) okN hx
    have hk1 := (List.getElem?_eq_some_iff.1 hk).1
    exact ⟨by rw [rN k hk1]; exact hk, rowN k (by rw [hI.lr]; exact hk1)⟩
  have lb1 : (upB bs b.length rs r.length b1).length = M1.bb.length := by rw [upB_spec.1, hI.lb]
  refine ⟨⟨⟨hI.keep.os.trans h.keep.os, hI.keep.tape.trans h.keep.tape, hI.keep.output.trans h.keep.output, Nat.le_trans h.keep.size hI.keep.size, fun k hk hF => ?_⟩, ?_, ?_, fun j cells hj => ?_, fun j A hj => ?_, fun j hj => ?_, fun j g hg => ?_, fun i j hi hj e => ?_,
    fun i j g hi hj h1 h2 => ?_, fun i j hi e => ?_, fun a ha => ⟨(h.no a ha).1, fun i e => ?_⟩⟩, chg, rep⟩
  · have := h.keep.size
    rw [hI.keep.block k (by omega) (fun hm => ?_)]
    · exact h.keep.block k hk hF
    · rcases FF k hm with h1 | h1
      · exact hF h1
      · omega
  · rw [lenB, mergeL_len bs b _ (by rw [lb1]; exact hlb1), lb1, h.lb]
  · rw [lenR, mergeL_len rs r r1 (by rw [← hI.lr]; exact hlr1), h.lr, hI.lr]
  · rcases mergeL_class bs b (upB bs b.length rs r.length b1) j (by rw [lb1]; exact hlb1) (List.getElem?_eq_some_iff.1 hj).1 with ⟨h1, h2⟩ | ⟨k, h1, h2⟩
    · rw [mergeL_other bs b _ j h1 h2] at hj
      obtain ⟨cs, ty, hh, hs, hone, hrep⟩ := h.box j cells hj
      have h2' : j < M.bb.length := by rw [h.lb]; exact h2
      refine ⟨cs, ty, ?_, hs, hone, fun q hq => (hrep q hq).mono chg⟩
      rw [blkO j h1 h2', hI.keep.block _ (h.box_lt h2') (fun hm => nB j h1 h2' (.inl hm))]
      exact hh
    · rw [h2, mergeL_get bs b _ k nb (fun i hi => by rw [← h.lb]; exact hbm i hi) (by rw [lb1]; exact hlb1) h1] at hj
      obtain ⟨d, hd, rfl⟩ := upB_spec.2 k cells hj
      obtain ⟨cs, ty, hh, hs, hone, hrep⟩ := hI.box k d hd
      rw [lb1] at h1
      refine ⟨cs, ty, by rw [h2, blkN k h1]; exact hh, by rw [upL_spec.1]; exact hs, fun q hq => hone q (by rwa [upL_spec.1] at hq), fun q hq => ?_⟩
      rw [upL_spec.1] at hq
      rw [upL_spec.2 q hq]
      exact rep _ _ (hrep q hq)
  · rcases mergeL_class rs r r1 j (by rw [← hI.lr]; exact hlr1) (List.getElem?_eq_some_iff.1 hj).1 with ⟨h1, h2⟩ | ⟨k, h1, h2⟩
    · rw [rO j h1 h2] at hj
      obtain ⟨hz, he, xs, ho, hone, hrep⟩ := h.row j A hj
      have h2' : j < M.av.length := by rw [h.lr]; exact h2
      rw [rowO j h1 h2']
      refine ⟨hz, he, xs, ⟨ho.1, ?_⟩, hone, fun k q hk hq => (hrep k q hk hq).mono chg.cell⟩
      rcases ho.2 with hn | ⟨g, cap, cur, hv, hb, hg, rest⟩
      · exact .inl hn
      · have hob : (M.row j).ownBlock = some g := by rw [hv]; rfl
        exact .inr ⟨g, cap, cur, hv, hb, by rw [hI.keep.block g (h.row_lt hob) (fun hm => nR j g h1 hob (.inl hm))]; exact hg, rest⟩
    · rw [h2, rN k h1] at hj
      obtain ⟨hz, he, xs, ho, hone, hrep⟩ := hI.row k A hj
      rw [h2, rowN k (by rw [hI.lr]; exact h1)]
      exact ⟨hz, he, xs, ho, hone, fun k q hk hq => (hrep k q hk hq).mono fun a u h1 h2 => ⟨h2, okN a h1⟩⟩
  · rcases clB j hj with ⟨h1, h2, e⟩ | ⟨k, hk, _, e⟩ <;> rw [e]
    · exact h.fb j h2
    · exact FS _ (sB k hk)
  · rcases clR j (row_len hg) with ⟨h1, h2, e⟩ | ⟨k, hk, _, e⟩ <;> rw [e] at hg
    · exact h.fr j g hg
    · exact FS _ (sR k g hg)
  · rcases clB i hi with ⟨h1, h2, e1⟩ | ⟨k, hk, ek, e1⟩ <;> rcases clB j hj with ⟨h3, h4, e3⟩ | ⟨q, hq, eq, e3⟩ <;> rw [e1, e3] at e
    · exact h.dbb i j h2 h4 e
    · have := sB q hq
      rw [← e] at this
      exact absurd this (nB i h1 h2)
    · have := sB k hk
      rw [e] at this
      exact absurd this (nB j h3 h4)
    · have := hI.dbb k q hk hq e
      subst this
      rw [ek, eq]
  · rcases clR i hi with ⟨h3, h4, e3⟩ | ⟨k, hk, ek, e3⟩ <;> rcases clR j hj with ⟨h5, h6, e5⟩ | ⟨q, hq, eq, e5⟩ <;> rw [e3] at h1 <;> rw [e5] at h2
    · exact h.drr i j g h4 h6 h1 h2
    · exact absurd (sR q g h2) (nR i g h3 h1)
    · exact absurd (sR k g h1) (nR j g h5 h2)
    · have := hI.drr k q g hk hq h1 h2
      subst this
      rw [ek, eq]
  · have hl := row_len e
    rcases clB i hi with ⟨h1, h2, e1⟩ | ⟨k, hk, ek, e1⟩ <;> rcases clR j hl with ⟨h5, h6, e5⟩ | ⟨q, hq, eq, e5⟩ <;> rw [e1, e5] at e
    · exact h.dbr i j h2 e
    · exact nB i h1 h2 (sR q _ e)
    · exact nR j _ h5 e (sB k hk)
    · exact hI.dbr k q hk e
  · have hl := row_len e
    rcases clR i hl with ⟨h5, h6, e5⟩ | ⟨q, hq, eq, e5⟩ <;> rw [e5] at e
    · exact (h.no a ha).2 i e
    · rcases sR q _ e with hm | hm
      · rcases mem_partF.1 hm with ⟨i', hi', e'⟩ | ⟨i', hi', e'⟩
        · obtain ⟨k, hk, e2⟩ := oldB i' hi'
          exact hI.dbr k q hk (by rw [e, e2, e'])
        · exact (h.no a ha).2 i' e'
      · have h1 := (h.no a ha).1
        have h2 := h.keep.size
        omega
end

/-- What is known after a call of the part. -/
def putK (bs rs : List Nat) (b : List (List AV)) (r : List Arr) (K : Out → List (List AV) → List Arr → Prop) (o : Out) (b1 : List (List AV)) (r1 : List Arr) : Prop :=
  match o with
  | .ret x => K (.ret (up bs b.length rs r.length x)) (mergeL bs b (upB bs b.length rs r.length b1)) (mergeL rs r r1)
  | .panic x => K (.panic (up bs b.length rs r.length x)) (mergeL bs b (upB bs b.length rs r.length b1)) (mergeL rs r r1)
/-- A call, by what it asks of the part that it sees. -/
def partH (h : Handler) (bs rs : List Nat) (args : List AV) (b : List (List AV)) (r : List Arr) (K : Out → List (List AV) → List Arr → Prop) : Prop :=
  match lowL bs rs args with
  | some args0 => match pickL b bs with
    | some c => match lowB bs rs c with
      | some b0 => match pickL r rs with
        | some r0 => (nd bs = true ∧ nd rs = true) ∧ h args0 b0 r0 (putK bs rs b r K)
        | none => False
      | none => False
    | none => False
  | none => False
def frameH (h : Handler) : Handler := fun args b r K => partH h (seeB b args) (seeR b (seeB b args) args) args b r K

theorem HOk.frame {P : Program} {f : FuncId} {h : Handler} (hh : HOk P f h) : HOk P f (frameH h) := by
  intro w0 F M b r w vs args K hI hv hk
  unfold frameH partH at hk
  generalize seeR b (seeB b args) args = rs at hk
  generalize seeB b args = bs at hk
  split at hk
  case h_2 => exact hk.elim
  rename_i args0 e1
  split at hk
  case h_2 => exact hk.elim
  rename_i c e2
  split at hk
  case h_2 => exact hk.elim
  rename_i b0 e3
  split at hk
  case h_2 => exact hk.elim
  rename_i r0 e4
  obtain ⟨⟨nb, nr⟩, hk⟩ := hk
  have h0 := part_inv hI nb nr e2 e3 e4
  obtain ⟨_, s2⟩ := pickL_spec e2
  have hb : ∀ i ∈ bs, i < M.bb.length := by
    intro i hi
    obtain ⟨k, hk, e⟩ := List.mem_iff_getElem.1 hi
    rw [hI.lb]
    exact (s2 k i (by rw [List.getElem?_eq_getElem hk, e])).2
  have hv0 : RepL w (M.part (partNo w M r bs rs) bs rs) r0 vs args0 := by
    obtain ⟨l1, s1⟩ := lowL_spec e1
    exact ⟨by rw [hv.1, l1], fun i hi => part_rep hI e4 hb (hv.2 i (by omega)) (s1 i (by omega))⟩
  obtain ⟨hent, hc⟩ := hh h0 hv0 hk
  refine ⟨hent, Calls.mono hc (fun e w' he => ?_)⟩
  cases e with
  | returned v =>
    obtain ⟨x, b1, r1, M1, hK, hI1, hC1, hx⟩ := he
    obtain ⟨h1, h2, h3⟩ := part_back hI nb nr e2 e3 e4 hI1 hC1
    exact ⟨_, _, _, _, hK, h1, h2, h3 v x hx⟩
  | panicked ch =>
    obtain ⟨x, b1, r1, M1, u, hK, rfl, hI1, hC1, hx⟩ := he
    obtain ⟨h1, h2, h3⟩ := part_back hI nb nr e2 e3 e4 hI1 hC1
    exact ⟨_, _, _, _, u, hK, rfl, h1, h2, h3 u x hx⟩
  | outgrown => exact he.elim
end Go.PE
