/- Plain laws on logs: what is read of cells. -/
import Derived.Test.YtkgkpmdbcjelfaaWkGr
set_option linter.unusedVariables false
set_option linter.defProp false
set_option linter.all false
set_option linter.unusedSimpArgs false
set_option maxRecDepth 10000
set_option maxHeartbeats 4000000
namespace Go.PE
open Go Go.Proofs

theorem replay_good {gen : Int} : ∀ (gs : List (List Msg)) (i : Nat) (rest : List (List UInt8)), (∀ j g, gs[j]? = some g → (frameF gen ((i + j : Nat) : Int) g).2 = 0) →
    replayI gen i (cellsI gen i gs ++ rest) = gs ++ replayI gen (i + gs.length) rest
  | [], i, rest, _ => by simp [cellsI]
  | g :: gs, i, rest, h => by
    have h0 := walP_ok (h 0 g rfl)
    rw [Nat.add_zero] at h0
    have ih := replay_good gs (i + 1) rest (fun j x hx => by
      have := h (j + 1) x (by simpa using hx)
      rw [show i + (j + 1) = i + 1 + j by omega] at this
      exact this)
    simp only [cellsI, List.cons_append, replayI]
    rw [if_pos (by rw [h0]; simp [goodP]), h0, ih, List.length_cons]
    simp only
    rw [show i + 1 + gs.length = i + (gs.length + 1) by omega]
theorem replay_bad {gen gen' : Int} {i : Nat} {s : Int} {g : List Msg} {rest : List (List UInt8)} (h : (frameF gen' s g).2 = 0) (hne : gen' ≠ gen ∨ s ≠ i) : replayI gen i ((frameF gen' s g).1 :: rest) = [] := by
  have h0 := walP_ok h
  simp only [replayI]
  rw [if_neg]
  rw [h0]
  simp only [goodP]
  rcases hne with h1 | h1 <;> simp [h1]
theorem cells_drop {gen : Int} : ∀ (gs : List (List Msg)) (i k : Nat), (cellsI gen i gs).drop k = cellsI gen (i + k) (gs.drop k)
  | [], i, k => by simp [cellsI]
  | g :: gs, i, 0 => by simp
  | g :: gs, i, k + 1 => by
    simp only [cellsI, List.drop_succ_cons]
    rw [cells_drop gs (i + 1) k, show i + 1 + k = i + (k + 1) by omega]
theorem replay_other {gen gen' : Int} {gs : List (List Msg)} {i : Nat} (h : ∀ j g, gs[j]? = some g → (frameF gen' ((i + j : Nat) : Int) g).2 = 0) (hne : gen' ≠ gen) : replayI gen i (cellsI gen' i gs) = [] := by
  cases gs with
  | nil => simp [cellsI, replayI]
  | cons g gs =>
    simp only [cellsI]
    exact replay_bad (h 0 g rfl) (.inl hne)
theorem groups_len (l : List (List Raw6)) (n : Int) : (groupsF l n).length ≤ 6 := groupsI_len l n 6
theorem groups_made {l : List (List Raw6)} {n gen : Int} (ho : okR l) (hn : n ≤ 64) (hg : 0 ≤ gen ∧ gen ≤ 2147483647) {g : List Msg} (h : g ∈ groupsF l n) {s : Int} (hs : 0 ≤ s ∧ s ≤ 2147483647) : (frameF gen s g).2 = 0 := by
  unfold groupsF at h
  rw [List.mem_filter] at h
  obtain ⟨h1, h2⟩ := h
  obtain ⟨x, hx, rfl⟩ := List.mem_map.1 h1
  refine frame_made (ho x (List.mem_of_mem_take hx)) hn (fun e => ?_) hg hs
  rw [e] at h2
  exact absurd h2 (by decide)
theorem groups_ok {l : List (List Raw6)} {n gen : Int} (ho : okR l) (hn : n ≤ 64) (hg : 0 ≤ gen ∧ gen ≤ 2147483647) {i : Nat} (hi : i ≤ 1000) : ∀ j g, ((groupsF l n).drop i)[j]? = some g → (frameF gen ((i + j : Nat) : Int) g).2 = 0 := by
  intro j g h
  have hl := groups_len l n
  rw [List.getElem?_drop] at h
  have := (List.getElem?_eq_some_iff.1 h).1
  exact groups_made ho hn hg (List.mem_of_getElem? h) (by omega)
theorem groups_ok0 {l : List (List Raw6)} {n gen : Int} (ho : okR l) (hn : n ≤ 64) (hg : 0 ≤ gen ∧ gen ≤ 2147483647) : ∀ j g, (groupsF l n)[j]? = some g → (frameF gen ((0 + j : Nat) : Int) g).2 = 0 := by
  intro j g h
  exact groups_ok ho hn hg (i := 0) (by omega) j g (by simpa using h)
/-- A log is read whole. -/
theorem replay_whole {l : List (List Raw6)} {n gen : Int} (ho : okR l) (hn : n ≤ 64) (hg : 0 ≤ gen ∧ gen ≤ 2147483647) : replayF gen (cellsF gen (groupsF l n)) = groupsF l n := by
  have := replay_good (groupsF l n) 0 [] (groups_ok0 ho hn hg)
  rw [List.append_nil] at this
  unfold replayF cellsF
  rw [this]
  simp [replayI]
/-! ### two generations in the same cells -/
def mixI (a b : List (List UInt8)) (i : Nat) : List (List UInt8) := b.take i ++ a.drop i
theorem mix_len {a b : List (List UInt8)} {i : Nat} (h : i ≤ b.length) : (mixI a b i).length = max i a.length := by
  simp [mixI]
  omega
theorem mix_set {a b : List (List UInt8)} {i : Nat} {x : List UInt8} (h : b[i]? = some x) (ha : i < a.length) : (mixI a b i).set i x = mixI a b (i + 1) := by
  have hb : i < b.length := (List.getElem?_eq_some_iff.1 h).1
  have ht : (b.take i).length = i := by simp; omega
  unfold mixI
  rw [List.set_append_right _ _ (by omega), ht, Nat.sub_self, List.drop_eq_getElem_cons ha, List.set_cons_zero, take_snoc h, List.append_assoc]
  rfl
theorem mix_add {a b : List (List UInt8)} {i : Nat} {x : List UInt8} (h : b[i]? = some x) (ha : a.length ≤ i) : mixI a b i ++ [x] = mixI a b (i + 1) := by
  unfold mixI
  rw [List.drop_of_length_le ha, List.drop_of_length_le (by omega), take_snoc h]
  simp
theorem mix_new {x y : List (List Raw6)} {n gen : Int} (hx : okR x) (hy : okR y) (hn : n ≤ 64) (hg : 0 ≤ gen ∧ gen ≤ 65535) :
    replayF (gen + 1) (mixI (cellsF gen (groupsF x n)) (cellsF (gen + 1) (groupsF y n)) (groupsF y n).length) = groupsF y n := by
  have hl := groups_len y n
  have e : mixI (cellsF gen (groupsF x n)) (cellsF (gen + 1) (groupsF y n)) (groupsF y n).length = cellsI (gen + 1) 0 (groupsF y n) ++ cellsI gen (0 + (groupsF y n).length) ((groupsF x n).drop (groupsF y n).length) := by
    unfold mixI cellsF
    rw [List.take_of_length_le (by rw [cellsI_len]; exact Nat.le_refl _), cells_drop]
  have h1 := replay_good (gen := gen + 1) (groupsF y n) 0 (cellsI gen (0 + (groupsF y n).length) ((groupsF x n).drop (groupsF y n).length)) (groups_ok0 hy hn ⟨by omega, by omega⟩)
  have h2 := replay_other (gen := gen + 1) (gen' := gen) (gs := (groupsF x n).drop (groupsF y n).length) (i := 0 + (groupsF y n).length) (by rw [Nat.zero_add]; exact groups_ok hx hn ⟨by omega, by omega⟩ (by omega)) (by omega)
  unfold replayF
  rw [e, h1, h2, List.append_nil]
theorem mix_old {x y : List (List Raw6)} {n gen : Int} (hx : okR x) (hy : okR y) (hn : n ≤ 64) (hg : 0 ≤ gen ∧ gen ≤ 65535) :
    replayF gen (mixI (cellsF gen (groupsF x n)) (cellsF (gen + 1) (groupsF y n)) (groupsF y n).length) = if (groupsF y n).length = 0 then groupsF x n else [] := by
  by_cases h : (groupsF y n).length = 0
  · rw [if_pos h, h]
    have : mixI (cellsF gen (groupsF x n)) (cellsF (gen + 1) (groupsF y n)) 0 = cellsF gen (groupsF x n) := by simp [mixI]
    rw [this]
    exact replay_whole hx hn ⟨by omega, by omega⟩
  · rw [if_neg h]
    have hm : ∀ g ∈ groupsF y n, (frameF (gen + 1) ((0 : Nat) : Int) g).2 = 0 := fun g hg' => groups_made hy hn ⟨by omega, by omega⟩ hg' (by omega)
    unfold replayF mixI cellsF
    rw [List.take_of_length_le (by rw [cellsI_len]; exact Nat.le_refl _)]
    cases hG : groupsF y n with
    | nil => rw [hG] at h; exact absurd rfl h
    | cons g gs =>
      rw [hG] at hm
      simp only [cellsI, List.cons_append]
      exact replay_bad (hm g (List.mem_cons_self ..)) (.inl (by omega))
theorem mix_cut {y : List (List Raw6)} {n gen : Int} (hy : okR y) (hn : n ≤ 64) (hg : 0 ≤ gen ∧ gen ≤ 65536) (h : 2 ≤ (groupsF y n).length) : replayF gen ((cellsF gen (groupsF y n)).drop 1) = [] := by
  have hm : ∀ g ∈ groupsF y n, (frameF gen ((1 : Nat) : Int) g).2 = 0 := fun g hg' => groups_made hy hn ⟨by omega, by omega⟩ hg' (by omega)
  unfold replayF cellsF
  match hG : groupsF y n, h with
  | g :: g2 :: gs, _ =>
    rw [hG] at hm
    simp only [cellsI, List.drop_succ_cons, List.drop_zero]
    exact replay_bad (hm g2 (by simp)) (.inr (by simp))
end Go.PE
