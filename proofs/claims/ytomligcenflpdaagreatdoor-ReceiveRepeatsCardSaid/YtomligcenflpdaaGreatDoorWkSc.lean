/- WkSc: what the laws need of it. -/
import Derived.Test.YtomligcenflpdaaGreatDoorWkSb
set_option linter.unusedVariables false
set_option linter.defProp false
set_option linter.all false
set_option linter.unusedSimpArgs false
set_option maxRecDepth 100000
set_option maxHeartbeats 4000000
namespace Go.PE
open Go Go.Proofs

/-- The check after i records. -/
def chk (c : Nat) (l : List Rec) (i : Nat) : Nat := (l.take i).foldl nextN c
def withC (r : Rec) (c : Nat) : Rec := { r with check := (c : Nat) }
def chainF (c : Nat) : List Rec → List Rec
  | [] => []
  | r :: l => withC r (nextN c r) :: chainF (nextN c r) l
theorem chain_len : ∀ (l : List Rec) (c : Nat), (chainF c l).length = l.length
  | [], _ => rfl
  | r :: l, c => by simp [chainF, chain_len l]
theorem chain_get : ∀ (l : List Rec) (c i : Nat), (chainF c l)[i]? = (l[i]?).map fun x => withC x (nextN (chk c l i) x)
  | [], _, i => by simp [chainF]
  | r :: l, c, 0 => by simp [chainF, chk]
  | r :: l, c, i + 1 => by
    simp only [chainF, List.getElem?_cons_succ, chain_get l, chk, List.take_succ_cons, List.foldl_cons]
theorem chk_succ {c : Nat} {l : List Rec} {i : Nat} {x : Rec} (h : l[i]? = some x) : chk c l (i + 1) = nextN (chk c l i) x := by
  unfold chk
  have : l.take (i + 1) = l.take i ++ [x] := by rw [List.take_add_one, h]; rfl
  rw [this, foldl_snoc]
theorem chk_lt {c : Nat} {l : List Rec} {i : Nat} (h : c < 18446744073709551616) : chk c l i < 18446744073709551616 := by
  unfold chk
  generalize l.take i = m
  induction m generalizing c with
  | nil => exact h
  | cons x m ih => exact ih (nextN_lt _ _)
def headR (src dst : Int) (n : Nat) : Rec := { zeroRec with kind := 1, count := n, src := src, dst := dst }
def bodyR (i : Nat) (m : Msg) : Rec := { zeroRec with kind := 2, seq := (i + 1 : Nat), msg := m }
def endR (n : Nat) : Rec := { zeroRec with kind := 3, seq := (n + 1 : Nat), count := n }
def bodyI : Nat → List Msg → List Rec
  | _, [] => []
  | i, m :: l => bodyR i m :: bodyI (i + 1) l
theorem bodyI_len : ∀ (l : List Msg) (i : Nat), (bodyI i l).length = l.length
  | [], _ => rfl
  | m :: l, i => by simp [bodyI, bodyI_len l]
theorem bodyI_append : ∀ (a b : List Msg) (i : Nat), bodyI i (a ++ b) = bodyI i a ++ bodyI (i + a.length) b
  | [], b, i => by simp [bodyI]
  | m :: a, b, i => by
    simp only [List.cons_append, bodyI, bodyI_append a b, List.length_cons]
    congr 3
    omega
theorem bodyI_snoc {l : List Msg} {i : Nat} {x : Msg} (h : l[i]? = some x) : bodyI 0 (l.take (i + 1)) = bodyI 0 (l.take i) ++ [bodyR i x] := by
  have hi : i < l.length := (List.getElem?_eq_some_iff.1 h).1
  rw [take_snoc h, bodyI_append]
  simp only [bodyI, List.length_take, Nat.min_eq_left (Nat.le_of_lt hi), Nat.zero_add]
theorem bodyI_get : ∀ (l : List Msg) (i j : Nat), (bodyI i l)[j]? = (l[j]?).map (bodyR (i + j))
  | [], _, j => by simp [bodyI]
  | m :: l, i, 0 => by simp [bodyI]
  | m :: l, i, j + 1 => by
    simp only [bodyI, List.getElem?_cons_succ, bodyI_get l]
    rw [show i + 1 + j = i + (j + 1) by omega]
/-- A stream without its checks. -/
def bareF (src dst : Int) (l : List Msg) : List Rec := headR src dst l.length :: (bodyI 0 l ++ [endR l.length])
theorem bare_len (src dst : Int) (l : List Msg) : (bareF src dst l).length = l.length + 2 := by simp [bareF, bodyI_len]
theorem u64z : u64P 0 := ⟨by decide, by decide⟩
theorem head_ok {src dst : Int} {n : Nat} (h1 : u64P src) (h2 : u64P dst) (h : n ≤ 1000000) : okR1 (headR src dst n) := by
  refine ⟨?_, h1, h2, u64z⟩
  simp [validR, headR, zeroRec, leastB]
  exact decide_eq_true (by omega)
theorem body_ok {i : Nat} {m : Msg} (h : validB m = true) (hi : i ≤ 1000000) : okR1 (bodyR i m) := by
  refine ⟨?_, u64z, u64z, u64z⟩
  simp [validR, bodyR, zeroRec, leastB, h]
  exact ⟨decide_eq_true (by omega), decide_eq_true (by omega)⟩
theorem end_ok {n : Nat} (hi : n ≤ 1000000) : okR1 (endR n) := by
  refine ⟨?_, u64z, u64z, u64z⟩
  simp [validR, endR, zeroRec, leastB]
  exact ⟨⟨decide_eq_true (by omega), decide_eq_true (by omega)⟩, decide_eq_true (by omega)⟩
theorem bare_ok {src dst : Int} {l : List Msg} (h1 : u64P src) (h2 : u64P dst) (hl : l.length ≤ 1000000) (hv : ∀ m ∈ l, validB m = true) : ∀ x ∈ bareF src dst l, okR1 x := by
  intro x hx
  rcases List.mem_cons.1 hx with rfl | hx
  · exact head_ok h1 h2 hl
  rcases List.mem_append.1 hx with hx | hx
  · obtain ⟨j, hj, e⟩ := List.mem_iff_getElem.1 hx
    have hg : (bodyI 0 l)[j]? = some x := by rw [List.getElem?_eq_getElem hj, e]
    rw [bodyI_get] at hg
    cases hm : l[j]? with
    | none => rw [hm] at hg; cases hg
    | some m =>
      rw [hm] at hg
      injection hg with hg
      subst hg
      have := (List.getElem?_eq_some_iff.1 hm).1
      exact body_ok (hv m (List.mem_of_getElem? hm)) (by omega)
  · simp only [List.mem_singleton] at hx
    subst hx
    exact end_ok hl
def makeF (src dst : Int) (l : List Msg) : List Rec := chainF 0 (bareF src dst l)
def hMake : Det := det3 (cI .u64) (cI .u64) cMsgs (fun src dst l => u64P src ∧ u64P dst ∧ l.length ≤ 1000 ∧ ∀ m ∈ l, validB m = true) fun src dst l => .d (.list ((makeF src dst l).map Rec.enc))
end Go.PE
