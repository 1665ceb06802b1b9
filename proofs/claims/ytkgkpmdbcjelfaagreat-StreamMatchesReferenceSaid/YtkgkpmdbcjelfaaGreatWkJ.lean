/- Groups and frames (reference 24, package wal). -/
import Derived.Test.YtkgkpmdbcjelfaaGreatWkH
set_option linter.unusedVariables false
set_option linter.defProp false
set_option linter.all false
set_option linter.unusedSimpArgs false
set_option maxRecDepth 10000
set_option maxHeartbeats 2000000
namespace Go.PE
open Go Go.Proofs

theorem Msg.eta (x : Msg) : (⟨x.kind, x.key, x.value, x.lo, x.hi, x.fr, x.to, x.n⟩ : Msg) = x := rfl
theorem dec70 (l : List UInt8) : cBytes.dec (.list ([.int .u8 70] :: l.map byteCell)) = some (70 :: l) := cBytes.de (70 :: l)
def groupB (l : List Msg) : Bool := l.all validB && (decide (1 ≤ (l.length : Int)) && decide ((l.length : Int) ≤ 64))
def hGroup : Det := det1 cMsgs (fun _ => True) fun l => .d (.bool (groupB l))
theorem group_no {l : List Msg} {i : Nat} {m : Msg} (h : l[i]? = some m) (hv : validB m = false) : groupB l = false := by
  have : l.all validB = false := by
    rw [List.all_eq_false]
    exact ⟨m, List.mem_of_getElem? h, by simp [hv]⟩
  simp [groupB, this]
theorem take_all {l : List Msg} {i : Nat} {m : Msg} (h : l[i]? = some m) (hp : (l.take i).all validB = true) (hv : validB m = true) : (l.take (i + 1)).all validB = true := by
  rw [take_snoc h, List.all_append, hp]
  simp [hv]
def headF (gen seq : Nat) (all : List UInt8) : List UInt8 := 70 :: (beN gen 4 4 ++ (beN seq 4 4 ++ (beN all.length 4 4 ++ all)))
theorem headF_len (g s : Nat) (l : List UInt8) : (headF g s l).length = 13 + l.length := by simp [headF, beN_len]; omega
def frameF (gen seq : Int) (l : List Msg) : List UInt8 × Int :=
  if (n31B gen && (n31B seq && groupB l)) = true then
    if (l.flatMap bytesM).length ≤ 65515 then (headF gen.toNat seq.toNat (l.flatMap bytesM) ++ beN (fnv (headF gen.toNat seq.toNat (l.flatMap bytesM))) 8 8, 0) else ([], 2)
  else ([], 1)
def frameA (x : List UInt8 × Int) : AV := .tup [.d (.list (x.1.map byteCell)), .d (.int .i64 x.2)]
def hFrame : Det := det3 (cI .i64) (cI .i64) cMsgs (fun _ _ _ => True) fun g s l => frameA (frameF g s l)
theorem fields_le {m : Msg} (h : validB m = true) : (fieldsB m).length ≤ 131078 := by
  have hc := valid_cases h
  unfold fieldsB
  repeat' split
  all_goals (simp only [List.length_append, textB_len, beN_len]; omega)
theorem bytes_le (m : Msg) : (bytesM m).length ≤ 131079 := by
  unfold bytesM
  split
  · rename_i h
    have := fields_le h
    simp only [List.length_cons]
    omega
  · simp
theorem bytess_le : ∀ l : List Msg, (l.flatMap bytesM).length ≤ 131079 * l.length
  | [] => by simp
  | m :: l => by
    have h1 := bytess_le l
    have h2 := bytes_le m
    simp only [List.flatMap_cons, List.length_append, List.length_cons]
    omega
theorem group_le {l : List Msg} (h : groupB l = true) : 1 ≤ l.length ∧ l.length ≤ 64 := by
  simp only [groupB, Bool.and_eq_true, decide_eq_true_eq] at h
  omega
theorem n31_iff {n : Int} : n31B n = true ↔ 0 ≤ n ∧ n < 2147483648 := by simp [n31B]
/-- What the head has after j numbers. -/
def headJ (g s n : Nat) : Nat → List UInt8
  | 0 => [70]
  | 1 => 70 :: beN g 4 4
  | 2 => 70 :: (beN g 4 4 ++ beN s 4 4)
  | _ => 70 :: (beN g 4 4 ++ (beN s 4 4 ++ beN n 4 4))
theorem headJ_len (g s n j : Nat) (h : j ≤ 3) : (headJ g s n j).length = 1 + 4 * j := by
  have : j = 0 ∨ j = 1 ∨ j = 2 ∨ j = 3 := by omega
  rcases this with rfl | rfl | rfl | rfl <;> simp [headJ, beN_len]
end Go.PE
