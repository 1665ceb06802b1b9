/- WkB: what the laws need of it. -/
import Derived.Test.YtknilgmkgjjidaaGreatDoorWkA
set_option linter.unusedVariables false
set_option linter.defProp false
set_option linter.all false
set_option linter.unusedSimpArgs false
set_option maxRecDepth 100000
set_option maxHeartbeats 4000000
namespace Go.PE
open Go Go.Proofs

theorem take_snoc {α : Type} {l : List α} {i : Nat} {x : α} (h : l[i]? = some x) : l.take (i + 1) = l.take i ++ [x] := by rw [List.take_add_one, h]; rfl
theorem foldl_snoc {α β : Type} (f : β → α → β) (l : List α) (c : α) (a : β) : (l ++ [c]).foldl f a = f (l.foldl f a) c := by simp only [List.foldl_append, List.foldl_cons, List.foldl_nil]
def inB (n lo hi : Int) : Bool := decide (lo ≤ n) && decide (n ≤ hi)
def h05in : Det := det3 (cI .i64) (cI .i64) (cI .i64) (fun _ _ _ => True) fun n lo hi => .d (.bool (inB n lo hi))
theorem f_05in : FPure Tryz.prog 102 h05in.spec := by
  refine FPure.runL [] (fun _ => []) (by simp) F.mixed Tryz.func102 (by kernel_rfl) rfl (by kernel_rfl) 15 Tryz.ntmps102 [.tmp 6] Tryz.results102 ?_
  intro ds K hl hs
  obtain ⟨n, lo, hi, rfl, -, hK⟩ := det3_elim hs
  simp only [eBs, cBs, F.fBs, Nat.reduceSub, Nat.reduceAdd, Nat.reduceLT, Nat.reduceEqDiff, Nat.reduceLeDiff, Nat.reduceMul, Nat.reduceBEq, Int.reduceToNat, Op.operands, if_true, if_false, reduceCtorEq, if_pos, forall_const, implies_true, eq_self, ne_eq, iff_self]
  exact hK
theorem f_msgIn : FPure Tryz.prog 389 h05in.spec := by
  refine FPure.runL [] (fun _ => []) (by simp) F.mixed Tryz.func389 (by kernel_rfl) rfl (by kernel_rfl) 15 Tryz.ntmps389 [.tmp 6] Tryz.results389 ?_
  intro ds K hl hs
  obtain ⟨n, lo, hi, rfl, -, hK⟩ := det3_elim hs
  simp only [eBs, cBs, F.fBs, Nat.reduceSub, Nat.reduceAdd, Nat.reduceLT, Nat.reduceEqDiff, Nat.reduceLeDiff, Nat.reduceMul, Nat.reduceBEq, Int.reduceToNat, Op.operands, if_true, if_false, reduceCtorEq, if_pos, forall_const, implies_true, eq_self, ne_eq, iff_self]
  exact hK
def h02One : Det := det1 cS (fun k => k.length + 1 ≤ 9223372036854775807) fun k => .d (.agg [.str k, .str (k ++ [0])])
theorem f_02One : FPure Tryz.prog 37 h02One.spec := by
  refine FPure.runL [] (fun _ => []) (by simp) F.mixed Tryz.func37 (by kernel_rfl) rfl (by kernel_rfl) 7 Tryz.ntmps37 [.cell 2 34] Tryz.results37 ?_
  intro ds K hl hs
  obtain ⟨k, rfl, hp, hK⟩ := det1_elim hs
  simp only [eBs, cBs, F.fBs, Nat.reduceSub, Nat.reduceAdd, Nat.reduceLT, Nat.reduceEqDiff, Nat.reduceLeDiff, Nat.reduceMul, Nat.reduceBEq, Int.reduceToNat, Op.operands, if_true, if_false, reduceCtorEq, if_pos, forall_const, implies_true, eq_self, ne_eq, iff_self]
  exact ⟨Nat.le_of_succ_le_succ hp, hK⟩

/-- A number's byte number q, of size bytes, the greatest first. -/
def beAt (n size q : Nat) : UInt8 := UInt8.ofNat (n / 2 ^ (8 * (size - 1 - q)))
def beN (n size j : Nat) : List UInt8 := (List.range j).map (beAt n size)
theorem beN_len (n size j : Nat) : (beN n size j).length = j := by simp [beN]
theorem beN_zero (n size : Nat) : beN n size 0 = [] := rfl
theorem be_key (q : IntKind) (hq : q.bits = 64) (n k : Nat) (hk : k < 8) : ([D.int IntKind.u8 (IntKind.u8.wrap ((n : Int).fdiv (2 ^ min (IntKind.i64.wrap (8 * (k : Int))).toNat q.bits)))] : List D) = byteCell (UInt8.ofNat (n / 2 ^ (8 * k))) := by
  have e1 : IntKind.i64.wrap (8 * (k : Int)) = ((8 * k : Nat) : Int) := by rw [wrap_i64' (by omega) (by omega)]; omega
  have e2 : min (8 * k) q.bits = 8 * k := by omega
  have e3 : (n : Int).fdiv (2 ^ (8 * k)) = ((n / 2 ^ (8 * k) : Nat) : Int) := by
    rw [Int.fdiv_eq_ediv_of_nonneg _ (Int.pow_nonneg (by omega)), Int.natCast_ediv, Int.natCast_pow]
    rfl
  rw [e1, Int.toNat_natCast, e2, e3, IntKind.wrap_u8]
  show [D.int .u8 (((n / 2 ^ (8 * k) : Nat) : Int) % 256)] = [D.int .u8 (((n / 2 ^ (8 * k)) % 2 ^ 8 : Nat) : Int)]
  rw [Int.natCast_emod]
  rfl
theorem be_step (q : IntKind) (hq : q.bits = 64) (n size j : Nat) (hs : size ≤ 8) (hj : j < size) (l : List UInt8) :
    (l ++ beN n size j).map byteCell ++ [[D.int IntKind.u8 (IntKind.u8.wrap ((n : Int).fdiv (2 ^ min (IntKind.i64.wrap (8 * ((size : Int) - 1 - j))).toNat q.bits)))]] = (l ++ beN n size (j + 1)).map byteCell := by
  have ek : (size : Int) - 1 - j = ((size - 1 - j : Nat) : Int) := by omega
  rw [ek, be_key q hq n _ (by omega)]
  simp [beN, List.range_succ, beAt]
def numP (top : Int) (n size : Int) : Prop := 0 ≤ n ∧ n < top ∧ 0 ≤ size ∧ size ≤ 8
def h24number : Det := det2 (cI .u64) (cI .i64) (numP 18446744073709551616) fun n size => .d (.list ((beN n.toNat size.toNat size.toNat).map byteCell))
def h05number : Det := det2 (cI .i64) (cI .i64) (numP 9223372036854775808) fun n size => .d (.list ((beN n.toNat size.toNat size.toNat).map byteCell))
theorem f_05number : FPure Tryz.prog 74 h05number.spec := by
  refine FPure.runL [] (fun _ => []) (by simp) F.mixed Tryz.func74 (by kernel_rfl) rfl (by kernel_rfl) 23 Tryz.ntmps74 [.tmp 4] Tryz.results74 ?_
  intro ds K hl hs
  obtain ⟨n, size, rfl, ⟨h0, h1, h2, h3⟩, hK⟩ := det2_elim hs
  obtain ⟨n, rfl⟩ := Int.eq_ofNat_of_zero_le h0
  obtain ⟨size, rfl⟩ := Int.eq_ofNat_of_zero_le h2
  simp only [Int.toNat_natCast] at hK
  have hw : IntKind.i64.wrap ((size : Int) - 1) = (size : Int) - 1 := wrap_i64' (by omega) (by omega)
  simp only [eBs, cBs, F.fBs, Nat.reduceSub, Nat.reduceAdd, Nat.reduceLT, Nat.reduceEqDiff, Nat.reduceLeDiff, Nat.reduceMul, Nat.reduceBEq, Int.reduceToNat, Op.operands, if_true, if_false, reduceCtorEq, if_pos, forall_const, implies_true, eq_self, ne_eq, iff_self]
  refine eK_rounds [0, 1, 4] (fun j : Nat => j ≤ size) (fun j => [(5, .arr 1 j), (6, .d (.int .i64 ((size : Int) - 1 - j)))]) (fun _ => []) (fun j => [(1, ⟨1, 5, (beN n size j).map byteCell, false⟩)]) (fun j => size - j) 0 (Nat.zero_le _) ?_ ?_
  · simp [le_eq, St.head, keepT, setAll, leV, leB, leR, leR0, idsR, idsL, idsA, idsB, hw, beN]
  intro j hj
  simp only [le_eq, beN_len, eBs, cBs, F.fBs, Nat.reduceSub, Nat.reduceAdd, Nat.reduceLT, Nat.reduceEqDiff, Nat.reduceLeDiff, Nat.reduceMul, Nat.reduceBEq, Int.reduceToNat, Op.operands, if_true, if_false, reduceCtorEq, if_pos, forall_const, implies_true, eq_self, ne_eq, iff_self]
  refine ⟨fun h => ?_, fun h => ?_⟩
  · have := be_step .i64 rfl n size j (by omega) (by omega) []
    simp only [List.nil_append] at this
    rw [this]
    exact ⟨by rw [wrap_i64' (by omega) (by omega)]; omega, by omega, j + 1, by omega, by omega, ⟨by simp [beN_len], by rw [wrap_i64' (by omega) (by omega)]; congr 2; omega⟩, rfl⟩
  · have : j = size := by omega
    subst this
    exact hK
/-- Numbers written behind bytes (wal.number, stream.number). -/
def rowB (A : Arr) : Option (List UInt8) := match A with
  | ⟨1, 5, es, false⟩ => decL byteDec es
  | _ => none
theorem rowB_eq (l : List UInt8) : rowB ⟨1, 5, l.map byteCell, false⟩ = some l := decL_map byteDec_de l
theorem rowB_inv {A : Arr} {l : List UInt8} (h : rowB A = some l) : A = ⟨1, 5, l.map byteCell, false⟩ := by
  unfold rowB at h
  split at h
  · rw [decL_inv byteDec_ed h]
  · cases h
theorem nK_elim {α : Type} {x : Option α} {F : α → Prop} (h : @nK α x ⟨F⟩) : ∃ a, x = some a ∧ F a := by
  cases x with
  | none => exact h.elim
  | some a => exact ⟨a, rfl, h⟩
def rowQ (A : Arr) : Option (List UInt8 × Bool) := match A with
  | ⟨1, 5, es, q⟩ => match decL byteDec es with
    | some l => some (l, q)
    | none => none
  | _ => none
theorem rowQ_eq (l : List UInt8) (q : Bool) : rowQ ⟨1, 5, l.map byteCell, q⟩ = some (l, q) := by
  simp only [rowQ, decL_map byteDec_de]
theorem rowQ_inv {A : Arr} {l : List UInt8} {q : Bool} (h : rowQ A = some (l, q)) : A = ⟨1, 5, l.map byteCell, q⟩ := by
  unfold rowQ at h
  split at h
  · split at h
    · rename_i l' hl
      injection h with h
      injection h with h1 h2
      subst h1 h2
      rw [decL_inv byteDec_ed hl]
    · cases h
  · cases h
def hAddNum : Handler := fun args b r K => match args, b, r with
  | [.arr 0 m, .d (.int .u64 n), .d (.int .i64 size)], [], [A] => @nK _ (rowQ A) ⟨fun (l, q) => (m = l.length ∧ numP 18446744073709551616 n size ∧ l.length ≤ 100000000) ∧
      K (.ret (.arr 0 (l.length + size.toNat))) [] [⟨1, 5, (l ++ beN n.toNat size.toNat size.toNat).map byteCell, q⟩]⟩
  | _, _, _ => False
theorem hAddNum_elim {args : List AV} {b : List (List AV)} {r : List Arr} {K : Out → List (List AV) → List Arr → Prop} (h : hAddNum args b r K) : ∃ (l : List UInt8) (q : Bool) (n size : Nat), args = [.arr 0 l.length, .d (.int .u64 n), .d (.int .i64 size)] ∧ b = [] ∧ r = [⟨1, 5, l.map byteCell, q⟩] ∧
    n < 18446744073709551616 ∧ size ≤ 8 ∧ l.length ≤ 100000000 ∧ K (.ret (.arr 0 (l.length + size))) [] [⟨1, 5, (l ++ beN n size size).map byteCell, q⟩] := by
  unfold hAddNum at h
  split at h
  · obtain ⟨⟨l, q⟩, hl, ⟨rfl, ⟨h0, h1, h2, h3⟩, h4⟩, hK⟩ := nK_elim h
    rename_i n size _
    obtain ⟨n, rfl⟩ := Int.eq_ofNat_of_zero_le h0
    obtain ⟨size, rfl⟩ := Int.eq_ofNat_of_zero_le h2
    rw [rowQ_inv hl]
    exact ⟨l, q, n, size, rfl, rfl, rfl, by omega, by omega, h4, hK⟩
  · exact h.elim
theorem f_streamNumber : HOk Tryz.prog 32 hAddNum := by
  refine HOk.runL [] (fun _ => []) (by simp) F.mixed Tryz.func32 (by kernel_rfl) rfl (by kernel_rfl) 23 Tryz.ntmps32 [.tmp 6] Tryz.results32 (.inr (fun i => by simp)) ?_
  intro args b r K hl hs
  obtain ⟨l, q, n, size, rfl, rfl, rfl, h0, h1, h2, hK⟩ := hAddNum_elim hs
  have hw : IntKind.i64.wrap ((size : Int) - 1) = (size : Int) - 1 := wrap_i64' (by omega) (by omega)
  simp only [eBs, cBs, F.fBs, Nat.reduceSub, Nat.reduceAdd, Nat.reduceLT, Nat.reduceEqDiff, Nat.reduceLeDiff, Nat.reduceMul, Nat.reduceBEq, Int.reduceToNat, Op.operands, if_true, if_false, reduceCtorEq, if_pos, forall_const, implies_true, eq_self, ne_eq, iff_self]
  refine eK_rounds [1, 2, 6] (fun j : Nat => j ≤ size) (fun j => [(0, .arr 0 (l.length + j)), (7, .d (.int .i64 ((size : Int) - 1 - j)))]) (fun _ => []) (fun j => [(0, ⟨1, 5, (l ++ beN n size j).map byteCell, q⟩)]) (fun j => size - j) 0 (Nat.zero_le _) ?_ ?_
  · simp [le_eq, St.head, keepT, setAll, leV, leB, leR, leR0, idsR, idsL, idsA, idsB, hw, beN]
  intro j hj
  simp only [le_eq, beN_len, List.length_append, eBs, cBs, F.fBs, Nat.reduceSub, Nat.reduceAdd, Nat.reduceLT, Nat.reduceEqDiff, Nat.reduceLeDiff, Nat.reduceMul, Nat.reduceBEq, Int.reduceToNat, Op.operands, if_true, if_false, reduceCtorEq, if_pos, forall_const, implies_true, eq_self, ne_eq, iff_self]
  refine ⟨fun h => ?_, fun h => ?_⟩
  · rw [be_step .u64 rfl n size j (by omega) (by omega) l]
    exact ⟨by rw [wrap_i64' (by omega) (by omega)]; omega, by omega, j + 1, by omega, by omega, ⟨by simp [beN_len, Nat.add_assoc], by rw [wrap_i64' (by omega) (by omega)]; congr 2; omega⟩, rfl⟩
  · have : j = size := by omega
    subst this
    refine vK_ret _ _ hK ?_
    simp only [eBs, cBs, F.fBs, Nat.reduceSub, Nat.reduceAdd, Nat.reduceLT, Nat.reduceEqDiff, Nat.reduceLeDiff, Nat.reduceMul, Nat.reduceBEq, Int.reduceToNat, Op.operands, if_true, if_false, reduceCtorEq, if_pos, forall_const, implies_true, eq_self, ne_eq, iff_self] <;> simp
end Go.PE
