/- WkF: what the laws need of it. -/
import Derived.Test.YtknilgmkgjjidaaGreatDoorWkE
import Derived.Laws.Bits64
set_option linter.unusedVariables false
set_option linter.defProp false
set_option linter.all false
set_option linter.unusedSimpArgs false
set_option maxRecDepth 100000
set_option maxHeartbeats 4000000
namespace Go.PE
open Go Go.Proofs

@[irreducible] def fnvStep (h : Nat) (c : UInt8) : Nat := ((h ^^^ c.toNat) * 1099511628211) % 18446744073709551616
@[irreducible] def fnv0 : Nat := 14695981039346656037
def fnv (l : List UInt8) : Nat := l.foldl fnvStep fnv0
theorem fnv0_lt : fnv0 < 18446744073709551616 := by unfold fnv0; omega
theorem fnv0_eq : (14695981039346656037 : Int) = (fnv0 : Nat) := by unfold fnv0; simp only [Int.cast_ofNat_Int]
theorem xor_u64 (a b : Nat) (ha : a < 18446744073709551616) (hb : b < 18446744073709551616) : bitsI .xor .u64 a b = ((a ^^^ b : Nat) : Int) := by
  have hx : a ^^^ b < 2 ^ 64 := Nat.xor_lt_two_pow (by omega) (by omega)
  show IntKind.u64.wrap ((BitVec.ofInt 64 a ^^^ BitVec.ofInt 64 b).toNat : Int) = _
  rw [BitVec.ofInt_natCast, BitVec.ofInt_natCast, BitVec.toNat_xor, BitVec.toNat_ofNat, BitVec.toNat_ofNat, Nat.mod_eq_of_lt (by omega), Nat.mod_eq_of_lt (by omega), IntKind.wrap_u64]
  omega
theorem fnvStep_lt (h : Nat) (c : UInt8) : fnvStep h c < 18446744073709551616 := by
  unfold fnvStep
  omega
theorem fnv_nil : fnv [] = fnv0 := rfl
theorem fnv_snoc (l : List UInt8) (c : UInt8) : fnv (l ++ [c]) = fnvStep (fnv l) c := foldl_snoc fnvStep l c fnv0
theorem fnvF_lt : ∀ (l : List UInt8) (a : Nat), a < 18446744073709551616 → l.foldl fnvStep a < 18446744073709551616
  | [], _, h => by rw [List.foldl_nil]; exact h
  | c :: l, a, _ => by rw [List.foldl_cons]; exact fnvF_lt l _ (fnvStep_lt a c)
theorem fnv_lt (l : List UInt8) : fnv l < 18446744073709551616 := fnvF_lt l fnv0 fnv0_lt
theorem fnv_step_eq (h : Nat) (c : UInt8) (hh : h < 18446744073709551616) : IntKind.u64.wrap (bitsI .xor .u64 (h : Int) (IntKind.u64.wrap (c.toNat : Int)) * 1099511628211) = ((fnvStep h c : Nat) : Int) := by
  have hxl : c.toNat < 256 := c.toNat_lt
  have hw : IntKind.u64.wrap (c.toNat : Int) = (c.toNat : Int) := by rw [IntKind.wrap_u64]; omega
  have hb : c.toNat < 18446744073709551616 := Nat.lt_trans hxl (by decide)
  rw [hw, xor_u64 h c.toNat hh hb, IntKind.wrap_u64]
  unfold fnvStep
  generalize h ^^^ c.toNat = z
  rw [Int.natCast_emod, Int.natCast_mul]
  simp only [Int.cast_ofNat_Int]
def hCheck : Det := det1 cBytes (fun _ => True) fun l => .d (.int .u64 (fnv l : Nat))
theorem f_10Check : FPure Tryz.prog 21 hCheck.spec := by
  refine FPure.runL [] (fun _ => []) (by simp) F.mixed Tryz.func21 (by kernel_rfl) rfl (by kernel_rfl) 20 Tryz.ntmps21 [.tmp 2] Tryz.results21 ?_
  intro ds K hl hs
  obtain ⟨l, rfl, -, hK⟩ := det1_elim hs
  simp only [eBs, cBs, F.fBs, Nat.reduceSub, Nat.reduceAdd, Nat.reduceLT, Nat.reduceEqDiff, Nat.reduceLeDiff, Nat.reduceMul, Nat.reduceBEq, Int.reduceToNat, Op.operands, if_true, if_false, reduceCtorEq, if_pos, forall_const, implies_true, eq_self, ne_eq, iff_self]
  have la := map_len_le hl
  refine eK_rounds [0, 2] (fun i : Nat => i ≤ l.length) (fun i => [(3, .d (.int .u64 (fnv (l.take i)))), (4, .d (.int .i64 i))]) (fun _ => []) (fun _ => []) (fun i => l.length - i) 0 (Nat.zero_le _) ?_ ?_
  · rw [List.take_zero, fnv_nil, fnv0_eq]
    simp [le_eq, St.head, keepT, setAll, leV, leB, leR, leR0, idsR, idsL, idsA, idsB]
  intro i hi
  have bcl : ∀ x : UInt8, byteCell x = [D.int .u8 x.toNat] := fun _ => rfl
  simp only [le_eq, bcl, eBs, cBs, F.fBs, Nat.reduceSub, Nat.reduceAdd, Nat.reduceLT, Nat.reduceEqDiff, Nat.reduceLeDiff, Nat.reduceMul, Nat.reduceBEq, Int.reduceToNat, Op.operands, if_true, if_false, reduceCtorEq, if_pos, forall_const, implies_true, eq_self, ne_eq, iff_self]
  refine ⟨fun h => ⟨⟨by omega, by omega⟩, fun x hx => ⟨i + 1, by omega, by omega, ?_, ?_⟩⟩, fun h => ?_⟩
  · have hstep : l.take (i + 1) = l.take i ++ [x] := by rw [List.take_add_one, hx]; rfl
    rw [hstep, fnv_snoc, fnv_step_eq _ _ (fnv_lt _)]
  · rw [wrap_i64' (by omega) (by omega)]; rfl
  · have : l.take i = l := List.take_of_length_le (by omega)
    rw [this]
    exact hK
theorem f_nodeCheck : FPure Tryz.prog 31 hCheck.spec := by
  refine FPure.runL [] (fun _ => []) (by simp) F.mixed Tryz.func31 (by kernel_rfl) rfl (by kernel_rfl) 19 Tryz.ntmps31 [.tmp 2] Tryz.results31 ?_
  intro ds K hl hs
  obtain ⟨l, rfl, -, hK⟩ := det1_elim hs
  simp only [eBs, cBs, F.fBs, Nat.reduceSub, Nat.reduceAdd, Nat.reduceLT, Nat.reduceEqDiff, Nat.reduceLeDiff, Nat.reduceMul, Nat.reduceBEq, Int.reduceToNat, Op.operands, if_true, if_false, reduceCtorEq, if_pos, forall_const, implies_true, eq_self, ne_eq, iff_self]
  have la := map_len_le hl
  refine eK_rounds [0, 2, 6, 7] (fun i : Nat => i ≤ l.length) (fun i => [(3, .d (.int .u64 (fnv (l.take i)))), (8, .d (.int .i64 i))]) (fun _ => []) (fun _ => []) (fun i => l.length - i) 0 (Nat.zero_le _) ?_ ?_
  · rw [List.take_zero, fnv_nil, fnv0_eq]
    simp [le_eq, St.head, keepT, setAll, leV, leB, leR, leR0, idsR, idsL, idsA, idsB]
  intro i hi
  have bcl : ∀ x : UInt8, byteCell x = [D.int .u8 x.toNat] := fun _ => rfl
  simp only [le_eq, bcl, eBs, cBs, F.fBs, Nat.reduceSub, Nat.reduceAdd, Nat.reduceLT, Nat.reduceEqDiff, Nat.reduceLeDiff, Nat.reduceMul, Nat.reduceBEq, Int.reduceToNat, Op.operands, if_true, if_false, reduceCtorEq, if_pos, forall_const, implies_true, eq_self, ne_eq, iff_self]
  refine ⟨fun h => ⟨⟨by omega, by omega⟩, fun x hx => ⟨i + 1, by omega, by omega, ?_, ?_⟩⟩, fun h => ?_⟩
  · have hstep : l.take (i + 1) = l.take i ++ [x] := by rw [List.take_add_one, hx]; rfl
    rw [hstep, fnv_snoc, fnv_step_eq _ _ (fnv_lt _)]
  · rw [wrap_i64' (by omega) (by omega)]; rfl
  · have : l.take i = l := List.take_of_length_le (by omega)
    rw [this]
    exact hK
end Go.PE
