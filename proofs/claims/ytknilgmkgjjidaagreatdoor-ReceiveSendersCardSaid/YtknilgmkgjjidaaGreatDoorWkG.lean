/- WkG: what the laws need of it. -/
import Derived.Test.YtknilgmkgjjidaaGreatDoorWkF
set_option linter.unusedVariables false
set_option linter.defProp false
set_option linter.all false
set_option linter.unusedSimpArgs false
set_option maxRecDepth 100000
set_option maxHeartbeats 4000000
namespace Go.PE
open Go Go.Proofs

def readN (l : List UInt8) : Nat := l.foldl (fun n c => 256 * n + c.toNat) 0
theorem readN_snoc (l : List UInt8) (x : UInt8) : readN (l ++ [x]) = 256 * readN l + x.toNat := foldl_snoc _ l x 0
theorem foldN_lt : ∀ (l : List UInt8) (a : Nat), l.foldl (fun n c => 256 * n + c.toNat) a + 1 ≤ (a + 1) * 256 ^ l.length
  | [], a => by simp
  | x :: l, a => by
    have h := foldN_lt l (256 * a + x.toNat)
    have hx : x.toNat < 256 := x.toNat_lt
    have h2 : (256 * a + x.toNat + 1) * 256 ^ l.length ≤ (256 * (a + 1)) * 256 ^ l.length := Nat.mul_le_mul_right _ (by omega)
    simp only [List.foldl_cons, List.length_cons, Nat.pow_succ]
    calc _ ≤ _ := h
      _ ≤ _ := h2
      _ = (a + 1) * (256 ^ l.length * 256) := by rw [Nat.mul_comm 256 (a + 1), Nat.mul_assoc, Nat.mul_comm 256]
theorem readN_lt (l : List UInt8) : readN l < 256 ^ l.length := by
  have := foldN_lt l 0
  simp only [Nat.zero_add, Nat.one_mul] at this
  exact this
theorem readN_lt' (l : List UInt8) (n : Nat) (h : l.length ≤ n) : readN l < 256 ^ n := Nat.lt_of_lt_of_le (readN_lt l) (Nat.pow_le_pow_right (by omega) h)
/-- A reader of bytes: what is left; whether there was too little. -/
structure Rd where
  l : List UInt8
  s : Bool
def Rd.cells (x : Rd) : List AV := [.d (.list (x.l.map byteCell)), .d (.bool x.s)]
def Rd.dec : List AV → Option Rd
  | [.d (.list es), .d (.bool s)] => match decL byteDec es with
    | some l => some ⟨l, s⟩
    | none => none
  | _ => none
theorem Rd.dec_eq (l : List UInt8) (s : Bool) : Rd.dec [.d (.list (l.map byteCell)), .d (.bool s)] = some ⟨l, s⟩ := by
  simp only [Rd.dec, decL_map byteDec_de]
theorem Rd.dec_inv {c : List AV} {x : Rd} (h : Rd.dec c = some x) : c = x.cells := by
  unfold Rd.dec at h
  split at h
  · split at h
    · rename_i l hl
      injection h with h
      subst h
      rw [decL_inv byteDec_ed hl]
      rfl
    · cases h
  · cases h
def rdTake (n : Nat) (x : Rd) : List UInt8 × Rd := if n ≤ x.l.length then (x.l.take n, ⟨x.l.drop n, x.s⟩) else ([], ⟨[], true⟩)
def rdNum (n : Nat) (x : Rd) : Nat × Rd := (readN (rdTake n x).1, (rdTake n x).2)
def rdText (x : Rd) : List UInt8 × Rd := rdTake (rdNum 2 x).1 (rdNum 2 x).2
theorem rdTake_len (n : Nat) (x : Rd) : (rdTake n x).1.length ≤ n := by
  unfold rdTake
  split
  · simp; omega
  · simp
/-- (*msg.reader).take -/
def hTake : Handler := fun args b r K => match args, b, r with
  | [.ptr 0 0, .d (.int .i64 n)], [c], [] => @nK _ (Rd.dec c) ⟨fun x => 0 ≤ n ∧ K (.ret (.d (.list ((rdTake n.toNat x).1.map byteCell)))) [(rdTake n.toNat x).2.cells] []⟩
  | _, _, _ => False
theorem f_msgTake : HOk Tryz.prog 218 hTake := by
  refine HOk.runL [] (fun _ => []) (by simp) F.mixed Tryz.func218 (by kernel_rfl) rfl (by kernel_rfl) 35 Tryz.ntmps218 [.tmp 4] Tryz.results218 (.inr (fun i => by simp)) ?_
  intro args b r K hl hs
  unfold hTake at hs
  split at hs
  case h_2 => exact hs.elim
  rename_i n c
  obtain ⟨x, hx, h0, hK⟩ := nK_elim hs
  obtain rfl := Rd.dec_inv hx
  unfold rdTake at hK
  simp only [Rd.cells, eBs, cBs, F.fBs, Nat.reduceSub, Nat.reduceAdd, Nat.reduceLT, Nat.reduceEqDiff, Nat.reduceLeDiff, Nat.reduceMul, Nat.reduceBEq, Int.reduceToNat, Op.operands, if_true, if_false, reduceCtorEq, if_pos, forall_const, implies_true, eq_self, ne_eq, iff_self] at hK ⊢
  refine ⟨fun h => ?_, fun h => ?_⟩
  · rw [if_neg (by omega)] at hK
    refine vK_dat _ _ _ hK (by simp [toO, toD]) ?_
    simp only [arrIdsO, eBs, cBs, F.fBs, Nat.reduceSub, Nat.reduceAdd, Nat.reduceLT, Nat.reduceEqDiff, Nat.reduceLeDiff, Nat.reduceMul, Nat.reduceBEq, Int.reduceToNat, Op.operands, if_true, if_false, reduceCtorEq, if_pos, forall_const, implies_true, eq_self, ne_eq, iff_self] <;> simp
  · rw [if_pos (by omega)] at hK
    refine ⟨⟨by omega, by omega, by omega⟩, ⟨by omega, by omega, by omega⟩, ?_⟩
    refine vK_ret _ _ hK ?_
    simp only [eBs, cBs, F.fBs, Nat.reduceSub, Nat.reduceAdd, Nat.reduceLT, Nat.reduceEqDiff, Nat.reduceLeDiff, Nat.reduceMul, Nat.reduceBEq, Int.reduceToNat, Op.operands, if_true, if_false, reduceCtorEq, if_pos, forall_const, implies_true, eq_self, ne_eq, iff_self] <;> simp
theorem or_i64 (a b : Nat) (ha : a < 36028797018963968) (hb : b < 256) : bitsI .or .i64 (IntKind.i64.wrap (a * 2 ^ min 8 IntKind.i64.bits)) (IntKind.i64.wrap (b : Int)) = ((256 * a + b : Nat) : Int) := by
  have e1 : ((a : Int) * (2 : Int) ^ min 8 IntKind.i64.bits) = ((a <<< 8 : Nat) : Int) := by
    rw [Nat.shiftLeft_eq]
    show (a : Int) * (2 : Int) ^ 8 = ((a * 2 ^ 8 : Nat) : Int)
    rw [Int.natCast_mul, Int.natCast_pow]
    rfl
  have hs : a <<< 8 = 256 * a := by rw [Nat.shiftLeft_eq]; omega
  have ho : a <<< 8 ||| b = 256 * a + b := by rw [← Nat.shiftLeft_add_eq_or_of_lt (show b < 2 ^ 8 by omega), hs]
  rw [e1, hs, wrap_i64' (by omega) (by omega), wrap_i64' (by omega) (by omega)]
  show IntKind.i64.wrap ((BitVec.ofInt 64 ((256 * a : Nat) : Int) ||| BitVec.ofInt 64 (b : Int)).toNat : Int) = _
  rw [BitVec.ofInt_natCast, BitVec.ofInt_natCast, BitVec.toNat_or, BitVec.toNat_ofNat, BitVec.toNat_ofNat, Nat.mod_eq_of_lt (by omega), Nat.mod_eq_of_lt (by omega), ← hs, ho, wrap_i64' (by omega) (by omega), hs]
/-- (*msg.reader).number -/
def hNum : Handler := fun args b r K => match args, b, r with
  | [.ptr 0 0, .d (.int .i64 n)], [c], [] => @nK _ (Rd.dec c) ⟨fun x => (0 ≤ n ∧ n ≤ 7) ∧ K (.ret (.d (.int .i64 ((rdNum n.toNat x).1 : Nat)))) [(rdNum n.toNat x).2.cells] []⟩
  | _, _, _ => False
theorem f_msgNum : HOk Tryz.prog 176 hNum := by
  refine HOk.runL [(218, .mem hTake)] (fun _ => []) (by
    intro p hp
    simp only [List.mem_cons, List.not_mem_nil, or_false] at hp
    subst hp
    exact f_msgTake) F.mixed Tryz.func176 (by kernel_rfl) rfl (by kernel_rfl) 23 Tryz.ntmps176 [.tmp 4] Tryz.results176 (.inr (fun i => by simp)) ?_
  intro args b r K hl hs
  unfold hNum at hs
  split at hs
  case h_2 => exact hs.elim
  rename_i n c
  obtain ⟨x, hx, ⟨h0, h7⟩, hK⟩ := nK_elim hs
  obtain rfl := Rd.dec_inv hx
  unfold rdNum at hK
  have hlen := rdTake_len n.toNat x
  simp only [hTake, Rd.dec_eq, Rd.cells, eBs, cBs, F.fBs, Nat.reduceSub, Nat.reduceAdd, Nat.reduceLT, Nat.reduceEqDiff, Nat.reduceLeDiff, Nat.reduceMul, Nat.reduceBEq, Int.reduceToNat, Op.operands, if_true, if_false, reduceCtorEq, if_pos, forall_const, implies_true, eq_self, ne_eq, iff_self] at hK ⊢
  generalize (rdTake n.toNat x).1 = l at hK hlen ⊢
  generalize (rdTake n.toNat x).2 = y at hK ⊢
  refine ⟨h0, eK_rounds [0, 4, 10, 11] (fun i : Nat => i ≤ l.length) (fun i => [(5, .d (.int .i64 (readN (l.take i) : Nat))), (12, .d (.int .i64 i))]) (fun _ => []) (fun _ => []) (fun i => l.length - i) 0 (Nat.zero_le _) ?_ ?_⟩
  · simp [le_eq, St.head, keepT, setAll, leV, leB, leR, leR0, idsR, idsL, idsA, idsB, readN]
  intro i hi
  have bcl : ∀ x : UInt8, byteCell x = [D.int .u8 x.toNat] := fun _ => rfl
  simp only [le_eq, bcl, eBs, cBs, F.fBs, Nat.reduceSub, Nat.reduceAdd, Nat.reduceLT, Nat.reduceEqDiff, Nat.reduceLeDiff, Nat.reduceMul, Nat.reduceBEq, Int.reduceToNat, Op.operands, if_true, if_false, reduceCtorEq, if_pos, forall_const, implies_true, eq_self, ne_eq, iff_self]
  refine ⟨fun h => ⟨⟨by omega, by omega⟩, fun x hx => ⟨by omega, i + 1, by omega, by omega, ?_, ?_⟩⟩, fun h => ?_⟩
  · have hlt := readN_lt' (l.take i) 6 (by simp; omega)
    have h6 : (256 : Nat) ^ 6 = 281474976710656 := rfl
    have hxl : x.toNat < 256 := x.toNat_lt
    rw [take_snoc hx, readN_snoc, or_i64 _ _ (by omega) hxl]
  · rw [wrap_i64' (by omega) (by omega)]; rfl
  · have : l.take i = l := List.take_of_length_le (by omega)
    rw [this]
    refine vK_ret _ _ hK ?_
    simp only [eBs, cBs, F.fBs, Nat.reduceSub, Nat.reduceAdd, Nat.reduceLT, Nat.reduceEqDiff, Nat.reduceLeDiff, Nat.reduceMul, Nat.reduceBEq, Int.reduceToNat, Op.operands, if_true, if_false, reduceCtorEq, if_pos, forall_const, implies_true, eq_self, ne_eq, iff_self] <;> simp
/-- (*msg.reader).text -/
def hText : Handler := fun args b r K => match args, b, r with
  | [.ptr 0 0], [c], [] => @nK _ (Rd.dec c) ⟨fun x => K (.ret (.d (.str (rdText x).1))) [(rdText x).2.cells] []⟩
  | _, _, _ => False
theorem f_msgText : HOk Tryz.prog 177 hText := by
  refine HOk.runL [(218, .mem hTake), (176, .mem hNum)] (fun _ => []) (by
    intro p hp
    simp only [List.mem_cons, List.not_mem_nil, or_false] at hp
    rcases hp with rfl | rfl
    · exact f_msgTake
    · exact f_msgNum) F.mixed Tryz.func177 (by kernel_rfl) rfl (by kernel_rfl) 8 Tryz.ntmps177 [.tmp 2] Tryz.results177 (.inr (fun i => by simp)) ?_
  intro args b r K hl hs
  unfold hText at hs
  split at hs
  case h_2 => exact hs.elim
  rename_i c
  obtain ⟨x, hx, hK⟩ := nK_elim hs
  obtain rfl := Rd.dec_inv hx
  unfold rdText at hK
  have e2 : Int.toNat 2 = 2 := rfl
  simp only [hTake, hNum, Rd.dec_eq, Rd.cells, e2, eBs, cBs, F.fBs, Nat.reduceSub, Nat.reduceAdd, Nat.reduceLT, Nat.reduceEqDiff, Nat.reduceLeDiff, Nat.reduceMul, Nat.reduceBEq, Int.reduceToNat, Op.operands, if_true, if_false, reduceCtorEq, if_pos, forall_const, implies_true, eq_self, ne_eq, iff_self] at hK ⊢
  refine ⟨⟨by omega, by omega⟩, by omega, ?_⟩
  refine vK_ret _ _ hK ?_
  simp only [eBs, cBs, F.fBs, Nat.reduceSub, Nat.reduceAdd, Nat.reduceLT, Nat.reduceEqDiff, Nat.reduceLeDiff, Nat.reduceMul, Nat.reduceBEq, Int.reduceToNat, Op.operands, if_true, if_false, reduceCtorEq, if_pos, forall_const, implies_true, eq_self, ne_eq, iff_self] <;> simp
end Go.PE
