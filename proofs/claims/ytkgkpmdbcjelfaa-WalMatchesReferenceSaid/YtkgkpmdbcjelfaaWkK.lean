/- Frames read (package wal). -/
import Derived.Test.YtkgkpmdbcjelfaaWkJ
set_option linter.unusedVariables false
set_option linter.defProp false
set_option linter.all false
set_option linter.unusedSimpArgs false
set_option maxRecDepth 10000
set_option maxHeartbeats 2000000
namespace Go.PE
open Go Go.Proofs

theorem or_u64 (a b : Nat) (ha : a < 72057594037927936) (hb : b < 256) : bitsI .or .u64 (IntKind.u64.wrap (a * 2 ^ min 8 IntKind.u64.bits)) (IntKind.u64.wrap (b : Int)) = ((256 * a + b : Nat) : Int) := by
  have e1 : ((a : Int) * (2 : Int) ^ min 8 IntKind.u64.bits) = ((a <<< 8 : Nat) : Int) := by
    rw [Nat.shiftLeft_eq]
    show (a : Int) * (2 : Int) ^ 8 = ((a * 2 ^ 8 : Nat) : Int)
    rw [Int.natCast_mul, Int.natCast_pow]
    rfl
  have hs : a <<< 8 = 256 * a := by rw [Nat.shiftLeft_eq]; omega
  have ho : a <<< 8 ||| b = 256 * a + b := by rw [← Nat.shiftLeft_add_eq_or_of_lt (show b < 2 ^ 8 by omega), hs]
  have wu : ∀ x : Nat, x < 18446744073709551616 → IntKind.u64.wrap (x : Int) = (x : Int) := fun x hx => by rw [IntKind.wrap_u64]; omega
  rw [e1, hs, wu _ (by omega), wu _ (by omega)]
  show IntKind.u64.wrap ((BitVec.ofInt 64 ((256 * a : Nat) : Int) ||| BitVec.ofInt 64 (b : Int)).toNat : Int) = _
  rw [BitVec.ofInt_natCast, BitVec.ofInt_natCast, BitVec.toNat_or, BitVec.toNat_ofNat, BitVec.toNat_ofNat, Nat.mod_eq_of_lt (by omega), Nat.mod_eq_of_lt (by omega), ← hs, ho, wu _ (by omega), hs]
def hValue : Det := det1 cBytes (fun l => l.length ≤ 8) fun l => .d (.int .u64 (readN l : Nat))
theorem f_walValue : FPure Try.prog 65 hValue.spec := by
  refine FPure.runL [] (fun _ => []) (by simp) F.mixed Try.func65 (by kernel_rfl) rfl (by kernel_rfl) 19 Try.ntmps65 [.tmp 2] Try.results65 ?_
  intro ds K hl hs
  obtain ⟨l, rfl, h8, hK⟩ := det1_elim hs
  simp only [eBs, cBs, F.fBs, Nat.reduceSub, Nat.reduceAdd, Nat.reduceLT, Nat.reduceEqDiff, Nat.reduceLeDiff, Nat.reduceMul, Nat.reduceBEq, Int.reduceToNat, Op.operands, if_true, if_false, reduceCtorEq, if_pos, forall_const, implies_true, eq_self, ne_eq]
  refine eK_rounds [0, 2, 6, 7] (fun i : Nat => i ≤ l.length) (fun i => [(3, .d (.int .u64 (readN (l.take i) : Nat))), (8, .d (.int .i64 i))]) (fun _ => []) (fun _ => []) (fun i => l.length - i) 0 (Nat.zero_le _) ?_ ?_
  · simp [le_eq, St.head, keepT, setAll, leV, leB, leR, leR0, idsR, idsL, idsA, idsB, readN]
  intro i hi
  have bcl : ∀ x : UInt8, byteCell x = [D.int .u8 x.toNat] := fun _ => rfl
  simp only [le_eq, bcl, eBs, cBs, F.fBs, Nat.reduceSub, Nat.reduceAdd, Nat.reduceLT, Nat.reduceEqDiff, Nat.reduceLeDiff, Nat.reduceMul, Nat.reduceBEq, Int.reduceToNat, Op.operands, if_true, if_false, reduceCtorEq, if_pos, forall_const, implies_true, eq_self, ne_eq]
  refine ⟨fun h => ⟨⟨by omega, by omega⟩, fun x hx => ⟨by omega, i + 1, by omega, by omega, ?_, ?_⟩⟩, fun h => ?_⟩
  · have hlt := readN_lt' (l.take i) 7 (by simp; omega)
    have h7 : (256 : Nat) ^ 7 = 72057594037927936 := rfl
    have hxl : x.toNat < 256 := x.toNat_lt
    rw [take_snoc hx, readN_snoc, or_u64 _ _ (by omega) hxl]
  · rw [wrap_i64' (by omega) (by omega)]; rfl
  · have : l.take i = l := List.take_of_length_le (by omega)
    rw [this]
    exact hK

/-- What stops a reader. -/
def damage : AV := .d (.iface 113 (.agg []))
/-- The box of a reader of bytes. -/
def decO : List AV → Option (List UInt8)
  | [.d (.list es)] => decL byteDec es
  | _ => none
theorem decO_eq (l : List UInt8) : decO [.d (.list (l.map byteCell))] = some l := decL_map byteDec_de l
theorem decO_inv {c : List AV} {l : List UInt8} (h : decO c = some l) : c = [.d (.list (l.map byteCell))] := by
  unfold decO at h
  split at h
  · rw [decL_inv byteDec_ed h]
  · cases h
/-- (*wal.reader).take -/
def hWTake : Handler := fun args b r K => match args, b, r with
  | [.ptr 0 0, .d (.int .i64 n)], [c], [] => @nK _ (decO c) ⟨fun l => 0 ≤ n ∧ (n ≤ l.length → K (.ret (.d (.list ((l.take n.toNat).map byteCell)))) [[.d (.list ((l.drop n.toNat).map byteCell))]] []) ∧ (l.length < n → K (.panic damage) [[.d (.list (l.map byteCell))]] [])⟩
  | _, _, _ => False
theorem f_walTake : HOk Try.prog 64 hWTake := by
  refine HOk.runL [] (fun _ => []) (by simp) F.mixed Try.func64 (by kernel_rfl) rfl (by kernel_rfl) 31 Try.ntmps64 [.tmp 4] Try.results64 ?_
  intro args b r K hl hs
  unfold hWTake at hs
  split at hs
  case h_2 => exact hs.elim
  rename_i n c
  obtain ⟨l, hx, h0, hK, hP⟩ := nK_elim hs
  obtain rfl := decO_inv hx
  simp only [eBs, cBs, F.fBs, Nat.reduceSub, Nat.reduceAdd, Nat.reduceLT, Nat.reduceEqDiff, Nat.reduceLeDiff, Nat.reduceMul, Nat.reduceBEq, Int.reduceToNat, Op.operands, if_true, if_false, reduceCtorEq, if_pos, forall_const, implies_true, eq_self, ne_eq]
  refine ⟨fun h => ?_, fun h => ?_⟩
  · refine vK_panic _ _ (hP (by omega)) ?_
    simp only [damage, eBs, cBs, F.fBs, Nat.reduceSub, Nat.reduceAdd, Nat.reduceLT, Nat.reduceEqDiff, Nat.reduceLeDiff, Nat.reduceMul, Nat.reduceBEq, Int.reduceToNat, Op.operands, if_true, if_false, reduceCtorEq, if_pos, forall_const, implies_true, eq_self, ne_eq] <;> simp
  · refine ⟨⟨by omega, by omega, by omega⟩, ⟨by omega, by omega, by omega⟩, ?_⟩
    refine vK_ret _ _ (hK (by omega)) ?_
    simp only [eBs, cBs, F.fBs, Nat.reduceSub, Nat.reduceAdd, Nat.reduceLT, Nat.reduceEqDiff, Nat.reduceLeDiff, Nat.reduceMul, Nat.reduceBEq, Int.reduceToNat, Op.operands, if_true, if_false, reduceCtorEq, if_pos, forall_const, implies_true, eq_self, ne_eq] <;> simp
/-- (*wal.reader).number -/
def hWNumber : Handler := fun args b r K => match args, b, r with
  | [.ptr 0 0], [c], [] => @nK _ (decO c) ⟨fun l => ((4 ≤ l.length ∧ readN (l.take 4) < 2147483648) → K (.ret (.d (.int .i64 (readN (l.take 4) : Nat)))) [[.d (.list ((l.drop 4).map byteCell))]] []) ∧
      (¬ (4 ≤ l.length ∧ readN (l.take 4) < 2147483648) → ∀ l' : List UInt8, K (.panic damage) [[.d (.list (l'.map byteCell))]] [])⟩
  | _, _, _ => False
theorem f_walNum : HOk Try.prog 66 hWNumber := by
  refine HOk.runL [(64, .mem hWTake), (65, .det hValue)] (fun _ => []) (by
    intro p hp
    simp only [List.mem_cons, List.not_mem_nil, or_false] at hp
    rcases hp with rfl | rfl
    · exact f_walTake
    · exact f_walValue) F.mixed Try.func66 (by kernel_rfl) rfl (by kernel_rfl) 13 Try.ntmps66 [.tmp 2] Try.results66 ?_
  intro args b r K hl hs
  unfold hWNumber at hs
  split at hs
  case h_2 => exact hs.elim
  rename_i c
  obtain ⟨l, hx, hK, hP⟩ := nK_elim hs
  obtain rfl := decO_inv hx
  simp only [hWTake, hValue, decO_eq, damage, eBs, cBs, F.fBs, Nat.reduceSub, Nat.reduceAdd, Nat.reduceLT, Nat.reduceEqDiff, Nat.reduceLeDiff, Nat.reduceMul, Nat.reduceBEq, Int.reduceToNat, Op.operands, if_true, if_false, reduceCtorEq, if_pos, forall_const, implies_true, eq_self, ne_eq]
  have fin : ∀ l' : List UInt8, ¬ (4 ≤ l.length ∧ readN (l.take 4) < 2147483648) → @vK 1 0 (.panic (.d (.iface 113 (.agg [])))) [[.d (.list (l'.map byteCell))]] [] ⟨K⟩ := fun l' h => vK_panic _ _ (hP h l') (by simp [leB, leR, leR0, idsR, leV, idsB, idsL, idsA, damage])
  refine ⟨by omega, fun h4 => ⟨by simp; omega, fun h => fin _ (by omega), fun h => ?_⟩, fun h4 => fin _ (by omega)⟩
  rw [wrap_i64' (by omega) (by omega)]
  exact vK_ret _ _ (hK (by omega)) (by simp [leB, leR, leR0, idsR, leV, idsB, idsL, idsA])

/-- All messages that bytes are, behind those that were read. -/
def msgsF : Nat → List UInt8 → List Msg → Option (List Msg)
  | 0, _, _ => none
  | f + 1, l, acc => if l = [] then some acc else match parse1 l with
    | none => none
    | some (m, n) => if acc.length = 64 then none else msgsF f (l.drop n) (acc ++ [m])
theorem rdNum1_le (x : Rd) : (rdNum 1 x).2.l.length ≤ x.l.length - 1 := by
  unfold rdNum rdTake
  split
  · simp
  · simp
theorem rdMsg_le1 (x : Rd) : (rdMsg x).2.l.length ≤ (rdNum 1 x).2.l.length := by
  have h2 := rdText_le (rdNum 1 x).2
  have h3 := rdText_le (rdText (rdNum 1 x).2).2
  have h4 := rdNum_le 4 (rdText (rdText (rdNum 1 x).2).2).2
  unfold rdMsg
  dsimp only
  repeat' split
  all_goals (dsimp only; omega)
theorem parse1_pos {l : List UInt8} {m : Msg} {n : Nat} (h : parse1 l = some (m, n)) (hl : l ≠ []) : 1 ≤ n ∧ n ≤ l.length := by
  unfold parse1 at h
  split at h
  · cases h
  · injection h with h
    injection h with h1 h2
    have h3 := rdMsg_le1 ⟨l, false⟩
    have h4 := rdNum1_le ⟨l, false⟩
    have h5 : 0 < l.length := List.length_pos_iff.2 hl
    simp only at h4
    omega
theorem msgsF_fuel : ∀ (f : Nat) (l : List UInt8) (acc : List Msg), l.length < f → msgsF f l acc = msgsF (l.length + 1) l acc := by
  intro f
  induction f using Nat.strongRecOn with
  | _ f ih =>
    intro l acc hl
    cases f with
    | zero => omega
    | succ f =>
      simp only [msgsF]
      by_cases hl0 : l = []
      · simp [hl0]
      · simp only [hl0, if_false]
        cases hp : parse1 l with
        | none => rfl
        | some mn =>
          obtain ⟨m, n⟩ := mn
          obtain ⟨n1, n2⟩ := parse1_pos hp hl0
          simp only
          have hd : (l.drop n).length = l.length - n := by simp
          rw [ih f (by omega) (l.drop n) _ (by omega)]
          by_cases hf : l.length < f + 1
          · rcases Nat.lt_or_ge l.length (f + 1) with h1 | h1
            · by_cases h2 : l.length = f
              · rw [h2, ih f (by omega) (l.drop n) _ (by omega)]
              · rw [ih l.length (by omega) (l.drop n) _ (by omega)]
            · omega
          · omega
/-- (*wal.reader).messages -/
def hWMsgs : Handler := fun args b r K => match args, b, r with
  | [.ptr 0 0], [c], [] => @nK _ (decO c) ⟨fun l => (∀ ms, msgsF (l.length + 1) l [] = some ms → ∀ l' : List UInt8, K (.ret (.d (.list (ms.map Msg.enc)))) [[.d (.list (l'.map byteCell))]] []) ∧
      (msgsF (l.length + 1) l [] = none → ∀ l' : List UInt8, K (.panic damage) [[.d (.list (l'.map byteCell))]] [])⟩
  | _, _, _ => False
theorem f_walMsgs : HOk Try.prog 67 hWMsgs := by
  refine HOk.runL [(64, .mem hWTake), (85, .det hParse)] (fun _ => []) (by
    intro p hp
    simp only [List.mem_cons, List.not_mem_nil, or_false] at hp
    rcases hp with rfl | rfl
    · exact f_walTake
    · exact f_msgParse) F.mixed Try.func67 (by kernel_rfl) rfl (by kernel_rfl) 39 Try.ntmps67 [.tmp 2] Try.results67 ?_
  intro args b r K hl hs
  unfold hWMsgs at hs
  split at hs
  case h_2 => exact hs.elim
  rename_i c
  obtain ⟨l, hx, hK, hP⟩ := nK_elim hs
  obtain rfl := decO_inv hx
  simp only [eBs, cBs, F.fBs, Nat.reduceSub, Nat.reduceAdd, Nat.reduceLT, Nat.reduceEqDiff, Nat.reduceLeDiff, Nat.reduceMul, Nat.reduceBEq, Int.reduceToNat, Op.operands, if_true, if_false, reduceCtorEq, if_pos, forall_const, implies_true, eq_self, ne_eq]
  refine eK_rounds [0] (fun p : List UInt8 × List Msg => p.2.length ≤ 64 ∧ msgsF (p.1.length + 1) p.1 p.2 = msgsF (l.length + 1) l []) (fun p => [(2, .undef), (3, .arr 1 p.2.length)]) (fun p => [(0, [.d (.list (p.1.map byteCell))])]) (fun p => [(1, ⟨8, 61, p.2.map Msg.enc, false⟩)]) (fun p => p.1.length) (l, []) ⟨by simp, rfl⟩ ?_ ?_
  · simp [le_eq, St.head, keepT, setAll, leV, leB, leR, leR0, idsR, idsL, idsA, idsB]
  rintro ⟨q, ms⟩ ⟨h64, hq⟩
  simp only at h64 hq
  by_cases hq0 : q = []
  · subst hq0
    simp only [le_eq, eBs, cBs, F.fBs, Nat.reduceSub, Nat.reduceAdd, Nat.reduceLT, Nat.reduceEqDiff, Nat.reduceLeDiff, Nat.reduceMul, Nat.reduceBEq, Int.reduceToNat, Op.operands, if_true, if_false, reduceCtorEq, if_pos, forall_const, implies_true, eq_self, ne_eq]
    refine ⟨fun h => absurd h (by omega), fun _ => ?_⟩
    refine vK_dat _ _ _ (hK ms (by rw [← hq]; simp [msgsF]) []) (by simp [toO, toD]) ?_
    simp only [arrIdsO, eBs, cBs, F.fBs, Nat.reduceSub, Nat.reduceAdd, Nat.reduceLT, Nat.reduceEqDiff, Nat.reduceLeDiff, Nat.reduceMul, Nat.reduceBEq, Int.reduceToNat, Op.operands, if_true, if_false, reduceCtorEq, if_pos, forall_const, implies_true, eq_self, ne_eq] <;> simp
  · have hq1 : 0 < q.length := List.length_pos_iff.2 hq0
    cases hp : parse1 q with
    | none =>
      have hn : msgsF (l.length + 1) l [] = none := by rw [← hq]; simp [msgsF, hq0, hp]
      simp only [le_eq, hParse, hp, parseA, zeroMsg, Msg.enc, Int.reduceEq, eBs, cBs, F.fBs, Nat.reduceSub, Nat.reduceAdd, Nat.reduceLT, Nat.reduceEqDiff, Nat.reduceLeDiff, Nat.reduceMul, Nat.reduceBEq, Int.reduceToNat, Op.operands, if_true, if_false, reduceCtorEq, if_pos, forall_const, implies_true, eq_self, ne_eq]
      refine ⟨fun _ => vK_panic _ _ (hP hn q) ?_, fun h => absurd h (by omega)⟩
      simp only [damage, eBs, cBs, F.fBs, Nat.reduceSub, Nat.reduceAdd, Nat.reduceLT, Nat.reduceEqDiff, Nat.reduceLeDiff, Nat.reduceMul, Nat.reduceBEq, Int.reduceToNat, Op.operands, if_true, if_false, reduceCtorEq, if_pos, forall_const, implies_true, eq_self, ne_eq] <;> simp
    | some mn =>
      obtain ⟨m, n⟩ := mn
      obtain ⟨n1, n2⟩ := parse1_pos hp hq0
      simp only [le_eq, hParse, hp, parseA, Msg.enc, hWTake, decO_eq, damage, eBs, cBs, F.fBs, Nat.reduceSub, Nat.reduceAdd, Nat.reduceLT, Nat.reduceEqDiff, Nat.reduceLeDiff, Nat.reduceMul, Nat.reduceBEq, Int.reduceToNat, Op.operands, if_true, if_false, reduceCtorEq, if_pos, forall_const, implies_true, eq_self, ne_eq]
      refine ⟨fun _ => ⟨fun h => ?_, fun h => ⟨by omega, fun _ => ⟨by omega, (q.drop n, ms ++ [m]), ⟨by simp; omega, ?_⟩, by simp; omega, ?_, rfl, ?_⟩, fun h => absurd h (by omega)⟩⟩, fun h => absurd h (by omega)⟩
      · have hn : msgsF (l.length + 1) l [] = none := by rw [← hq]; simp [msgsF, hq0, hp]; omega
        refine vK_panic _ _ (hP hn q) ?_
        simp only [damage, eBs, cBs, F.fBs, Nat.reduceSub, Nat.reduceAdd, Nat.reduceLT, Nat.reduceEqDiff, Nat.reduceLeDiff, Nat.reduceMul, Nat.reduceBEq, Int.reduceToNat, Op.operands, if_true, if_false, reduceCtorEq, if_pos, forall_const, implies_true, eq_self, ne_eq] <;> simp
      · rw [← hq, ← msgsF_fuel q.length (q.drop n) _ (by simp; omega)]
        simp only [msgsF, hq0, hp, if_false]
        rw [if_neg (by omega)]
      · simp
      · simp [Msg.enc]
/-- What a frame has. -/
def walF (b : List UInt8) : Option (Nat × Nat × List Msg) :=
  if b.length < 21 ∨ 65536 < b.length then none
  else
    let body := b.take (b.length - 8)
    if ¬ (body.getD 0 0 = 70 ∧ readN (b.drop (b.length - 8)) = fnv body) then none
    else
      let gen := readN ((body.drop 1).take 4)
      let seq := readN ((body.drop 5).take 4)
      if gen < 2147483648 ∧ seq < 2147483648 ∧ readN ((body.drop 9).take 4) = body.length - 13 then
        match msgsF ((body.drop 13).length + 1) (body.drop 13) [] with
        | none => none
        | some [] => none
        | some (m :: ms) => some (gen, seq, m :: ms)
      else none
def walA (x : Option (Nat × Nat × List Msg)) : AV := match x with
  | some (g, s, l) => .tup [.d (.int .i64 g), .d (.int .i64 s), .d (.list (l.map Msg.enc)), .d (.int .i64 0)]
  | none => .tup [.d (.int .i64 0), .d (.int .i64 0), .d (.list []), .d (.int .i64 240)]
def hWParse : Det := det1 cBytes (fun _ => True) fun b => walA (walF b)
theorem f_walParse : FPure Try.prog 39 hWParse.spec := by
  refine FPure.runD [(64, .mem hWTake), (66, .mem hWNumber), (67, .mem hWMsgs), (65, .det hValue), (43, .det hCheck)] (fun i => if i = 4 then [(0, (false, [])), (1, (false, [])), (2, (false, [])), (3, (false, [])), (4, (false, [])), (5, (false, [])), (6, (false, [])), (7, (false, [])), (8, (false, [])), (9, (false, [])), (10, (true, [5, 6, 7, 8, 9])), (11, (true, []))] else if i = 15 then [(0, (false, [])), (1, (false, [])), (2, (false, [])), (3, (true, [1, 2])), (4, (true, [2])), (5, (true, [])), (6, (true, []))] else []) (by
    intro p hp
    simp only [List.mem_cons, List.not_mem_nil, or_false] at hp
    rcases hp with rfl | rfl | rfl | rfl | rfl
    · exact f_walTake
    · exact f_walNum
    · exact f_walMsgs
    · exact f_walValue
    · exact f_nodeCheck) F.mixed Try.func63 rfl rfl (by kernel_rfl) (by kernel_rfl) 18 Try.ntmps63 (by decide) (co := [.tmp 2, .tmp 3, .tmp 4, .tmp 5]) Try.func39 (by kernel_rfl) rfl (by kernel_rfl) (by kernel_rfl) [2, 3, 4, 5] (by kernel_rfl) (by decide) 73 Try.ntmps39 [.cell 2 3, .cell 3 3, .cell 4 34, .cell 5 31] Try.results39 ?_
  intro ds K hs
  obtain ⟨b, rfl, -, hK⟩ := det1_elim hs
  have bcl : ∀ x : UInt8, byteCell x = [D.int .u8 x.toNat] := fun _ => rfl
  by_cases h21 : b.length < 21 ∨ 65536 < b.length
  · have hc : (decide ((b.length : Int) < 21) || decide (65536 < (b.length : Int))) = true := by
      simp only [Bool.or_eq_true, decide_eq_true_eq]; omega
    simp only [walF, h21, if_true] at hK
    simp only [hc, eBs, cBs, F.fBs, Nat.reduceSub, Nat.reduceAdd, Nat.reduceLT, Nat.reduceEqDiff, Nat.reduceLeDiff, Nat.reduceMul, Nat.reduceBEq, Int.reduceToNat, Op.operands, if_true, if_false, reduceCtorEq, if_pos, forall_const, implies_true, eq_self, ne_eq]
    exact hK
  have hc : (decide ((b.length : Int) < 21) || decide (65536 < (b.length : Int))) = false := by
    simp only [Bool.or_eq_false_iff, decide_eq_false_iff_not]; omega
  have hw : IntKind.i64.wrap ((b.length : Int) - 8) = ((b.length - 8 : Nat) : Int) := by rw [wrap_i64' (by omega) (by omega)]; omega
  simp only [walF, h21, if_false] at hK
  have hbl : (b.take (b.length - 8)).length = b.length - 8 := by simp
  have hcl : (b.drop (b.length - 8)).length = 8 := by simp; omega
  generalize hbd : b.take (b.length - 8) = body at hK hbl
  generalize hck : b.drop (b.length - 8) = chk at hK hcl
  have hbl13 : 13 ≤ body.length := by omega
  simp (config := { maxSteps := 1000000 }) only [hc, hw, hbd, hck, hWTake, hWNumber, hWMsgs, hValue, hCheck, decO_eq, damage, bcl, eBs, cBs, F.fBs, Nat.reduceSub, Nat.reduceAdd, Nat.reduceLT, Nat.reduceEqDiff, Nat.reduceLeDiff, Nat.reduceMul, Nat.reduceBEq, Int.reduceToNat, Op.operands, if_true, if_false, reduceCtorEq, if_pos, forall_const, implies_true, eq_self, ne_eq]
  simp only [List.drop_drop, Nat.reduceAdd, List.length_drop] at hK ⊢
  refine ⟨by omega, by omega, by omega, by omega, fun _ => ⟨⟨by omega, by simp; omega⟩, fun x hx => ?_⟩, fun h => absurd h (by omega)⟩
  have hx0 : body.getD 0 0 = x := by
    cases body with
    | nil => simp at hx
    | cons y l => simpa using hx
  have hxe : x = 70 ↔ (x.toNat : Int) = 70 := by
    rw [← UInt8.toNat_inj]
    show x.toNat = 70 ↔ _
    omega
  rw [hx0] at hK
  refine ⟨fun h => ⟨h, by omega⟩, fun h => ?_, fun h => ?_⟩
  · rw [if_pos] at hK
    · exact hK
    · simp only [Bool.or_eq_true, decide_eq_true_eq] at h
      rintro ⟨h1, h2⟩
      rcases h with h | h
      · exact h (hxe.1 h1)
      · exact h (by rw [h2])
  simp only [Bool.or_eq_false_iff, decide_eq_false_iff_not, Classical.not_not] at h
  rw [if_neg (fun hn => hn ⟨hxe.2 h.1, by omega⟩)] at hK
  have no : ¬ (readN ((body.drop 1).take 4) < 2147483648 ∧ readN ((body.drop 5).take 4) < 2147483648 ∧ readN ((body.drop 9).take 4) = body.length - 13) →
      K (.ret (.tup [.d (.int .i64 0), .d (.int .i64 0), .d (.list []), .d (.int .i64 240)])) := by
    intro hn
    rw [if_neg hn] at hK
    exact hK
  refine ⟨fun hA => ⟨fun hB => ⟨fun hC => ⟨fun hne => no (fun hh => hne (by omega)), fun he => ?_⟩, fun hC => no (fun hh => hC ⟨by omega, by omega⟩)⟩, fun hB => no (fun hh => hB ⟨by omega, by omega⟩)⟩, fun hA => no (fun hh => hA ⟨by omega, by omega⟩)⟩
  rw [if_pos ⟨hA.2, hB.2, by omega⟩] at hK
  refine ⟨fun ms hm => ⟨fun h0 => ?_, fun h0 => ?_⟩, fun hm => ?_⟩
  · rw [hm] at hK
    have : ms = [] := List.eq_nil_of_length_eq_zero (by omega)
    subst this
    exact hK
  · rw [hm] at hK
    cases ms with
    | nil => simp at h0
    | cons m ms => exact hK
  · rw [hm] at hK
    exact hK
end Go.PE
