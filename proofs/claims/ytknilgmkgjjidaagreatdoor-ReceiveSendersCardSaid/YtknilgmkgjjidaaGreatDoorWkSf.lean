/- WkSf: what the laws need of it. -/
import Derived.Test.YtknilgmkgjjidaaGreatDoorWkSd
set_option linter.unusedVariables false
set_option linter.defProp false
set_option linter.all false
set_option linter.unusedSimpArgs false
set_option maxRecDepth 100000
set_option maxHeartbeats 4000000
namespace Go.PE
open Go Go.Proofs

def Rec.box (x : Rec) : List AV := [.d (.int .i64 x.kind), .d (.int .i64 x.seq), .d (.int .i64 x.count), .d (.int .u64 x.src), .d (.int .u64 x.dst), .d (.int .i64 x.msg.kind), .d (.str x.msg.key), .d (.str x.msg.value), .d (.str x.msg.lo), .d (.str x.msg.hi), .d (.str x.msg.fr), .d (.str x.msg.to), .d (.int .i64 x.msg.n), .d (.int .u64 x.check)]
def Rec.unbox : List AV → Option Rec
  | [.d (.int .i64 k), .d (.int .i64 s), .d (.int .i64 c), .d (.int .u64 f), .d (.int .u64 t), .d (.int .i64 mk1), .d (.str key), .d (.str value), .d (.str lo), .d (.str hi), .d (.str fr), .d (.str to), .d (.int .i64 n), .d (.int .u64 ch)] => some ⟨k, s, c, f, t, ⟨mk1, key, value, lo, hi, fr, to, n⟩, ch⟩
  | _ => none
theorem Rec.unbox_eq (k s c f t mk1 : Int) (a1 a2 a3 a4 a5 a6 : List UInt8) (n ch : Int) : Rec.unbox [.d (.int .i64 k), .d (.int .i64 s), .d (.int .i64 c), .d (.int .u64 f), .d (.int .u64 t), .d (.int .i64 mk1), .d (.str a1), .d (.str a2), .d (.str a3), .d (.str a4), .d (.str a5), .d (.str a6), .d (.int .i64 n), .d (.int .u64 ch)] = some ⟨k, s, c, f, t, ⟨mk1, a1, a2, a3, a4, a5, a6, n⟩, ch⟩ := rfl
theorem Rec.unbox_inv {c : List AV} {x : Rec} (h : Rec.unbox c = some x) : c = x.box := by
  unfold Rec.unbox at h
  split at h
  · injection h with h
    subst h
    rfl
  · cases h
/-- What fields reads: the record, the number of bytes, whether there were enough. -/
def fieldsF (r : Rec) (b : List UInt8) : Rec × Nat × Bool :=
  if r.kind = 2 then match parse1 b with
    | some (m, n) => ({ r with msg := m }, n, true)
    | none => ({ r with msg := zeroMsg }, 0, false)
  else if r.kind = 1 ∧ 20 ≤ b.length then ({ r with count := readN (b.take 4), src := readN ((b.take 12).drop 4), dst := readN ((b.take 20).drop 12) }, 20, true)
  else if r.kind = 3 ∧ 4 ≤ b.length then ({ r with count := readN (b.take 4) }, 4, true)
  else (r, 0, false)
def hFields : Handler := fun args b r K => match args, b, r with
  | [.ptr 0 0, .d y], [c], [] => @nK _ (Rec.unbox c) ⟨fun x => @nK _ (cBytes.dec y) ⟨fun l => K (.ret (.tup [.d (.int .i64 ((fieldsF x l).2.1 : Nat)), .d (.bool (fieldsF x l).2.2)])) [(fieldsF x l).1.box] []⟩⟩
  | _, _, _ => False
theorem f_fields : HOk Tryz.prog 100 hFields := by
  refine HOk.runL [(126, .det hParse), (99, .det hValue)] (fun i => if i = 6 then [(0, (false, [])), (1, (false, [])), (2, (false, [])), (3, (false, [])), (4, (false, [])), (7, (false, [])), (8, (false, [])), (10, (false, [])), (11, (false, [])), (5, (true, [0, 1, 2, 3, 7, 8, 10, 11])), (6, (false, [])), (9, (true, [0, 1, 2, 3, 7, 10, 11, 6])), (12, (true, [0, 1, 2, 3, 7, 10, 6])), (13, (false, [])), (14, (false, [])), (15, (true, [1, 2, 7, 10, 13])), (16, (false, [])), (17, (false, [])), (18, (true, [2, 10, 16])), (19, (false, [])), (20, (true, [])), (21, (true, []))] else []) (by
    intro p hp
    simp only [List.mem_cons, List.not_mem_nil, or_false] at hp
    rcases hp with rfl | rfl
    · exact f_msgParse
    · exact f_streamValue) F.mixed Tryz.func100 (by kernel_rfl) rfl (by kernel_rfl) 76 Tryz.ntmps100 [.tmp 4, .tmp 5] Tryz.results100 (.inr (fun i => by simp)) ?_
  intro args b r K hl hs
  unfold hFields at hs
  split at hs
  case h_2 => exact hs.elim
  rename_i y c
  obtain ⟨x, hx, hs⟩ := nK_elim hs
  obtain ⟨l, hy, hK⟩ := nK_elim hs
  obtain rfl := Rec.unbox_inv hx
  obtain rfl := cBytes.ed _ _ hy
  obtain ⟨k, s, ct, f, t, ⟨m1, m2, m3, m4, m5, m6, m7, m8⟩, ch⟩ := x
  unfold fieldsF at hK
  simp only [Rec.box] at hK ⊢
  by_cases k2 : k = 2
  · subst k2
    simp only [if_true] at hK
    cases hp : parse1 l with
    | none =>
      rw [hp] at hK
      simp (config := { maxSteps := 4000000 }) only [hParse, hp, parseA, zeroMsg, Msg.enc, Int.reduceEq, eBs, cBs, F.fBs, Nat.reduceSub, Nat.reduceAdd, Nat.reduceLT, Nat.reduceEqDiff, Nat.reduceLeDiff, Nat.reduceMul, Nat.reduceBEq, Int.reduceToNat, Op.operands, if_true, if_false, reduceCtorEq, if_pos, forall_const, implies_true, eq_self, ne_eq, iff_self]
      refine vK_ret _ _ hK ?_
      simp only [zeroMsg, eBs, cBs, F.fBs, Nat.reduceSub, Nat.reduceAdd, Nat.reduceLT, Nat.reduceEqDiff, Nat.reduceLeDiff, Nat.reduceMul, Nat.reduceBEq, Int.reduceToNat, Op.operands, if_true, if_false, reduceCtorEq, if_pos, forall_const, implies_true, eq_self, ne_eq, iff_self] <;> simp [zeroMsg]
    | some q =>
      obtain ⟨m, n⟩ := q
      rw [hp] at hK
      simp (config := { maxSteps := 4000000 }) only [hParse, hp, parseA, zeroMsg, Msg.enc, Int.reduceEq, eBs, cBs, F.fBs, Nat.reduceSub, Nat.reduceAdd, Nat.reduceLT, Nat.reduceEqDiff, Nat.reduceLeDiff, Nat.reduceMul, Nat.reduceBEq, Int.reduceToNat, Op.operands, if_true, if_false, reduceCtorEq, if_pos, forall_const, implies_true, eq_self, ne_eq, iff_self]
      refine vK_ret _ _ hK ?_
      simp only [zeroMsg, eBs, cBs, F.fBs, Nat.reduceSub, Nat.reduceAdd, Nat.reduceLT, Nat.reduceEqDiff, Nat.reduceLeDiff, Nat.reduceMul, Nat.reduceBEq, Int.reduceToNat, Op.operands, if_true, if_false, reduceCtorEq, if_pos, forall_const, implies_true, eq_self, ne_eq, iff_self] <;> simp [zeroMsg]
  have e2 : (k = 2) = False := eq_false k2
  simp only [k2, if_false] at hK
  by_cases k1 : k = 1
  · subst k1
    by_cases h20 : 20 ≤ l.length
    · rw [if_pos ⟨rfl, h20⟩] at hK
      have e20 : (20 ≤ (l.length : Int)) = True := eq_true (by omega)
      have w4 : IntKind.i64.wrap (readN (l.take 4) : Int) = (readN (l.take 4) : Int) := by
        have := readN_lt' (l.take 4) 4 (by simp; omega)
        have h4 : (256 : Nat) ^ 4 = 4294967296 := rfl
        exact wrap_i64' (by omega) (by omega)
      have t4 : (l.take 4).length ≤ 8 := by simp; omega
      have t12 : ((l.take 12).drop 4).length ≤ 8 := by simp; omega
      have t20 : ((l.take 20).drop 12).length ≤ 8 := by simp; omega
      simp (config := { maxSteps := 4000000 }) only [e20, hValue, Int.reduceEq, w4, eBs, cBs, F.fBs, Nat.reduceSub, Nat.reduceAdd, Nat.reduceLT, Nat.reduceEqDiff, Nat.reduceLeDiff, Nat.reduceMul, Nat.reduceBEq, Int.reduceToNat, Op.operands, if_true, if_false, reduceCtorEq, if_pos, forall_const, implies_true, eq_self, ne_eq, iff_self]
      refine ⟨by omega, by omega, by omega, t4, ⟨by omega, by omega⟩, t12, by omega, t20, ?_⟩
      refine vK_ret _ _ hK ?_
      simp only [eBs, cBs, F.fBs, Nat.reduceSub, Nat.reduceAdd, Nat.reduceLT, Nat.reduceEqDiff, Nat.reduceLeDiff, Nat.reduceMul, Nat.reduceBEq, Int.reduceToNat, Op.operands, if_true, if_false, reduceCtorEq, if_pos, forall_const, implies_true, eq_self, ne_eq, iff_self] <;> simp
    · rw [if_neg (fun h => h20 h.2), if_neg (fun h => absurd h.1 (by decide))] at hK
      have e20 : (20 ≤ (l.length : Int)) = False := eq_false (by omega)
      simp (config := { maxSteps := 4000000 }) only [e20, hValue, Int.reduceEq, eBs, cBs, F.fBs, Nat.reduceSub, Nat.reduceAdd, Nat.reduceLT, Nat.reduceEqDiff, Nat.reduceLeDiff, Nat.reduceMul, Nat.reduceBEq, Int.reduceToNat, Op.operands, if_true, if_false, reduceCtorEq, if_pos, forall_const, implies_true, eq_self, ne_eq, iff_self]
      refine vK_ret _ _ hK ?_
      simp only [eBs, cBs, F.fBs, Nat.reduceSub, Nat.reduceAdd, Nat.reduceLT, Nat.reduceEqDiff, Nat.reduceLeDiff, Nat.reduceMul, Nat.reduceBEq, Int.reduceToNat, Op.operands, if_true, if_false, reduceCtorEq, if_pos, forall_const, implies_true, eq_self, ne_eq, iff_self] <;> simp
  have e1 : (k = 1) = False := eq_false k1
  rw [if_neg (fun h => k1 h.1)] at hK
  by_cases k3 : k = 3 ∧ 4 ≤ l.length
  · rw [if_pos k3] at hK
    obtain ⟨rfl, h4⟩ := k3
    have e4 : (4 ≤ (l.length : Int)) = True := eq_true (by omega)
    have w4 : IntKind.i64.wrap (readN (l.take 4) : Int) = (readN (l.take 4) : Int) := by
      have := readN_lt' (l.take 4) 4 (by simp; omega)
      have h4 : (256 : Nat) ^ 4 = 4294967296 := rfl
      exact wrap_i64' (by omega) (by omega)
    have t4 : (l.take 4).length ≤ 8 := by simp; omega
    simp (config := { maxSteps := 4000000 }) only [e4, hValue, Int.reduceEq, w4, eBs, cBs, F.fBs, Nat.reduceSub, Nat.reduceAdd, Nat.reduceLT, Nat.reduceEqDiff, Nat.reduceLeDiff, Nat.reduceMul, Nat.reduceBEq, Int.reduceToNat, Op.operands, if_true, if_false, reduceCtorEq, if_pos, forall_const, implies_true, eq_self, ne_eq, iff_self]
    refine ⟨by omega, t4, ?_⟩
    refine vK_ret _ _ hK ?_
    simp only [eBs, cBs, F.fBs, Nat.reduceSub, Nat.reduceAdd, Nat.reduceLT, Nat.reduceEqDiff, Nat.reduceLeDiff, Nat.reduceMul, Nat.reduceBEq, Int.reduceToNat, Op.operands, if_true, if_false, reduceCtorEq, if_pos, forall_const, implies_true, eq_self, ne_eq, iff_self] <;> simp
  · rw [if_neg k3] at hK
    have e3 : (decide (k = 3) && decide (4 ≤ (l.length : Int))) = false := by
      rw [Bool.eq_false_iff]
      intro h
      simp only [Bool.and_eq_true, decide_eq_true_eq] at h
      exact k3 ⟨h.1, by omega⟩
    simp (config := { maxSteps := 4000000 }) only [e1, e2, e3, hValue, Int.reduceEq, eBs, cBs, F.fBs, Nat.reduceSub, Nat.reduceAdd, Nat.reduceLT, Nat.reduceEqDiff, Nat.reduceLeDiff, Nat.reduceMul, Nat.reduceBEq, Int.reduceToNat, Op.operands, if_true, if_false, reduceCtorEq, if_pos, forall_const, implies_true, eq_self, ne_eq, iff_self]
    refine vK_ret _ _ hK ?_
    simp only [eBs, cBs, F.fBs, Nat.reduceSub, Nat.reduceAdd, Nat.reduceLT, Nat.reduceEqDiff, Nat.reduceLeDiff, Nat.reduceMul, Nat.reduceBEq, Int.reduceToNat, Op.operands, if_true, if_false, reduceCtorEq, if_pos, forall_const, implies_true, eq_self, ne_eq, iff_self] <;> simp
/-- A record read, and the number of its bytes. -/
def start (k s : Nat) : Rec := ⟨k, s, 0, 0, 0, ⟨0, [], [], [], [], [], [], 0⟩, 0⟩
def parse3 (b : List UInt8) : Rec × Nat × Bool → Option (Rec × Nat)
  | (r, n, ok) => if (!ok || decide (b.length < n + 5 + 8)) = true then none
    else if validR { r with check := readN ((b.take (n + 5 + 8)).drop (n + 5)) } = true then some ({ r with check := readN ((b.take (n + 5 + 8)).drop (n + 5)) }, n + 5 + 8) else none
def parseR (b : List UInt8) : Option (Rec × Nat) :=
  if b.length < 5 then none else parse3 b (fieldsF (start (b.getD 0 0).toNat (readN ((b.take 5).drop 1))) (b.drop 5))
def parseRA (o : Option (Rec × Nat)) : AV := match o with
  | some (r, n) => .tup [.d (.agg r.enc), .d (.int .i64 n), .d (.int .i64 0)]
  | none => .tup [.d (.agg zeroRec.enc), .d (.int .i64 0), .d (.int .i64 180)]
def hParseR : Det := det1 cBytes (fun b => b.length ≤ 100000000) fun b => parseRA (parseR b)
theorem fieldsF_le {r : Rec} {b : List UInt8} : (fieldsF r b).2.1 ≤ b.length := by
  unfold fieldsF
  split
  · split
    · rename_i m n h
      by_cases hb : b = []
      · subst hb
        exact absurd h (by simp [parse1, rdMsg, rdNum, rdTake, readN])
      · exact (parse1_pos h hb).2
    · exact Nat.zero_le _
  split
  · rename_i h; exact h.2
  split
  · rename_i h; exact h.2
  · exact Nat.zero_le _
theorem f_streamParse : FPure Tryz.prog 64 hParseR.spec := by
  refine FPure.runL [(99, .det hValue), (100, .mem hFields), (101, .det hValidR)] (fun i => if i = 3 then [(0, (false, [])), (1, (false, [])), (2, (false, [])), (3, (false, [])), (4, (false, [])), (5, (false, [])), (6, (false, [])), (7, (false, [])), (8, (false, [])), (9, (true, [0, 1, 2, 3, 4, 5, 6, 7, 8])), (10, (true, []))] else []) (by
    intro p hp
    simp only [List.mem_cons, List.not_mem_nil, or_false] at hp
    rcases hp with rfl | rfl | rfl
    · exact f_streamValue
    · exact f_fields
    · exact f_streamValid) F.mixed Tryz.func64 (by kernel_rfl) rfl (by kernel_rfl) 53 Tryz.ntmps64 [.cell 2 38, .tmp 3, .tmp 4] Tryz.results64 ?_
  intro ds K hl hs
  obtain ⟨b, rfl, la, hK⟩ := det1_elim hs
  have bcl : ∀ x : UInt8, byteCell x = [D.int .u8 x.toNat] := fun _ => rfl
  unfold parseR at hK
  by_cases h5 : b.length < 5
  · rw [if_pos h5] at hK
    have e5 : ((b.length : Int) < 5) = True := eq_true (by omega)
    simp (config := { maxSteps := 4000000 }) only [e5, eBs, cBs, F.fBs, Nat.reduceSub, Nat.reduceAdd, Nat.reduceLT, Nat.reduceEqDiff, Nat.reduceLeDiff, Nat.reduceMul, Nat.reduceBEq, Int.reduceToNat, Op.operands, if_true, if_false, reduceCtorEq, if_pos, forall_const, implies_true, eq_self, ne_eq, iff_self]
    exact hK
  rw [if_neg h5] at hK
  have e5 : ((b.length : Int) < 5) = False := eq_false (by omega)
  obtain ⟨x, hx⟩ : ∃ x, b[0]? = some x := ⟨_, List.getElem?_eq_getElem (show 0 < b.length by omega)⟩
  have hx0 : b.getD 0 0 = x := by simp [List.getD, hx]
  rw [hx0] at hK
  have hx1 := x.toNat_lt
  have wx : IntKind.i64.wrap (x.toNat : Int) = (x.toNat : Int) := wrap_i64' (by omega) (by omega)
  have t5 : ((b.take 5).drop 1).length ≤ 8 := by simp; omega
  have w4 : IntKind.i64.wrap (readN ((b.take 5).drop 1) : Int) = (readN ((b.take 5).drop 1) : Int) := by
    have := readN_lt' ((b.take 5).drop 1) 4 (by simp; omega)
    have h4 : (256 : Nat) ^ 4 = 4294967296 := rfl
    exact wrap_i64' (by omega) (by omega)
  simp (config := { maxSteps := 4000000 }) only [e5, bcl, hValue, w4, hFields, Rec.unbox_eq, eBs, cBs, F.fBs, Nat.reduceSub, Nat.reduceAdd, Nat.reduceLT, Nat.reduceEqDiff, Nat.reduceLeDiff, Nat.reduceMul, Nat.reduceBEq, Int.reduceToNat, Op.operands, if_true, if_false, reduceCtorEq, if_pos, forall_const, implies_true, eq_self, ne_eq, iff_self]
  refine ⟨⟨by omega, by omega⟩, ?_⟩
  refine eG_map _ _ _ _ _ _ ⟨fun _ => rfl, ?_⟩
  have gx : b.getD 0 default = x := by simp [List.getD, hx]
  have hqle := fieldsF_le (r := start x.toNat (readN ((b.take 5).drop 1))) (b := b.drop 5)
  unfold start at hK hqle
  obtain ⟨⟨⟨k, sq, ct, f, t, ⟨m1, m2, m3, m4, m5, m6, m7, m8⟩, ch⟩, n, ok⟩, hq⟩ : ∃ q, fieldsF ⟨(x.toNat : Nat), (readN ((b.take 5).drop 1) : Nat), 0, 0, 0, ⟨0, [], [], [], [], [], [], 0⟩, 0⟩ (b.drop 5) = q := ⟨_, rfl⟩
  rw [hq] at hK hqle
  simp only [List.length_drop] at hqle
  rw [parse3] at hK
  have w5 : IntKind.i64.wrap ((n : Int) + 5) = ((n + 5 : Nat) : Int) := by rw [wrap_i64' (by omega) (by omega)]; omega
  have w8 : IntKind.i64.wrap (((n + 5 : Nat) : Int) + 8) = ((n + 5 + 8 : Nat) : Int) := by rw [wrap_i64' (by omega) (by omega)]; omega
  have t8 : ((b.take (n + 5 + 8)).drop (n + 5)).length ≤ 8 := by simp; omega
  simp (config := { maxSteps := 4000000 }) only [gx, wx, e5, bcl, hValue, w4, w5, w8, hFields, Rec.unbox_eq, hq, Rec.box, hValidR, cRec_dec, Int.toNat_natCast, eBs, cBs, F.fBs, Nat.reduceSub, Nat.reduceAdd, Nat.reduceLT, Nat.reduceEqDiff, Nat.reduceLeDiff, Nat.reduceMul, Nat.reduceBEq, Int.reduceToNat, Op.operands, if_true, if_false, reduceCtorEq, if_pos, forall_const, implies_true, eq_self, ne_eq, iff_self]
  have hcell : ∀ x_1 : List D, (List.map byteCell b)[0]? = some x_1 → x_1.length = 1 ∧ AV.cptr x_1 = AV.cptr [D.int IntKind.u8 ↑x.toNat] := by
    intro y hy
    rw [List.getElem?_map, hx] at hy
    injection hy with hy
    subst hy
    exact ⟨rfl, rfl⟩
  have hlt : ((b.length : Int) < ((n + 5 + 8 : Nat) : Int)) = (b.length < n + 5 + 8) := propext (by omega)
  refine ⟨by omega, t5, ⟨⟨⟨by omega, by omega⟩, hcell⟩, by omega, t5⟩, by omega, fun h => ?_, fun h => ⟨?_, t8, fun hv => ?_, fun hv => ?_⟩⟩
  · simp only [hlt] at h
    rw [if_pos h] at hK
    exact hK
  · simp only [hlt, Bool.or_eq_false_iff, decide_eq_false_iff_not] at h
    omega
  · simp only [hlt] at h
    rw [if_neg (by rw [h]; decide), if_neg (by rw [hv]; decide)] at hK
    exact hK
  · simp only [hlt] at h
    rw [if_neg (by rw [h]; decide), if_pos hv] at hK
    exact hK
structure ParsedR where
  r : Rec
  n : Int
  e : Int
  deriving DecidableEq
def ParsedR.enc (p : ParsedR) : List D := p.r.enc ++ [.int .i64 p.n, .int .i64 p.e]
def parP (b : List UInt8) : ParsedR := match parseR b with
  | some (r, n) => ⟨r, n, 0⟩
  | none => ⟨zeroRec, 0, 180⟩
theorem parseRA_eq (b : List UInt8) : parseRA (parseR b) = .tup [.d (.agg (parP b).r.enc), .d (.int .i64 (parP b).n), .d (.int .i64 (parP b).e)] := by
  unfold parseRA parP
  cases parseR b <;> rfl
end Go.PE
