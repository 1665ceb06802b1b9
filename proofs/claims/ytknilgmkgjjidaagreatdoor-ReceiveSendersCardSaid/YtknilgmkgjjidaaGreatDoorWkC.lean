/- WkC: what the laws need of it. -/
import Derived.Test.YtknilgmkgjjidaaGreatDoorWkB
set_option linter.unusedVariables false
set_option linter.defProp false
set_option linter.all false
set_option linter.unusedSimpArgs false
set_option maxRecDepth 100000
set_option maxHeartbeats 4000000
namespace Go.PE
open Go Go.Proofs

structure Span where
  lo : List UInt8
  hi : List UInt8
  deriving DecidableEq, Inhabited
def Span.enc (s : Span) : List D := [.str s.lo, .str s.hi]
def Span.dec : List D → Option Span
  | [.str lo, .str hi] => some ⟨lo, hi⟩
  | _ => none
theorem Span.dec_ed (e : List D) (x : Span) (h : Span.dec e = some x) : e = x.enc := by
  unfold Span.dec at h
  split at h
  · injection h with h
    subst h
    rfl
  · cases h
def cSpan : Cod Span := cAgg Span.enc Span.dec (fun _ => rfl) Span.dec_ed
theorem cSpan_enc (s : Span) : cSpan.enc s = .agg [.str s.lo, .str s.hi] := rfl
theorem cSpan_dec (lo hi : List UInt8) : cSpan.dec (.agg [.str lo, .str hi]) = some ⟨lo, hi⟩ := rfl
theorem cMsg_enc8 (m : Msg) : cMsg.enc m = .agg [.int .i64 m.kind, .str m.key, .str m.value, .str m.lo, .str m.hi, .str m.fr, .str m.to, .int .i64 m.n] := rfl

def emptyB (lo hi : List UInt8) : Bool := decide ¬hi = [] && (Op.bytesLess hi lo || decide (hi = lo))
def hEmpty : Det := det1 cSpan (fun _ => True) fun s => .d (.bool (emptyB s.lo s.hi))
theorem f_02Empty : FPure Tryz.prog 128 hEmpty.spec := by
  refine FPure.runL [] (fun _ => []) (by simp) F.mixed Tryz.func128 (by kernel_rfl) rfl (by kernel_rfl) 13 Tryz.ntmps128 [.tmp 2] Tryz.results128 ?_
  intro ds K hl hs
  obtain ⟨s, rfl, -, hK⟩ := det1_elim hs
  simp only [cSpan_enc, eBs, cBs, F.fBs, Nat.reduceSub, Nat.reduceAdd, Nat.reduceLT, Nat.reduceEqDiff, Nat.reduceLeDiff, Nat.reduceMul, Nat.reduceBEq, Int.reduceToNat, Op.operands, if_true, if_false, reduceCtorEq, if_pos, forall_const, implies_true, eq_self, ne_eq, iff_self]
  exact hK
theorem f_spanEmpty : FPure Tryz.prog 145 hEmpty.spec := by
  refine FPure.runL [] (fun _ => []) (by simp) F.mixed Tryz.func145 (by kernel_rfl) rfl (by kernel_rfl) 13 Tryz.ntmps145 [.tmp 2] Tryz.results145 ?_
  intro ds K hl hs
  obtain ⟨s, rfl, -, hK⟩ := det1_elim hs
  simp only [cSpan_enc, eBs, cBs, F.fBs, Nat.reduceSub, Nat.reduceAdd, Nat.reduceLT, Nat.reduceEqDiff, Nat.reduceLeDiff, Nat.reduceMul, Nat.reduceBEq, Int.reduceToNat, Op.operands, if_true, if_false, reduceCtorEq, if_pos, forall_const, implies_true, eq_self, ne_eq, iff_self]
  exact hK

def beginsB (p k : List UInt8) : Bool := decide ((p.length : Int) ≤ k.length) && decide (k.take p.length = p)
def hBegins : Det := det2 cS cS (fun _ _ => True) fun k p => .d (.bool (beginsB p k))
theorem f_02Begins : FPure Tryz.prog 38 hBegins.spec := by
  refine FPure.runL [] (fun _ => []) (by simp) F.mixed Tryz.func38 (by kernel_rfl) rfl (by kernel_rfl) 18 Tryz.ntmps38 [.tmp 4] Tryz.results38 ?_
  intro ds K hl hs
  obtain ⟨k, p, rfl, -, hK⟩ := det2_elim hs
  simp only [eBs, cBs, F.fBs, Nat.reduceSub, Nat.reduceAdd, Nat.reduceLT, Nat.reduceEqDiff, Nat.reduceLeDiff, Nat.reduceMul, Nat.reduceBEq, Int.reduceToNat, Op.operands, if_true, if_false, reduceCtorEq, if_pos, forall_const, implies_true, eq_self, ne_eq, iff_self]
  exact ⟨fun h => ⟨h, by omega, by omega, h⟩, hK⟩
theorem f_hasPrefix0 : FPure Tryz.prog 310 hBegins.spec := by
  refine FPure.runL [] (fun _ => []) (by simp) F.mixed Tryz.func310 (by kernel_rfl) rfl (by kernel_rfl) 18 Tryz.ntmps310 [.tmp 4] Tryz.results310 ?_
  intro ds K hl hs
  obtain ⟨k, p, rfl, -, hK⟩ := det2_elim hs
  simp only [eBs, cBs, F.fBs, Nat.reduceSub, Nat.reduceAdd, Nat.reduceLT, Nat.reduceEqDiff, Nat.reduceLeDiff, Nat.reduceMul, Nat.reduceBEq, Int.reduceToNat, Op.operands, if_true, if_false, reduceCtorEq, if_pos, forall_const, implies_true, eq_self, ne_eq, iff_self]
  exact ⟨fun h => ⟨h, by omega, by omega, h⟩, hK⟩
theorem f_hasPrefix : FPure Tryz.prog 430 hBegins.spec := by
  refine FPure.runL [(310, .det hBegins)] (fun _ => []) (by
    intro p hp
    simp only [List.mem_cons, List.not_mem_nil, or_false] at hp
    subst hp
    exact f_hasPrefix0) F.mixed Tryz.func430 (by kernel_rfl) rfl (by kernel_rfl) 8 Tryz.ntmps430 [.tmp 4] Tryz.results430 ?_
  intro ds K hl hs
  obtain ⟨k, p, rfl, -, hK⟩ := det2_elim hs
  simp only [hBegins, eBs, cBs, F.fBs, Nat.reduceSub, Nat.reduceAdd, Nat.reduceLT, Nat.reduceEqDiff, Nat.reduceLeDiff, Nat.reduceMul, Nat.reduceBEq, Int.reduceToNat, Op.operands, if_true, if_false, reduceCtorEq, if_pos, forall_const, implies_true, eq_self, ne_eq, iff_self]
  exact hK

def spanB (lo hi : List UInt8) : Bool := !emptyB lo hi && (decide ((lo.length : Int) ≤ 65535) && decide ((hi.length : Int) ≤ 65535))
def hSpan : Det := det1 cSpan (fun _ => True) fun s => .d (.bool (spanB s.lo s.hi))
theorem f_05span : FPure Tryz.prog 103 hSpan.spec := by
  refine FPure.runL [(128, .det hEmpty)] (fun _ => []) (by
    intro p hp
    simp only [List.mem_cons, List.not_mem_nil, or_false] at hp
    subst hp
    exact f_02Empty) F.mixed Tryz.func103 (by kernel_rfl) rfl (by kernel_rfl) 18 Tryz.ntmps103 [.tmp 2] Tryz.results103 ?_
  intro ds K hl hs
  obtain ⟨s, rfl, -, hK⟩ := det1_elim hs
  simp only [hEmpty, cSpan_enc, cSpan_dec, eBs, cBs, F.fBs, Nat.reduceSub, Nat.reduceAdd, Nat.reduceLT, Nat.reduceEqDiff, Nat.reduceLeDiff, Nat.reduceMul, Nat.reduceBEq, Int.reduceToNat, Op.operands, if_true, if_false, reduceCtorEq, if_pos, forall_const, implies_true, eq_self, ne_eq, iff_self]
  exact hK
theorem f_msgEnds : FPure Tryz.prog 419 hSpan.spec := by
  refine FPure.runL [(145, .det hEmpty)] (fun _ => []) (by
    intro p hp
    simp only [List.mem_cons, List.not_mem_nil, or_false] at hp
    subst hp
    exact f_spanEmpty) F.mixed Tryz.func419 (by kernel_rfl) rfl (by kernel_rfl) 16 Tryz.ntmps419 [.tmp 2] Tryz.results419 ?_
  intro ds K hl hs
  obtain ⟨s, rfl, -, hK⟩ := det1_elim hs
  simp only [hEmpty, cSpan_enc, cSpan_dec, eBs, cBs, F.fBs, Nat.reduceSub, Nat.reduceAdd, Nat.reduceLT, Nat.reduceEqDiff, Nat.reduceLeDiff, Nat.reduceMul, Nat.reduceBEq, Int.reduceToNat, Op.operands, if_true, if_false, reduceCtorEq, if_pos, forall_const, implies_true, eq_self, ne_eq, iff_self]
  have e : decide (max (s.lo.length : Int) s.hi.length ≤ 65535) = (decide ((s.lo.length : Int) ≤ 65535) && decide ((s.hi.length : Int) ≤ 65535)) := by
    rw [← Bool.decide_and]; congr 1; exact propext (by omega)
  rw [e]
  exact hK
def apartB (a b : List UInt8) : Bool := inB a.length 1 200 && (inB b.length 1 200 && (!beginsB b a && !beginsB a b))
def hApart : Det := det2 cS cS (fun _ _ => True) fun a b => .d (.bool (apartB a b))
theorem f_msgApart : FPure Tryz.prog 427 hApart.spec := by
  refine FPure.runL [(389, .det h05in), (430, .det hBegins)] (fun _ => []) (by
    intro p hp
    simp only [List.mem_cons, List.not_mem_nil, or_false] at hp
    rcases hp with rfl | rfl
    · exact f_msgIn
    · exact f_hasPrefix) F.mixed Tryz.func427 (by kernel_rfl) rfl (by kernel_rfl) 25 Tryz.ntmps427 [.tmp 4] Tryz.results427 ?_
  intro ds K hl hs
  obtain ⟨a, b, rfl, -, hK⟩ := det2_elim hs
  simp only [h05in, hBegins, eBs, cBs, F.fBs, Nat.reduceSub, Nat.reduceAdd, Nat.reduceLT, Nat.reduceEqDiff, Nat.reduceLeDiff, Nat.reduceMul, Nat.reduceBEq, Int.reduceToNat, Op.operands, if_true, if_false, reduceCtorEq, if_pos, forall_const, implies_true, eq_self, ne_eq, iff_self]
  exact hK

def zeroMsg : Msg := ⟨0, [], [], [], [], [], [], 0⟩
/-- A valid message (E1). -/
def validB (m : Msg) : Bool :=
  let key := inB m.key.length 1 65535
  let stamp := inB m.n 0 1000000000
  if m.kind = 1 then key && (decide ((m.value.length : Int) ≤ 64) && (stamp && decide (m = { zeroMsg with kind := 1, key := m.key, value := m.value, n := m.n })))
  else if m.kind = 2 then key && decide (m = { zeroMsg with kind := 2, key := m.key })
  else if m.kind = 3 then spanB m.lo m.hi && decide (m = { zeroMsg with kind := 3, lo := m.lo, hi := m.hi })
  else if m.kind = 4 ∨ m.kind = 5 then apartB m.fr m.to && decide (m = { zeroMsg with kind := m.kind, fr := m.fr, to := m.to })
  else if m.kind = 6 then spanB m.lo m.hi && (stamp && decide (m = { zeroMsg with kind := 6, lo := m.lo, hi := m.hi, n := m.n }))
  else false
def hValid : Det := det1 cMsg (fun _ => True) fun m => .d (.bool (validB m))
theorem f_05Valid : FPure Tryz.prog 72 hValid.spec := by
  refine FPure.runL [(102, .det h05in), (103, .det hSpan), (38, .det hBegins)] (fun i => if i = 1 then [(0, (false, [])), (1, (false, [])), (2, (false, [])), (4, (false, [])), (5, (false, [])), (3, (true, [0, 1, 4, 5])), (6, (true, [0, 1, 4])), (7, (true, [4])), (8, (true, []))] else []) (by
    intro p hp
    simp only [List.mem_cons, List.not_mem_nil, or_false] at hp
    rcases hp with rfl | rfl | rfl
    · exact f_05in
    · exact f_05span
    · exact f_02Begins) F.mixed Tryz.func72 (by kernel_rfl) rfl (by kernel_rfl) 126 Tryz.ntmps72 [.tmp 2] Tryz.results72 ?_
  intro ds K hl hs
  obtain ⟨⟨kind, key, value, lo, hi, fr, to, n⟩, rfl, -, hK⟩ := det1_elim hs
  simp only [h05in, hSpan, hBegins, cMsg_enc8, cSpan_dec, eBs, cBs, F.fBs, Nat.reduceSub, Nat.reduceAdd, Nat.reduceLT, Nat.reduceEqDiff, Nat.reduceLeDiff, Nat.reduceMul, Nat.reduceBEq, Int.reduceToNat, Op.operands, if_true, if_false, reduceCtorEq, if_pos, forall_const, implies_true, eq_self, ne_eq, iff_self]
  have fin : ∀ b, validB ⟨kind, key, value, lo, hi, fr, to, n⟩ = b → K (Out.ret (.d (.bool b))) := fun b e => e ▸ hK
  clear hs hl hK
  have hk : kind = 1 ∨ kind = 2 ∨ kind = 3 ∨ kind = 4 ∨ kind = 5 ∨ kind = 6 ∨ (kind ≠ 1 ∧ kind ≠ 2 ∧ kind ≠ 3 ∧ kind ≠ 4 ∧ kind ≠ 5 ∧ kind ≠ 6) := by omega
  rcases hk with rfl | rfl | rfl | rfl | rfl | rfl | hk
  all_goals
    simp only [validB, zeroMsg, apartB, Msg.mk.injEq] at fin
    repeat' first
      | refine ⟨?_, ?_⟩
      | intro h
      | (exfalso; omega)
      | (refine fin _ ?_; simp [Bool.decide_and, Bool.and_assoc]; done)
      | (refine fin _ ?_; simp [Bool.decide_and, Bool.and_assoc]; ac_rfl)
      | (refine fin _ ?_; simp_all; done)
end Go.PE
