/- WkTd: what the laws need of it. -/
import Derived.Test.YtknilgmkgjjidaaGreatDoorWkTb
set_option linter.unusedVariables false
set_option linter.defProp false
set_option linter.all false
set_option linter.unusedSimpArgs false
set_option maxRecDepth 100000
set_option maxHeartbeats 4000000
namespace Go.PE
open Go Go.Proofs

def sesB (x : Inb) (r : Rec) : List AV := [.d (.bool x.op), .d (.bool x.done), .d (.int .i64 x.count), .d (.int .i64 x.next), .d (.int .u64 x.src), .d (.int .u64 x.dst), .d (.int .u64 x.check), .d (.list (x.msgs.map Msg.enc)),
  .d (.int .i64 r.kind), .d (.int .i64 r.seq), .d (.int .i64 r.count), .d (.int .u64 r.src), .d (.int .u64 r.dst), .d (.int .i64 r.msg.kind), .d (.str r.msg.key), .d (.str r.msg.value), .d (.str r.msg.lo), .d (.str r.msg.hi), .d (.str r.msg.fr), .d (.str r.msg.to), .d (.int .i64 r.msg.n), .d (.int .u64 r.check)]
def sesU : List AV → Option (Inb × Rec)
  | [.d (.bool o), .d (.bool e), .d (.int .i64 c), .d (.int .i64 n), .d (.int .u64 f), .d (.int .u64 t), .d (.int .u64 h), .d (.list es),
    .d (.int .i64 k), .d (.int .i64 s), .d (.int .i64 ct), .d (.int .u64 f'), .d (.int .u64 t'), .d (.int .i64 mk1), .d (.str a1), .d (.str a2), .d (.str a3), .d (.str a4), .d (.str a5), .d (.str a6), .d (.int .i64 n'), .d (.int .u64 ch)] =>
      (decL Msg.dec es).map fun l => (⟨o, e, c, n, f, t, h, l⟩, ⟨k, s, ct, f', t', ⟨mk1, a1, a2, a3, a4, a5, a6, n'⟩, ch⟩)
  | _ => none
theorem sesU_eq (o e : Bool) (c n f t h k s ct f' t' mk1 n' ch : Int) (l : List Msg) (a1 a2 a3 a4 a5 a6 : List UInt8) : sesU [.d (.bool o), .d (.bool e), .d (.int .i64 c), .d (.int .i64 n), .d (.int .u64 f), .d (.int .u64 t), .d (.int .u64 h), .d (.list (l.map Msg.enc)),
    .d (.int .i64 k), .d (.int .i64 s), .d (.int .i64 ct), .d (.int .u64 f'), .d (.int .u64 t'), .d (.int .i64 mk1), .d (.str a1), .d (.str a2), .d (.str a3), .d (.str a4), .d (.str a5), .d (.str a6), .d (.int .i64 n'), .d (.int .u64 ch)] =
      some (⟨o, e, c, n, f, t, h, l⟩, ⟨k, s, ct, f', t', ⟨mk1, a1, a2, a3, a4, a5, a6, n'⟩, ch⟩) := by
  simp only [sesU, decL_map (dec := Msg.dec) (enc := Msg.enc) (fun _ => rfl), Option.map_some]
theorem sesU_eq0 (o e : Bool) (c n f t h k s ct f' t' mk1 n' ch : Int) (a1 a2 a3 a4 a5 a6 : List UInt8) : sesU [.d (.bool o), .d (.bool e), .d (.int .i64 c), .d (.int .i64 n), .d (.int .u64 f), .d (.int .u64 t), .d (.int .u64 h), .d (.list []),
    .d (.int .i64 k), .d (.int .i64 s), .d (.int .i64 ct), .d (.int .u64 f'), .d (.int .u64 t'), .d (.int .i64 mk1), .d (.str a1), .d (.str a2), .d (.str a3), .d (.str a4), .d (.str a5), .d (.str a6), .d (.int .i64 n'), .d (.int .u64 ch)] =
      some (⟨o, e, c, n, f, t, h, []⟩, ⟨k, s, ct, f', t', ⟨mk1, a1, a2, a3, a4, a5, a6, n'⟩, ch⟩) := rfl
theorem sesU_inv {cs : List AV} {x : Inb} {r : Rec} (h : sesU cs = some (x, r)) : cs = sesB x r := by
  unfold sesU at h
  split at h
  · simp only [Option.map_eq_some_iff, Prod.mk.injEq] at h
    obtain ⟨l, hl, rfl, rfl⟩ := h
    simp only [sesB, decL_inv Msg.dec_ed hl]
  · cases h
/-- A method of a session that looks, and answers. -/
def hSes (p : Inb → Rec → Prop) (f : Inb → Rec → AV) : Handler := fun args b r K => match args, b, r with
  | [.ptr 0 0], [cs], [] => @nK _ (sesU cs) ⟨fun q => p q.1 q.2 ∧ K (.ret (f q.1 q.2)) [cs] []⟩
  | _, _, _ => False
theorem hSes_eq (p : Inb → Rec → Prop) (f : Inb → Rec → AV) (cs : List AV) (K : Out → List (List AV) → List Arr → Prop) : hSes p f [.ptr 0 0] [cs] [] K = @nK _ (sesU cs) ⟨fun q => p q.1 q.2 ∧ K (.ret (f q.1 q.2)) [cs] []⟩ := rfl
theorem hSes_elim {p : Inb → Rec → Prop} {f : Inb → Rec → AV} {args : List AV} {b : List (List AV)} {r : List Arr} {K : Out → List (List AV) → List Arr → Prop} (h : hSes p f args b r K) :
    ∃ x y, args = [.ptr 0 0] ∧ b = [sesB x y] ∧ r = [] ∧ p x y ∧ K (.ret (f x y)) [sesB x y] [] := by
  unfold hSes at h
  split at h
  · obtain ⟨⟨x, y⟩, hx, hp, hK⟩ := nK_elim h
    obtain rfl := sesU_inv hx
    exact ⟨x, y, rfl, rfl, rfl, hp, hK⟩
  · exact h.elim
/-- A closure over a session. -/
def hSesC (p : Inb → Rec → Prop) (f : Inb → Rec → AV) : Handler := fun args b r K => match args, b, r with
  | [.ptr 0 0], [[.ptr 1 0], cs], [] => @nK _ (sesU cs) ⟨fun q => p q.1 q.2 ∧ K (.ret (f q.1 q.2)) [[.ptr 1 0], cs] []⟩
  | _, _, _ => False
theorem hSesC_eq (p : Inb → Rec → Prop) (f : Inb → Rec → AV) (cs : List AV) (K : Out → List (List AV) → List Arr → Prop) : hSesC p f [.ptr 0 0] [[.ptr 1 0], cs] [] K = @nK _ (sesU cs) ⟨fun q => p q.1 q.2 ∧ K (.ret (f q.1 q.2)) [[.ptr 1 0], cs] []⟩ := rfl
theorem hSesC_elim {p : Inb → Rec → Prop} {f : Inb → Rec → AV} {args : List AV} {b : List (List AV)} {r : List Arr} {K : Out → List (List AV) → List Arr → Prop} (h : hSesC p f args b r K) :
    ∃ x y, args = [.ptr 0 0] ∧ b = [[.ptr 1 0], sesB x y] ∧ r = [] ∧ p x y ∧ K (.ret (f x y)) [[.ptr 1 0], sesB x y] [] := by
  unfold hSesC at h
  split at h
  · obtain ⟨⟨x, y⟩, hx, hp, hK⟩ := nK_elim h
    obtain rfl := sesU_inv hx
    exact ⟨x, y, rfl, rfl, rfl, hp, hK⟩
  · exact h.elim
def endF (x : Inb) (r : Rec) : Bool := decide (r.kind = 3) && decide (r.count = x.count)
def hEnd : Handler := hSes (fun _ _ => True) fun x r => .d (.bool (endF x r))
theorem f_recvEnd : HOk Tryz.prog 66 hEnd := by
  refine HOk.runL [] (fun i => if i = 1 then [(0, (true, [])), (1, (true, [])), (2, (false, [])), (3, (false, [])), (4, (false, [])), (5, (false, [])), (6, (false, [])), (7, (false, [])), (8, (false, [])), (9, (false, [])), (10, (false, [])), (11, (false, [])), (12, (false, [])), (13, (false, [])), (14, (false, [])), (15, (false, [])), (16, (false, [])), (17, (false, [])), (18, (false, [])), (19, (true, []))] else []) (by simp) F.mixed Tryz.func66 (by kernel_rfl) rfl (by kernel_rfl) 22 Tryz.ntmps66 [.tmp 2] Tryz.results66 (.inr (fun i => by simp)) ?_
  intro args b r K hl hs
  obtain ⟨x, y, rfl, rfl, rfl, -, hK⟩ := hSes_elim hs
  unfold endF at hK
  unfold sesB at hK ⊢
  simp (config := { maxSteps := 4000000 }) only [eBs, cBs, F.fBs, Nat.reduceSub, Nat.reduceAdd, Nat.reduceLT, Nat.reduceEqDiff, Nat.reduceLeDiff, Nat.reduceMul, Nat.reduceBEq, Int.reduceToNat, Op.operands, if_true, if_false, reduceCtorEq, if_pos, forall_const, implies_true, eq_self, ne_eq, iff_self]
  refine vK_ret _ _ hK ?_
  simp only [eBs, cBs, F.fBs, Nat.reduceSub, Nat.reduceAdd, Nat.reduceLT, Nat.reduceEqDiff, Nat.reduceLeDiff, Nat.reduceMul, Nat.reduceBEq, Int.reduceToNat, Op.operands, if_true, if_false, reduceCtorEq, if_pos, forall_const, implies_true, eq_self, ne_eq, iff_self] <;> simp
def hFits : Handler := hSes (fun _ _ => True) fun x r => .d (.bool (fitsF x r))
theorem f_recvFits : HOk Tryz.prog 69 hFits := by
  refine HOk.runL [(66, .mem hEnd)] (fun i => if i = 1 then [(0, (false, [])), (1, (false, [])), (2, (false, [])), (3, (false, [])), (4, (false, [])), (5, (false, [])), (6, (false, [])), (7, (false, [])), (8, (false, [])), (9, (false, [])), (10, (false, []))] else []) (by
    intro p hp
    simp only [List.mem_cons, List.not_mem_nil, or_false] at hp
    subst hp
    exact f_recvEnd) F.mixed Tryz.func69 (by kernel_rfl) rfl (by kernel_rfl) 22 Tryz.ntmps69 [.tmp 2] Tryz.results69 (.inr (fun i => by simp)) ?_
  intro args b r K hl hs
  obtain ⟨x, y, rfl, rfl, rfl, -, hK⟩ := hSes_elim hs
  unfold fitsF at hK
  unfold sesB at hK ⊢
  simp (config := { maxSteps := 4000000 }) only [hEnd, hSes_eq, sesU_eq, Inb.eta, endF, eBs, cBs, F.fBs, Nat.reduceSub, Nat.reduceAdd, Nat.reduceLT, Nat.reduceEqDiff, Nat.reduceLeDiff, Nat.reduceMul, Nat.reduceBEq, Int.reduceToNat, Op.operands, if_true, if_false, reduceCtorEq, if_pos, forall_const, implies_true, eq_self, ne_eq, iff_self]
  refine ⟨fun h => ?_, fun h => ?_⟩
  · rw [if_pos h] at hK
    refine vK_ret _ _ hK ?_
    simp only [eBs, cBs, F.fBs, Nat.reduceSub, Nat.reduceAdd, Nat.reduceLT, Nat.reduceEqDiff, Nat.reduceLeDiff, Nat.reduceMul, Nat.reduceBEq, Int.reduceToNat, Op.operands, if_true, if_false, reduceCtorEq, if_pos, forall_const, implies_true, eq_self, ne_eq, iff_self] <;> simp
  · rw [if_neg h] at hK
    refine vK_ret _ _ hK ?_
    simp only [eBs, cBs, F.fBs, Nat.reduceSub, Nat.reduceAdd, Nat.reduceLT, Nat.reduceEqDiff, Nat.reduceLeDiff, Nat.reduceMul, Nat.reduceBEq, Int.reduceToNat, Op.operands, if_true, if_false, reduceCtorEq, if_pos, forall_const, implies_true, eq_self, ne_eq, iff_self] <;> simp
def hFollows : Handler := hSes (fun x r => okR1 r ∧ u64P x.check) fun x r => .d (.bool (decide (r.check = (nextN x.check.toNat r : Nat))))
theorem f_recvFollows : HOk Tryz.prog 71 hFollows := by
  refine HOk.runL [(18, .det hNext)] (fun i => if i = 1 then [(0, (false, [])), (1, (false, [])), (2, (false, [])), (3, (false, [])), (4, (false, [])), (5, (false, [])), (6, (false, [])), (7, (false, [])), (8, (false, [])), (9, (false, [])), (10, (false, [])), (11, (false, [])), (12, (false, [])), (13, (false, [])), (14, (true, [0, 1, 2, 3, 4, 5, 6, 7, 8, 10, 11, 12])), (15, (false, [])), (16, (true, []))] else []) (by
    intro p hp
    simp only [List.mem_cons, List.not_mem_nil, or_false] at hp
    subst hp
    exact f_streamNext) F.mixed Tryz.func71 (by kernel_rfl) rfl (by kernel_rfl) 19 Tryz.ntmps71 [.tmp 2] Tryz.results71 (.inr (fun i => by simp)) ?_
  intro args b r K hl hs
  obtain ⟨x, y, rfl, rfl, rfl, ⟨ho, hc⟩, hK⟩ := hSes_elim hs
  unfold sesB at hK ⊢
  simp (config := { maxSteps := 4000000 }) only [hNext, cRec_dec, Rec.eta, eBs, cBs, F.fBs, Nat.reduceSub, Nat.reduceAdd, Nat.reduceLT, Nat.reduceEqDiff, Nat.reduceLeDiff, Nat.reduceMul, Nat.reduceBEq, Int.reduceToNat, Op.operands, if_true, if_false, reduceCtorEq, if_pos, forall_const, implies_true, eq_self, ne_eq, iff_self]
  refine ⟨⟨hc, ho⟩, ?_⟩
  refine vK_ret _ _ hK ?_
  simp only [eBs, cBs, F.fBs, Nat.reduceSub, Nat.reduceAdd, Nat.reduceLT, Nat.reduceEqDiff, Nat.reduceLeDiff, Nat.reduceMul, Nat.reduceBEq, Int.reduceToNat, Op.operands, if_true, if_false, reduceCtorEq, if_pos, forall_const, implies_true, eq_self, ne_eq, iff_self] <;> simp
def hCheck1 : Handler := hSesC (fun _ _ => True) fun x r => .tup [.d (.bool (decide (r.seq ≤ x.next) && !x.done)), .d (.int .i64 190)]
theorem f_recvChecks1 : HOk Tryz.prog 67 hCheck1 := by
  refine HOk.runL [] (fun i => if i = 1 then [(0, (false, [])), (1, (false, [])), (2, (false, [])), (3, (false, [])), (4, (false, [])), (5, (false, [])), (6, (false, [])), (7, (false, [])), (8, (false, [])), (9, (false, [])), (10, (false, [])), (11, (false, [])), (12, (false, [])), (13, (false, [])), (14, (false, [])), (15, (false, [])), (16, (false, [])), (17, (false, [])), (18, (false, [])), (19, (true, [])), (20, (true, []))] else []) (by simp) F.mixed Tryz.func67 (by kernel_rfl) rfl (by kernel_rfl) 22 Tryz.ntmps67 [.tmp 1, .tmp 2] Tryz.results67 (.inr (fun i => by simp)) ?_
  intro args b r K hl hs
  obtain ⟨x, y, rfl, rfl, rfl, -, hK⟩ := hSesC_elim hs
  unfold sesB at hK ⊢
  simp (config := { maxSteps := 4000000 }) only [eBs, cBs, F.fBs, Nat.reduceSub, Nat.reduceAdd, Nat.reduceLT, Nat.reduceEqDiff, Nat.reduceLeDiff, Nat.reduceMul, Nat.reduceBEq, Int.reduceToNat, Op.operands, if_true, if_false, reduceCtorEq, if_pos, forall_const, implies_true, eq_self, ne_eq, iff_self]
  refine vK_ret _ _ hK ?_
  simp only [eBs, cBs, F.fBs, Nat.reduceSub, Nat.reduceAdd, Nat.reduceLT, Nat.reduceEqDiff, Nat.reduceLeDiff, Nat.reduceMul, Nat.reduceBEq, Int.reduceToNat, Op.operands, if_true, if_false, reduceCtorEq, if_pos, forall_const, implies_true, eq_self, ne_eq, iff_self] <;> simp
def hCheck2 : Handler := hSesC (fun _ _ => True) fun x r => .tup [.d (.bool (!x.op || fitsF x r)), .d (.int .i64 192)]
theorem f_recvChecks2 : HOk Tryz.prog 68 hCheck2 := by
  refine HOk.runL [(69, .mem hFits)] (fun _ => []) (by
    intro p hp
    simp only [List.mem_cons, List.not_mem_nil, or_false] at hp
    subst hp
    exact f_recvFits) F.mixed Tryz.func68 (by kernel_rfl) rfl (by kernel_rfl) 13 Tryz.ntmps68 [.tmp 1, .tmp 2] Tryz.results68 (.inr (fun i => by simp)) ?_
  intro args b r K hl hs
  obtain ⟨⟨o, e, c, n, f, t, h, l⟩, y, rfl, rfl, rfl, -, hK⟩ := hSesC_elim hs
  unfold sesB at hK ⊢
  cases o <;> simp (config := { maxSteps := 4000000 }) only [hFits, hSes_eq, sesU_eq, Rec.eta, eBs, cBs, F.fBs, Nat.reduceSub, Nat.reduceAdd, Nat.reduceLT, Nat.reduceEqDiff, Nat.reduceLeDiff, Nat.reduceMul, Nat.reduceBEq, Int.reduceToNat, Op.operands, if_true, if_false, reduceCtorEq, if_pos, forall_const, implies_true, eq_self, ne_eq, iff_self] at hK ⊢
  · refine vK_ret _ _ hK ?_
    simp only [eBs, cBs, F.fBs, Nat.reduceSub, Nat.reduceAdd, Nat.reduceLT, Nat.reduceEqDiff, Nat.reduceLeDiff, Nat.reduceMul, Nat.reduceBEq, Int.reduceToNat, Op.operands, if_true, if_false, reduceCtorEq, if_pos, forall_const, implies_true, eq_self, ne_eq, iff_self] <;> simp
  · refine vK_ret _ _ hK ?_
    simp only [eBs, cBs, F.fBs, Nat.reduceSub, Nat.reduceAdd, Nat.reduceLT, Nat.reduceEqDiff, Nat.reduceLeDiff, Nat.reduceMul, Nat.reduceBEq, Int.reduceToNat, Op.operands, if_true, if_false, reduceCtorEq, if_pos, forall_const, implies_true, eq_self, ne_eq, iff_self] <;> simp
def hCheck3 : Handler := hSesC (fun x r => okR1 r ∧ u64P x.check) fun x r => .tup [.d (.bool (decide (r.check = (nextN x.check.toNat r : Nat)))), .d (.int .i64 192)]
theorem f_recvChecks3 : HOk Tryz.prog 70 hCheck3 := by
  refine HOk.runL [(71, .mem hFollows)] (fun _ => []) (by
    intro p hp
    simp only [List.mem_cons, List.not_mem_nil, or_false] at hp
    subst hp
    exact f_recvFollows) F.mixed Tryz.func70 (by kernel_rfl) rfl (by kernel_rfl) 5 Tryz.ntmps70 [.tmp 1, .tmp 2] Tryz.results70 (.inr (fun i => by simp)) ?_
  intro args b r K hl hs
  obtain ⟨x, y, rfl, rfl, rfl, ho, hK⟩ := hSesC_elim hs
  unfold sesB at hK ⊢
  simp (config := { maxSteps := 4000000 }) only [hFollows, hSes_eq, sesU_eq, Rec.eta, Inb.eta, eBs, cBs, F.fBs, Nat.reduceSub, Nat.reduceAdd, Nat.reduceLT, Nat.reduceEqDiff, Nat.reduceLeDiff, Nat.reduceMul, Nat.reduceBEq, Int.reduceToNat, Op.operands, if_true, if_false, reduceCtorEq, if_pos, forall_const, implies_true, eq_self, ne_eq, iff_self]
  refine ⟨ho, ?_⟩
  refine vK_ret _ _ hK ?_
  simp only [eBs, cBs, F.fBs, Nat.reduceSub, Nat.reduceAdd, Nat.reduceLT, Nat.reduceEqDiff, Nat.reduceLeDiff, Nat.reduceMul, Nat.reduceBEq, Int.reduceToNat, Op.operands, if_true, if_false, reduceCtorEq, if_pos, forall_const, implies_true, eq_self, ne_eq, iff_self] <;> simp
def errA (e : Int) : AV := if e = 0 then .d .nilI else .d (.iface 39 (.int .i64 e))
def checksF (x : Inb) (r : Rec) : Int := if (decide (r.seq ≤ x.next) && !x.done) = false then 190 else if (!x.op || fitsF x r) = false then 192 else if r.check = (nextN x.check.toNat r : Nat) then 0 else 192
def hChecks : Handler := hSes (fun x r => okR1 r ∧ u64P x.check) fun x r => errA (checksF x r)
theorem f_recvChecks : HOk Tryz.prog 42 hChecks := by
  refine HOk.runL [(67, .mem hCheck1), (68, .mem hCheck2), (70, .mem hCheck3)] (fun _ => []) (by
    intro p hp
    simp only [List.mem_cons, List.not_mem_nil, or_false] at hp
    rcases hp with rfl | rfl | rfl
    · exact f_recvChecks1
    · exact f_recvChecks2
    · exact f_recvChecks3) F.mixed Tryz.func42 (by kernel_rfl) rfl (by kernel_rfl) 26 Tryz.ntmps42 [.tmp 2] Tryz.results42 (.inr (fun i => by simp)) ?_
  intro args b r K hl hs
  obtain ⟨x, y, rfl, rfl, rfl, ⟨ho, hc⟩, hK⟩ := hSes_elim hs
  unfold checksF at hK
  unfold sesB at hK ⊢
  simp (config := { maxSteps := 4000000 }) only [eBs, cBs, F.fBs, Nat.reduceSub, Nat.reduceAdd, Nat.reduceLT, Nat.reduceEqDiff, Nat.reduceLeDiff, Nat.reduceMul, Nat.reduceBEq, Int.reduceToNat, Op.operands, if_true, if_false, reduceCtorEq, if_pos, forall_const, implies_true, eq_self, ne_eq, iff_self]
  refine eK_unroll 4 ?_
  have n3 : ((3 : Nat) : Int) = 3 := rfl
  have w1 : IntKind.i64.wrap (0 + 1) = 1 := by decide
  have w2 : IntKind.i64.wrap (1 + 1) = 2 := by decide
  have w3 : IntKind.i64.wrap (2 + 1) = 3 := by decide
  cases h1 : (decide (y.seq ≤ x.next) && !x.done) with
  | false =>
    rw [h1, if_pos rfl, errA, if_neg (by decide)] at hK
    simp (config := { maxSteps := 4000000 }) only [hCheck1, hSesC_eq, sesU_eq, Inb.eta, Rec.eta, h1, w1, w2, w3, n3, Int.reduceLT, Int.reduceLE, eBs, cBs, F.fBs, Nat.reduceSub, Nat.reduceAdd, Nat.reduceLT, Nat.reduceEqDiff, Nat.reduceLeDiff, Nat.reduceMul, Nat.reduceBEq, Int.reduceToNat, Op.operands, if_true, if_false, reduceCtorEq, if_pos, forall_const, implies_true, eq_self, ne_eq, iff_self]
    refine vK_ret _ _ hK ?_
    simp only [eBs, cBs, F.fBs, Nat.reduceSub, Nat.reduceAdd, Nat.reduceLT, Nat.reduceEqDiff, Nat.reduceLeDiff, Nat.reduceMul, Nat.reduceBEq, Int.reduceToNat, Op.operands, if_true, if_false, reduceCtorEq, if_pos, forall_const, implies_true, eq_self, ne_eq, iff_self] <;> simp [errA]
  | true =>
    rw [h1, if_neg (by decide)] at hK
    cases h2 : (!x.op || fitsF x y) with
    | false =>
      rw [h2, if_pos rfl, errA, if_neg (by decide)] at hK
      simp (config := { maxSteps := 4000000 }) only [hCheck1, hCheck2, hSesC_eq, sesU_eq, Inb.eta, Rec.eta, h1, h2, w1, w2, w3, n3, Int.reduceLT, Int.reduceLE, eBs, cBs, F.fBs, Nat.reduceSub, Nat.reduceAdd, Nat.reduceLT, Nat.reduceEqDiff, Nat.reduceLeDiff, Nat.reduceMul, Nat.reduceBEq, Int.reduceToNat, Op.operands, if_true, if_false, reduceCtorEq, if_pos, forall_const, implies_true, eq_self, ne_eq, iff_self]
      refine vK_ret _ _ hK ?_
      simp only [eBs, cBs, F.fBs, Nat.reduceSub, Nat.reduceAdd, Nat.reduceLT, Nat.reduceEqDiff, Nat.reduceLeDiff, Nat.reduceMul, Nat.reduceBEq, Int.reduceToNat, Op.operands, if_true, if_false, reduceCtorEq, if_pos, forall_const, implies_true, eq_self, ne_eq, iff_self] <;> simp [errA]
    | true =>
      rw [h2, if_neg (by decide)] at hK
      by_cases h3 : y.check = (nextN x.check.toNat y : Nat)
      · have h3' := eq_true h3
        rw [if_pos h3, errA, if_pos rfl] at hK
        simp (config := { maxSteps := 4000000 }) only [hCheck1, hCheck2, hCheck3, hSesC_eq, sesU_eq, Inb.eta, Rec.eta, h1, h2, h3', w1, w2, w3, n3, Int.reduceLT, Int.reduceLE, eBs, cBs, F.fBs, Nat.reduceSub, Nat.reduceAdd, Nat.reduceLT, Nat.reduceEqDiff, Nat.reduceLeDiff, Nat.reduceMul, Nat.reduceBEq, Int.reduceToNat, Op.operands, if_true, if_false, reduceCtorEq, if_pos, forall_const, implies_true, eq_self, ne_eq, iff_self]
        refine ⟨⟨ho, hc⟩, ?_⟩
        refine vK_ret _ _ hK ?_
        simp only [eBs, cBs, F.fBs, Nat.reduceSub, Nat.reduceAdd, Nat.reduceLT, Nat.reduceEqDiff, Nat.reduceLeDiff, Nat.reduceMul, Nat.reduceBEq, Int.reduceToNat, Op.operands, if_true, if_false, reduceCtorEq, if_pos, forall_const, implies_true, eq_self, ne_eq, iff_self] <;> simp [errA]
      · have h3' := eq_false h3
        rw [if_neg h3, errA, if_neg (by decide)] at hK
        simp (config := { maxSteps := 4000000 }) only [hCheck1, hCheck2, hCheck3, hSesC_eq, sesU_eq, Inb.eta, Rec.eta, h1, h2, h3', w1, w2, w3, n3, Int.reduceLT, Int.reduceLE, eBs, cBs, F.fBs, Nat.reduceSub, Nat.reduceAdd, Nat.reduceLT, Nat.reduceEqDiff, Nat.reduceLeDiff, Nat.reduceMul, Nat.reduceBEq, Int.reduceToNat, Op.operands, if_true, if_false, reduceCtorEq, if_pos, forall_const, implies_true, eq_self, ne_eq, iff_self]
        refine ⟨⟨ho, hc⟩, ?_⟩
        refine vK_ret _ _ hK ?_
        simp only [eBs, cBs, F.fBs, Nat.reduceSub, Nat.reduceAdd, Nat.reduceLT, Nat.reduceEqDiff, Nat.reduceLeDiff, Nat.reduceMul, Nat.reduceBEq, Int.reduceToNat, Op.operands, if_true, if_false, reduceCtorEq, if_pos, forall_const, implies_true, eq_self, ne_eq, iff_self] <;> simp [errA]
def hLike : Handler := hSes (fun x r => okI x ∧ x.op = true ∧ i31P r.seq ∧ r.seq < x.next) fun x r => .d (.bool (likeF x r))
theorem f_recvLike : HOk Tryz.prog 41 hLike := by
  refine HOk.runL [(66, .mem hEnd)] (fun i => if i = 4 then [(0, (false, [])), (1, (false, [])), (2, (false, [])), (3, (false, [])), (4, (false, [])), (5, (false, [])), (6, (false, [])), (7, (false, [])), (8, (false, [])), (9, (false, [])), (10, (false, [])), (11, (false, [])), (12, (false, [])), (13, (false, [])), (14, (false, [])), (15, (false, [])), (16, (false, [])), (17, (false, [])), (18, (false, [])), (19, (false, [])), (20, (false, [])), (21, (false, [])), (22, (false, [])), (23, (false, [])), (24, (false, [])), (25, (false, [])), (26, (false, [])), (27, (false, [])), (28, (true, []))] else if i = 5 then [(0, (false, [])), (1, (false, [])), (2, (false, [])), (3, (false, [])), (4, (false, [])), (5, (false, [])), (6, (false, [])), (7, (false, [])), (8, (true, [0, 1, 2, 3, 4, 5, 6]))] else if i = 6 then [(0, (true, [])), (1, (true, [])), (2, (false, [])), (3, (false, [])), (4, (false, [])), (5, (false, [])), (6, (false, [])), (7, (false, [])), (8, (false, [])), (9, (false, [])), (10, (false, [])), (11, (false, [])), (12, (false, [])), (13, (false, [])), (14, (false, [])), (15, (false, [])), (16, (false, [])), (17, (false, [])), (18, (true, []))] else []) (by
    intro p hp
    simp only [List.mem_cons, List.not_mem_nil, or_false] at hp
    subst hp
    exact f_recvEnd) F.mixed Tryz.func41 (by kernel_rfl) rfl (by kernel_rfl) 69 Tryz.ntmps41 [.tmp 2] Tryz.results41 (.inr (fun i => by simp)) ?_
  intro args b r K hl hs
  obtain ⟨x, y, rfl, rfl, rfl, ⟨hx, hop, hsq, hlt⟩, hK⟩ := hSes_elim hs
  obtain ⟨hc, hn1, hn2, hdn, hml⟩ := hx.open_ hop
  have hs0 := hsq.1
  unfold likeF at hK
  unfold sesB at hK ⊢
  by_cases h0 : y.seq = 0
  · have h0' := eq_true h0
    rw [if_pos h0] at hK
    simp (config := { maxSteps := 4000000 }) only [h0', eBs, cBs, F.fBs, Nat.reduceSub, Nat.reduceAdd, Nat.reduceLT, Nat.reduceEqDiff, Nat.reduceLeDiff, Nat.reduceMul, Nat.reduceBEq, Int.reduceToNat, Op.operands, if_true, if_false, reduceCtorEq, if_pos, forall_const, implies_true, eq_self, ne_eq, iff_self]
    refine vK_ret _ _ hK ?_
    simp only [eBs, cBs, F.fBs, Nat.reduceSub, Nat.reduceAdd, Nat.reduceLT, Nat.reduceEqDiff, Nat.reduceLeDiff, Nat.reduceMul, Nat.reduceBEq, Int.reduceToNat, Op.operands, if_true, if_false, reduceCtorEq, if_pos, forall_const, implies_true, eq_self, ne_eq, iff_self] <;> simp
  have h0' := eq_false h0
  rw [if_neg h0] at hK
  by_cases h1 : y.seq ≤ x.count
  · have h1' := eq_true h1
    rw [if_pos h1] at hK
    have hw : IntKind.i64.wrap (y.seq - 1) = ((y.seq - 1).toNat : Nat) := by rw [wrap_i64' (by have := hsq.2; omega) (by have := hsq.2; omega)]; omega
    have hlt2 : (y.seq - 1).toNat < x.msgs.length := by omega
    have hg : x.msgs[(y.seq - 1).toNat]? = some (x.msgs.getD (y.seq - 1).toNat default) := by
      rw [List.getD_eq_getElem?_getD, List.getElem?_eq_getElem hlt2]
      rfl
    generalize hm : x.msgs.getD (y.seq - 1).toNat default = m at hK hg
    generalize (y.seq - 1).toNat = j at hw hlt2 hg hm
    rw [← Msg.eqB] at hK
    simp (config := { maxSteps := 4000000 }) only [h0', h1', hw, eBs, cBs, F.fBs, Nat.reduceSub, Nat.reduceAdd, Nat.reduceLT, Nat.reduceEqDiff, Nat.reduceLeDiff, Nat.reduceMul, Nat.reduceBEq, Int.reduceToNat, Op.operands, if_true, if_false, reduceCtorEq, if_pos, forall_const, implies_true, eq_self, ne_eq, iff_self]
    refine ⟨fun h => ⟨h, by omega, by omega⟩, ?_⟩
    refine eG_map _ _ _ _ _ _ ⟨fun _ => rfl, ?_⟩
    simp (config := { maxSteps := 4000000 }) only [hm, Msg.enc, eBs, cBs, F.fBs, Nat.reduceSub, Nat.reduceAdd, Nat.reduceLT, Nat.reduceEqDiff, Nat.reduceLeDiff, Nat.reduceMul, Nat.reduceBEq, Int.reduceToNat, Op.operands, if_true, if_false, reduceCtorEq, if_pos, forall_const, implies_true, eq_self, ne_eq, iff_self]
    refine vK_ret _ _ hK ?_
    simp only [eBs, cBs, F.fBs, Nat.reduceSub, Nat.reduceAdd, Nat.reduceLT, Nat.reduceEqDiff, Nat.reduceLeDiff, Nat.reduceMul, Nat.reduceBEq, Int.reduceToNat, Op.operands, if_true, if_false, reduceCtorEq, if_pos, forall_const, implies_true, eq_self, ne_eq, iff_self] <;> simp
  · have h1' := eq_false h1
    rw [if_neg h1] at hK
    simp (config := { maxSteps := 4000000 }) only [h0', h1', hEnd, hSes_eq, sesU_eq, Inb.eta, Rec.eta, endF, eBs, cBs, F.fBs, Nat.reduceSub, Nat.reduceAdd, Nat.reduceLT, Nat.reduceEqDiff, Nat.reduceLeDiff, Nat.reduceMul, Nat.reduceBEq, Int.reduceToNat, Op.operands, if_true, if_false, reduceCtorEq, if_pos, forall_const, implies_true, eq_self, ne_eq, iff_self]
    refine vK_ret _ _ hK ?_
    simp only [eBs, cBs, F.fBs, Nat.reduceSub, Nat.reduceAdd, Nat.reduceLT, Nat.reduceEqDiff, Nat.reduceLeDiff, Nat.reduceMul, Nat.reduceBEq, Int.reduceToNat, Op.operands, if_true, if_false, reduceCtorEq, if_pos, forall_const, implies_true, eq_self, ne_eq, iff_self] <;> simp
def hClipM : Handler := fun args b r K => match args, b, r with
  | [.d d], [], [] => @nK _ (cMsgs.dec d) ⟨fun l => K (.ret (.full (l.map Msg.enc))) [] []⟩
  | _, _, _ => False
theorem f_clipM : HOk Tryz.prog 43 hClipM := by
  refine HOk.runL [] (fun _ => []) (by simp) F.mixed Tryz.func43 (by kernel_rfl) rfl (by kernel_rfl) 9 Tryz.ntmps43 [.tmp 2] Tryz.results43 (.inr (fun i => by simp)) ?_
  intro args b r K hl hs
  unfold hClipM at hs
  split at hs
  case h_2 => exact hs.elim
  rename_i d
  obtain ⟨l, hx, hK⟩ := nK_elim hs
  obtain rfl := cMsgs.ed _ _ hx
  simp (config := { maxSteps := 4000000 }) only [Option.isSome_some, Int.le_refl, eBs, cBs, F.fBs, Nat.reduceSub, Nat.reduceAdd, Nat.reduceLT, Nat.reduceEqDiff, Nat.reduceLeDiff, Nat.reduceMul, Nat.reduceBEq, Int.reduceToNat, Op.operands, if_true, if_false, reduceCtorEq, if_pos, forall_const, implies_true, eq_self, ne_eq, iff_self]
  refine ⟨⟨by omega, fun x _ => rfl⟩, ?_⟩
  refine vK_ret _ _ hK ?_
  simp only [eBs, cBs, F.fBs, Nat.reduceSub, Nat.reduceAdd, Nat.reduceLT, Nat.reduceEqDiff, Nat.reduceLeDiff, Nat.reduceMul, Nat.reduceBEq, Int.reduceToNat, Op.operands, if_true, if_false, reduceCtorEq, if_pos, forall_const, implies_true, eq_self, ne_eq, iff_self] <;> simp
/-- A function that gives back what leads nowhere, as a function of data. -/
theorem FPure.ofHOk {P : Program} {f : FuncId} {h : Handler} (hh : HOk P f h) {s : Spec} (H : ∀ ds K, s ds K → ∃ x, dataA x = true ∧ K (.ret x) ∧ h (ds.map .d) [] [] (fun o _ _ => o = .ret x)) : FPure P f s := by
  intro w no vs ds K hno hv hs
  obtain ⟨x, hx, hK, hh1⟩ := H ds K hs
  obtain ⟨hent, hcalls⟩ := hh (mno_inv hno) hv hh1
  refine ⟨hent, Calls.mono hcalls (fun e w' he => ?_)⟩
  cases e with
  | returned v =>
    obtain ⟨y, b', r', M', hy, hI, hC, hr⟩ := he
    injection hy with hy
    subst hy
    refine ⟨_, hK, hI.keep, ?_, hx⟩
    refine dataA_mono (fun a u ho hc => ⟨hc, mno_okc.2 ?_⟩) hr hx
    have := ho.1.2
    rw [hC.no] at this
    exact this
  | panicked ch =>
    obtain ⟨y, b', r', M', u, hy, _⟩ := he
    cases hy
  | outgrown => exact he.elim
def hClipD : Det := det1 cMsgs (fun _ => True) fun l => .full (l.map Msg.enc)
theorem f_clipD : FPure Tryz.prog 43 hClipD.spec := by
  refine FPure.ofHOk f_clipM fun ds K hs => ?_
  obtain ⟨l, rfl, -, hK⟩ := det1_elim hs
  refine ⟨.full (l.map Msg.enc), rfl, hK, ?_⟩
  simp only [List.map_cons, List.map_nil, hClipM, cMsgs.de, nK_some]
def hMissing : Det := det1 cInb (fun _ => True) fun x => .d (.int .i64 (if x.done = true then -1 else x.next))
theorem f_recvMissing : FPure Tryz.prog 15 hMissing.spec := by
  refine FPure.runL [] (fun _ => []) (by simp) F.mixed Tryz.func15 (by kernel_rfl) rfl (by kernel_rfl) 7 Tryz.ntmps15 [.tmp 2] Tryz.results15 ?_
  intro ds K hl hs
  obtain ⟨⟨o, e, c, n, f, t, h, l⟩, rfl, -, hK⟩ := det1_elim hs
  cases e <;> simp (config := { maxSteps := 4000000 }) only [cInb_enc, eBs, cBs, F.fBs, Nat.reduceSub, Nat.reduceAdd, Nat.reduceLT, Nat.reduceEqDiff, Nat.reduceLeDiff, Nat.reduceMul, Nat.reduceBEq, Int.reduceToNat, Op.operands, if_true, if_false, reduceCtorEq, if_pos, forall_const, implies_true, eq_self, ne_eq, iff_self] at hK ⊢ <;> exact hK
end Go.PE
