/- WkD: what the laws need of it. -/
import Derived.Test.YtknilgmkgjjidaaGreatDoorWkCb
set_option linter.unusedVariables false
set_option linter.defProp false
set_option linter.all false
set_option linter.unusedSimpArgs false
set_option maxRecDepth 100000
set_option maxHeartbeats 4000000
namespace Go.PE
open Go Go.Proofs

def textB (s : List UInt8) : List UInt8 := beN s.length 2 2 ++ s
theorem textB_len (s : List UInt8) : (textB s).length = 2 + s.length := by simp [textB, beN]
theorem texts_len : ∀ (l : List (List UInt8)), (∀ s ∈ l, s.length ≤ 65535) → (l.flatMap textB).length ≤ 65537 * l.length
  | [], _ => by simp
  | s :: l, h => by
    have h1 := texts_len l (fun s hs => h s (List.mem_cons_of_mem _ hs))
    have h2 := h s (List.mem_cons_self ..)
    simp only [List.flatMap_cons, List.length_append, textB_len, List.length_cons]
    omega
def h05texts : Det := det1 cStrs (fun l => (∀ s ∈ l, s.length ≤ 65535) ∧ l.length ≤ 1000) fun l => .d (.list ((l.flatMap textB).map byteCell))
theorem f_05texts : FPure Tryz.prog 73 h05texts.spec := by
  refine FPure.runL [(74, .det h05number)] (fun _ => []) (by
    intro p hp
    simp only [List.mem_cons, List.not_mem_nil, or_false] at hp
    subst hp
    exact f_05number) F.mixed Tryz.func73 (by kernel_rfl) rfl (by kernel_rfl) 27 Tryz.ntmps73 [.tmp 2] Tryz.results73 ?_
  intro ds K hl hs
  obtain ⟨l, rfl, ⟨h1, h2⟩, hK⟩ := det1_elim hs
  simp only [eBs, cBs, F.fBs, Nat.reduceSub, Nat.reduceAdd, Nat.reduceLT, Nat.reduceEqDiff, Nat.reduceLeDiff, Nat.reduceMul, Nat.reduceBEq, Int.reduceToNat, Op.operands, if_true, if_false, reduceCtorEq, if_pos, forall_const, implies_true, eq_self, ne_eq, iff_self]
  refine eK_rounds [0, 1, 2] (fun i : Nat => i ≤ l.length) (fun i => [(3, .arr 1 ((l.take i).flatMap textB).length), (4, .d (.int .i64 i))]) (fun _ => []) (fun i => [(1, ⟨1, 5, ((l.take i).flatMap textB).map byteCell, false⟩)]) (fun i => l.length - i) 0 (Nat.zero_le _) ?_ ?_
  · simp [le_eq, St.head, keepT, setAll, leV, leB, leR, leR0, idsR, idsL, idsA, idsB]
  intro i hi
  have htl := texts_len (l.take i) (fun s hs => h1 s (List.mem_of_mem_take hs))
  have htk : (l.take i).length ≤ 1000 := by simp; omega
  have one : ∀ x, oneC cS x = [.str x] := fun _ => rfl
  simp only [le_eq, h05number, one, eBs, cBs, F.fBs, Nat.reduceSub, Nat.reduceAdd, Nat.reduceLT, Nat.reduceEqDiff, Nat.reduceLeDiff, Nat.reduceMul, Nat.reduceBEq, Int.reduceToNat, Op.operands, if_true, if_false, reduceCtorEq, if_pos, forall_const, implies_true, eq_self, ne_eq, iff_self]
  refine ⟨fun h => ⟨⟨by omega, by omega⟩, fun x hx => ?_⟩, fun h => ?_⟩
  · have hxl := h1 x (List.mem_of_getElem? hx)
    have e2 : Int.toNat 2 = 2 := rfl
    simp only [e2, beN_len, List.length_append]
    refine ⟨⟨by omega, by omega, by omega, by omega⟩, by omega, ⟨by omega, by omega⟩, fun y hy => ?_⟩
    have : y = x := by rw [hx] at hy; exact (Option.some.inj hy).symm
    subst this
    refine ⟨by omega, i + 1, by omega, by omega, ⟨?_, ?_⟩, ?_⟩
    · simp [take_snoc hx, textB, beN_len, Nat.add_assoc]
    · rw [wrap_i64' (by omega) (by omega)]; rfl
    · simp [take_snoc hx, textB]
  · have : l.take i = l := List.take_of_length_le (by omega)
    rw [this]
    exact hK

def fieldsB (m : Msg) : List UInt8 :=
  if m.kind = 1 then textB m.key ++ (textB m.value ++ beN m.n.toNat 4 4)
  else if m.kind = 2 then textB m.key
  else if m.kind = 3 then textB m.lo ++ textB m.hi
  else if m.kind = 6 then textB m.lo ++ (textB m.hi ++ beN m.n.toNat 4 4)
  else textB m.fr ++ textB m.to
/-- The bytes of a valid message (E5). -/
def bytesM (m : Msg) : List UInt8 := if validB m then UInt8.ofNat m.kind.toNat :: fieldsB m else []
theorem inB_iff (n lo hi : Int) : inB n lo hi = true ↔ lo ≤ n ∧ n ≤ hi := by simp [inB]
theorem valid_cases {m : Msg} (h : validB m = true) : (m.kind = 1 ∧ m.key.length ≤ 65535 ∧ m.value.length ≤ 64 ∧ 0 ≤ m.n ∧ m.n ≤ 1000000000) ∨ (m.kind = 2 ∧ m.key.length ≤ 65535) ∨ (m.kind = 3 ∧ m.lo.length ≤ 65535 ∧ m.hi.length ≤ 65535) ∨
    (m.kind = 4 ∧ m.fr.length ≤ 200 ∧ m.to.length ≤ 200) ∨ (m.kind = 5 ∧ m.fr.length ≤ 200 ∧ m.to.length ≤ 200) ∨ (m.kind = 6 ∧ m.lo.length ≤ 65535 ∧ m.hi.length ≤ 65535 ∧ 0 ≤ m.n ∧ m.n ≤ 1000000000) := by
  unfold validB at h
  split at h
  · simp [inB_iff] at h; omega
  split at h
  · simp [inB_iff] at h; omega
  split at h
  · simp [spanB] at h; omega
  split at h
  · simp [apartB, inB_iff] at h; omega
  split at h
  · simp [inB_iff, spanB] at h; omega
  · cases h
def h05Bytes : Det := det1 cMsg (fun _ => True) fun m => .d (.list ((bytesM m).map byteCell))
theorem kindB (k : Int) (h1 : 0 ≤ k) (h2 : k < 256) : ([D.int IntKind.u8 (IntKind.u8.wrap k)] : List D) = byteCell (UInt8.ofNat k.toNat) := by
  rw [wrap_u8' h1 h2]
  simp only [byteCell, UInt8.toNat_ofNat']
  congr 2
  omega
theorem f_05Bytes : FPure Tryz.prog 44 h05Bytes.spec := by
  refine FPure.runL [(72, .det hValid), (73, .det h05texts), (74, .det h05number)] (fun _ => []) (by
    intro p hp
    simp only [List.mem_cons, List.not_mem_nil, or_false] at hp
    rcases hp with rfl | rfl | rfl
    · exact f_05Valid
    · exact f_05texts
    · exact f_05number) F.mixed Tryz.func44 (by kernel_rfl) rfl (by kernel_rfl) 67 Tryz.ntmps44 [.tmp 2] Tryz.results44 ?_
  intro ds K hl hs
  obtain ⟨m, rfl, -, hK⟩ := det1_elim hs
  simp only [bytesM, fieldsB] at hK
  by_cases hv : validB m = true
  · simp only [hv, if_true] at hK
    have hc := valid_cases hv
    obtain ⟨kind, key, value, lo, hi, fr, to, n⟩ := m
    simp only at hc hK
    rcases hc with ⟨rfl, hc⟩ | ⟨rfl, hc⟩ | ⟨rfl, hc⟩ | ⟨rfl, hc⟩ | ⟨rfl, hc⟩ | ⟨rfl, hc⟩
    all_goals
      simp only [cMsg_enc8, hValid, h05texts, h05number, hv, Int.reduceEq, kindB, List.mem_cons, List.not_mem_nil, List.flatMap_cons, List.flatMap_nil, beN_len, textB_len, List.length_append, eBs, cBs, F.fBs, Nat.reduceSub, Nat.reduceAdd, Nat.reduceLT, Nat.reduceEqDiff, Nat.reduceLeDiff, Nat.reduceMul, Nat.reduceBEq, Int.reduceToNat, Op.operands, if_true, if_false, reduceCtorEq, if_pos, forall_const, implies_true, eq_self, ne_eq, iff_self] at hK ⊢
      rw [kindB _ (by omega) (by omega)]
      have e4 : Int.toNat 4 = 4 := rfl
      try simp only [e4, numP, List.append_assoc] at hK ⊢
      repeat' (first | exact hK | apply And.intro | omega | (intro s hs; rcases hs with rfl | rfl <;> omega) | (intro s hs; subst hs; omega))
  · simp only [hv, if_false, Bool.false_eq_true] at hK
    have hv' : validB m = false := by simpa using hv
    simp only [cMsg_enc8, hValid, hv', eBs, cBs, F.fBs, Nat.reduceSub, Nat.reduceAdd, Nat.reduceLT, Nat.reduceEqDiff, Nat.reduceLeDiff, Nat.reduceMul, Nat.reduceBEq, Int.reduceToNat, Op.operands, if_true, if_false, reduceCtorEq, if_pos, forall_const, implies_true, eq_self, ne_eq, iff_self]
    exact hK

/-- Numbers and texts written behind bytes (msg.writer). -/
def hWNum : Handler := fun args b r K => match args, b, r with
  | [.ptr 0 0, .d (.int .i64 n), .d (.int .i64 size)], [[.arr 0 m]], [A] => @nK _ (rowB A) ⟨fun l => (m = l.length ∧ numP 9223372036854775808 n size ∧ l.length ≤ 100000000) ∧
      K (.ret (.tup [])) [[.arr 0 (l.length + size.toNat)]] [⟨1, 5, (l ++ beN n.toNat size.toNat size.toNat).map byteCell, false⟩]⟩
  | _, _, _ => False
theorem hWNum_elim {args : List AV} {b : List (List AV)} {r : List Arr} {K : Out → List (List AV) → List Arr → Prop} (h : hWNum args b r K) : ∃ (l : List UInt8) (n size : Nat), args = [.ptr 0 0, .d (.int .i64 n), .d (.int .i64 size)] ∧ b = [[.arr 0 l.length]] ∧ r = [⟨1, 5, l.map byteCell, false⟩] ∧
    n < 9223372036854775808 ∧ size ≤ 8 ∧ l.length ≤ 100000000 ∧ K (.ret (.tup [])) [[.arr 0 (l.length + size)]] [⟨1, 5, (l ++ beN n size size).map byteCell, false⟩] := by
  unfold hWNum at h
  split at h
  · obtain ⟨l, hl, ⟨rfl, ⟨h0, h1, h2, h3⟩, h4⟩, hK⟩ := nK_elim h
    rename_i n size _
    obtain ⟨n, rfl⟩ := Int.eq_ofNat_of_zero_le h0
    obtain ⟨size, rfl⟩ := Int.eq_ofNat_of_zero_le h2
    rw [rowB_inv hl]
    exact ⟨l, n, size, rfl, rfl, rfl, by omega, by omega, h4, hK⟩
  · exact h.elim
theorem f_wNum : HOk Tryz.prog 390 hWNum := by
  refine HOk.runL [] (fun i => if i = 3 then [(0, (false, [])), (1, (false, [])), (2, (false, [])), (3, (false, [])), (4, (false, [])), (5, (false, [])), (6, (false, [])), (7, (false, [])), (8, (false, [])), (9, (false, [])), (10, (true, [0, 1, 2, 3, 4, 5, 6, 7, 8])), (11, (true, [0, 1, 2, 3, 5, 6, 7, 8])), (12, (false, [])), (13, (true, [])), (14, (true, []))] else []) (by simp) F.mixed Tryz.func390 (by kernel_rfl) rfl (by kernel_rfl) 27 Tryz.ntmps390 [] Tryz.results390 (.inr (fun i => by simp)) ?_
  intro args b r K hl hs
  obtain ⟨l, n, size, rfl, rfl, rfl, h0, h1, h2, hK⟩ := hWNum_elim hs
  have hw : IntKind.i64.wrap ((size : Int) - 1) = (size : Int) - 1 := wrap_i64' (by omega) (by omega)
  simp only [eBs, cBs, F.fBs, Nat.reduceSub, Nat.reduceAdd, Nat.reduceLT, Nat.reduceEqDiff, Nat.reduceLeDiff, Nat.reduceMul, Nat.reduceBEq, Int.reduceToNat, Op.operands, if_true, if_false, reduceCtorEq, if_pos, forall_const, implies_true, eq_self, ne_eq, iff_self]
  refine eK_rounds [0, 1, 2] (fun j : Nat => j ≤ size) (fun j => [(6, .d (.int .i64 ((size : Int) - 1 - j)))]) (fun j => [(0, [.arr 0 (l.length + j)])]) (fun j => [(0, ⟨1, 5, (l ++ beN n size j).map byteCell, false⟩)]) (fun j => size - j) 0 (Nat.zero_le _) ?_ ?_
  · simp [le_eq, St.head, keepT, setAll, leV, leB, leR, leR0, idsR, idsL, idsA, idsB, hw, beN]
  intro j hj
  simp only [le_eq, beN_len, List.length_append, eBs, cBs, F.fBs, Nat.reduceSub, Nat.reduceAdd, Nat.reduceLT, Nat.reduceEqDiff, Nat.reduceLeDiff, Nat.reduceMul, Nat.reduceBEq, Int.reduceToNat, Op.operands, if_true, if_false, reduceCtorEq, if_pos, forall_const, implies_true, eq_self, ne_eq, iff_self]
  refine ⟨fun h => ?_, fun h => ?_⟩
  · rw [be_step .i64 rfl n size j (by omega) (by omega) l]
    have hp : 0 ≤ IntKind.i64.wrap (8 * ((size : Int) - 1 - j)) := by rw [wrap_i64' (by omega) (by omega)]; omega
    exact ⟨hp, hp, by omega, hp, j + 1, by omega, by omega, by rw [wrap_i64' (by omega) (by omega)]; congr 2; omega, rfl, rfl⟩
  · have : j = size := by omega
    subst this
    refine vK_ret _ _ hK ?_
    simp only [eBs, cBs, F.fBs, Nat.reduceSub, Nat.reduceAdd, Nat.reduceLT, Nat.reduceEqDiff, Nat.reduceLeDiff, Nat.reduceMul, Nat.reduceBEq, Int.reduceToNat, Op.operands, if_true, if_false, reduceCtorEq, if_pos, forall_const, implies_true, eq_self, ne_eq, iff_self] <;> simp
end Go.PE
