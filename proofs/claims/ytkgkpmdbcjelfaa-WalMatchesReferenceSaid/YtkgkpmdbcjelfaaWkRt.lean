/- Frames and the cells of a log (reference 24), of which one lies in a row that may be written. -/
import Derived.Test.YtkgkpmdbcjelfaaWkGr
set_option linter.unusedVariables false
set_option linter.defProp false
set_option linter.all false
set_option linter.unusedSimpArgs false
set_option maxRecDepth 10000
set_option maxHeartbeats 4000000
namespace Go.PE
open Go Go.Proofs

/-- A function of data whose result is plain: what it was given is not kept. -/
def flatH (h : Det) : Handler := fun args b r K => @nK _ (toDL r args) ⟨fun ds => (h ds).1 ∧ flatA (h ds).2 = true ∧ K (.ret (h ds).2) b r⟩
theorem HOk.flat {P : Program} {f : FuncId} {h : Det} (hp : FPure P f h.spec) : HOk P f (flatH h) := by
  intro w0 F M b r w vs args K h1 hv hk
  obtain ⟨ds, hds, hpre, hfl, hK⟩ := nK_elim hk
  obtain ⟨hI, hc⟩ := Inv.shareL (arrIdsL args) h1
  obtain ⟨hl, hrep⟩ := toDL_rep hI hc (shared_share (arrIdsL args) r) args ds hds (fun id hid => hid) (fun i => vs.getD i undef) hv.2
  generalize hr' : share r (arrIdsL args) = r' at *
  let no : Addr → Prop := fun a => ¬ Okc M r' a ∧ a.block < w.heap.size
  have hvs : RepL w (Mno no) [] vs (ds.map .d) := by
    refine ⟨by simp [hl, hv.1], fun i hi => ?_⟩
    have hi' : i < ds.length := by simpa using hi
    rw [getD_map_d _ _ hi']
    exact .d _ _ ((hrep i hi').mono fun a u ho hc => ⟨hc, mno_okc.2 fun hn => hn.1 ho⟩)
  obtain ⟨hent, hcalls⟩ := hp w no vs ds (fun o => o = .ret (h ds).2) (fun a ha => ha.2) hvs ⟨hpre, rfl⟩
  refine ⟨hent, Calls.mono hcalls (fun e w' he => ?_)⟩
  cases e with
  | returned v =>
    obtain ⟨x, e, hkeep, hx, hd⟩ := he
    injection e with e
    subst e
    obtain ⟨hI', hc'⟩ := h1.grow hkeep.grown'
    exact ⟨_, b, r, M, hK, hI', hc', flat_rep hx hfl⟩
  | panicked ch =>
    obtain ⟨x, u, e, _⟩ := he
    cases e
  | outgrown => exact he.elim

def frowsQ (all fr : List UInt8) : List Arr := [⟨1, 5, [], false⟩, ⟨1, 5, all.map byteCell, false⟩, ⟨1, 5, fr.map byteCell, false⟩]
/-- Frame: the bytes lie in a row of their own, or are handed on as data: as q asks. -/
def hFrameQ (q : Int → Bool) : Handler := fun args b r K => match args, b, r with
  | [.d (.int .i64 g), .d (.int .i64 s), .d l], [], [] => @nK _ (cMsgs.dec l) ⟨fun l => (q s = true → (frameF g s l).2 = 0 ∧ K (.ret (.tup [.arr 2 (frameF g s l).1.length, .d (.int .i64 0)])) [] (frowsQ (l.flatMap bytesM) (frameF g s l).1)) ∧ (q s = false → K (.ret (frameA (frameF g s l))) [] [])⟩
  | _, _, _ => False
theorem f_24FrameQ (q : Int → Bool) : HOk Try.prog 21 (hFrameQ q) := by
  refine HOk.runL [(44, .det hGroup), (45, .det h24in), (46, .det h05Bytes), (47, .det h24number), (48, .raw (flatH hCheck))] (fun _ => []) (by
    intro p hp
    simp only [List.mem_cons, List.not_mem_nil, or_false] at hp
    rcases hp with rfl | rfl | rfl | rfl | rfl
    · exact f_24Group
    · exact f_24in
    · exact f_05Bytes
    · exact f_24number
    · exact HOk.flat f_10Check) F.mixed Try.func21 (by kernel_rfl) rfl (by kernel_rfl) 67 Try.ntmps21 [.tmp 6, .tmp 7] Try.results21 ?_
  intro args b r K hl hs
  unfold hFrameQ at hs
  split at hs
  case h_2 => exact hs.elim
  rename_i g s l
  obtain ⟨l, hx, hK, hD⟩ := nK_elim hs
  obtain rfl := cMsgs.ed _ _ hx
  have henc : cMsgs.enc l = .list (l.map Msg.enc) := rfl
  rw [henc]
  simp only [hGroup, h24in, cMsgs_dec, eBs, cBs, F.fBs, Nat.reduceSub, Nat.reduceAdd, Nat.reduceLT, Nat.reduceEqDiff, Nat.reduceLeDiff, Nat.reduceMul, Nat.reduceBEq, Int.reduceToNat, Op.operands, if_true, if_false, reduceCtorEq, if_pos, forall_const, implies_true, eq_self, ne_eq]
  have bad : ∀ (c : Int) (rs : List Arr) (j : Nat), c ≠ 0 → frameF g s l = ([], c) → rs[j]? = some ⟨1, 5, [], false⟩ → @vK 0 0 (.ret (.tup [.arr j 0, .d (.int .i64 c)])) [] rs ⟨K⟩ := by
    intro c rs j hc hf hj
    cases hq : q s with
    | true =>
      have := (hK hq).1
      rw [hf] at this
      exact absurd this hc
    | false =>
      have := hD hq
      rw [hf] at this
      refine vK_dat _ _ _ this ?_ ?_
      · simp [toO, toD, toDL, frameA, hj]
      · simp only [arrIdsO, frameA, eBs, cBs, F.fBs, Nat.reduceSub, Nat.reduceAdd, Nat.reduceLT, Nat.reduceEqDiff, Nat.reduceLeDiff, Nat.reduceMul, Nat.reduceBEq, Int.reduceToNat, Op.operands, if_true, if_false, reduceCtorEq, if_pos, forall_const, implies_true, eq_self, ne_eq] <;> simp
  refine ⟨fun h => ?_, fun h => ?_⟩
  · refine bad 1 _ 1 (by decide) ?_ rfl
    unfold frameF
    rw [if_neg (by simp only [Bool.or_eq_true, Bool.not_eq_true'] at h; simp only [Bool.and_eq_true]; rintro ⟨h1, h2, h3⟩; simp [h1, h2, h3] at h)]
  have hg : n31B g = true ∧ n31B s = true ∧ groupB l = true := by simpa [and_assoc] using h
  obtain ⟨g1, g2⟩ := n31_iff.1 hg.1
  obtain ⟨s1, s2⟩ := n31_iff.1 hg.2.1
  obtain ⟨l1, l2⟩ := group_le hg.2.2
  have hall := bytess_le l
  have hff : frameF g s l = if (l.flatMap bytesM).length ≤ 65515 then (headF g.toNat s.toNat (l.flatMap bytesM) ++ beN (fnv (headF g.toNat s.toNat (l.flatMap bytesM))) 8 8, 0) else ([], 2) := by
    unfold frameF
    rw [if_pos (by simp [hg])]
  refine eK_rounds [0, 1, 2] (fun i : Nat => i ≤ l.length) (fun i => [(9, .arr 1 ((l.take i).flatMap bytesM).length), (10, .d (.int .i64 i))]) (fun _ => []) (fun i => [(1, ⟨1, 5, ((l.take i).flatMap bytesM).map byteCell, false⟩)]) (fun i => l.length - i) 0 (Nat.zero_le _) ?_ ?_
  · simp [le_eq, St.head, keepT, setAll, leV, leB, leR, leR0, idsR, idsL, idsA, idsB]
  intro i hi
  have hti := bytess_le (l.take i)
  have htk : (l.take i).length ≤ 64 := by simp; omega
  have em : ∀ x : Msg, x.enc = [.int .i64 x.kind, .str x.key, .str x.value, .str x.lo, .str x.hi, .str x.fr, .str x.to, .int .i64 x.n] := fun _ => rfl
  simp only [le_eq, h05Bytes, em, cMsg_dec', Msg.eta, List.length_append, eBs, cBs, F.fBs, Nat.reduceSub, Nat.reduceAdd, Nat.reduceLT, Nat.reduceEqDiff, Nat.reduceLeDiff, Nat.reduceMul, Nat.reduceBEq, Int.reduceToNat, Op.operands, if_true, if_false, reduceCtorEq, if_pos, forall_const, implies_true, eq_self, ne_eq]
  refine ⟨fun h => ⟨⟨by omega, by omega⟩, fun x hx => ?_⟩, fun h => ?_⟩
  · have hx2 := bytes_le x
    refine ⟨by omega, i + 1, by omega, by omega, ⟨?_, ?_⟩, ?_⟩
    · simp [take_snoc hx]
    · rw [wrap_i64' (by omega) (by omega)]; rfl
    · simp [take_snoc hx]
  · have : l.take i = l := List.take_of_length_le (by omega)
    rw [this]
    have w1 : IntKind.u64.wrap g = (g.toNat : Int) := by rw [IntKind.wrap_u64]; omega
    have w2 : IntKind.u64.wrap s = (s.toNat : Int) := by rw [IntKind.wrap_u64]; omega
    have w3 : IntKind.u64.wrap ((l.flatMap bytesM).length : Int) = ((l.flatMap bytesM).length : Int) := by rw [IntKind.wrap_u64]; omega
    refine ⟨fun h => ?_, fun h => ?_⟩
    · refine bad 2 _ 2 (by decide) ?_ rfl
      rw [hff, if_neg (by omega)]
    rw [if_pos (by omega)] at hff
    generalize l.flatMap bytesM = all at *
    have w8 : ∀ l, ((fnv l : Nat) : Int) < 18446744073709551616 := fun l => by have := fnv_lt l; omega
    simp only [h24number, flatH, flatA, hCheck, numP, w1, w2, w3, w8, dec70, beN_len, List.length_append, List.append_assoc, eBs, cBs, F.fBs, Nat.reduceSub, Nat.reduceAdd, Nat.reduceLT, Nat.reduceEqDiff, Nat.reduceLeDiff, Nat.reduceMul, Nat.reduceBEq, Int.reduceToNat, Op.operands, if_true, if_false, reduceCtorEq, if_pos, forall_const, implies_true, eq_self, ne_eq]
    simp only [headF, frameA, List.cons_append, List.append_assoc] at hff
    have fin : ∀ n, n = (frameF g s l).1.length → @vK 0 0 (.ret (.tup [.arr 2 n, .d (.int .i64 0)])) [] (frowsQ all (frameF g s l).1) ⟨K⟩ := by
      intro n hn
      subst hn
      cases hq : q s with
      | true => exact vK_ret _ _ (hK hq).2 (by simp [frowsQ, leB, leR, leR0, idsR, idsB, idsA, idsL])
      | false =>
        have := hD hq
        have h0 : (frameF g s l).2 = 0 := by rw [hff]
        refine vK_dat _ _ _ this ?_ ?_
        · simp [toO, toD, toDL, frameA, frowsQ, h0]
        · simp only [arrIdsO, frameA, eBs, cBs, F.fBs, Nat.reduceSub, Nat.reduceAdd, Nat.reduceLT, Nat.reduceEqDiff, Nat.reduceLeDiff, Nat.reduceMul, Nat.reduceBEq, Int.reduceToNat, Op.operands, if_true, if_false, reduceCtorEq, if_pos, forall_const, implies_true, eq_self, ne_eq] <;> simp
    have hfr : [D.int .u8 70] :: (beN g.toNat 4 4 ++ (beN s.toNat 4 4 ++ (beN all.length 4 4 ++ (all ++ beN (fnv (70 :: (beN g.toNat 4 4 ++ (beN s.toNat 4 4 ++ (beN all.length 4 4 ++ all))))) 8 8)))).map byteCell = (frameF g s l).1.map byteCell := by
      rw [hff]
      rfl
    rw [hfr]
    refine ⟨by omega, by omega, by omega, by omega, by omega, by omega, fin _ ?_⟩
    rw [hff]
    simp only [List.length_cons, List.length_append, beN_len]
end Go.PE
