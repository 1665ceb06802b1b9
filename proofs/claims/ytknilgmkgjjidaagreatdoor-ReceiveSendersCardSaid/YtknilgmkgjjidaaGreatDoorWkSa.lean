/- WkSa: what the laws need of it. -/
import Derived.Test.YtknilgmkgjjidaaGreatDoorWkH
import Derived.Test.YtknilgmkgjjidaaGreatDoorWkK
set_option linter.unusedVariables false
set_option linter.defProp false
set_option linter.all false
set_option linter.unusedSimpArgs false
set_option maxRecDepth 100000
set_option maxHeartbeats 4000000
namespace Go.PE
open Go Go.Proofs

/-- A nil slice is an empty row. -/
theorem HOk.ofNil {P : Program} {f : FuncId} {h : Handler} (hh : HOk P f h) (sz ety : Nat) (hsz : 0 < sz) :
    HOk P f (fun args b r K => ∃ tl, args = .nilS :: tl ∧ h (.arr r.length 0 :: tl) b (r ++ [⟨sz, ety, [], false⟩]) K) := by
  rintro w0 F M b r w vs args K hI hv ⟨tl, rfl, hk⟩
  obtain ⟨hI', hC, hrow⟩ := hI.newRow (w' := w) ⟨rfl, rfl, rfl, Nat.le_refl _, fun _ _ _ => rfl⟩ (.slice none 0 0) ⟨sz, ety, [], false⟩ (Arr.w_pos _) (by simp) [] (rowAt_nil w ety _) (by simp) (fun k j hk => absurd hk (by simp)) (fun g hg => by simp [Value.ownBlock] at hg)
  have hv' : RepL w ⟨M.bb, M.av ++ [.slice none 0 0], M.no⟩ (r ++ [⟨sz, ety, [], false⟩]) vs (.arr r.length 0 :: tl) := by
    refine ⟨by rw [hv.1]; rfl, fun i hi => ?_⟩
    cases i with
    | zero =>
      have h0 := hv.2 0 (by simp)
      have e : vs.getD 0 undef = .slice none 0 0 := by
        generalize vs.getD 0 undef = u at h0
        cases h0
        rfl
      rw [e]
      exact .arr _ _ _ rfl ⟨⟨sz, ety, [], false⟩, by simp, Nat.zero_le _, fun _ => hrow.symm⟩
    | succ i =>
      have := hv.2 (i + 1) (by simpa using hi)
      exact this.mono hC
  obtain ⟨h1, h2⟩ := hh hI' hv' hk
  refine ⟨h1, Calls.mono h2 (fun e w' he => ?_)⟩
  cases e with
  | returned v =>
    obtain ⟨x, b', r', M', h3, h4, h5, h6⟩ := he
    exact ⟨x, b', r', M', h3, h4, hC.trans h5, h6⟩
  | panicked ch =>
    obtain ⟨x, b', r', M', u, h3, h4, h5, h6, h7⟩ := he
    exact ⟨x, b', r', M', u, h3, h4, h5, hC.trans h6, h7⟩
  | outgrown => exact he
theorem HOk.either {P : Program} {f : FuncId} {h k : Handler} (hh : HOk P f h) (hk : HOk P f k) : HOk P f (fun args b r K => h args b r K ∨ k args b r K) := by
  intro w0 F M b r w vs args K hI hv h
  rcases h with h | h
  · exact hh hI hv h
  · exact hk hI hv h
/-- stream.number: behind nil, or behind bytes. -/
def hSNum : Handler := fun args b r K => match args, b, r with
  | [.nilS, .d (.int .u64 n), .d (.int .i64 size)], [], [] => numP 18446744073709551616 n size ∧ K (.ret (.arr 0 size.toNat)) [] [⟨1, 5, (beN n.toNat size.toNat size.toNat).map byteCell, false⟩]
  | [.arr 0 m, .d (.int .u64 n), .d (.int .i64 size)], [], [A] => @nK _ (rowQ A) ⟨fun (l, q) => (m = l.length ∧ numP 18446744073709551616 n size ∧ l.length ≤ 100000000) ∧
      K (.ret (.arr 0 (l.length + size.toNat))) [] [⟨1, 5, (l ++ beN n.toNat size.toNat size.toNat).map byteCell, q⟩]⟩
  | _, _, _ => False
theorem f_sNumber : HOk Tryz.prog 32 hSNum := by
  refine (f_streamNumber.ofNil 1 5 (by decide)).either f_streamNumber |>.weaken fun args b r K h => ?_
  unfold hSNum at h
  split at h
  · rename_i n size
    refine .inl ⟨_, rfl, ?_⟩
    have e : (⟨1, 5, [], false⟩ : Arr) = ⟨1, 5, ([] : List UInt8).map byteCell, false⟩ := rfl
    show hAddNum [.arr 0 0, _, _] [] [⟨1, 5, [], false⟩] K
    rw [e]
    simp only [hAddNum, rowQ_eq, nK_some]
    refine ⟨⟨rfl, h.1, by simp⟩, ?_⟩
    simpa using h.2
  · rename_i m n size A
    exact .inr h
  · exact h.elim

structure Rec where
  kind : Int
  seq : Int
  count : Int
  src : Int
  dst : Int
  msg : Msg
  check : Int
  deriving DecidableEq, Inhabited
def Rec.enc (x : Rec) : List D := [.int .i64 x.kind, .int .i64 x.seq, .int .i64 x.count, .int .u64 x.src, .int .u64 x.dst, .int .i64 x.msg.kind, .str x.msg.key, .str x.msg.value, .str x.msg.lo, .str x.msg.hi, .str x.msg.fr, .str x.msg.to, .int .i64 x.msg.n, .int .u64 x.check]
def Rec.dec : List D → Option Rec
  | [.int .i64 k, .int .i64 s, .int .i64 c, .int .u64 f, .int .u64 t, .int .i64 mk1, .str key, .str value, .str lo, .str hi, .str fr, .str to, .int .i64 n, .int .u64 ch] => some ⟨k, s, c, f, t, ⟨mk1, key, value, lo, hi, fr, to, n⟩, ch⟩
  | _ => none
theorem Rec.dec_ed (e : List D) (x : Rec) (h : Rec.dec e = some x) : e = x.enc := by
  unfold Rec.dec at h
  split at h
  · injection h with h
    subst h
    rfl
  · cases h
def cRec : Cod Rec := cAgg Rec.enc Rec.dec (fun _ => rfl) Rec.dec_ed
theorem cRec_enc (x : Rec) : cRec.enc x = .agg [.int .i64 x.kind, .int .i64 x.seq, .int .i64 x.count, .int .u64 x.src, .int .u64 x.dst, .int .i64 x.msg.kind, .str x.msg.key, .str x.msg.value, .str x.msg.lo, .str x.msg.hi, .str x.msg.fr, .str x.msg.to, .int .i64 x.msg.n, .int .u64 x.check] := rfl
theorem cRec_dec (k s c f t mk : Int) (a1 a2 a3 a4 a5 a6 : List UInt8) (n ch : Int) : cRec.dec (.agg [.int .i64 k, .int .i64 s, .int .i64 c, .int .u64 f, .int .u64 t, .int .i64 mk, .str a1, .str a2, .str a3, .str a4, .str a5, .str a6, .int .i64 n, .int .u64 ch]) = some ⟨k, s, c, f, t, ⟨mk, a1, a2, a3, a4, a5, a6, n⟩, ch⟩ := rfl
theorem Rec.eta (x : Rec) : (⟨x.kind, x.seq, x.count, x.src, x.dst, ⟨x.msg.kind, x.msg.key, x.msg.value, x.msg.lo, x.msg.hi, x.msg.fr, x.msg.to, x.msg.n⟩, x.check⟩ : Rec) = x := rfl
theorem Rec.em (x : Rec) : x.enc = [.int .i64 x.kind, .int .i64 x.seq, .int .i64 x.count, .int .u64 x.src, .int .u64 x.dst, .int .i64 x.msg.kind, .str x.msg.key, .str x.msg.value, .str x.msg.lo, .str x.msg.hi, .str x.msg.fr, .str x.msg.to, .int .i64 x.msg.n, .int .u64 x.check] := rfl
def zeroRec : Rec := ⟨0, 0, 0, 0, 0, zeroMsg, 0⟩
theorem Rec.eqB (a b : Rec) : (decide (a.kind = b.kind) && (decide (a.seq = b.seq) && (decide (a.count = b.count) && (decide (a.src = b.src) && (decide (a.dst = b.dst) && (decide (a.msg.kind = b.msg.kind) && (decide (a.msg.key = b.msg.key) && (decide (a.msg.value = b.msg.value) && (decide (a.msg.lo = b.msg.lo) && (decide (a.msg.hi = b.msg.hi) && (decide (a.msg.fr = b.msg.fr) && (decide (a.msg.to = b.msg.to) && (decide (a.msg.n = b.msg.n) && decide (a.check = b.check)))))))))))))) = decide (a = b) := by
  obtain ⟨k, s, c, f, t, ⟨m1, m2, m3, m4, m5, m6, m7, m8⟩, ch⟩ := a
  obtain ⟨k', s', c', f', t', ⟨n1, n2, n3, n4, n5, n6, n7, n8⟩, ch'⟩ := b
  simp only [Rec.mk.injEq, Msg.mk.injEq]
  simp [Bool.decide_and, Bool.and_assoc]
def leastB (n least : Int) : Bool := decide (least ≤ n) && decide (n ≤ 2147483647)
def hLeast : Det := det2 (cI .i64) (cI .i64) (fun _ _ => True) fun n least => .d (.bool (leastB n least))
theorem f_streamIn : FPure Tryz.prog 127 hLeast.spec := by
  refine FPure.runL [] (fun _ => []) (by simp) F.mixed Tryz.func127 (by kernel_rfl) rfl (by kernel_rfl) 12 Tryz.ntmps127 [.tmp 4] Tryz.results127 ?_
  intro ds K hl hs
  obtain ⟨n, least, rfl, -, hK⟩ := det2_elim hs
  simp only [eBs, cBs, F.fBs, Nat.reduceSub, Nat.reduceAdd, Nat.reduceLT, Nat.reduceEqDiff, Nat.reduceLeDiff, Nat.reduceMul, Nat.reduceBEq, Int.reduceToNat, Op.operands, if_true, if_false, reduceCtorEq, if_pos, forall_const, implies_true, eq_self, ne_eq, iff_self]
  exact hK
/-- A valid record. -/
def validR (r : Rec) : Bool :=
  if r.kind = 1 then leastB r.count 0 && decide (r = { zeroRec with kind := 1, count := r.count, src := r.src, dst := r.dst, check := r.check })
  else if r.kind = 2 then leastB r.seq 1 && (validB r.msg && decide (r = { zeroRec with kind := 2, seq := r.seq, msg := r.msg, check := r.check }))
  else if r.kind = 3 then leastB r.seq 1 && (leastB r.count 0 && decide (r = { zeroRec with kind := 3, seq := r.seq, count := r.count, check := r.check }))
  else false
def hValidR : Det := det1 cRec (fun _ => True) fun r => .d (.bool (validR r))
theorem f_streamValid : FPure Tryz.prog 101 hValidR.spec := by
  refine FPure.runL [(127, .det hLeast), (63, .det hValid)] (fun i => if i = 5 then [(0, (false, [])), (1, (false, [])), (2, (false, [])), (3, (false, [])), (4, (false, [])), (5, (false, [])), (6, (false, [])), (7, (true, [2, 3, 4, 5])), (8, (false, [])), (9, (true, [4, 5])), (10, (true, [])), (11, (true, []))] else if i = 8 then [(0, (false, [])), (1, (false, [])), (2, (false, [])), (3, (false, [])), (4, (false, [])), (5, (true, [2, 3])), (6, (true, [])), (7, (true, []))] else if i = 11 then [(0, (false, [])), (1, (false, [])), (2, (false, [])), (3, (false, [])), (4, (false, [])), (5, (true, [2, 3])), (6, (true, [])), (7, (true, []))] else []) (by
    intro p hp
    simp only [List.mem_cons, List.not_mem_nil, or_false] at hp
    rcases hp with rfl | rfl
    · exact f_streamIn
    · exact f_msgValid) F.mixed Tryz.func101 (by kernel_rfl) rfl (by kernel_rfl) 64 Tryz.ntmps101 [.tmp 2] Tryz.results101 ?_
  intro ds K hl hs
  obtain ⟨⟨k, s, c, f, t, ⟨m1, m2, m3, m4, m5, m6, m7, m8⟩, ch⟩, rfl, -, hK⟩ := det1_elim hs
  have fin : ∀ b, validR ⟨k, s, c, f, t, ⟨m1, m2, m3, m4, m5, m6, m7, m8⟩, ch⟩ = b → K (Out.ret (.d (.bool b))) := fun b e => e ▸ hK
  simp (config := { maxSteps := 4000000 }) only [hLeast, hValid, cRec_enc, cMsg_dec', eBs, cBs, F.fBs, Nat.reduceSub, Nat.reduceAdd, Nat.reduceLT, Nat.reduceEqDiff, Nat.reduceLeDiff, Nat.reduceMul, Nat.reduceBEq, Int.reduceToNat, Op.operands, if_true, if_false, reduceCtorEq, if_pos, forall_const, implies_true, eq_self, ne_eq, iff_self]
  clear hs hl hK
  refine ⟨fun h1 => fin _ ?_, fun h1 => ⟨fun h2 => fin _ ?_, fun h2 => ⟨fun h3 => fin _ ?_, fun h3 => fin _ ?_⟩⟩⟩
  · subst h1
    rw [Bool.eq_iff_iff]
    simp only [validR, if_true, zeroRec, zeroMsg, Rec.mk.injEq, Msg.mk.injEq, Bool.and_eq_true, decide_eq_true_eq, true_and, and_true, eq_comm (a := (0 : Int)), eq_comm (a := ([] : List UInt8))]
  · subst h2
    rw [Bool.eq_iff_iff]
    simp only [validR, h1, if_false, if_true, zeroRec, zeroMsg, Rec.mk.injEq, Msg.mk.injEq, Bool.and_eq_true, decide_eq_true_eq, true_and, and_true, eq_comm (a := (0 : Int)), eq_comm (a := ([] : List UInt8))]
  · subst h3
    rw [Bool.eq_iff_iff]
    simp only [validR, h1, h2, if_false, if_true, zeroRec, zeroMsg, Rec.mk.injEq, Msg.mk.injEq, Bool.and_eq_true, decide_eq_true_eq, true_and, and_true, eq_comm (a := (0 : Int)), eq_comm (a := ([] : List UInt8))]
  · simp only [validR, h1, h2, h3, if_false]
end Go.PE
