/- WkTk, WkTi, WkTl, joined. -/
import Derived.Test.YtomligcenflpdabGreatDoorPe4
import Derived.Test.YtomligcenflpdabGreatDoorFacts
import Derived.Test.YtomligcenflpdabGreatDoorWkTc
import Derived.Test.YtomligcenflpdabGreatDoorWkTa
import Derived.Test.YtomligcenflpdabGreatDoorWkZbc
import Derived.Test.YtomligcenflpdabGreatDoorWkSg
set_option linter.unusedVariables false
set_option linter.defProp false
set_option linter.all false
set_option linter.unusedSimpArgs false
set_option maxRecDepth 100000
set_option maxHeartbeats 4000000
namespace Go.PE
open Go Go.Proofs

/-- An empty list is cloned. -/
def hClone0 : Det := fun ds => (ds = [.list []], .d (.list []))
theorem f_clonePair0 : FPure Tryz.prog 166 hClone0.spec := by
  refine FPure.runL [] (fun _ => []) (by simp) F.mixed Tryz.func166 (by kernel_rfl) rfl (by kernel_rfl) 8 Tryz.ntmps166 [.tmp 2] Tryz.results166 ?_
  intro ds K hl hs
  obtain ⟨rfl, hK⟩ := hs
  simp (config := { maxSteps := 4000000 }) only [eBs, cBs, F.fBs, Nat.reduceSub, Nat.reduceAdd, Nat.reduceLT, Nat.reduceEqDiff, Nat.reduceLeDiff, Nat.reduceMul, Nat.reduceBEq, Int.reduceToNat, Op.operands, if_true, if_false, reduceCtorEq, if_pos, forall_const, implies_true, eq_self, ne_eq]
  exact ⟨hK, fun e h => (nomatch h), hK⟩
def T19a : List Ent := [
  ⟨124, true, [], none⟩,
  ⟨96, false, [(4, [(0, false, []), (1, false, [0]), (2, false, [0, 1]), (3, false, [0, 1, 2]), (4, false, [0, 1, 2, 3]), (5, false, [0, 1, 2, 3, 4]), (6, true, [1, 2, 3, 4]), (7, false, [1, 2, 3, 4])]), (18, [(0, false, []), (1, false, [0]), (2, false, [0, 1]), (3, false, [0, 1, 2]), (4, false, [0, 1, 2, 3]), (5, false, [0, 1, 2, 3, 4]), (6, false, [0, 1, 2, 3, 4, 5]), (7, false, [0, 1, 2, 3, 4, 5, 6]), (8, false, [0, 1, 2, 3, 4, 5, 6, 7]), (9, false, [0, 1, 2, 3, 4, 5, 6, 7, 8]), (10, false, [0, 1, 2, 3, 4, 5, 6, 7, 8, 9]), (11, false, [0, 1, 2, 3, 4, 5, 6, 7, 8, 9, 10]), (12, true, []), (13, true, [])])], none⟩,
  ⟨95, false, [], none⟩,
  ⟨63, false, [], none⟩,
  ⟨37, false, [], none⟩,
  ⟨38, false, [], none⟩,
  ⟨20, false, [(5, [(0, false, []), (1, false, [0]), (2, false, [0, 1]), (3, false, [0, 1, 2]), (4, false, [0, 1, 2, 3]), (5, true, [1, 2, 3]), (6, true, [])])], none⟩,
  ⟨59, false, [], none⟩,
  ⟨72, true, [(3, [(0, false, []), (1, false, [0]), (2, false, [0, 1]), (3, false, [0, 1, 2]), (4, false, [0, 1, 2, 3]), (5, false, [0, 1, 2, 3, 4]), (6, false, [0, 1, 2, 3, 4, 5]), (7, false, [0, 1, 2, 3, 4, 5, 6]), (8, false, [0, 1, 2, 3, 4, 5, 6, 7]), (9, false, [0, 1, 2, 3, 4, 5, 6, 7, 8]), (10, true, [0, 1, 2, 3, 4, 5, 6, 7, 8]), (11, true, [0, 1, 2, 3, 5, 6, 7, 8]), (12, false, [0, 1, 2, 3, 5, 6, 7, 8]), (13, true, []), (14, true, [])])], none⟩,
  ⟨41, false, [], none⟩,
  ⟨216, true, [], none⟩,
  ⟨165, true, [], none⟩,
  ⟨133, false, [], none⟩,
  ⟨111, false, [], none⟩,
  ⟨134, false, [], none⟩,
  ⟨110, false, [], none⟩,
  ⟨131, true, [(0, [(0, false, []), (1, false, [0]), (2, false, [0, 1]), (3, false, [0, 1, 2]), (4, false, [0, 1, 2, 3]), (5, true, [0, 1, 2]), (6, false, [0, 1, 2]), (7, false, [0, 1, 2, 6]), (8, false, [0, 1, 2, 6, 7]), (9, true, [0, 1, 2, 6, 7, 8]), (10, true, [8]), (11, true, [])]), (5, [(0, false, []), (1, false, [0]), (2, false, [0, 1]), (3, false, [0, 1, 2]), (5, false, [0, 1, 2, 3]), (6, false, [0, 1, 2, 3, 5]), (4, true, [5, 6]), (7, true, [5]), (8, true, [])])], none⟩,
  ⟨108, true, [], none⟩,
  ⟨71, false, [(7, [(0, false, []), (1, false, [0]), (2, false, [0, 1]), (3, false, [0, 1, 2]), (4, true, [0, 1, 2, 3]), (5, true, [])])], none⟩,
  ⟨70, false, [], none⟩,
  ⟨40, false, [], none⟩]
def xClone : List D → Option AV := fun ds => match ds with | [.list []] => some (.d (.list [])) | _ => none
def T19 : List Ent := ⟨166, false, [], some xClone⟩ :: T19a
theorem T19_ok : T19.all (okE Tryz.prog) = true := by kernel_rfl
theorem T19_ext : ∀ e ∈ T19, ∀ g, e.ext = some g → FPure Tryz.prog e.f (fun ds K => ∃ o, extC g ds = some o ∧ K o) := by
  intro e he g hg
  rcases List.mem_cons.1 he with rfl | he
  · injection hg with hg
    subst hg
    intro w no vs ds K hno hv hs
    refine f_clonePair0 w no vs ds K hno hv ?_
    obtain ⟨o, ho, hK⟩ := hs
    unfold extC xClone at ho
    split at ho
    · rename_i x hx
      split at hx
      · injection hx with hx
        injection ho with ho
        subst hx ho
        exact ⟨rfl, hK⟩
      · cases hx
    · cases ho
  · have h1 : T19a.all (fun e => e.ext.isNone) = true := rfl
    have := List.all_eq_true.1 h1 e he
    rw [hg] at this
    cases this
/-- A closed call. -/
def hCl (ds : List D) (x : AV) : Det := fun ds' => (ds' = ds, x)
theorem hCl_eq (ds : List D) (x : AV) (ds' : List D) : hCl ds x ds' = (ds' = ds, x) := rfl
/-- The empty forest. -/
def f0L : List D := [.list [[.bool true, .bool false, .int .i64 1, .list [], .list [], .list [], .list [], .list []]], .int .i64 2, .int .i64 2, .int .i64 1, .list [], .int .i64 1, .int .i64 0, .int .i64 0, .list []]
theorem f0L_eq : f0L = [.list [[.bool true, .bool false, .int .i64 1, .list [], .list [], .list [], .list [], .list []]], .int .i64 2, .int .i64 2, .int .i64 1, .list [], .int .i64 1, .int .i64 0, .int .i64 0, .list []] := rfl
def hMade0 : Det := hCl [.int .u8 0, .list []] (.d (.agg f0L))
theorem f_16Made0 : FPure Tryz.prog 20 hMade0.spec := FPure.closed F.mixed T19_ok T19_ext 100 20 (by kernel_rfl) rfl
def hDig0 : Det := hCl [.list []] (.d (.int .u64 5558979605539197941))
theorem f_digest0 : FPure Tryz.prog 41 hDig0.spec := FPure.closed F.mixed T19_ok T19_ext 100 20 (by kernel_rfl) rfl
def hTab0 : Det := hCl [.agg f0L, .int .i64 0] (.tup [.d (.list []), .d (.int .i64 0)])
theorem f_table0 : FPure Tryz.prog 40 hTab0.spec := FPure.closed F.mixed T19_ok T19_ext 100 20 (by kernel_rfl) rfl
end Go.PE

set_option linter.unusedVariables false
set_option linter.defProp false
set_option linter.all false
set_option linter.unusedSimpArgs false
set_option maxRecDepth 100000
set_option maxHeartbeats 4000000
namespace Go.PE
open Go Go.Proofs

theorem inbAt_pos (src dst : Int) (l : List Msg) {i : Nat} (h : i ≠ 0) : inbAt src dst l i = ⟨true, decide (i = l.length + 2), l.length, i, src, dst, (chk 0 (bareF src dst l) i : Nat), l.take (i - 1)⟩ := by
  unfold inbAt
  rw [if_neg h]
theorem inbAt_check (src dst : Int) (l : List Msg) (i : Nat) : (inbAt src dst l i).check = (chk 0 (bareF src dst l) i : Nat) := by
  by_cases h : i = 0
  · subst h; rfl
  · rw [inbAt_pos src dst l h]
theorem inbAt_op (src dst : Int) (l : List Msg) (i : Nat) : (inbAt src dst l i).op = decide (i ≠ 0) := by
  by_cases h : i = 0
  · subst h; rfl
  · rw [inbAt_pos src dst l h]
    exact (decide_eq_true h).symm
theorem inbAt_done (src dst : Int) (l : List Msg) (i : Nat) : (inbAt src dst l i).done = decide (i = l.length + 2) := by
  by_cases h : i = 0
  · subst h
    exact (decide_eq_false (by omega)).symm
  · rw [inbAt_pos src dst l h]
theorem inbAt_count (src dst : Int) (l : List Msg) {i : Nat} (h : i ≠ 0) : (inbAt src dst l i).count = l.length := by rw [inbAt_pos src dst l h]

theorem valid_chk (x : Rec) (c : Int) : validR { x with check := c } = validR x := by
  obtain ⟨k, s, ct, f, t, m, ch⟩ := x
  unfold validR
  simp [Rec.mk.injEq]
theorem again_same {src dst : Int} {l : List Msg} {k n : Nat} {x : Rec} (h1 : u64P src) (h2 : u64P dst) (hl : l.length ≤ 1000000) (hv : ∀ m ∈ l, validB m = true) (h : (makeF src dst l)[k]? = some x) (hk : k < n) (hn : n ≤ l.length + 2) (c : Int) :
    takeF (inbAt src dst l n) { x with check := c } = (inbAt src dst l n, 0) := by
  obtain ⟨⟨hva, hr⟩, hsx, hc, hcs, hh, hb, he, hi⟩ := make_facts h1 h2 hl hv h
  rw [take_again h1 h2 hl hv h hk hn (y := { x with check := c }) ((valid_chk x c).trans hva) hsx]
  refine congrArg _ (if_pos ?_)
  by_cases e0 : k = 0
  · rw [if_pos e0]
    have := hh e0
    refine ⟨?_, ?_, ?_⟩
    · show x.count = _
      rw [this]; rfl
    · show x.src = _
      rw [this]; rfl
    · show x.dst = _
      rw [this]; rfl
  · rw [if_neg e0]
    by_cases e1 : k ≤ l.length
    · rw [if_pos e1]
      obtain ⟨m, hm, hx⟩ := hb (k - 1) (by omega) (by omega)
      exact ⟨by show x.kind = 2; rw [hx]; rfl, rfl⟩
    · rw [if_neg e1]
      have hx := he (by omega)
      exact ⟨by show x.kind = 3; rw [hx]; rfl, by show x.count = _; rw [hx]; rfl⟩
theorem take_far {src dst : Int} {l : List Msg} {n : Nat} {y : Rec} (hy : validR y = true) (hs : (n : Int) < y.seq) : takeF (inbAt src dst l n) y = (inbAt src dst l n, 190) := by
  unfold takeF
  rw [if_neg (by rw [hy]; decide)]
  by_cases h0 : n = 0
  · subst h0
    rw [if_pos (show (inbAt src dst l 0).op = false from rfl), if_pos (by omega)]
  · rw [inbAt_pos src dst l h0]
    rw [if_neg (by simp), if_neg (by simp only; omega), if_pos (.inl hs)]
theorem take_next_check {src dst : Int} {l : List Msg} {n : Nat} {x : Rec} (h1 : u64P src) (h2 : u64P dst) (hl : l.length ≤ 1000000) (hv : ∀ m ∈ l, validB m = true) (h : (makeF src dst l)[n]? = some x) (c : Int) (hc : c ≠ x.check) :
    takeF (inbAt src dst l n) { x with check := c } = (inbAt src dst l n, 192) := by
  obtain ⟨⟨hva, hr⟩, hs, hck, hcs, hh, hb, he, hi⟩ := make_facts h1 h2 hl hv h
  have hva2 : validR { x with check := c } = true := (valid_chk x c).trans hva
  have hnx : ∀ d, nextN d { x with check := c } = nextN d x := fun d => rfl
  unfold takeF
  rw [if_neg (by rw [hva2]; decide)]
  by_cases h0 : n = 0
  · subst h0
    rw [if_pos (show (inbAt src dst l 0).op = false from rfl), if_neg (by simp only [hs]; simp), if_pos]
    rw [hnx]
    intro e
    exact hc (e.trans hck.symm)
  · rw [inbAt_pos src dst l h0]
    rw [if_neg (by simp), if_neg (by simp only [hs]; omega), if_neg (by simp only [decide_eq_true_eq, hs]; omega), if_neg]
    rintro ⟨-, e⟩
    rw [hnx] at e
    simp only [Int.toNat_natCast] at e
    exact hc (e.trans hck.symm)
theorem take_next_same {src dst : Int} {l : List Msg} {n : Nat} {x : Rec} (h1 : u64P src) (h2 : u64P dst) (hl : l.length ≤ 1000000) (hv : ∀ m ∈ l, validB m = true) (h : (makeF src dst l)[n]? = some x) (c : Int) :
    ((takeF (inbAt src dst l n) { x with check := c }).2 = 0 ↔ c = x.check) ∧ ((takeF (inbAt src dst l n) { x with check := c }).2 ≠ 0 → takeF (inbAt src dst l n) { x with check := c } = (inbAt src dst l n, 192)) := by
  by_cases e : c = x.check
  · subst e
    have : takeF (inbAt src dst l n) { x with check := x.check } = (inbAt src dst l (n + 1), 0) := take_step h1 h2 hl hv h
    rw [this]
    exact ⟨by simp, fun h => absurd rfl h⟩
  · rw [take_next_check h1 h2 hl hv h c e]
    exact ⟨by simp [e], fun _ => rfl⟩
/-- A record of whose bytes one is another one does not follow. -/
theorem two_checks {c : Nat} {x y : Rec} (ex : x.check = (nextN c x : Nat)) (ey : y.check = (nextN c y : Nat)) {k : Nat} {v : UInt8} (hk : k < (bytesR x).length) (hv : (bytesR x)[k]? ≠ some v) (e : bytesR y = (bytesR x).set k v) : False := by
  have lx := nextN_lt c x
  have ly := nextN_lt c y
  have hc := congrArg List.length e
  rw [List.length_set] at hc
  unfold bytesR at e hc hv hk
  simp only [List.length_append, beN_len] at hc hk
  have hlen : (plainR y).length = (plainR x).length := by omega
  rcases Nat.lt_or_ge k (plainR x).length with h | h
  · rw [List.set_append_left _ _ h] at e
    obtain ⟨e1, e2⟩ := List.append_inj e (by rw [List.length_set]; exact hlen)
    rw [ex, ey, Int.toNat_natCast, Int.toNat_natCast] at e2
    have e3 := be_check ly lx e2
    unfold nextN at e3
    rw [e1] at e3
    obtain ⟨a, d, p, h1, h2, h3⟩ := set_split h v
    rw [h3, h2, ← List.append_assoc, ← List.append_assoc] at e3
    have e4 := fnv_one e3
    rw [List.getElem?_append_left h, h1, ← e4] at hv
    exact hv rfl
  · have e0 := e
    rw [List.set_append_right _ _ h] at e
    obtain ⟨e1, e2⟩ := List.append_inj e hlen
    have e3 : nextN c y = nextN c x := by
      unfold nextN
      rw [e1]
    have e4 : y.check = x.check := by rw [ex, ey, e3]
    rw [e1, e4] at e0
    rw [e0, List.getElem?_set_self (by simp only [List.length_append, beN_len]; omega)] at hv
    exact hv rfl
theorem take_damaged {src dst : Int} {l : List Msg} {n : Nat} {x y : Rec} (h1 : u64P src) (h2 : u64P dst) (hl : l.length ≤ 1000000) (hv : ∀ m ∈ l, validB m = true) (h : (makeF src dst l)[n]? = some x)
    (hy : validR y = true) (hs : y.seq = n) {k : Nat} {v : UInt8} (hk : k < (bytesR x).length) (hvv : (bytesR x)[k]? ≠ some v) (e : bytesR y = (bytesR x).set k v) : takeF (inbAt src dst l n) y = (inbAt src dst l n, 192) := by
  obtain ⟨⟨hva, hr⟩, hsx, hck, hcs, hh, hb, he, hi⟩ := make_facts h1 h2 hl hv h
  unfold takeF
  rw [if_neg (by rw [hy]; decide)]
  by_cases h0 : n = 0
  · subst h0
    rw [if_pos (show (inbAt src dst l 0).op = false from rfl), if_neg (by rw [hs]; simp), if_pos]
    exact fun e2 => two_checks hck e2 hk hvv e
  · rw [inbAt_pos src dst l h0]
    rw [if_neg (by simp), if_neg (by simp only [hs]; omega), if_neg (by simp only [decide_eq_true_eq, hs]; omega), if_neg]
    rintro ⟨-, e2⟩
    simp only [Int.toNat_natCast] at e2
    exact two_checks hck e2 hk hvv e
/-- When a record with the next number is taken. -/
def followsF (x : Inb) (r : Rec) : Bool := decide (r.check = (nextN x.check.toNat r : Nat)) && (decide (x.next = 0) || ((decide (r.kind = 2) == decide (x.next ≤ x.count)) && (decide (r.kind ≠ 3) || decide (r.count = x.count))))
theorem take_follows {src dst : Int} {l : List Msg} {n : Nat} {y : Rec} (hn : n ≤ l.length + 1) (hy : validR y = true) (hs : y.seq = n) : decide ((takeF (inbAt src dst l n) y).2 = 0) = followsF (inbAt src dst l n) y := by
  unfold takeF followsF
  rw [if_neg (by rw [hy]; decide)]
  by_cases h0 : n = 0
  · subst h0
    rw [if_pos (show (inbAt src dst l 0).op = false from rfl), if_neg (by rw [hs]; simp)]
    have e0 : (inbAt src dst l 0).check = 0 := rfl
    have e1 : (inbAt src dst l 0).next = 0 := rfl
    rw [e0, e1]
    by_cases hc : y.check = (nextN 0 y : Nat)
    · rw [if_neg (fun h => h hc)]
      simp [hc]
    · rw [if_pos hc]
      simp [hc]
  · rw [inbAt_pos src dst l h0]
    rw [if_neg (by simp), if_neg (by simp only [hs]; omega), if_neg (by simp only [decide_eq_true_eq, hs]; omega)]
    have hk : y.kind = 2 ∨ y.kind = 3 := by
      rcases validR_cases hy with ⟨-, -, s, -⟩ | ⟨k, -⟩ | ⟨k, -⟩
      · omega
      · exact .inl k
      · exact .inr k
    simp only [Int.toNat_natCast]
    have n0 : ((n : Int) = 0) = False := eq_false (by omega)
    unfold fitsF
    simp only [hs, n0, decide_false, Bool.false_or]
    by_cases hc : y.check = (nextN (chk 0 (bareF src dst l) n) y : Nat)
    · simp only [hc, and_true, decide_true, Bool.true_and]
      by_cases e : (n : Int) ≤ l.length
      · simp only [e, if_true, decide_true]
        rcases hk with hk | hk <;> simp [hk]
      · simp only [e, if_false, decide_false]
        rcases hk with hk | hk
        · simp [hk]
        · by_cases e3 : y.count = l.length <;> simp [hk, e3]
    · simp [hc]
end Go.PE

set_option linter.unusedVariables false
set_option linter.defProp false
set_option linter.all false
set_option linter.unusedSimpArgs false
set_option maxRecDepth 100000
set_option maxHeartbeats 4000000
namespace Go.PE
open Go Go.Proofs

def cId : Cod D := ⟨id, some, fun _ => rfl, fun d x h => by cases h; rfl⟩
/-- Apply on the empty forest, of streams that are not from its digest. -/
def hApply0 : Det := det2 cId cInb (fun f x => f = .agg f0L ∧ x.src ≠ 5558979605539197941) fun _ x => .tup [.d (.agg f0L), .d (.int .i64 (if x.done = true then 191 else 190))]
theorem f_recvApply0 : FPure Tryz.prog 21 hApply0.spec := by
  refine FPure.runL [(40, .det hTab0), (41, .det hDig0)] (fun i => if i = 6 then [(0, (false, [])), (2, (false, [])), (3, (false, [])), (1, (true, [2, 3])), (4, (false, [])), (5, (true, [2, 3]))] else if i = 8 then [(0, (false, [])), (1, (false, [])), (2, (false, [])), (5, (false, [])), (6, (false, [])), (3, (true, [1, 5, 6])), (4, (true, [1, 5, 6])), (7, (false, [])), (8, (true, [1, 5, 6]))] else []) (by
    intro p hp
    simp only [List.mem_cons, List.not_mem_nil, or_false] at hp
    rcases hp with rfl | rfl
    · exact f_table0
    · exact f_digest0) F.mixed Tryz.func21 (by kernel_rfl) rfl (by kernel_rfl) 45 Tryz.ntmps21 [.cell 4 66, .tmp 5] Tryz.results21 ?_
  intro ds K hl hs
  obtain ⟨f, x, rfl, ⟨rfl, hne⟩, hK⟩ := det2_elim hs
  have hf : ∀ d, cId.enc d = d := fun _ => rfl
  have hne' : (5558979605539197941 = x.src) = False := eq_false (fun h => hne h.symm)
  cases hd : x.done with
  | false =>
    rw [hd, if_neg (by decide)] at hK
    simp (config := { maxSteps := 4000000 }) only [hf, f0L_eq, cInb_enc, hd, hTab0, hDig0, hCl_eq, eBs, cBs, F.fBs, Nat.reduceSub, Nat.reduceAdd, Nat.reduceLT, Nat.reduceEqDiff, Nat.reduceLeDiff, Nat.reduceMul, Nat.reduceBEq, Int.reduceToNat, Op.operands, if_true, if_false, reduceCtorEq, if_pos, forall_const, implies_true, eq_self, ne_eq] at hK ⊢
    exact hK
  | true =>
    rw [hd, if_pos rfl] at hK
    simp (config := { maxSteps := 4000000 }) only [hf, f0L_eq, cInb_enc, hd, hne', hTab0, hDig0, hCl_eq, eBs, cBs, F.fBs, Nat.reduceSub, Nat.reduceAdd, Nat.reduceLT, Nat.reduceEqDiff, Nat.reduceLeDiff, Nat.reduceMul, Nat.reduceBEq, Int.reduceToNat, Op.operands, if_true, if_false, reduceCtorEq, if_pos, forall_const, implies_true, eq_self, ne_eq] at hK ⊢
    exact hK
def hTrue19 : Det := det0 True (.d (.bool true))
def sA7 (c : Nat) : Rec := ⟨1, 0, 0, 5, 7, ⟨0, [], [], [], [], [], [], 0⟩, c⟩
def sB7 (c : Nat) : Rec := ⟨3, 1, 0, 0, 0, ⟨0, [], [], [], [], [], [], 0⟩, c⟩
theorem make57 : ∃ c1 c2 : Nat, makeF 5 7 [] = [sA7 c1, sB7 c2] := ⟨_, _, rfl⟩
theorem u5 : u64P 5 := ⟨by decide, by decide⟩
theorem u6 : u64P 6 := ⟨by decide, by decide⟩
theorem u7 : u64P 7 := ⟨by decide, by decide⟩
def sI1 (c : Nat) : Inb := ⟨true, false, 0, 1, 5, 6, c, []⟩
def sI2 (c : Nat) : Inb := ⟨true, true, 0, 2, 5, 6, c, []⟩
theorem takes56 {c1 c2 : Nat} (e : makeF 5 6 [] = [sA c1, sB c2]) : takeF zeroInb (sA c1) = (sI1 c1, 0) ∧ takeF (sI1 c1) (sB c2) = (sI2 c2, 0) ∧ takeF (sI1 c1) (sA c1) = (sI1 c1, 0) ∧ takeF (sI2 c2) (sB c2) = (sI2 c2, 0) ∧ takeF zeroInb (sB c2) = (zeroInb, 190) ∧
    okI (sI1 c1) ∧ okI (sI2 c2) ∧ rangeR (sA c1) ∧ rangeR (sB c2) := by
  have v0 : ∀ m ∈ ([] : List Msg), validB m = true := fun m h => (nomatch h)
  have l0 : ([] : List Msg).length ≤ 1000000 := by decide
  have g0 : (makeF 5 6 [])[0]? = some (sA c1) := by rw [e]; rfl
  have g1 : (makeF 5 6 [])[1]? = some (sB c2) := by rw [e]; rfl
  have m0 := make_facts u5 u6 l0 v0 g0
  have m1 := make_facts u5 u6 l0 v0 g1
  have k1 : ((chk 0 (bareF 5 6 []) 1 : Nat) : Int) = c1 := by rw [m0.2.2.2.1]; exact m0.2.2.1.symm
  have k2 : ((chk 0 (bareF 5 6 []) 2 : Nat) : Int) = c2 := by rw [m1.2.2.2.1]; exact m1.2.2.1.symm
  have i1 : inbAt 5 6 [] 1 = sI1 c1 := by
    rw [inbAt_pos _ _ _ (by decide), k1]; rfl
  have i2 : inbAt 5 6 [] 2 = sI2 c2 := by
    rw [inbAt_pos _ _ _ (by decide), k2]; rfl
  have t0 := take_step u5 u6 l0 v0 g0
  have t1 := take_step u5 u6 l0 v0 g1
  have a0 := again_same u5 u6 l0 v0 g0 (n := 1) (by decide) (by decide) (sA c1).check
  have a1 := again_same u5 u6 l0 v0 g1 (n := 2) (by decide) (by decide) (sB c2).check
  have f1 := take_far (src := 5) (dst := 6) (l := []) (n := 0) m1.1.1 (by show ((0 : Nat) : Int) < 1; decide)
  have o1 := inbAt_ok u5 u6 l0 v0 1 (by decide)
  have o2 := inbAt_ok u5 u6 l0 v0 2 (by decide)
  rw [i1] at t0 t1 a0 o1
  rw [i2] at t1 a1 o2
  exact ⟨t0, t1, a0, a1, f1, o1, o2, m0.1.2, m1.1.2⟩
theorem take7 (c1 c : Nat) : takeF (sI1 c1) (sA7 c) = (sI1 c1, 192) := by
  have hv : validR (sA7 c) = true := by
    unfold validR sA7 leastB
    simp [zeroRec, zeroMsg]
  unfold takeF
  rw [if_neg (by rw [hv]; decide), if_neg (by simp [sI1]), if_pos (by simp [sI1, sA7]), if_neg]
  unfold likeF sI1 sA7
  simp
theorem take0 (x : Inb) : takeF x zeroRec = (x, 180) := by
  unfold takeF
  rw [if_pos (show validR zeroRec = false from rfl)]
theorem range7 (c1 c2 : Nat) (e : makeF 5 7 [] = [sA7 c1, sB7 c2]) : rangeR (sA7 c1) := by
  have v0 : ∀ m ∈ ([] : List Msg), validB m = true := fun m h => (nomatch h)
  exact make_range u5 u7 (by decide) v0 _ (by rw [e]; exact List.mem_cons_self ..)
theorem range0 : rangeR zeroRec := ⟨⟨by decide, by decide⟩, ⟨by decide, by decide⟩, ⟨by decide, by decide⟩⟩
theorem enc_sA7 (c : Nat) : (sA7 c).enc = [.int .i64 1, .int .i64 0, .int .i64 0, .int .u64 5, .int .u64 7, .int .i64 0, .str [], .str [], .str [], .str [], .str [], .str [], .int .i64 0, .int .u64 c] := rfl
theorem enc_sB7 (c : Nat) : (sB7 c).enc = [.int .i64 3, .int .i64 1, .int .i64 0, .int .u64 0, .int .u64 0, .int .i64 0, .str [], .str [], .str [], .str [], .str [], .str [], .int .i64 0, .int .u64 c] := rfl
theorem recD_A (c : Nat) : cRec.dec (.agg [.int .i64 1, .int .i64 0, .int .i64 0, .int .u64 5, .int .u64 6, .int .i64 0, .str [], .str [], .str [], .str [], .str [], .str [], .int .i64 0, .int .u64 c]) = some (sA c) := rfl
theorem recD_B (c : Nat) : cRec.dec (.agg [.int .i64 3, .int .i64 1, .int .i64 0, .int .u64 0, .int .u64 0, .int .i64 0, .str [], .str [], .str [], .str [], .str [], .str [], .int .i64 0, .int .u64 c]) = some (sB c) := rfl
theorem recD_7 (c : Nat) : cRec.dec (.agg [.int .i64 1, .int .i64 0, .int .i64 0, .int .u64 5, .int .u64 7, .int .i64 0, .str [], .str [], .str [], .str [], .str [], .str [], .int .i64 0, .int .u64 c]) = some (sA7 c) := rfl
theorem recD_0 : cRec.dec (.agg [.int .i64 0, .int .i64 0, .int .i64 0, .int .u64 0, .int .u64 0, .int .i64 0, .str [], .str [], .str [], .str [], .str [], .str [], .int .i64 0, .int .u64 0]) = some zeroRec := rfl
theorem inbD_0 : cInb.dec (.agg [.bool false, .bool false, .int .i64 0, .int .i64 0, .int .u64 0, .int .u64 0, .int .u64 0, .list []]) = some zeroInb := rfl
theorem inbD_1 (c : Nat) : cInb.dec (.agg [.bool true, .bool false, .int .i64 0, .int .i64 1, .int .u64 5, .int .u64 6, .int .u64 c, .list []]) = some (sI1 c) := rfl
theorem inbD_2 (c : Nat) : cInb.dec (.agg [.bool true, .bool true, .int .i64 0, .int .i64 2, .int .u64 5, .int .u64 6, .int .u64 c, .list []]) = some (sI2 c) := rfl
theorem tknE_1 (c : Nat) : tknE (sI1 c, 0) = [.bool true, .bool false, .int .i64 0, .int .i64 1, .int .u64 5, .int .u64 6, .int .u64 c, .list [], .int .i64 0] := rfl
theorem tknE_2 (c : Nat) : tknE (sI2 c, 0) = [.bool true, .bool true, .int .i64 0, .int .i64 2, .int .u64 5, .int .u64 6, .int .u64 c, .list [], .int .i64 0] := rfl
theorem tknE_19 : tknE (zeroInb, 190) = [.bool false, .bool false, .int .i64 0, .int .i64 0, .int .u64 0, .int .u64 0, .int .u64 0, .list [], .int .i64 190] := rfl
theorem tknE_7 (c : Nat) : tknE (sI1 c, 192) = [.bool true, .bool false, .int .i64 0, .int .i64 1, .int .u64 5, .int .u64 6, .int .u64 c, .list [], .int .i64 192] := rfl
theorem tknE_0 (c : Nat) : tknE (sI1 c, 180) = [.bool true, .bool false, .int .i64 0, .int .i64 1, .int .u64 5, .int .u64 6, .int .u64 c, .list [], .int .i64 180] := rfl
theorem tknD_1 (c : Nat) : cTkn.dec (.agg [.bool true, .bool false, .int .i64 0, .int .i64 1, .int .u64 5, .int .u64 6, .int .u64 c, .list [], .int .i64 0]) = some (sI1 c, 0) := rfl
theorem tknD_2 (c : Nat) : cTkn.dec (.agg [.bool true, .bool true, .int .i64 0, .int .i64 2, .int .u64 5, .int .u64 6, .int .u64 c, .list [], .int .i64 0]) = some (sI2 c, 0) := rfl
theorem msgsD_0 : cMsgs.dec (.list []) = some [] := rfl
theorem miss_0 : (if zeroInb.done = true then (-1 : Int) else zeroInb.next) = 0 := rfl
theorem miss_1 (c : Nat) : (if (sI1 c).done = true then (-1 : Int) else (sI1 c).next) = 1 := rfl
theorem miss_2 (c : Nat) : (if (sI2 c).done = true then (-1 : Int) else (sI2 c).next) = -1 := rfl
theorem appl_1 (c : Nat) : (if (sI1 c).done = true then (191 : Int) else 190) = 190 := rfl
theorem appl_2 (c : Nat) : (if (sI2 c).done = true then (191 : Int) else 190) = 191 := rfl
theorem f_19sanity : FPure Tryz.prog 6 hTrue19.spec := by
  refine FPure.runL [(7, .det hMake), (10, .det h19Take), (11, .det hSameT), (17, .det hMissing), (19, .det h19Same), (20, .det hMade0), (21, .det hApply0)] (fun i => if i = 4 then [(0, (true, [])), (1, (true, [])), (2, (false, [])), (3, (false, [])), (4, (false, [])), (5, (false, [])), (6, (false, [])), (7, (false, [])), (8, (false, [])), (9, (false, [])), (10, (false, [])), (11, (true, [2, 4, 6, 7, 8, 9])), (12, (false, [])), (13, (false, []))] else if i = 6 then [(0, (false, [])), (1, (false, [])), (2, (false, [])), (3, (false, [])), (4, (false, [])), (5, (false, [])), (6, (true, [0, 1, 2, 3, 4, 5])), (7, (true, []))] else if i = 7 then [(0, (true, [])), (1, (true, [])), (2, (false, [])), (3, (false, [])), (4, (false, [])), (5, (false, [])), (6, (false, [])), (7, (false, [])), (8, (false, [])), (9, (false, [])), (10, (false, [])), (11, (true, [2, 4, 6, 7, 8, 9])), (12, (false, [])), (13, (false, []))] else if i = 9 then [(0, (false, [])), (1, (false, [])), (2, (false, [])), (3, (false, [])), (4, (false, [])), (6, (false, [])), (5, (true, [0, 2, 3, 6])), (7, (true, [0, 2, 3])), (8, (false, [])), (9, (false, [])), (10, (false, [])), (11, (false, [])), (12, (false, [])), (13, (false, [])), (15, (false, [])), (14, (true, [0, 2, 3, 9, 11, 12, 15])), (16, (true, [0, 2, 3, 9, 11, 12])), (17, (false, [])), (18, (true, []))] else if i = 13 then [(0, (true, [])), (1, (true, [])), (2, (false, [])), (3, (false, [])), (4, (false, [])), (5, (false, [])), (6, (true, [3, 4])), (7, (false, [])), (8, (false, [])), (9, (false, [])), (10, (false, [])), (11, (false, [])), (12, (false, [])), (13, (false, [])), (14, (false, [])), (15, (false, [])), (16, (true, [3, 4, 7, 8, 9, 11, 13, 14])), (17, (false, [])), (18, (false, [])), (19, (false, [])), (20, (false, [])), (21, (false, [])), (22, (false, [])), (23, (false, [])), (24, (true, [3, 4, 7, 8, 9, 11, 13, 14, 17, 18, 19, 21])), (25, (false, [])), (26, (false, [])), (27, (false, [])), (28, (false, [])), (29, (false, [])), (30, (true, [3, 4, 7, 8, 9, 11, 13, 14, 17, 18, 19, 21, 25, 26, 27])), (31, (false, [])), (32, (false, [])), (33, (false, [])), (34, (false, [])), (35, (false, [])), (36, (true, [3, 4, 7, 8, 9, 11, 13, 14, 17, 18, 19, 21, 25, 26, 27, 31, 32, 34])), (37, (false, [])), (38, (false, [])), (39, (false, [])), (40, (false, [])), (41, (false, [])), (42, (true, [3, 4, 7, 8, 9, 11, 13, 14, 17, 18, 19, 21, 25, 26, 27, 31, 32, 34, 37, 38, 40])), (43, (false, [])), (44, (false, [])), (45, (false, [])), (46, (false, [])), (47, (false, [])), (48, (false, [])), (49, (false, [])), (50, (false, [])), (51, (false, [])), (52, (false, [])), (53, (true, []))] else []) (by
    intro p hp
    simp only [List.mem_cons, List.not_mem_nil, or_false] at hp
    rcases hp with rfl | rfl | rfl | rfl | rfl | rfl | rfl
    · exact f_18Make
    · exact f_law19take
    · exact f_law19same
    · exact f_recvMissing
    · exact f_19Same
    · exact f_16Made0
    · exact f_recvApply0) F.mixed Tryz.func6 (by kernel_rfl) rfl (by kernel_rfl) 138 Tryz.ntmps6 [.tmp 0] Tryz.results6 ?_
  intro ds K hl hs
  obtain ⟨rfl, -, hK⟩ := det0_elim hs
  have v0 : ∀ m ∈ ([] : List Msg), validB m = true := fun m h => (nomatch h)
  obtain ⟨c1, c2, e⟩ := make56
  obtain ⟨c3, c4, e'⟩ := make57
  obtain ⟨t1, t2, t3, t4, t5, o1, o2, r1, r2⟩ := takes56 e
  have t6 := take7 c1 c3
  have t7 := take0 (sI1 c1)
  have r3 := range7 c3 c4 e'
  have b1 : cId.dec (.agg f0L) = some (.agg f0L) := rfl
  rw [f0L_eq] at b1
  simp (config := { maxSteps := 8000000 }) only [hMake, msgsD_0, e, e', enc_sA, enc_sB, enc_sA7, enc_sB7, h19Take, recD_A, recD_B, recD_7, recD_0, inbD_0, inbD_1, inbD_2, t1, t2, t3, t4, t5, t6, t7, tknE_1, tknE_2, tknE_19, tknE_7, tknE_0, tknD_1, tknD_2, hSameT, h19Same, hMissing, miss_0, miss_1, miss_2, hMade0, hCl_eq, f0L_eq, hApply0, appl_1, appl_2, b1, decide_true, Int.reduceEq, eBs, cBs, F.fBs, Nat.reduceSub, Nat.reduceAdd, Nat.reduceLT, Nat.reduceEqDiff, Nat.reduceLeDiff, Nat.reduceMul, Nat.reduceBEq, Int.reduceToNat, Op.operands, if_true, if_false, reduceCtorEq, if_pos, forall_const, implies_true, eq_self, ne_eq]
  clear hs hl e e' t1 t2 t3 t4 t5 t6 t7
  have n1 : (sI1 c1).src ≠ 5558979605539197941 := by show (5 : Int) ≠ _; decide
  have n2 : (sI2 c2).src ≠ 5558979605539197941 := by show (5 : Int) ≠ _; decide
  have z0 := zero_ok
  have q0 := range0
  repeat' (first | exact hK | exact u5 | exact u6 | exact u7 | exact v0 | exact z0 | exact o1 | exact o2 | exact r1 | exact r2 | exact r3 | exact q0 | exact n1 | exact n2 | (with_reducible apply And.intro) | omega | rfl | (intro x hx; injection hx with hx; subst hx; exact ⟨rfl, rfl⟩))
end Go.PE

