/- WkTa: what the laws need of it. -/
import Derived.Test.YtknilgmkgjjidaaGreatDoorWkSq
import Derived.Test.YtknilgmkgjjidaaGreatDoorWkSh
import Derived.Test.YtknilgmkgjjidaaGreatDoorWkW
import Derived.Test.YtknilgmkgjjidaaGreatDoorWkX
set_option linter.unusedVariables false
set_option linter.defProp false
set_option linter.all false
set_option linter.unusedSimpArgs false
set_option maxRecDepth 100000
set_option maxHeartbeats 4000000
namespace Go.PE
open Go Go.Proofs

structure Inb where
  op : Bool
  done : Bool
  count : Int
  next : Int
  src : Int
  dst : Int
  check : Int
  msgs : List Msg
  deriving DecidableEq
def Inb.enc (x : Inb) : List D := [.bool x.op, .bool x.done, .int .i64 x.count, .int .i64 x.next, .int .u64 x.src, .int .u64 x.dst, .int .u64 x.check, .list (x.msgs.map Msg.enc)]
def Inb.dec : List D → Option Inb
  | [.bool o, .bool e, .int .i64 c, .int .i64 n, .int .u64 f, .int .u64 t, .int .u64 h, .list es] => (decL Msg.dec es).map fun l => ⟨o, e, c, n, f, t, h, l⟩
  | _ => none
theorem Inb.dec_enc (x : Inb) : Inb.dec x.enc = some x := by
  simp only [Inb.enc, Inb.dec, decL_map (dec := Msg.dec) (enc := Msg.enc) (fun _ => rfl)]
  rfl
theorem Inb.dec_ed (e : List D) (x : Inb) (h : Inb.dec e = some x) : e = x.enc := by
  unfold Inb.dec at h
  split at h
  · simp only [Option.map_eq_some_iff] at h
    obtain ⟨l, hl, rfl⟩ := h
    simp only [Inb.enc, decL_inv Msg.dec_ed hl]
  · cases h
def cInb : Cod Inb := cAgg Inb.enc Inb.dec Inb.dec_enc Inb.dec_ed
theorem cInb_enc (x : Inb) : cInb.enc x = .agg [.bool x.op, .bool x.done, .int .i64 x.count, .int .i64 x.next, .int .u64 x.src, .int .u64 x.dst, .int .u64 x.check, .list (x.msgs.map Msg.enc)] := rfl
theorem cInb_dec (o e : Bool) (c n f t h : Int) (l : List Msg) : cInb.dec (.agg [.bool o, .bool e, .int .i64 c, .int .i64 n, .int .u64 f, .int .u64 t, .int .u64 h, .list (l.map Msg.enc)]) = some ⟨o, e, c, n, f, t, h, l⟩ := cInb.de ⟨o, e, c, n, f, t, h, l⟩
theorem Inb.em (x : Inb) : x.enc = [.bool x.op, .bool x.done, .int .i64 x.count, .int .i64 x.next, .int .u64 x.src, .int .u64 x.dst, .int .u64 x.check, .list (x.msgs.map Msg.enc)] := rfl
theorem Inb.eta (x : Inb) : (⟨x.op, x.done, x.count, x.next, x.src, x.dst, x.check, x.msgs⟩ : Inb) = x := rfl
def zeroInb : Inb := ⟨false, false, 0, 0, 0, 0, 0, []⟩
/-- A record and the one that was taken with its number. -/
def likeF (x : Inb) (r : Rec) : Bool :=
  if r.seq = 0 then decide (r.count = x.count) && (decide (r.src = x.src) && decide (r.dst = x.dst))
  else if r.seq ≤ x.count then decide (r.kind = 2) && decide (r.msg = x.msgs.getD (r.seq - 1).toNat default)
  else decide (r.kind = 3) && decide (r.count = x.count)
def fitsF (x : Inb) (r : Rec) : Bool := if r.seq ≤ x.count then decide (r.kind = 2) else decide (r.kind = 3) && decide (r.count = x.count)
def takeF (x : Inb) (r : Rec) : Inb × Int :=
  if validR r = false then (x, 180)
  else if x.op = false then
    if r.seq ≠ 0 then (x, 190)
    else if r.check ≠ (nextN 0 r : Nat) then (x, 192)
    else (⟨true, false, r.count, 1, r.src, r.dst, r.check, []⟩, 0)
  else if r.seq < x.next then (if likeF x r = true then (x, 0) else (x, 192))
  else if x.next < r.seq ∨ x.done = true then (x, 190)
  else if fitsF x r = true ∧ r.check = (nextN x.check.toNat r : Nat) then
    (if r.seq ≤ x.count then ({ x with check := r.check, next := x.next + 1, msgs := x.msgs ++ [r.msg] }, 0) else ({ x with check := r.check, next := x.next + 1, done := true }, 0))
  else (x, 192)
/-- What inboxes are that records were taken into. -/
structure okI (x : Inb) : Prop where
  zero : x.op = false → x = zeroInb
  open_ : x.op = true → i31P x.count ∧ 1 ≤ x.next ∧ x.next ≤ x.count + 2 ∧ (x.done = true ↔ x.next = x.count + 2) ∧ (x.msgs.length : Int) = min (x.next - 1) x.count
  nums : u64P x.src ∧ u64P x.dst ∧ u64P x.check
  msgs : ∀ m ∈ x.msgs, validB m = true
theorem zero_ok : okI zeroInb := ⟨fun _ => rfl, fun h => (by cases h), ⟨⟨by decide, by decide⟩, ⟨by decide, by decide⟩, ⟨by decide, by decide⟩⟩, fun m h => by cases h⟩
theorem seq0_head {r : Rec} (h : validR r = true) (h0 : r.seq = 0) : r.kind = 1 ∧ i31P r.count := by
  rcases validR_cases h with ⟨k, c, -⟩ | ⟨-, s, -⟩ | ⟨-, s, -⟩
  · exact ⟨k, c⟩
  · omega
  · omega
theorem take_ok {x : Inb} {r : Rec} (hx : okI x) (hr : rangeR r) : okI (takeF x r).1 := by
  unfold takeF
  split
  · exact hx
  rename_i hv
  have hv : validR r = true := by simpa using hv
  split
  · rename_i ho
    split
    · exact hx
    split
    · exact hx
    · rename_i h0 hc
      have h0 : r.seq = 0 := Classical.not_not.1 h0
      obtain ⟨-, hc0⟩ := seq0_head hv h0
      have := hc0.1
      exact ⟨fun h => (by cases h), fun _ => ⟨hc0, by simp, by simp; omega, by simp; omega, by simp; omega⟩, hr, fun m h => by cases h⟩
  rename_i ho
  have ho : x.op = true := by simpa using ho
  obtain ⟨h1, h2, h3, h4, h5⟩ := hx.open_ ho
  split
  · split <;> exact hx
  split
  · exact hx
  rename_i hs hd
  simp only [not_or, Bool.not_eq_true] at hd
  have hn : x.next ≠ x.count + 2 := by
    intro e
    rw [h4.2 e] at hd
    exact absurd hd.2 (by decide)
  split
  · rename_i hf
    split
    · rename_i hsc
      refine ⟨fun h => ?_, fun _ => ⟨h1, by simp only; omega, by simp only; omega, ?_, ?_⟩, ⟨hx.nums.1, hx.nums.2.1, hr.2.2⟩, fun m hm => ?_⟩
      · simp only [ho] at h
        cases h
      · simp only [hd.2]
        constructor
        · intro h; cases h
        · intro h; omega
      · simp only [List.length_append, List.length_cons, List.length_nil]
        omega
      · simp only [List.mem_append, List.mem_singleton] at hm
        rcases hm with hm | rfl
        · exact hx.msgs _ hm
        · have hk := hf.1
          unfold fitsF at hk
          rw [if_pos hsc] at hk
          have hk : r.kind = 2 := by simpa using hk
          rcases validR_cases hv with ⟨k, -⟩ | ⟨-, -, -, m, -⟩ | ⟨k, -⟩
          · omega
          · exact m
          · omega
    · rename_i hsc
      refine ⟨fun h => ?_, fun _ => ⟨h1, by simp only; omega, by simp only; omega, ?_, ?_⟩, ⟨hx.nums.1, hx.nums.2.1, hr.2.2⟩, hx.msgs⟩
      · simp only [ho] at h
        cases h
      · constructor
        · intro _; simp only; omega
        · intro _; rfl
      · simp only
        omega
  · exact hx

/-- The inbox after i records of a stream. -/
def inbAt (src dst : Int) (l : List Msg) (i : Nat) : Inb :=
  if i = 0 then zeroInb else ⟨true, decide (i = l.length + 2), l.length, i, src, dst, (chk 0 (bareF src dst l) i : Nat), l.take (i - 1)⟩
theorem inbAt_next (src dst : Int) (l : List Msg) (i : Nat) : (inbAt src dst l i).next = i := by
  unfold inbAt
  split
  · rename_i h; rw [h]; rfl
  · rfl
theorem make_facts {src dst : Int} {l : List Msg} {i : Nat} {x : Rec} (h1 : u64P src) (h2 : u64P dst) (hl : l.length ≤ 1000000) (hv : ∀ m ∈ l, validB m = true) (h : (makeF src dst l)[i]? = some x) :
    okR1 x ∧ x.seq = i ∧ x.check = (nextN (chk 0 (bareF src dst l) i) x : Nat) ∧ chk 0 (bareF src dst l) (i + 1) = nextN (chk 0 (bareF src dst l) i) x ∧
    (i = 0 → x = withC (headR src dst l.length) x.check.toNat) ∧ (∀ j, i = j + 1 → j < l.length → ∃ m, l[j]? = some m ∧ x = withC (bodyR j m) x.check.toNat) ∧ (i = l.length + 1 → x = withC (endR l.length) x.check.toNat) ∧ i ≤ l.length + 1 := by
  have hox := make_ok h1 h2 hl hv x (List.mem_of_getElem? h)
  have hs := make_seq h
  have hlt : i < (makeF src dst l).length := (List.getElem?_eq_some_iff.1 h).1
  rw [make_len] at hlt
  rw [make_get] at h
  cases hy : (bareF src dst l)[i]? with
  | none => rw [hy] at h; cases h
  | some y =>
    rw [hy] at h
    simp only [Option.map_some, Option.some.injEq] at h
    have hc : x.check = (nextN (chk 0 (bareF src dst l) i) x : Nat) := by rw [← h, next_withC]; rfl
    have hyx : x = withC y x.check.toNat := by rw [← h]; rfl
    refine ⟨hox, hs.1, hc, by rw [chk_succ hy, ← h, next_withC], fun e => ?_, fun j e hj => ?_, fun e => ?_, by omega⟩
    · rw [bare_get, if_pos e] at hy
      injection hy with hy
      rw [hy]
      exact hyx
    · rw [bare_get, if_neg (by omega), if_pos (by omega)] at hy
      have e2 : i - 1 = j := by omega
      rw [e2, List.getElem?_eq_getElem hj] at hy
      simp only [Option.map_some, Option.some.injEq] at hy
      exact ⟨_, List.getElem?_eq_getElem hj, by rw [hy]; exact hyx⟩
    · rw [bare_get, if_neg (by omega), if_neg (by omega), if_pos e] at hy
      injection hy with hy
      rw [hy]
      exact hyx
theorem take_step {src dst : Int} {l : List Msg} {i : Nat} {x : Rec} (h1 : u64P src) (h2 : u64P dst) (hl : l.length ≤ 1000000) (hv : ∀ m ∈ l, validB m = true) (h : (makeF src dst l)[i]? = some x) :
    takeF (inbAt src dst l i) x = (inbAt src dst l (i + 1), 0) := by
  obtain ⟨⟨hva, hr⟩, hs, hc, hcs, hh, hb, he, hi⟩ := make_facts h1 h2 hl hv h
  unfold takeF
  rw [if_neg (by rw [hva]; decide)]
  rcases Nat.eq_zero_or_pos i with e | e
  · subst e
    have e0 : inbAt src dst l 0 = zeroInb := rfl
    have ec : chk 0 (bareF src dst l) 0 = 0 := rfl
    rw [ec] at hc hcs
    rw [e0, if_pos (show zeroInb.op = false from rfl), if_neg (by simp [hs]), if_neg (by rw [← hc]; simp)]
    have hx := hh rfl
    have e1 : x.count = l.length := by rw [hx]; rfl
    have e2 : x.src = src := by rw [hx]; rfl
    have e3 : x.dst = dst := by rw [hx]; rfl
    unfold inbAt
    rw [if_neg (by omega), e1, e2, e3, hcs, hc]
    simp only [Prod.mk.injEq, and_true, Inb.mk.injEq, true_and]
    refine ⟨(decide_eq_false (by omega)).symm, rfl, by simp⟩
  · have hne : i ≠ 0 := by omega
    have ha : inbAt src dst l i = ⟨true, decide (i = l.length + 2), l.length, i, src, dst, (chk 0 (bareF src dst l) i : Nat), l.take (i - 1)⟩ := by
      unfold inbAt
      rw [if_neg hne]
    have hb2 : inbAt src dst l (i + 1) = ⟨true, decide (i + 1 = l.length + 2), l.length, (i + 1 : Nat), src, dst, (chk 0 (bareF src dst l) (i + 1) : Nat), l.take (i + 1 - 1)⟩ := by
      unfold inbAt
      rw [if_neg (by omega)]
    rw [ha, hb2]
    rw [if_neg (show ¬ true = false by decide), if_neg (by simp only [hs]; omega)]
    rw [if_neg (by simp only [decide_eq_true_eq, hs]; omega)]
    simp only [Int.toNat_natCast]
    rcases Nat.lt_or_ge (i - 1) l.length with hj | hj
    · obtain ⟨m, hm, hx⟩ := hb (i - 1) (by omega) hj
      have hk : x.kind = 2 := by rw [hx]; rfl
      have hms : x.msg = m := by rw [hx]; rfl
      rw [if_pos ⟨by unfold fitsF; rw [if_pos (by simp only; omega)]; simp [hk], hc⟩, if_pos (by omega)]
      simp only [Prod.mk.injEq, and_true, Inb.mk.injEq, true_and]
      refine ⟨?_, by omega, by rw [hcs]; exact hc, ?_⟩
      · rw [decide_eq_false (by omega), decide_eq_false (by omega)]
      · rw [hms, show i + 1 - 1 = (i - 1) + 1 by omega, List.take_add_one, hm]
        rfl
    · have e2 : i = l.length + 1 := by omega
      have hx := he e2
      have hk : x.kind = 3 := by rw [hx]; rfl
      have hct : x.count = l.length := by rw [hx]; rfl
      rw [if_pos ⟨by unfold fitsF; rw [if_neg (by simp only; omega)]; simp [hk, hct], hc⟩, if_neg (by omega)]
      simp only [Prod.mk.injEq, and_true, Inb.mk.injEq, true_and]
      refine ⟨(decide_eq_true (by omega)).symm, by omega, by rw [hcs]; exact hc, ?_⟩
      rw [List.take_of_length_le (by omega), List.take_of_length_le (by omega)]
theorem inbAt_ok {src dst : Int} {l : List Msg} (h1 : u64P src) (h2 : u64P dst) (hl : l.length ≤ 1000000) (hv : ∀ m ∈ l, validB m = true) : ∀ i, i ≤ l.length + 2 → okI (inbAt src dst l i)
  | 0, _ => zero_ok
  | i + 1, hi => by
    have ih := inbAt_ok h1 h2 hl hv i (by omega)
    have hlt : i < (makeF src dst l).length := by rw [make_len]; omega
    have hx : (makeF src dst l)[i]? = some (makeF src dst l)[i] := List.getElem?_eq_getElem hlt
    have hs := take_step h1 h2 hl hv hx
    have := take_ok ih (make_range h1 h2 hl hv _ (List.getElem_mem hlt))
    rw [hs] at this
    exact this
/-- What is taken already is taken again, whatever its check. -/
theorem take_again {src dst : Int} {l : List Msg} {k n : Nat} {x y : Rec} (h1 : u64P src) (h2 : u64P dst) (hl : l.length ≤ 1000000) (hv : ∀ m ∈ l, validB m = true) (h : (makeF src dst l)[k]? = some x) (hk : k < n) (hn : n ≤ l.length + 2)
    (hy : validR y = true) (hs : y.seq = k) : takeF (inbAt src dst l n) y = (inbAt src dst l n, if (if k = 0 then y.count = l.length ∧ y.src = src ∧ y.dst = dst else if k ≤ l.length then y.kind = 2 ∧ y.msg = x.msg else y.kind = 3 ∧ y.count = l.length) then 0 else 192) := by
  obtain ⟨⟨hva, hr⟩, hsx, hc, hcs, hh, hb, he, hi⟩ := make_facts h1 h2 hl hv h
  have ha : inbAt src dst l n = ⟨true, decide (n = l.length + 2), l.length, n, src, dst, (chk 0 (bareF src dst l) n : Nat), l.take (n - 1)⟩ := by
    unfold inbAt
    rw [if_neg (by omega)]
  rw [ha]
  unfold takeF
  rw [if_neg (by rw [hy]; decide), if_neg (by simp), if_pos (by simp only; omega)]
  have key : likeF ⟨true, decide (n = l.length + 2), l.length, n, src, dst, (chk 0 (bareF src dst l) n : Nat), l.take (n - 1)⟩ y = true ↔ (if k = 0 then y.count = l.length ∧ y.src = src ∧ y.dst = dst else if k ≤ l.length then y.kind = 2 ∧ y.msg = x.msg else y.kind = 3 ∧ y.count = l.length) := by
    unfold likeF
    simp only [hs]
    by_cases e0 : k = 0
    · subst e0
      simp
    · rw [if_neg (by omega), if_neg e0]
      by_cases e1 : k ≤ l.length
      · rw [if_pos (by omega), if_pos e1]
        obtain ⟨m, hm, hx⟩ := hb (k - 1) (by omega) (by omega)
        have hms : x.msg = m := by rw [hx]; rfl
        have : (l.take (n - 1)).getD ((k : Int) - 1).toNat default = m := by
          rw [show ((k : Int) - 1).toNat = k - 1 by omega]
          refine getD_of ?_
          rw [List.getElem?_take, if_pos (by omega)]
          exact hm
        rw [this, hms]
        simp
      · rw [if_neg (by omega), if_neg e1]
        simp
  by_cases hlk : likeF ⟨true, decide (n = l.length + 2), l.length, n, src, dst, (chk 0 (bareF src dst l) n : Nat), l.take (n - 1)⟩ y = true
  · rw [if_pos hlk, if_pos (key.1 hlk)]
  · rw [if_neg hlk, if_neg (fun hh => hlk (key.2 hh))]
/-- Records whose bytes are read again as some record. -/
def okR0 (r : Rec) : Prop := (r.kind = 1 ∨ r.kind = 2 ∨ r.kind = 3) ∧ i31P r.seq ∧ i31P r.count ∧ (r.kind = 2 → validB r.msg = true) ∧ u64P r.src ∧ u64P r.dst ∧ u64P r.check
theorem plainR_le0 (r : Rec) : (plainR r).length ≤ 131200 := by
  have hm := bytes_le r.msg
  unfold plainR
  simp only [List.length_cons, List.length_append]
  split
  · simp [beN_len]
  split
  · simp [beN_len]; omega
  · simp [beN_len]
theorem valid_back {r : Rec} (h : okR0 r) : (match parseR (bytesR r) with | some (b, _) => decide (b = r) | none => false) = validR r := by
  cases hv : validR r with
  | true =>
    have := parseR_ok (r := r) ⟨hv, h.2.2.2.2⟩ []
    rw [List.append_nil] at this
    rw [this]
    simp
  | false =>
    cases hp : parseR (bytesR r) with
    | none => rfl
    | some q =>
      obtain ⟨b, n⟩ := q
      have := (parseR_inv hp).1
      simp only
      refine decide_eq_false fun e => ?_
      rw [e, hv] at this
      cases this
end Go.PE
