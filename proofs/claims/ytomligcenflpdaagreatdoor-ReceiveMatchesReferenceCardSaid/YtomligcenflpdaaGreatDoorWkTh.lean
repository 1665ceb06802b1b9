/- Law 19: ReceiveMatchesReference. -/
import Derived.Test.YtomligcenflpdaaGreatDoorWkTf
import Derived.Test.YtomligcenflpdaaGreatDoorWkTl
import Derived.Test.YtomligcenflpdaaGreatDoorWkZb
import Derived.Test.YtomligcenflpdaaGreatDoorWkSh
set_option linter.unusedVariables false
set_option linter.defProp false
set_option linter.all false
set_option linter.unusedSimpArgs false
set_option maxRecDepth 10000
set_option maxHeartbeats 4000000
namespace Go.PE
open Go Go.Proofs

theorem c2_dec (k : IntKind) (a b : Int) : (c2 k).dec (.agg [.int k a, .int k b]) = some (a, b) := (c2 k).de (a, b)
structure Q4 where
  a : Int
  b : Int
  c : Int
  d : Int
  deriving Inhabited
def Q4.enc (x : Q4) : List D := [.int .u8 x.a, .int .u8 x.b, .int .u8 x.c, .int .u8 x.d]
def Q4.dec : List D → Option Q4
  | [.int .u8 a, .int .u8 b, .int .u8 c, .int .u8 d] => some ⟨a, b, c, d⟩
  | _ => none
theorem Q4.dec_ed (e : List D) (x : Q4) (h : Q4.dec e = some x) : e = x.enc := by
  unfold Q4.dec at h
  split at h
  · injection h with h
    subst h
    rfl
  · cases h
def Q4.ok (x : Q4) : Prop := byteP x.a ∧ byteP x.b ∧ byteP x.c ∧ byteP x.d
def cQ4s : Cod (List Q4) := cList Q4.enc Q4.dec (fun _ => rfl) Q4.dec_ed
theorem cQ4s_enc (l : List Q4) : cQ4s.enc l = .list (l.map Q4.enc) := rfl
/-- A list's element that is known. -/
theorem eL_at {α : Type} {enc : α → List D} {l : List α} {k : Nat} {x : α} (hx : l[k]? = some x) (n : Nat) (F : Kt (List D → Prop)) : @eL (l.map enc) k n F = ((enc x).length = n ∧ F.v (enc x)) := by
  rw [eL_map]
  exact propext ⟨fun h => h x hx, fun h z hz => by rw [hx] at hz; injection hz with hz; subst hz; exact h⟩
theorem eG_at {α : Type} {enc : α → List D} {l : List α} {k : Nat} {x : α} (hx : l[k]? = some x) (g : Bool) (n : Nat) (F : Kt (List D → Prop)) : @eG g (l.map enc) k n F = ((g = true → (enc x).length = n) ∧ F.v (enc x)) := by
  have hm : (l.map enc)[k]? = some (enc x) := by rw [List.getElem?_map, hx]; rfl
  show elemG g (l.map enc) k n F.v = _
  unfold elemG
  refine propext ⟨fun ⟨z, h1, h2, h3⟩ => ?_, fun ⟨h1, h2⟩ => ⟨enc x, fun z hz => by rw [hm] at hz; injection hz, h1, h2⟩⟩
  have := h1 _ hm
  subst this
  exact ⟨h2, h3⟩
theorem p1 : u64P 1 := ⟨by decide, by decide⟩
theorem p2 : u64P 2 := ⟨by decide, by decide⟩
/-- What the box of an inbox has: at first a nil list. -/
def boxI (z : Bool) (x : Inb) : List AV := if z then [.d (.bool false), .d (.bool false), .d (.int .i64 0), .d (.int .i64 0), .d (.int .u64 0), .d (.int .u64 0), .d (.int .u64 0), .nilS] else x.enc.map .d
theorem boxI_true (x : Inb) : boxI true x = [.d (.bool false), .d (.bool false), .d (.int .i64 0), .d (.int .i64 0), .d (.int .u64 0), .d (.int .u64 0), .d (.int .u64 0), .nilS] := rfl
theorem boxI_false (x : Inb) : boxI false x = [.d (.bool x.op), .d (.bool x.done), .d (.int .i64 x.count), .d (.int .i64 x.next), .d (.int .u64 x.src), .d (.int .u64 x.dst), .d (.int .u64 x.check), .d (.list (x.msgs.map Msg.enc))] := rfl
theorem at_enc {α : Type} {enc : α → List D} {l : List α} {k : Nat} {x : α} (hx : l[k]? = some x) {P : List D → Prop} (h : P (enc x)) : ∀ z, (l.map enc)[k]? = some z → P z := by
  intro z hz
  rw [List.getElem?_map, hx] at hz
  injection hz with hz
  subst hz
  exact h
theorem fin19 (N i : Nat) {x : Inb} (hx : okI x) (hi : i < N) (h12 : i < 12) : ∃ a' : Nat × Inb, ((a'.fst ≤ N ∧ a'.fst ≤ 12) ∧ okI a'.snd) ∧ N - a'.fst < N - i ∧
    AV.d (.int .i64 ((i + 1 : Nat) : Int)) = AV.d (.int .i64 (a'.fst : Int)) ∧ AV.d (.bool x.op) = AV.d (.bool a'.snd.op) ∧ AV.d (.bool x.done) = AV.d (.bool a'.snd.done) ∧ AV.d (.int .i64 x.count) = AV.d (.int .i64 a'.snd.count) ∧ AV.d (.int .i64 x.next) = AV.d (.int .i64 a'.snd.next) ∧
    AV.d (.int .u64 x.src) = AV.d (.int .u64 a'.snd.src) ∧ AV.d (.int .u64 x.dst) = AV.d (.int .u64 a'.snd.dst) ∧ AV.d (.int .u64 x.check) = AV.d (.int .u64 a'.snd.check) ∧ AV.d (.list (x.msgs.map Msg.enc)) = AV.d (.list (a'.snd.msgs.map Msg.enc)) :=
  ⟨(i + 1, x), ⟨⟨by simp only; omega, by simp only; omega⟩, hx⟩, by simp only; omega, rfl, rfl, rfl, rfl, rfl, rfl, rfl, rfl, rfl⟩
theorem next_nn {x : Inb} (h : okI x) : 0 ≤ x.next := by
  cases ho : x.op with
  | true => have := (h.open_ ho).2.1; omega
  | false => rw [h.zero ho]; exact Int.le_refl 0
def hRMatches : Det := det3 cRaws2 cQ4s cRec (fun p q r => ((∀ x ∈ p.1, x.ok) ∧ ∀ x ∈ p.2, x.ok) ∧ (∀ x ∈ q, x.ok) ∧ rangeR r) fun _ _ _ => .d (.bool true)
theorem f_ReceiveMatchesReference : FPure Tryz.prog 3 hRMatches.spec := by
  refine FPure.runL [(6, .det hTrue19), (8, .det hList), (7, .det hMake), (12, .det h19Take), (10, .det h19Take), (11, .det hSameT), (13, .det hMissing), (14, .det hMissing), (9, .det hChanged)] (fun i => if i = 4 then [(0, (false, [])), (1, (false, [])), (2, (false, [])), (3, (false, [])), (4, (false, [])), (5, (false, [])), (6, (false, [])), (7, (false, [])), (8, (false, [])), (9, (true, [0, 1, 2, 3, 4, 5, 6, 7, 8])), (10, (true, []))] else if i = 10 then [(0, (false, [])), (1, (false, [])), (2, (false, [])), (3, (false, [])), (4, (false, [])), (5, (false, [])), (6, (false, [])), (7, (false, [])), (8, (false, [])), (9, (false, [])), (10, (false, [])), (11, (false, [])), (12, (false, [])), (13, (false, [])), (14, (false, [])), (15, (false, [])), (16, (false, [])), (17, (false, [])), (18, (false, [])), (19, (false, [])), (20, (false, [])), (21, (false, [])), (22, (false, [])), (23, (false, [])), (24, (true, [0, 1, 2, 3, 4, 5, 6, 7, 8, 9, 10, 11, 12, 13, 14, 15, 16, 17, 18, 19, 20, 21, 22, 23])), (25, (true, []))] else if i = 14 then [(0, (false, [])), (1, (false, [])), (3, (false, [])), (2, (true, [3])), (4, (true, [])), (5, (false, [])), (6, (false, [])), (7, (false, [])), (8, (false, [])), (10, (false, [])), (11, (false, [])), (9, (true, [5, 10, 11])), (12, (true, [5])), (13, (true, [5])), (14, (false, [])), (15, (false, [])), (16, (false, [])), (17, (false, [])), (19, (false, [])), (18, (true, [5, 14, 15, 19])), (20, (true, [5, 14, 15])), (21, (false, [])), (22, (false, []))] else []) (by
    intro p hp
    simp only [List.mem_cons, List.not_mem_nil, or_false] at hp
    rcases hp with rfl | rfl | rfl | rfl | rfl | rfl | rfl | rfl | rfl
    · exact f_19sanity
    · exact f_05List
    · exact f_18Make
    · exact f_law19take
    · exact f_19Take
    · exact f_law19same
    · exact f_recvMissing
    · exact f_19Missing
    · exact f_19changed) F.mixed Tryz.func3 (by kernel_rfl) rfl (by kernel_rfl) 141 Tryz.ntmps3 [.tmp 6] Tryz.results3 ?_
  intro ds K hl hs
  obtain ⟨⟨la, lb⟩, q, r, rfl, ⟨⟨hoa, hob⟩, hq, hr⟩, hK⟩ := det3_elim hs
  simp only at hoa hob
  have hva := list_valid (n := 6) hoa
  have hna := list_len la 6
  have hvb := list_valid (n := 6) hob
  have hnb := list_len lb 6
  have t6 : Int.toNat 6 = 6 := rfl
  rw [t6] at hna hnb
  have mla := make_len 1 2 (listF la 6)
  have mlb := make_len 1 2 (listF lb 6)
  have mra := make_range p1 p2 (show (listF la 6).length ≤ 1000000 by omega) hva
  have mrb := make_range p1 p2 (show (listF lb 6).length ≤ 1000000 by omega) hvb
  obtain ⟨A, hA⟩ : ∃ A, makeF 1 2 (listF la 6) = A := ⟨_, rfl⟩
  obtain ⟨B, hB⟩ : ∃ B, makeF 1 2 (listF lb 6) = B := ⟨_, rfl⟩
  rw [hA] at mla mra
  rw [hB] at mlb mrb
  have n2 : ((2 : Nat) : Int) = 2 := rfl
  cases hbig : (decide ((300 : Int) < r.msg.key.length) || decide ((300 : Int) < r.msg.value.length) || decide ((300 : Int) < r.msg.fr.length) || decide ((300 : Int) < r.msg.to.length)) with
  | true =>
    simp (config := { maxSteps := 4000000 }) only [hTrue19, det0_eq, cRec_enc, cRaws2_enc, cQ4s_enc, hbig, eBs, cBs, F.fBs, Nat.reduceSub, Nat.reduceAdd, Nat.reduceLT, Nat.reduceEqDiff, Nat.reduceLeDiff, Nat.reduceMul, Nat.reduceBEq, Int.reduceToNat, Op.operands, if_true, if_false, reduceCtorEq, if_pos, forall_const, implies_true, eq_self, ne_eq]
    exact hK
  | false =>
    simp (config := { maxSteps := 4000000 }) only [hTrue19, det0_eq, cRec_enc, cRaws2_enc, cRaws_dec, cMsgs_dec, cQ4s_enc, hList, hMake, hA, hB, hbig, n2, Int.reduceLT, Int.reduceLE, eBs, cBs, F.fBs, Nat.reduceSub, Nat.reduceAdd, Nat.reduceLT, Nat.reduceEqDiff, Nat.reduceLeDiff, Nat.reduceMul, Nat.reduceBEq, Int.reduceToNat, Op.operands, if_true, if_false, reduceCtorEq, if_pos, forall_const, implies_true, eq_self, ne_eq]
    have o1 : (u64P 1 ∧ u64P 2 ∧ (listF la 6).length ≤ 1000 ∧ ∀ (m : Msg), m ∈ listF la 6 → validB m = true) := ⟨p1, p2, by omega, hva⟩
    have o2 : (u64P 1 ∧ u64P 2 ∧ (listF lb 6).length ≤ 1000 ∧ ∀ (m : Msg), m ∈ listF lb 6 → validB m = true) := ⟨p1, p2, by omega, hvb⟩
    refine ⟨hoa, o1, hob, o2, ⟨hoa, o1, hob, o2⟩, ?_⟩
    refine eK_rounds [1, 3, 5, 6, 7, 8, 9] (fun p : Nat × Inb => (p.1 ≤ q.length ∧ p.1 ≤ 12) ∧ okI p.2) (fun p => [(10, .d (.int .i64 p.1))]) (fun p => [(3, boxI false p.2)]) (fun _ => []) (fun p => q.length - p.1) (0, zeroInb) ⟨⟨Nat.zero_le _, by decide⟩, zero_ok⟩ ?_ ?_
    · simp [le_eq, St.head, keepT, setAll, leV, leB, leR, leR0, idsR, idsL, idsA, idsB, boxI, Inb.enc, zeroInb]
    rintro ⟨i, x⟩ ⟨⟨hi1, hi2⟩, hok⟩
    simp only at hi1 hi2 hok
    have hwi : IntKind.i64.wrap ((i : Int) + 1) = ((i + 1 : Nat) : Int) := by rw [wrap_i64' (by omega) (by omega)]; rfl
    cases hgo : (decide ((i : Int) < q.length) && decide ((i : Int) < 12)) with
    | false =>
      simp (config := { maxSteps := 4000000 }) only [le_eq, hgo, eBs, cBs, F.fBs, Nat.reduceSub, Nat.reduceAdd, Nat.reduceLT, Nat.reduceEqDiff, Nat.reduceLeDiff, Nat.reduceMul, Nat.reduceBEq, Int.reduceToNat, Op.operands, if_true, if_false, reduceCtorEq, if_pos, forall_const, implies_true, eq_self, ne_eq]
      exact hK
    | true =>
      simp only [Bool.and_eq_true, decide_eq_true_eq] at hgo
      have g1 : ((i : Int) < q.length) = True := eq_true hgo.1
      have g2 : ((i : Int) < 12) = True := eq_true hgo.2
      have hx : q[i]? = some (q[i]'(by omega)) := List.getElem?_eq_getElem (by omega)
      have hy := hq _ (List.getElem_mem (show i < q.length by omega))
      generalize q[i]'(by omega) = y at hx hy
      have gx : q.getD i default = y := getD_of hx
      have ym : y.enc = [.int .u8 y.a, .int .u8 y.b, .int .u8 y.c, .int .u8 y.d] := rfl
      have hm2 : y.a.tmod 2 = 0 ∨ y.a.tmod 2 = 1 := by have := hy.1.1; have := Int.tmod_nonneg 2 this; have := Int.tmod_lt_of_pos y.a (show (0 : Int) < 2 by decide); omega
      have hel := @eL_at Q4 Q4.enc q i y hx
      have heg := @eG_at Q4 Q4.enc q i y hx
      have n4 : ((4 : Nat) : Int) = 4 := rfl
      have hb0 := hy.2.1.1
      have hb1 := hy.2.1.2
      have wb : IntKind.i64.wrap y.b = y.b := wrap_i64' (by omega) (by omega)
      have hnn : 0 ≤ x.next := next_nn hok
      rcases hm2 with e2 | e2
      · obtain ⟨j, hj⟩ := Int.eq_ofNat_of_zero_le (Int.tmod_nonneg (A.length : Int) hb0)
        have hj1 := Int.tmod_lt_of_pos y.b (show (0 : Int) < A.length by omega)
        have hjl : j < A.length := by omega
        have hzA : A[j]? = some A[j] := List.getElem?_eq_getElem hjl
        have hzr := mra _ (List.getElem_mem hjl)
        generalize A[j] = z at hzA hzr
        have hega := @eG_at Rec Rec.enc A j z hzA
        have b1 : (0 : Int) ≤ i := by omega
        have b2 : ¬ ((A.length : Int) = 0) := by omega
        have b3 : (0 : Int) ≤ j ∧ (j : Int) < A.length := ⟨by omega, by omega⟩
        have c1 : range2 .u8 (y.c, y.d) := by
          obtain ⟨-, -, ⟨h5, h6⟩, ⟨h7, h8⟩⟩ := hy
          exact ⟨⟨h5, by show y.c ≤ 255; omega⟩, ⟨h7, by show y.d ≤ 255; omega⟩⟩
        have c2 := changed_range y.c y.d hzr
        cases hc : (decide (y.a < 128) && decide (x.next < (A.length : Int))) with
        | true =>
          have hc2 : x.next < (A.length : Int) := by
            simp only [Bool.and_eq_true, decide_eq_true_eq] at hc
            exact hc.2
          have hnl : x.next.toNat < A.length := by omega
          have hz2 : A[x.next.toNat]? = some (A[x.next.toNat]) := List.getElem?_eq_getElem hnl
          have hzr2 := mra _ (List.getElem_mem hnl)
          generalize A[x.next.toNat] = z2 at hz2 hzr2
          have hega2 := @eG_at Rec Rec.enc A x.next.toNat z2 hz2
          have hela2 := @eL_at Rec Rec.enc A x.next.toNat z2 hz2
          have b4 : (0 : Int) ≤ x.next ∧ x.next < A.length := ⟨hnn, hc2⟩
          simp (config := { maxSteps := 4000000 }) only [le_eq, g1, g2, ym, e2, n2, n4, wb, hj, boxI_false, hc, Int.toNat_natCast, Int.reduceLT, Int.reduceLE, Int.reduceEq, Rec.em, hChanged, cRec_dec, Rec.eta, c2_dec, h19Take, hSameT, hMissing, tknE, cInb_dec, cInb_dec0, cTkn_dec, cTkn_dec0, Inb.eta, hwi, eBs, cBs, F.fBs, Nat.reduceSub, Nat.reduceAdd, Nat.reduceLT, Nat.reduceEqDiff, Nat.reduceLeDiff, Nat.reduceMul, Nat.reduceBEq, Int.reduceToNat, Op.operands, if_true, if_false, reduceCtorEq, if_pos, forall_const, implies_true, eq_self, ne_eq, hel, heg, hega, hega2, hela2]
          clear hs hl hK hA hB hel heg hega hc hega2 hela2
          exact ⟨b1, b1, b2, b3, b1, b1, ⟨hzr, c1⟩, ⟨⟨b1, at_enc hx ⟨rfl, rfl⟩⟩, b2, ⟨b3, at_enc hzA ⟨rfl, rfl⟩⟩, ⟨b1, at_enc hx ⟨rfl, rfl⟩⟩, ⟨b1, at_enc hx ⟨rfl, rfl⟩⟩, hzr, c1⟩, b1, b4, ⟨hok, hzr2⟩, ⟨hok, hzr2⟩, ⟨hok, hr⟩, ⟨hok, hr⟩, fin19 q.length i (take_ok hok hzr2) (by omega) (by omega)⟩
        | false =>
          simp (config := { maxSteps := 4000000 }) only [le_eq, g1, g2, ym, e2, n2, n4, wb, hj, boxI_false, hc, Int.toNat_natCast, Int.reduceLT, Int.reduceLE, Int.reduceEq, Rec.em, hChanged, cRec_dec, Rec.eta, c2_dec, h19Take, hSameT, hMissing, tknE, cInb_dec, cInb_dec0, cTkn_dec, cTkn_dec0, Inb.eta, hwi, eBs, cBs, F.fBs, Nat.reduceSub, Nat.reduceAdd, Nat.reduceLT, Nat.reduceEqDiff, Nat.reduceLeDiff, Nat.reduceMul, Nat.reduceBEq, Int.reduceToNat, Op.operands, if_true, if_false, reduceCtorEq, if_pos, forall_const, implies_true, eq_self, ne_eq, hel, heg, hega]
          clear hs hl hK hA hB hel heg hega hc
          exact ⟨b1, b1, b2, b3, b1, b1, ⟨hzr, c1⟩, ⟨⟨b1, at_enc hx ⟨rfl, rfl⟩⟩, b2, ⟨b3, at_enc hzA ⟨rfl, rfl⟩⟩, ⟨b1, at_enc hx ⟨rfl, rfl⟩⟩, ⟨b1, at_enc hx ⟨rfl, rfl⟩⟩, hzr, c1⟩, b1, ⟨hok, c2⟩, ⟨hok, c2⟩, ⟨hok, hr⟩, ⟨hok, hr⟩, fin19 q.length i (take_ok hok c2) (by omega) (by omega)⟩
      · obtain ⟨j, hj⟩ := Int.eq_ofNat_of_zero_le (Int.tmod_nonneg (B.length : Int) hb0)
        have hj1 := Int.tmod_lt_of_pos y.b (show (0 : Int) < B.length by omega)
        have hjl : j < B.length := by omega
        have hzA : B[j]? = some B[j] := List.getElem?_eq_getElem hjl
        have hzr := mrb _ (List.getElem_mem hjl)
        generalize B[j] = z at hzA hzr
        have hega := @eG_at Rec Rec.enc B j z hzA
        have b1 : (0 : Int) ≤ i := by omega
        have b2 : ¬ ((B.length : Int) = 0) := by omega
        have b3 : (0 : Int) ≤ j ∧ (j : Int) < B.length := ⟨by omega, by omega⟩
        have c1 : range2 .u8 (y.c, y.d) := by
          obtain ⟨-, -, ⟨h5, h6⟩, ⟨h7, h8⟩⟩ := hy
          exact ⟨⟨h5, by show y.c ≤ 255; omega⟩, ⟨h7, by show y.d ≤ 255; omega⟩⟩
        have c2 := changed_range y.c y.d hzr
        cases hc : (decide (y.a < 128) && decide (x.next < (B.length : Int))) with
        | true =>
          have hc2 : x.next < (B.length : Int) := by
            simp only [Bool.and_eq_true, decide_eq_true_eq] at hc
            exact hc.2
          have hnl : x.next.toNat < B.length := by omega
          have hz2 : B[x.next.toNat]? = some (B[x.next.toNat]) := List.getElem?_eq_getElem hnl
          have hzr2 := mrb _ (List.getElem_mem hnl)
          generalize B[x.next.toNat] = z2 at hz2 hzr2
          have hega2 := @eG_at Rec Rec.enc B x.next.toNat z2 hz2
          have hela2 := @eL_at Rec Rec.enc B x.next.toNat z2 hz2
          have b4 : (0 : Int) ≤ x.next ∧ x.next < B.length := ⟨hnn, hc2⟩
          simp (config := { maxSteps := 4000000 }) only [le_eq, g1, g2, ym, e2, n2, n4, wb, hj, boxI_false, hc, Int.toNat_natCast, Int.reduceLT, Int.reduceLE, Int.reduceEq, Rec.em, hChanged, cRec_dec, Rec.eta, c2_dec, h19Take, hSameT, hMissing, tknE, cInb_dec, cInb_dec0, cTkn_dec, cTkn_dec0, Inb.eta, hwi, eBs, cBs, F.fBs, Nat.reduceSub, Nat.reduceAdd, Nat.reduceLT, Nat.reduceEqDiff, Nat.reduceLeDiff, Nat.reduceMul, Nat.reduceBEq, Int.reduceToNat, Op.operands, if_true, if_false, reduceCtorEq, if_pos, forall_const, implies_true, eq_self, ne_eq, hel, heg, hega, hega2, hela2]
          clear hs hl hK hA hB hel heg hega hc hega2 hela2
          exact ⟨b1, b1, b2, b3, b1, b1, ⟨hzr, c1⟩, ⟨⟨b1, at_enc hx ⟨rfl, rfl⟩⟩, b2, ⟨b3, at_enc hzA ⟨rfl, rfl⟩⟩, ⟨b1, at_enc hx ⟨rfl, rfl⟩⟩, ⟨b1, at_enc hx ⟨rfl, rfl⟩⟩, hzr, c1⟩, b1, b4, ⟨hok, hzr2⟩, ⟨hok, hzr2⟩, ⟨hok, hr⟩, ⟨hok, hr⟩, fin19 q.length i (take_ok hok hzr2) (by omega) (by omega)⟩
        | false =>
          simp (config := { maxSteps := 4000000 }) only [le_eq, g1, g2, ym, e2, n2, n4, wb, hj, boxI_false, hc, Int.toNat_natCast, Int.reduceLT, Int.reduceLE, Int.reduceEq, Rec.em, hChanged, cRec_dec, Rec.eta, c2_dec, h19Take, hSameT, hMissing, tknE, cInb_dec, cInb_dec0, cTkn_dec, cTkn_dec0, Inb.eta, hwi, eBs, cBs, F.fBs, Nat.reduceSub, Nat.reduceAdd, Nat.reduceLT, Nat.reduceEqDiff, Nat.reduceLeDiff, Nat.reduceMul, Nat.reduceBEq, Int.reduceToNat, Op.operands, if_true, if_false, reduceCtorEq, if_pos, forall_const, implies_true, eq_self, ne_eq, hel, heg, hega]
          clear hs hl hK hA hB hel heg hega hc
          exact ⟨b1, b1, b2, b3, b1, b1, ⟨hzr, c1⟩, ⟨⟨b1, at_enc hx ⟨rfl, rfl⟩⟩, b2, ⟨b3, at_enc hzA ⟨rfl, rfl⟩⟩, ⟨b1, at_enc hx ⟨rfl, rfl⟩⟩, ⟨b1, at_enc hx ⟨rfl, rfl⟩⟩, hzr, c1⟩, b1, ⟨hok, c2⟩, ⟨hok, c2⟩, ⟨hok, hr⟩, ⟨hok, hr⟩, fin19 q.length i (take_ok hok c2) (by omega) (by omega)⟩
end Go.PE
