/- Law 19: ReceiveOrders. -/
import Derived.Test.YtomligcenflpdaaGreatDoorWkTf
import Derived.Test.YtomligcenflpdaaGreatDoorWkTl
import Derived.Test.YtomligcenflpdaaGreatDoorWkSh
import Derived.Test.YtomligcenflpdaaGreatDoorWkZ
import Derived.Test.YtomligcenflpdaaGreatDoorWkW
set_option linter.unusedVariables false
set_option linter.defProp false
set_option linter.all false
set_option linter.unusedSimpArgs false
set_option maxRecDepth 10000
set_option maxHeartbeats 4000000
namespace Go.PE
open Go Go.Proofs

theorem q1 : u64P 1 := ⟨by decide, by decide⟩
theorem q2 : u64P 2 := ⟨by decide, by decide⟩
theorem c2_dec2 (k : IntKind) (a b : Int) : (c2 k).dec (.agg [.int k a, .int k b]) = some (a, b) := (c2 k).de (a, b)
/-- What the box of an inbox has. -/
def boxN (x : Inb) : List AV := x.enc.map .d
theorem boxN_eq (x : Inb) : boxN x = [.d (.bool x.op), .d (.bool x.done), .d (.int .i64 x.count), .d (.int .i64 x.next), .d (.int .u64 x.src), .d (.int .u64 x.dst), .d (.int .u64 x.check), .d (.list (x.msgs.map Msg.enc))] := rfl
theorem el_of {α : Type} {enc : α → List D} {l : List α} {k : Nat} {x : α} (hx : l[k]? = some x) {P : List D → Prop} (h : P (enc x)) : ∀ z, (l.map enc)[k]? = some z → P z := by
  intro z hz
  rw [List.getElem?_map, hx] at hz
  injection hz with hz
  subst hz
  exact h
theorem eLn {α : Type} {enc : α → List D} {l : List α} {k : Nat} {x : α} (hx : l[k]? = some x) (n : Nat) (F : Kt (List D → Prop)) : @eL (l.map enc) k n F = ((enc x).length = n ∧ F.v (enc x)) := by
  rw [eL_map]
  exact propext ⟨fun h => h x hx, fun h z hz => by rw [hx] at hz; injection hz with hz; subst hz; exact h⟩
theorem eGn {α : Type} {enc : α → List D} {l : List α} {k : Nat} {x : α} (hx : l[k]? = some x) (g : Bool) (n : Nat) (F : Kt (List D → Prop)) : @eG g (l.map enc) k n F = ((g = true → (enc x).length = n) ∧ F.v (enc x)) := by
  have hm : (l.map enc)[k]? = some (enc x) := by rw [List.getElem?_map, hx]; rfl
  show elemG g (l.map enc) k n F.v = _
  unfold elemG
  refine propext ⟨fun ⟨z, h1, h2, h3⟩ => ?_, fun ⟨h1, h2⟩ => ⟨enc x, fun z hz => by rw [hm] at hz; injection hz, h1, h2⟩⟩
  have := h1 _ hm
  subst this
  exact ⟨h2, h3⟩
theorem okRw (x : Rec) (c : Int) (h : rangeR x) (hc : u64P c) : rangeR { x with check := c } := ⟨h.1, h.2.1, hc⟩
theorem next_u64 (c : Nat) (r : Rec) : u64P (nextN c r : Nat) := ⟨by omega, by have := nextN_lt c r; omega⟩
theorem u0 : u64P 0 := ⟨by decide, by decide⟩
theorem fit_raw1 {d : D} (h : FitsV (.agg [.int .u8, .int .u8, .int .u8, .int .u8, .int .u8, .int .u8]) d) : ∃ x : Raw6, d = cRaw.enc x ∧ x.ok := by
  obtain ⟨ds, rfl, h⟩ := h
  obtain ⟨x, rfl, hx⟩ := fit_raw ds h
  exact ⟨x, rfl, hx⟩
def hOrders19 : Det := det3 cRaws (c2 .u8) cRaw (fun l p y => (∀ x ∈ l, x.ok) ∧ range2 .u8 p ∧ y.ok) fun _ _ _ => .d (.bool true)
theorem f_ReceiveOrders : FPure Tryz.prog 5 hOrders19.spec := by
  refine FPure.runL [(6, .det hTrue19), (8, .det hList), (15, .det hMade), (7, .det hMake), (17, .det hNext), (16, .det hWhole), (12, .det h19Take), (11, .det hSameT)] (fun i => if i = 8 then [(0, (false, [])), (1, (false, [])), (2, (false, [])), (3, (false, [])), (4, (false, [])), (5, (false, [])), (6, (true, [0, 1, 2, 3, 4, 5])), (7, (true, []))] else if i = 13 then [(0, (false, [])), (1, (false, [])), (2, (true, [])), (3, (false, [])), (4, (false, [])), (5, (false, [])), (6, (false, [])), (7, (false, [])), (8, (false, [])), (9, (false, [])), (10, (false, [])), (11, (false, [])), (12, (false, [])), (13, (false, [])), (14, (false, [])), (16, (false, [])), (17, (false, [])), (15, (true, [3, 4, 5, 6, 7, 8, 11, 12, 13, 16, 17])), (18, (true, [3, 4, 5, 6, 7, 8, 11, 12, 13, 16])), (19, (false, [])), (20, (false, []))] else if i = 18 then [(0, (false, [])), (1, (false, [])), (3, (false, [])), (4, (false, [])), (2, (true, [3, 4])), (5, (true, [3])), (6, (false, []))] else if i = 26 then [(0, (false, [])), (1, (false, [])), (3, (false, [])), (4, (false, [])), (2, (true, [3, 4])), (5, (true, [3])), (6, (false, [])), (7, (false, [])), (8, (false, [])), (9, (true, []))] else []) (by
    intro p hp
    simp only [List.mem_cons, List.not_mem_nil, or_false] at hp
    rcases hp with rfl | rfl | rfl | rfl | rfl | rfl | rfl | rfl
    · exact f_19sanity
    · exact f_05List
    · exact f_05Made
    · exact f_18Make
    · exact f_18Next
    · exact f_19Whole
    · exact f_law19take
    · exact f_law19same) F.mixed Tryz.func5 (by kernel_rfl) rfl (by kernel_rfl) 121 Tryz.ntmps5 [.tmp 6] Tryz.results5 ?_
  intro ds K hl hs
  obtain ⟨l, ⟨a, b⟩, y, rfl, ⟨ho, ⟨⟨ha1, ha2⟩, ⟨hb1, hb2⟩⟩, hy⟩, hK⟩ := det3_elim hs
  simp only at ha1 ha2 hb1 hb2
  have hv := list_valid (n := 8) ho
  have hn := list_len l 8
  have t8 : Int.toNat 8 = 8 := rfl
  rw [t8] at hn
  have hlM : (listF l 8).length ≤ 1000000 := by omega
  have mo := make_ok q1 q2 hlM hv
  have mr := make_range q1 q2 hlM hv
  have ml := make_len 1 2 (listF l 8)
  have wa : IntKind.i64.wrap a = a := wrap_i64' (by omega) (by omega)
  have wb : IntKind.i64.wrap b = b := wrap_i64' (by omega) (by omega)
  have hyv := made_ok hy
  generalize hM : listF l 8 = M at *
  obtain ⟨L, hL⟩ : ∃ L, makeF 1 2 M = L := ⟨_, rfl⟩
  have hL0 : (0 : Int) < L.length := by rw [← hL, ml]; omega
  obtain ⟨n, hnn⟩ := Int.eq_ofNat_of_zero_le (Int.tmod_nonneg (L.length : Int) ha1)
  have hn1 := Int.tmod_lt_of_pos a hL0
  obtain ⟨d, hdd⟩ := Int.eq_ofNat_of_zero_le (Int.tmod_nonneg (L.length : Int) hb1)
  have hd1 := Int.tmod_lt_of_pos b hL0
  rw [hL] at ml mo mr
  have hln : n < L.length := by omega
  have n2 : ((2 : Nat) : Int) = 2 := rfl
  have yr : cRaw.enc y = .agg [.int .u8 y.x0, .int .u8 y.x1, .int .u8 y.x2, .int .u8 y.x3, .int .u8 y.x4, .int .u8 y.x5] := rfl
  have yd : cRaw.dec (.agg [.int .u8 y.x0, .int .u8 y.x1, .int .u8 y.x2, .int .u8 y.x3, .int .u8 y.x4, .int .u8 y.x5]) = some y := cRaw.de y
  simp (config := { maxSteps := 4000000 }) only [hTrue19, det0_eq, c2_enc, yr, cRaws_enc, cRaws_dec, cMsgs_dec, hList, hMake, hM, hL, wa, hnn, n2, Int.reduceLT, Int.reduceLE, eBs, cBs, F.fBs, Nat.reduceSub, Nat.reduceAdd, Nat.reduceLT, Nat.reduceEqDiff, Nat.reduceLeDiff, Nat.reduceMul, Nat.reduceBEq, Int.reduceToNat, Op.operands, if_true, if_false, reduceCtorEq, if_pos, forall_const, implies_true, eq_self, ne_eq]
  refine ⟨ho, ⟨q1, q2, by omega, hv⟩, by omega, ?_⟩
  have hbx : boxN (inbAt 1 2 M 0) = [.d (.bool false), .d (.bool false), .d (.int .i64 0), .d (.int .i64 0), .d (.int .u64 0), .d (.int .u64 0), .d (.int .u64 0), .d (.list [])] := rfl
  refine eK_rounds [4, 5, 6, 7, 8, 9, 10] (fun i : Nat => i ≤ n) (fun i => [(11, .d (.int .i64 i))]) (fun i => [(2, boxN (inbAt 1 2 M i))]) (fun _ => []) (fun i => n - i) 0 (Nat.zero_le _) ?_ ?_
  · simp [le_eq, St.head, keepT, setAll, leV, leB, leR, leR0, idsR, idsL, idsA, idsB, hbx]
  intro i hi
  have hwi : IntKind.i64.wrap ((i : Int) + 1) = ((i + 1 : Nat) : Int) := by rw [wrap_i64' (by omega) (by omega)]; rfl
  have hok : okI (inbAt 1 2 M i) := inbAt_ok q1 q2 hlM hv i (by omega)
  rcases Nat.lt_or_ge i n with hlt | hge
  · have h3 : ((i : Int) < n) = True := eq_true (by omega)
    have hx : L[i]? = some L[i] := List.getElem?_eq_getElem (by omega)
    have hxr := mr _ (List.getElem_mem (show i < L.length by omega))
    have hst := take_step (i := i) (x := L[i]) q1 q2 hlM hv (by rw [hL]; exact hx)
    generalize L[i] = x at hx hxr hst
    have heg := @eGn Rec Rec.enc L i x hx
    obtain ⟨I, hI⟩ : ∃ I, inbAt 1 2 M i = I := ⟨_, rfl⟩
    obtain ⟨J, hJ⟩ : ∃ J, inbAt 1 2 M (i + 1) = J := ⟨_, rfl⟩
    rw [hI] at hok
    rw [hI, hJ] at hst
    have n0 : (¬ (0 : Int) = 0) = False := eq_false (fun h => h rfl)
    simp (config := { maxSteps := 4000000 }) only [le_eq, h3, hI, boxN_eq, Rec.em, h19Take, cInb_dec, cRec_dec, Inb.eta, Rec.eta, hst, tknE, hwi, n0, eBs, cBs, F.fBs, Nat.reduceSub, Nat.reduceAdd, Nat.reduceLT, Nat.reduceEqDiff, Nat.reduceLeDiff, Nat.reduceMul, Nat.reduceBEq, Int.reduceToNat, Op.operands, if_true, if_false, reduceCtorEq, if_pos, forall_const, implies_true, eq_self, ne_eq, heg]
    refine ⟨⟨by omega, by omega⟩, ⟨hok, hxr⟩, ⟨⟨⟨by omega, by omega⟩, el_of hx ⟨rfl, rfl⟩⟩, hok, hxr⟩, i + 1, by omega, by omega, rfl, ?_⟩
    rw [hJ]
    exact ⟨rfl, rfl, rfl, rfl, rfl, rfl, rfl, rfl⟩
  · have : i = n := by omega
    subst this
    have h3 : ((i : Int) < i) = False := eq_false (by omega)
    have hkw : IntKind.i64.wrap ((i : Int) + (d : Int)) = ((i + d : Nat) : Int) := by rw [wrap_i64' (by omega) (by omega)]; rfl
    have hwh := whole_take (src := 1) (dst := 2) q1 q2 hlM hv (M.length + 2) (Nat.le_refl _)
    rw [hL, List.take_of_length_le (by omega), inbAt_pos 1 2 M (by omega)] at hwh
    have hdz : decide (M.length + 2 = M.length + 2) = true := decide_eq_true rfl
    rw [hdz, List.take_of_length_le (by omega)] at hwh
    have hlate : ∀ ch, takeF ⟨true, true, M.length, ((M.length + 2 : Nat) : Int), 1, 2, (chk 0 (bareF 1 2 M) (M.length + 2) : Nat), M⟩ ⟨3, ((M.length + 2 : Nat) : Int), M.length, 0, 0, ⟨0, [], [], [], [], [], [], 0⟩, ch⟩ = (⟨true, true, M.length, ((M.length + 2 : Nat) : Int), 1, 2, (chk 0 (bareF 1 2 M) (M.length + 2) : Nat), M⟩, 190) := by
      intro ch
      have := take_late (src := 1) (dst := 2) hlM ch
      rw [inbAt_pos 1 2 M (by omega), hdz, List.take_of_length_le (by omega)] at this
      exact this
    have hzok := inbAt_ok (src := 1) (dst := 2) q1 q2 hlM hv (M.length + 2) (Nat.le_refl _)
    rw [inbAt_pos 1 2 M (by omega), hdz, List.take_of_length_le (by omega)] at hzok
    have hcz : u64P ((chk 0 (bareF 1 2 M) (M.length + 2) : Nat) : Int) := hzok.nums.2.2
    generalize chk 0 (bareF 1 2 M) (M.length + 2) = cz at hwh hlate hzok hcz
    have hlm : L.length ≤ 1000000 := by omega
    have b1 : (0 : Int) ≤ 1 ∧ (1 : Int) < ((2 : Nat) : Int) := ⟨by decide, by decide⟩
    have b2 : ¬ ((L.length : Int) = 0) := by omega
    have b3 : (0 : Int) ≤ ((i + d : Nat) : Int) := by omega
    have b4 : L.length ≤ 1000000 ∧ ∀ r ∈ L, rangeR r := ⟨by omega, mr⟩
    have hIcount : i ≠ 0 → (inbAt 1 2 M i).count = M.length := inbAt_count 1 2 M
    have hIcheck : u64P (inbAt 1 2 M i).check := hok.nums.2.2
    have hodd3 : i ≠ 0 → (i : Int) ≤ (inbAt 1 2 M i).count → ∀ ch, takeF (inbAt 1 2 M i) ⟨3, i, (inbAt 1 2 M i).count, 0, 0, ⟨0, [], [], [], [], [], [], 0⟩, ch⟩ = (inbAt 1 2 M i, 192) := by
      intro h0 h1 ch
      rw [hIcount h0] at h1
      have he : (inbAt 1 2 M i).count = M.length := hIcount h0
      rw [he]
      refine take_odd h0 (by omega) (valid_end (by omega) (by omega) (by omega) (by omega) ch) rfl ?_
      rw [if_pos (by omega)]
      show (3 : Int) ≠ 2
      decide
    obtain ⟨m, hm⟩ : ∃ m, madeF y = m := ⟨_, rfl⟩
    rw [hm] at hyv
    have hodd2 : i ≠ 0 → ¬ (i : Int) ≤ (inbAt 1 2 M i).count → ∀ ch, takeF (inbAt 1 2 M i) ⟨2, i, 0, 0, 0, m, ch⟩ = (inbAt 1 2 M i, 192) := by
      intro h0 h1 ch
      rw [hIcount h0] at h1
      refine take_odd h0 (by omega) (valid_body (by omega) (by omega) hyv ch) rfl ?_
      rw [if_neg (by omega)]
      show (2 : Int) ≠ 3
      decide
    obtain ⟨I, hI⟩ : ∃ I, inbAt 1 2 M i = I := ⟨_, rfl⟩
    rw [hI] at hodd3 hodd2 hIcheck hok
    have nz : ∀ r, rangeR ⟨3, ((M.length + 2 : Nat) : Int), M.length, 0, 0, ⟨0, [], [], [], [], [], [], 0⟩, (nextN cz r : Nat)⟩ := fun r => ⟨u0, u0, next_u64 _ _⟩
    have no3 : ∀ c r, rangeR ⟨3, i, I.count, 0, 0, ⟨0, [], [], [], [], [], [], 0⟩, (nextN c r : Nat)⟩ := fun c r => ⟨u0, u0, next_u64 _ _⟩
    obtain ⟨m1, m2, m3, m4, m5, m6, m7, m8⟩ := m
    have no2 : ∀ c r, rangeR ⟨2, i, 0, 0, 0, ⟨m1, m2, m3, m4, m5, m6, m7, m8⟩, (nextN c r : Nat)⟩ := fun c r => ⟨u0, u0, next_u64 _ _⟩
    have vz : okR1 ⟨3, ((M.length + 2 : Nat) : Int), M.length, 0, 0, ⟨0, [], [], [], [], [], [], 0⟩, 0⟩ := ⟨valid_end (by omega) (by omega) (by omega) (by omega) 0, u0, u0, u0⟩
    have v3 : i ≠ 0 → okR1 ⟨3, i, I.count, 0, 0, ⟨0, [], [], [], [], [], [], 0⟩, 0⟩ := by
      intro h0
      have he : I.count = M.length := by rw [← hI]; exact hIcount h0
      rw [he]
      exact ⟨valid_end (by omega) (by omega) (by omega) (by omega) 0, u0, u0, u0⟩
    have v2 : i ≠ 0 → okR1 ⟨2, i, 0, 0, 0, ⟨m1, m2, m3, m4, m5, m6, m7, m8⟩, 0⟩ := fun h0 => ⟨valid_body (by omega) (by omega) hyv 0, u0, u0, u0⟩
    by_cases hkd : 0 < d ∧ i + d < L.length
    · have g1 : ((i : Int) < ((i + d : Nat) : Int)) = True := eq_true (by omega)
      have g2 : (((i + d : Nat) : Int) < (L.length : Int)) = True := eq_true (by omega)
      have hx : L[i + d]? = some L[i + d] := List.getElem?_eq_getElem hkd.2
      have hxo := mo _ (List.getElem_mem hkd.2)
      have hxs := (make_seq (src := 1) (dst := 2) (l := M) (by rw [hL]; exact hx)).1
      generalize L[i + d] = x at hx hxo hxs
      have hfar := take_far (src := 1) (dst := 2) (l := M) (n := i) hxo.1 (by omega)
      have heg := @eGn Rec Rec.enc L (i + d) x hx
      rw [hI] at hfar
      by_cases hi0 : i = 0
      · have h0 : ((i : Int) = 0) = True := eq_true (by omega)
        have h1 := True.intro
        simp (config := { maxSteps := 4000000 }) only [le_eq, h3, hI, boxN_eq, wb, hdd, hkw, g1, g2, h0, h1, Rec.em, Inb.em, Msg.enc, h19Take, hMade, hm, yd, cInb_dec, cRec_dec, Inb.eta, Rec.eta, hfar,  hlate, tknE, hSameT, cTkn_dec, hWhole, cRecs_dec, hwh, hNext, Int.toNat_natCast, decide_true, decide_false, eBs, cBs, F.fBs, Nat.reduceSub, Nat.reduceAdd, Nat.reduceLT, Nat.reduceEqDiff, Nat.reduceLeDiff, Nat.reduceMul, Nat.reduceBEq, Int.reduceToNat, Op.operands, if_true, if_false, reduceCtorEq, if_pos, forall_const, implies_true, eq_self, ne_eq, heg]
        clear hs hl hlate heg
        exact ⟨b1, b2, b3, ⟨hok, hxo.2⟩, ⟨b3, el_of hx ⟨rfl, rfl⟩⟩, ⟨b3, el_of hx ⟨rfl, rfl⟩⟩, b4, ⟨hcz, vz⟩, ⟨hzok, nz _⟩, hK⟩
      by_cases hle : (i : Int) ≤ I.count
      · have h0 : ((i : Int) = 0) = False := eq_false (by omega)
        have h1 : ((i : Int) ≤ I.count) = True := eq_true hle
        have hod := hodd3 hi0 hle
        simp (config := { maxSteps := 4000000 }) only [le_eq, h3, hI, boxN_eq, wb, hdd, hkw, g1, g2, h0, h1, Rec.em, Inb.em, Msg.enc, h19Take, hMade, hm, yd, cInb_dec, cRec_dec, Inb.eta, Rec.eta, hfar, hod,  hlate, tknE, hSameT, cTkn_dec, hWhole, cRecs_dec, hwh, hNext, Int.toNat_natCast, decide_true, decide_false, eBs, cBs, F.fBs, Nat.reduceSub, Nat.reduceAdd, Nat.reduceLT, Nat.reduceEqDiff, Nat.reduceLeDiff, Nat.reduceMul, Nat.reduceBEq, Int.reduceToNat, Op.operands, if_true, if_false, reduceCtorEq, if_pos, forall_const, implies_true, eq_self, ne_eq, heg]
        clear hs hl hlate heg
        exact ⟨b1, b2, b3, ⟨hok, hxo.2⟩, ⟨b3, el_of hx ⟨rfl, rfl⟩⟩, ⟨b3, el_of hx ⟨rfl, rfl⟩⟩, b4, ⟨hcz, vz⟩, ⟨hzok, nz _⟩, hy, ⟨hIcheck, v3 hi0⟩, ⟨hok, no3 _ _⟩, hK⟩
      · have h0 : ((i : Int) = 0) = False := eq_false (by omega)
        have h1 : ((i : Int) ≤ I.count) = False := eq_false hle
        have hod := hodd2 hi0 hle
        simp (config := { maxSteps := 4000000 }) only [le_eq, h3, hI, boxN_eq, wb, hdd, hkw, g1, g2, h0, h1, Rec.em, Inb.em, Msg.enc, h19Take, hMade, hm, yd, cInb_dec, cRec_dec, Inb.eta, Rec.eta, hfar, hod,  hlate, tknE, hSameT, cTkn_dec, hWhole, cRecs_dec, hwh, hNext, Int.toNat_natCast, decide_true, decide_false, eBs, cBs, F.fBs, Nat.reduceSub, Nat.reduceAdd, Nat.reduceLT, Nat.reduceEqDiff, Nat.reduceLeDiff, Nat.reduceMul, Nat.reduceBEq, Int.reduceToNat, Op.operands, if_true, if_false, reduceCtorEq, if_pos, forall_const, implies_true, eq_self, ne_eq, heg]
        clear hs hl hlate heg
        exact ⟨b1, b2, b3, ⟨hok, hxo.2⟩, ⟨b3, el_of hx ⟨rfl, rfl⟩⟩, ⟨b3, el_of hx ⟨rfl, rfl⟩⟩, b4, ⟨hcz, vz⟩, ⟨hzok, nz _⟩, hy, ⟨hIcheck, v2 hi0⟩, ⟨hok, no2 _ _⟩, hK⟩
    by_cases hd0 : d = 0
    · have g1 : ((i : Int) < ((i + d : Nat) : Int)) = False := eq_false (by omega)
      have g2 : (((i + d : Nat) : Int) < (L.length : Int)) = True := eq_true (by omega)
      have hx : L[i + d]? = some (L[i + d]'(by omega)) := List.getElem?_eq_getElem (by omega)
      have hxo := mo _ (List.getElem_mem (show i + d < L.length by omega))
      generalize L[i + d]'(by omega) = x at hx hxo
      have heg := @eGn Rec Rec.enc L (i + d) x hx
      by_cases hi0 : i = 0
      · have h0 : ((i : Int) = 0) = True := eq_true (by omega)
        have h1 := True.intro
        simp (config := { maxSteps := 4000000 }) only [le_eq, h3, hI, boxN_eq, wb, hdd, hkw, g1, g2, h0, h1, Rec.em, Inb.em, Msg.enc, h19Take, hMade, hm, yd, cInb_dec, cRec_dec, Inb.eta, Rec.eta,  hlate, tknE, hSameT, cTkn_dec, hWhole, cRecs_dec, hwh, hNext, Int.toNat_natCast, decide_true, decide_false, eBs, cBs, F.fBs, Nat.reduceSub, Nat.reduceAdd, Nat.reduceLT, Nat.reduceEqDiff, Nat.reduceLeDiff, Nat.reduceMul, Nat.reduceBEq, Int.reduceToNat, Op.operands, if_true, if_false, reduceCtorEq, if_pos, forall_const, implies_true, eq_self, ne_eq, heg]
        clear hs hl hlate heg
        exact ⟨b1, b2, b4, ⟨hcz, vz⟩, ⟨hzok, nz _⟩, hK⟩
      by_cases hle : (i : Int) ≤ I.count
      · have h0 : ((i : Int) = 0) = False := eq_false (by omega)
        have h1 : ((i : Int) ≤ I.count) = True := eq_true hle
        have hod := hodd3 hi0 hle
        simp (config := { maxSteps := 4000000 }) only [le_eq, h3, hI, boxN_eq, wb, hdd, hkw, g1, g2, h0, h1, Rec.em, Inb.em, Msg.enc, h19Take, hMade, hm, yd, cInb_dec, cRec_dec, Inb.eta, Rec.eta, hod,  hlate, tknE, hSameT, cTkn_dec, hWhole, cRecs_dec, hwh, hNext, Int.toNat_natCast, decide_true, decide_false, eBs, cBs, F.fBs, Nat.reduceSub, Nat.reduceAdd, Nat.reduceLT, Nat.reduceEqDiff, Nat.reduceLeDiff, Nat.reduceMul, Nat.reduceBEq, Int.reduceToNat, Op.operands, if_true, if_false, reduceCtorEq, if_pos, forall_const, implies_true, eq_self, ne_eq, heg]
        clear hs hl hlate heg
        exact ⟨b1, b2, b4, ⟨hcz, vz⟩, ⟨hzok, nz _⟩, hy, ⟨hIcheck, v3 hi0⟩, ⟨hok, no3 _ _⟩, hK⟩
      · have h0 : ((i : Int) = 0) = False := eq_false (by omega)
        have h1 : ((i : Int) ≤ I.count) = False := eq_false hle
        have hod := hodd2 hi0 hle
        simp (config := { maxSteps := 4000000 }) only [le_eq, h3, hI, boxN_eq, wb, hdd, hkw, g1, g2, h0, h1, Rec.em, Inb.em, Msg.enc, h19Take, hMade, hm, yd, cInb_dec, cRec_dec, Inb.eta, Rec.eta, hod,  hlate, tknE, hSameT, cTkn_dec, hWhole, cRecs_dec, hwh, hNext, Int.toNat_natCast, decide_true, decide_false, eBs, cBs, F.fBs, Nat.reduceSub, Nat.reduceAdd, Nat.reduceLT, Nat.reduceEqDiff, Nat.reduceLeDiff, Nat.reduceMul, Nat.reduceBEq, Int.reduceToNat, Op.operands, if_true, if_false, reduceCtorEq, if_pos, forall_const, implies_true, eq_self, ne_eq, heg]
        clear hs hl hlate heg
        exact ⟨b1, b2, b4, ⟨hcz, vz⟩, ⟨hzok, nz _⟩, hy, ⟨hIcheck, v2 hi0⟩, ⟨hok, no2 _ _⟩, hK⟩
    · have g1 : ((i : Int) < ((i + d : Nat) : Int)) = True := eq_true (by omega)
      have g2 : (((i + d : Nat) : Int) < (L.length : Int)) = False := eq_false (by omega)
      obtain ⟨w, hw⟩ : ∃ w, L.getD (i + d) default = w := ⟨_, rfl⟩
      by_cases hi0 : i = 0
      · have h0 : ((i : Int) = 0) = True := eq_true (by omega)
        have h1 := True.intro
        simp (config := { maxSteps := 4000000 }) only [le_eq, h3, hI, boxN_eq, wb, hdd, hkw, g1, g2, h0, h1, Rec.em, Inb.em, Msg.enc, h19Take, hMade, hm, yd, cInb_dec, cRec_dec, Inb.eta, Rec.eta,  hlate, tknE, hSameT, cTkn_dec, hWhole, cRecs_dec, hwh, hNext, Int.toNat_natCast, decide_true, decide_false, eBs, cBs, F.fBs, Nat.reduceSub, Nat.reduceAdd, Nat.reduceLT, Nat.reduceEqDiff, Nat.reduceLeDiff, Nat.reduceMul, Nat.reduceBEq, Int.reduceToNat, Op.operands, if_true, if_false, reduceCtorEq, if_pos, forall_const, implies_true, eq_self, ne_eq]
        refine ⟨b1, b2, eG_map _ _ _ _ _ _ ⟨fun _ => rfl, ?_⟩⟩
        simp (config := { maxSteps := 4000000 }) only [le_eq, h3, hI, boxN_eq, wb, hdd, hkw, g1, g2, h0, h1, Rec.em, Inb.em, Msg.enc, h19Take, hMade, hm, yd, cInb_dec, cRec_dec, Inb.eta, Rec.eta, hw,  hlate, tknE, hSameT, cTkn_dec, hWhole, cRecs_dec, hwh, hNext, Int.toNat_natCast, decide_true, decide_false, eBs, cBs, F.fBs, Nat.reduceSub, Nat.reduceAdd, Nat.reduceLT, Nat.reduceEqDiff, Nat.reduceLeDiff, Nat.reduceMul, Nat.reduceBEq, Int.reduceToNat, Op.operands, if_true, if_false, reduceCtorEq, if_pos, forall_const, implies_true, eq_self, ne_eq]
        clear hs hl hlate
        exact ⟨b4, ⟨hcz, vz⟩, ⟨hzok, nz _⟩, hK⟩
      by_cases hle : (i : Int) ≤ I.count
      · have h0 : ((i : Int) = 0) = False := eq_false (by omega)
        have h1 : ((i : Int) ≤ I.count) = True := eq_true hle
        have hod := hodd3 hi0 hle
        simp (config := { maxSteps := 4000000 }) only [le_eq, h3, hI, boxN_eq, wb, hdd, hkw, g1, g2, h0, h1, Rec.em, Inb.em, Msg.enc, h19Take, hMade, hm, yd, cInb_dec, cRec_dec, Inb.eta, Rec.eta, hod,  hlate, tknE, hSameT, cTkn_dec, hWhole, cRecs_dec, hwh, hNext, Int.toNat_natCast, decide_true, decide_false, eBs, cBs, F.fBs, Nat.reduceSub, Nat.reduceAdd, Nat.reduceLT, Nat.reduceEqDiff, Nat.reduceLeDiff, Nat.reduceMul, Nat.reduceBEq, Int.reduceToNat, Op.operands, if_true, if_false, reduceCtorEq, if_pos, forall_const, implies_true, eq_self, ne_eq]
        refine ⟨b1, b2, eG_map _ _ _ _ _ _ ⟨fun _ => rfl, ?_⟩⟩
        simp (config := { maxSteps := 4000000 }) only [le_eq, h3, hI, boxN_eq, wb, hdd, hkw, g1, g2, h0, h1, Rec.em, Inb.em, Msg.enc, h19Take, hMade, hm, yd, cInb_dec, cRec_dec, Inb.eta, Rec.eta, hod, hw,  hlate, tknE, hSameT, cTkn_dec, hWhole, cRecs_dec, hwh, hNext, Int.toNat_natCast, decide_true, decide_false, eBs, cBs, F.fBs, Nat.reduceSub, Nat.reduceAdd, Nat.reduceLT, Nat.reduceEqDiff, Nat.reduceLeDiff, Nat.reduceMul, Nat.reduceBEq, Int.reduceToNat, Op.operands, if_true, if_false, reduceCtorEq, if_pos, forall_const, implies_true, eq_self, ne_eq]
        clear hs hl hlate
        exact ⟨b4, ⟨hcz, vz⟩, ⟨hzok, nz _⟩, hy, ⟨hIcheck, v3 hi0⟩, ⟨hok, no3 _ _⟩, hK⟩
      · have h0 : ((i : Int) = 0) = False := eq_false (by omega)
        have h1 : ((i : Int) ≤ I.count) = False := eq_false hle
        have hod := hodd2 hi0 hle
        simp (config := { maxSteps := 4000000 }) only [le_eq, h3, hI, boxN_eq, wb, hdd, hkw, g1, g2, h0, h1, Rec.em, Inb.em, Msg.enc, h19Take, hMade, hm, yd, cInb_dec, cRec_dec, Inb.eta, Rec.eta, hod,  hlate, tknE, hSameT, cTkn_dec, hWhole, cRecs_dec, hwh, hNext, Int.toNat_natCast, decide_true, decide_false, eBs, cBs, F.fBs, Nat.reduceSub, Nat.reduceAdd, Nat.reduceLT, Nat.reduceEqDiff, Nat.reduceLeDiff, Nat.reduceMul, Nat.reduceBEq, Int.reduceToNat, Op.operands, if_true, if_false, reduceCtorEq, if_pos, forall_const, implies_true, eq_self, ne_eq]
        refine ⟨b1, b2, eG_map _ _ _ _ _ _ ⟨fun _ => rfl, ?_⟩⟩
        simp (config := { maxSteps := 4000000 }) only [le_eq, h3, hI, boxN_eq, wb, hdd, hkw, g1, g2, h0, h1, Rec.em, Inb.em, Msg.enc, h19Take, hMade, hm, yd, cInb_dec, cRec_dec, Inb.eta, Rec.eta, hod, hw,  hlate, tknE, hSameT, cTkn_dec, hWhole, cRecs_dec, hwh, hNext, Int.toNat_natCast, decide_true, decide_false, eBs, cBs, F.fBs, Nat.reduceSub, Nat.reduceAdd, Nat.reduceLT, Nat.reduceEqDiff, Nat.reduceLeDiff, Nat.reduceMul, Nat.reduceBEq, Int.reduceToNat, Op.operands, if_true, if_false, reduceCtorEq, if_pos, forall_const, implies_true, eq_self, ne_eq]
        clear hs hl hlate
        exact ⟨b4, ⟨hcz, vz⟩, ⟨hzok, nz _⟩, hy, ⟨hIcheck, v2 hi0⟩, ⟨hok, no2 _ _⟩, hK⟩
end Go.PE
