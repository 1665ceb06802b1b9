/- Law 24: WalReplays. DRAFT, not built. The ghosts: the plan of this walk answers 100016 with [(id of bad's row, true, [])] (ahead of region 16: it may hold rows), 100024 with [(id, false, [id of the copied frame's row])]. -/
import Derived.Test.YtkgkpmdbcjelfaaWkRp
import Derived.Test.YtkgkpmdbcjelfaaWkY
set_option linter.unusedVariables false
set_option linter.defProp false
set_option linter.all false
set_option linter.unusedSimpArgs false
set_option maxRecDepth 10000
set_option maxHeartbeats 4000000
namespace Go.PE
open Go Go.Proofs

theorem resL_data {r : List Arr} {ids : List Nat} : ∀ C : List (List UInt8), resL r ids (C.map (oneC cBytes)) = some (C.map (oneC cBytes))
  | [] => rfl
  | x :: C => by
    have h := resL_data (r := r) (ids := ids) C
    simp only [List.map_cons, resL, h]
    rfl
theorem resL_set {r : List Arr} {ids : List Nat} {id n : Nat} {A : Arr} (hA : r[id]? = some A) (hz : A.sz ≠ 0) (hn : n = A.es.length) (hid : id ∈ ids) : ∀ (C : List (List UInt8)) (k : Nat), resL r ids ((C.map (oneC cBytes)).set k [.ref id n]) = some ((C.map (oneC cBytes)).set k [.list A.es])
  | [], k => rfl
  | x :: C, 0 => by
    have h := resL_data (r := r) (ids := ids) C
    simp only [List.map_cons, List.set_cons_zero, resL, h, resC, hA, if_neg hz, if_pos (And.intro hn hid)]
  | x :: C, k + 1 => by
    have h := resL_set hA hz hn hid C k
    simp only [List.map_cons, List.set_cons_succ, resL, h]
    rfl
def hReplays : Det := det2 cRawss (c4 .u16) (fun x w => okR x ∧ range4 .u16 w) fun _ _ => .d (.bool true)
theorem f_WalReplays : FPure Try.prog 7 hReplays.spec := by
  refine FPure.runL [(17, .det hTrue), (18, .det hGroups), (20, .det hFrame), (26, .det hReplay), (25, .det hSameG)] (fun i => if i = 16 then [(0, (false, [])), (1, (false, [])), (2, (false, [])), (3, (false, [])), (4, (false, [])), (5, (false, [])), (6, (false, [])), (7, (false, [])), (8, (false, [])), (9, (true, []))] else if i = 21 then [(0, (false, [])), (1, (false, [])), (2, (false, [])), (3, (false, [])), (4, (false, [])), (5, (false, [])), (6, (false, [])), (7, (false, [])), (8, (false, [])), (9, (false, [])), (10, (false, [])), (11, (false, [])), (12, (false, [])), (13, (false, [])), (14, (true, []))] else if i = 24 then [(0, (true, [])), (1, (true, [])), (2, (false, [])), (3, (false, [])), (5, (false, [])), (6, (false, [])), (7, (false, [])), (4, (true, [5, 6, 7])), (8, (true, [5, 6])), (9, (false, [])), (10, (true, []))] else if i = 100016 then [(1, (true, []))] else if i = 100024 then [(1, (false, [2]))] else []) (by
    intro p hp
    simp only [List.mem_cons, List.not_mem_nil, or_false] at hp
    rcases hp with rfl | rfl | rfl | rfl | rfl
    · exact f_24sanity
    · exact f_24Groups
    · exact f_walFrame
    · exact f_walReplay
    · exact f_sameG) F.mixed Try.func7 (by kernel_rfl) rfl (by kernel_rfl) 138 Try.ntmps7 [.tmp 4] Try.results7 ?_
  intro ds K hl hs
  obtain ⟨x, ⟨w1, w2, w3, w4⟩, rfl, ⟨hx, ⟨ha1, ha2⟩, ⟨hb1, hb2⟩, ⟨hc1, hc2⟩, ⟨hd1, hd2⟩⟩, hK⟩ := det2_elim hs
  simp only at ha1 ha2 hb1 hb2 hc1 hc2 hd1 hd2
  have wa : IntKind.i64.wrap w1 = w1 := wrap_i64' (by omega) (by omega)
  have wb : IntKind.i64.wrap w2 = w2 := wrap_i64' (by omega) (by omega)
  have wc : IntKind.i64.wrap w3 = w3 := wrap_i64' (by omega) (by omega)
  have lx := groups_len x 6
  have hok := groups_ok0 (l := x) (n := 6) (gen := w1) hx (by decide) ⟨ha1, by omega⟩
  have hwh := replay_whole (l := x) (n := 6) (gen := w1) hx (by decide) ⟨ha1, by omega⟩
  generalize hG : groupsF x 6 = G at *
  have c6 : (0 ≤ (6 : Int) ∧ (6 : Int) ≤ 1000) = True := eq_true (by decide)
  have o1 : okR x = True := eq_true hx
  simp (config := { maxSteps := 4000000 }) only [hTrue, det0_eq, c4_enc, cRawss_enc, cRawss_dec, hGroups, hG, wa, o1, c6, true_and, eBs, cBs, F.fBs, Nat.reduceSub, Nat.reduceAdd, Nat.reduceLT, Nat.reduceEqDiff, Nat.reduceLeDiff, Nat.reduceMul, Nat.reduceBEq, Int.reduceToNat, Op.operands, if_true, if_false, reduceCtorEq, if_pos, forall_const, implies_true, eq_self, ne_eq]
  have hfr : ∀ i g, G[i]? = some g → (frameF w1 (i : Nat) g).2 = 0 ∧ 21 ≤ (frameF w1 (i : Nat) g).1.length ∧ (frameF w1 (i : Nat) g).1.length ≤ 65536 ∧ ∃ r, walF (frameF w1 (i : Nat) g).1 = some r := by
    intro i g hg
    have h0 := hok i g hg
    rw [Nat.zero_add] at h0
    have h1 := frame_ok h0
    refine ⟨h0, ?_, ?_, _, h1⟩
    · by_cases h : (frameF w1 (i : Nat) g).1.length < 21
      · rw [walF, if_pos (Or.inl h)] at h1
        cases h1
      · omega
    · by_cases h : 65536 < (frameF w1 (i : Nat) g).1.length
      · rw [walF, if_pos (Or.inr h)] at h1
        cases h1
      · omega
  refine ⟨by decide, ?_⟩
  refine eK_rounds [3, 5, 6, 7] (fun i : Nat => i ≤ G.length) (fun i => [(8, .arr 0 i), (9, .d (.int .i64 i))]) (fun _ => []) (fun i => [(0, ⟨1, 23, (cellsI w1 0 (G.take i)).map (oneC cBytes), false⟩)]) (fun i => G.length - i) 0 (Nat.zero_le _) ?_ ?_
  · simp [le_eq, St.head, keepT, setAll, leV, leB, leR, idsL, idsA, idsB, cellsI]
  intro i hi
  have cl : (cellsI w1 0 (G.take i)).length = i := by rw [cellsI_len]; simp; omega
  have em : ∀ x : List Msg, oneC cMsgs x = [.list (x.map Msg.enc)] := fun _ => rfl
  rcases Nat.lt_or_ge i G.length with hlt | hge
  · have h1 : ((i : Int) < G.length) = True := eq_true (by omega)
    have hx : G[i]? = some G[i] := List.getElem?_eq_getElem hlt
    generalize G[i] = g at hx
    obtain ⟨f1, f2, f3, -⟩ := hfr i g hx
    simp (config := { maxSteps := 4000000 }) only [le_eq, h1, cl, em, hFrame, frameA, cMsgs_dec, eBs, cBs, F.fBs, Nat.reduceSub, Nat.reduceAdd, Nat.reduceLT, Nat.reduceEqDiff, Nat.reduceLeDiff, Nat.reduceMul, Nat.reduceBEq, Int.reduceToNat, Op.operands, if_true, if_false, reduceCtorEq, if_pos, forall_const, implies_true, eq_self, ne_eq]
    refine ⟨by omega, fun y hy => ?_⟩
    rw [hx] at hy
    simp only [Option.some.injEq] at hy
    subst hy
    refine ⟨fun h => ?_, fun _ => ⟨by omega, i + 1, by omega, by omega, ⟨by simp [cl], by rw [wrap_i64' (by omega) (by omega)]; rfl⟩, ?_⟩⟩
    · exfalso
      simp only [Bool.or_eq_true, decide_eq_true_eq] at h
      rcases h with h | h
      · exact h f1
      · omega
    · rw [cellsI_snoc hx, List.map_append]
      rfl
  · have : i = G.length := by omega
    subst this
    have h1 : ((G.length : Int) < G.length) = False := eq_false (by omega)
    rw [List.take_of_length_le (Nat.le_refl _)] at cl ⊢
    simp (config := { maxSteps := 4000000 }) only [le_eq, h1, cl, hReplay, hSameG, cMsgss_dec, cBytess_dec, eBs, cBs, F.fBs, Nat.reduceSub, Nat.reduceAdd, Nat.reduceLT, Nat.reduceEqDiff, Nat.reduceLeDiff, Nat.reduceMul, Nat.reduceBEq, Int.reduceToNat, Op.operands, if_true, if_false, reduceCtorEq, if_pos, forall_const, implies_true, eq_self, ne_eq]
    have hwh' : replayF w1 (cellsI w1 0 G) = G := hwh
    by_cases hn : G.length = 0
    · have n0 : ((G.length : Int) = 0) = True := eq_true (by omega)
      simp only [n0, hwh', decide_true, Bool.or_true, true_and, forall_const]
      refine ⟨by omega, ⟨by omega, hK⟩, fun h => by cases h⟩
    have n0 : ((G.length : Int) = 0) = False := eq_false (by omega)
    have hk0 := Int.tmod_nonneg (G.length : Int) hb1
    have hk1 := Int.tmod_lt_of_pos w2 (show (0 : Int) < G.length by omega)
    obtain ⟨k, hk⟩ := Int.eq_ofNat_of_zero_le hk0
    have hkl : k < G.length := by omega
    have hgk : G[k]? = some G[k] := List.getElem?_eq_getElem hkl
    generalize G[k] = g at hgk
    obtain ⟨f1, f2, f3, ⟨r, f4⟩⟩ := hfr k g hgk
    have hck : (cellsI w1 0 G)[k]? = some (frameF w1 (k : Nat) g).1 := by
      have h1 := congrArg (fun l => l[k]?) (cellsI_snoc (gen := w1) hgk)
      rw [← cellsI_take, ← cellsI_take, List.getElem?_take, if_pos (by omega), List.getElem?_append_right (by rw [List.length_take]; omega), List.length_take, Nat.min_eq_left (by omega), Nat.sub_self] at h1
      exact h1
    have hcut := fun c hc => replay_cut (gen := w1) (gs := G) (k := k) (c := c) hok hkl hc
    have hC : cellsF w1 G = cellsI w1 0 G := rfl
    rw [hC] at hcut
    generalize hF : (frameF w1 (k : Nat) g).1 = B at *
    generalize cellsI w1 0 G = C at *
    have hgc : (C.map (oneC cBytes)).getD k [] = [.list (B.map byteCell)] := by
      rw [List.getD_eq_getElem?_getD, List.getElem?_map, hck]
      rfl
    have df : (decide (¬ replayF w1 C = G) || decide ((G.length : Int) = 0)) = false := by
      rw [hwh', decide_eq_false (fun h => h rfl), decide_eq_false (show ¬ (G.length : Int) = 0 by omega)]
      rfl
    refine ⟨by omega, fun h => absurd h (by rw [df]; decide), fun _ => ⟨by decide, by omega, by omega, by decide, ?_⟩⟩
    rw [wb, hk]
    have hsl : ∀ d : D, ((C.map (oneC cBytes)).set k [d]).getD k [] = [d] := fun d => by simp [List.getD, show k < C.length by omega]
    have hss : ∀ d e : D, ((C.map (oneC cBytes)).set k [d]).set k [e] = (C.map (oneC cBytes)).set k [e] := fun d e => List.set_set ..
    have hb0 : ¬ (B.length : Int) = 0 := by omega
    have hj0 := Int.tmod_nonneg (B.length : Int) hc1
    have hj1 := Int.tmod_lt_of_pos w3 (show (0 : Int) < B.length by omega)
    obtain ⟨j, hj⟩ := Int.eq_ofNat_of_zero_le hj0
    have hjl : j < B.length := by omega
    have hbj : B[j]? = some B[j] := List.getElem?_eq_getElem hjl
    generalize B[j] = c at hbj
    have hg : (B.map byteCell).getD j [] = [D.int .u8 c.toNat] := by
      rw [List.getD_eq_getElem?_getD, List.getElem?_map, hbj]
      rfl
    have h255 := Int.emod_nonneg w4 (show (255 : Int) ≠ 0 by decide)
    have w255 : w4.tmod 255 = w4 % 255 := Int.tmod_eq_emod_of_nonneg hd1
    obtain ⟨y, hy, hy1, hy2⟩ : ∃ y : Int, IntKind.u8.wrap (IntKind.u16.wrap (1 + w4.tmod 255)) = y ∧ 1 ≤ y ∧ y ≤ 255 := by
      refine ⟨_, rfl, ?_⟩
      rw [w255, IntKind.wrap_u16, IntKind.wrap_u8]
      omega
    have hxo := xor_u8 c (show 0 ≤ y by omega) (show y < 256 by omega)
    have hset : (B.map byteCell).set j [D.int .u8 ((c ^^^ UInt8.ofNat y.toNat).toNat : Int)] = (B.set j (c ^^^ UInt8.ofNat y.toNat)).map byteCell := by
      rw [List.map_set]
      rfl
    simp (config := { maxSteps := 4000000 }) only [le_eq, h1, cl, hgc, hsl, hss, hj, hg, hy, hxo, hset, Int.toNat_natCast, wc, hReplay, hSameG, cMsgss_dec, cBytess_dec, List.length_set, List.length_map, eBs, cBs, F.fBs, Nat.reduceSub, Nat.reduceAdd, Nat.reduceLT, Nat.reduceEqDiff, Nat.reduceLeDiff, Nat.reduceMul, Nat.reduceBEq, Int.reduceToNat, Op.operands, if_true, if_false, reduceCtorEq, if_pos, forall_const, implies_true, eq_self, ne_eq]
    have ht : ∀ x : List UInt8, (C.map (oneC cBytes)).set k [.list (x.map byteCell)] = (C.set k x).map (oneC cBytes) := fun x => by
      rw [List.map_set]
      rfl
    have hne : B[j]? ≠ some (c ^^^ UInt8.ofNat y.toNat) := by
      rw [hbj]
      intro e
      injection e with e
      exact xor_ne c (by omega) (by omega) (show y ≠ 0 by omega) e
    have hrep := hcut _ (walF_one f4 hjl hne)
    have g2 : ∀ a b : Arr, ([a, b] : List Arr)[2]? = none := fun _ _ => rfl
    have hrep0 := hcut [] (by rw [walF, if_pos (Or.inl (by decide))])
    have hrepc := hcut _ (walF_cut f4 hjl)
    have ht0 : (C.map (oneC cBytes)).set k [.list []] = (C.set k []).map (oneC cBytes) := ht []
    have bk : (0 : Int) ≤ (k : Int) ∧ (k : Int) < (G.length : Int) := ⟨by omega, by omega⟩
    have bj : (0 : Int) ≤ (j : Int) ∧ (j : Int) < (B.length : Int) := ⟨by omega, by omega⟩
    have hl2 : B.length = (B.set j (c ^^^ UInt8.ofNat y.toNat)).length := List.length_set.symm
    have c34 : (0 : Int) ≤ 3 ∧ (3 : Int) < ((4 : Nat) : Int) := by decide
    generalize B.set j (c ^^^ UInt8.ofNat y.toNat) = B' at *
    refine ⟨bk, hkl, hb0, c34, by decide, fun _ => ⟨bk, hkl, by omega, bk, hkl, bk, hkl, bj, hjl, c34, by decide, bj, hjl, ?_⟩, fun _ => ⟨fun _ => ?_, fun _ => ?_⟩⟩
    · rw [resL_set (A := ⟨1, 5, B'.map byteCell, false⟩) rfl (by simp) (by simp [hl2]) (by simp), ht]
      simp (config := { maxSteps := 4000000 }) only [hReplay, hSameG, cMsgss_dec, cBytess_dec, hrep, List.length_set, cl, eBs, cBs, F.fBs, Nat.reduceSub, Nat.reduceAdd, Nat.reduceLT, Nat.reduceEqDiff, Nat.reduceLeDiff, Nat.reduceMul, Nat.reduceBEq, Int.reduceToNat, Op.operands, if_true, if_false, reduceCtorEq, if_pos, forall_const, implies_true, eq_self, ne_eq]
      exact ⟨⟨⟨by omega, by omega, by omega⟩, fun _ _ => rfl⟩, by omega, ⟨⟨by omega, by omega, by omega⟩, fun _ _ => rfl⟩, hK⟩
    · refine ⟨bk, hkl, ?_⟩
      rw [ht0, resL_data]
      simp (config := { maxSteps := 4000000 }) only [hReplay, hSameG, cMsgss_dec, cBytess_dec, hrep0, g2, List.length_set, cl, eBs, cBs, F.fBs, Nat.reduceSub, Nat.reduceAdd, Nat.reduceLT, Nat.reduceEqDiff, Nat.reduceLeDiff, Nat.reduceMul, Nat.reduceBEq, Int.reduceToNat, Op.operands, if_true, if_false, reduceCtorEq, if_pos, forall_const, implies_true, eq_self, ne_eq]
      exact ⟨⟨⟨by omega, by omega, by omega⟩, fun _ _ => rfl⟩, by omega, ⟨⟨by omega, by omega, by omega⟩, fun _ _ => rfl⟩, hK⟩
    · refine ⟨bk, hkl, ⟨by omega, by omega, by omega⟩, bk, hkl, ?_⟩
      rw [ht, resL_data]
      simp (config := { maxSteps := 4000000 }) only [hReplay, hSameG, cMsgss_dec, cBytess_dec, hrepc, g2, List.length_set, cl, eBs, cBs, F.fBs, Nat.reduceSub, Nat.reduceAdd, Nat.reduceLT, Nat.reduceEqDiff, Nat.reduceLeDiff, Nat.reduceMul, Nat.reduceBEq, Int.reduceToNat, Op.operands, if_true, if_false, reduceCtorEq, if_pos, forall_const, implies_true, eq_self, ne_eq]
      exact ⟨⟨⟨by omega, by omega, by omega⟩, fun _ _ => rfl⟩, by omega, ⟨⟨by omega, by omega, by omega⟩, fun _ _ => rfl⟩, hK⟩
end Go.PE
