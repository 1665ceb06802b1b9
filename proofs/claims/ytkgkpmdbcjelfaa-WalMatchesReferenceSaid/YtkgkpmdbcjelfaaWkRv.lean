/- Law 24: WalMatchesReference. -/
import Derived.Test.YtkgkpmdbcjelfaaWkRq
import Derived.Test.YtkgkpmdbcjelfaaWkRu
import Derived.Test.YtkgkpmdbcjelfaaWkY
import Derived.Test.YtkgkpmdbcjelfaaWkGp
import Derived.Test.YtkgkpmdbcjelfaaWkRp
set_option linter.unusedVariables false
set_option linter.defProp false
set_option linter.all false
set_option linter.unusedSimpArgs false
set_option maxRecDepth 10000
set_option maxHeartbeats 4000000
namespace Go.PE
open Go Go.Proofs

theorem resL_data {r : List Arr} {ids : List Nat} : ∀ C : List (List UInt8), resL r ids (C.map (oneC cBytes)) = some (C.map (oneC cBytes))
  | [] => rfl
  | x :: C => by
    have h := resL_data (r := r) (ids := ids) C
    simp only [List.map_cons, resL, h]
    rfl
theorem resL_set {r : List Arr} {ids : List Nat} {id n : Nat} {A : Arr} (hA : r[id]? = some A) (hz : A.sz ≠ 0) (hn : n = A.es.length) (hid : id ∈ ids) : ∀ (C : List (List UInt8)) (k : Nat), resL r ids ((C.map (oneC cBytes)).set k [.ref id n]) = some ((C.map (oneC cBytes)).set k [.list A.es])
  | [], k => rfl
  | x :: C, 0 => by
    have h := resL_data (r := r) (ids := ids) C
    simp only [List.map_cons, List.set_cons_zero, resL, h, resC, hA, if_neg hz, if_pos (And.intro hn hid)]
  | x :: C, k + 1 => by
    have h := resL_set hA hz hn hid C k
    simp only [List.map_cons, List.set_cons_succ, resL, h]
    rfl
theorem FPure.by_arg1 {P : Program} {f : FuncId} {α : Type} {s : Spec} (t : α → Spec) (h : ∀ a, FPure P f (t a)) (hs : ∀ ds K, s ds K → ∃ a, t a ds K) : FPure P f s := by
  intro w no vs ds K hno hv hk
  obtain ⟨a, ha⟩ := hs ds K hk
  exact h a w no vs ds K hno hv ha
def kM (x : List (List Raw6)) (w : Int) : Nat := ((IntKind.u32.wrap w).tmod ((groupsF x 6).length : Int)).toNat
theorem upE_data0 (C : List (List UInt8)) : (C.map (oneC cBytes)).map (upE [] 0) = C.map (oneC cBytes) := by
  rw [List.map_map]
  rfl
theorem up_crows (gen : Int) (gs : List (List Msg)) (k i : Nat) : upR [] 0 (crowsK gen gs k i) = crowsK gen gs k i := by
  unfold crowsK
  split
  · simp only [upR, upA, if_true, if_false, upE_data0, Nat.reduceEqDiff]
  · simp only [upR, upA, if_true, if_false, Nat.reduceEqDiff, cellsK, List.map_set, upE_data0]
    rfl
def hMatches : Det := det3 cRawss cBytes (c5 .i32) (fun x _ w => okR x ∧ range5 .i32 w) fun _ _ _ => .d (.bool true)
theorem f_WalMatchesReference : FPure Try.prog 3 hMatches.spec := by
  refine FPure.by_arg1 (fun (k : Nat) ds K => ∃ x raw w, ds = [cRawss.enc x, cBytes.enc raw, (c5 .i32).enc w] ∧ (okR x ∧ range5 .i32 w) ∧ k = kM x w.2.2.2.1 ∧ K (.ret (.d (.bool true)))) (fun k => ?_) (fun ds K hs => by
    obtain ⟨x, raw, w, e, hp, hK⟩ := det3_elim hs
    exact ⟨_, x, raw, w, e, hp, rfl, hK⟩)
  refine FPure.runL [(17, .det hTrue), (18, .det hGroups), (19, .mem (hCellsL k)), (20, .det hFrame), (21, .det hFrame), (23, .det h24parsed), (24, .det h24parsed), (22, .det h24same), (26, .det hReplay), (27, .det hReplay), (25, .det hSameG)] (fun i => if i = 9 then [(0, (false, [])), (1, (false, [])), (2, (false, [])), (3, (false, [])), (4, (false, [])), (5, (false, [])), (6, (false, [])), (7, (false, [])), (8, (false, [])), (9, (false, [])), (10, (true, [0, 1, 3, 4, 6, 7, 8])), (11, (false, [])), (12, (false, [])), (13, (false, [])), (14, (true, [13])), (15, (true, []))] else if i = 10 then [(0, (false, [])), (1, (false, [])), (2, (false, [])), (3, (false, [])), (4, (false, [])), (5, (false, [])), (6, (false, [])), (7, (false, [])), (8, (false, [])), (9, (false, [])), (10, (true, [0, 1, 3, 4, 6, 7, 8])), (11, (false, [])), (12, (false, [])), (13, (false, [])), (14, (true, [13])), (15, (true, []))] else if i = 11 then [(0, (false, [])), (1, (false, [])), (2, (false, [])), (3, (true, [0, 1])), (4, (false, [])), (5, (false, [])), (6, (false, [])), (7, (false, [])), (8, (false, [])), (9, (false, [])), (10, (false, [])), (11, (false, [])), (12, (false, [])), (13, (false, [])), (14, (false, [])), (16, (false, [])), (17, (false, [])), (18, (false, [])), (19, (false, [])), (15, (true, [0, 1, 4, 5, 6, 7, 8, 9, 11, 12, 13, 16, 17, 18, 19])), (20, (true, [0, 1, 4, 5, 6, 7, 8, 9, 11, 12, 13, 16, 17, 18])), (21, (true, [0, 1, 4, 5, 6, 7, 8, 9, 11, 12, 13, 16, 17, 18])), (22, (false, [])), (23, (false, []))] else if i = 15 then [(0, (false, [])), (1, (false, [])), (2, (false, [])), (3, (false, [])), (4, (false, [])), (5, (false, [])), (6, (false, [])), (7, (false, [])), (8, (false, [])), (9, (false, [])), (10, (false, [])), (11, (false, [])), (12, (false, [])), (13, (false, [])), (14, (false, [])), (15, (false, [])), (16, (false, [])), (17, (false, [])), (18, (false, [])), (19, (false, [])), (20, (false, [])), (21, (true, []))] else if i = 16 then [(0, (true, [])), (1, (true, [])), (2, (false, [])), (4, (false, [])), (3, (true, [4])), (5, (true, [])), (6, (true, [])), (7, (false, [])), (8, (false, [])), (9, (false, [])), (10, (false, [])), (11, (false, [])), (12, (false, [])), (13, (false, [])), (15, (false, [])), (16, (false, [])), (17, (false, [])), (18, (false, [])), (19, (false, [])), (14, (true, [7, 10, 11, 12, 15, 16, 17, 18, 19])), (20, (true, [7, 10, 11, 12, 16, 17, 18])), (21, (true, [7, 10, 11, 12, 16, 17, 18])), (22, (false, [])), (23, (true, []))] else if i = 100016 then [(1, (false, [4]))] else []) (by
    intro p hp
    simp only [List.mem_cons, List.not_mem_nil, or_false] at hp
    rcases hp with rfl | rfl | rfl | rfl | rfl | rfl | rfl | rfl | rfl | rfl | rfl
    · exact f_24sanity
    · exact f_24Groups
    · exact f_24CellsL _
    · exact f_walFrame
    · exact f_24Frame
    · exact f_24parsed
    · exact f_24Parse
    · exact f_24same
    · exact f_walReplay
    · exact f_24Replay
    · exact f_sameG) F.mixed Try.func3 (by kernel_rfl) rfl (by kernel_rfl) 141 Try.ntmps3 [.tmp 6] Try.results3 ?_
  intro ds K hl hs
  obtain ⟨x, raw, ⟨w1, w2, w3, w4, w5⟩, rfl, ⟨hx, ⟨ha1, ha2⟩, ⟨hb1, hb2⟩, ⟨hc1, hc2⟩, ⟨hd1, hd2⟩, ⟨he1, he2⟩⟩, hk, hK⟩ := hs
  simp only at ha1 ha2 hb1 hb2 hc1 hc2 hd1 hd2 he1 he2 hk
  have wb : IntKind.i64.wrap w2 = w2 := wrap_i64' (by omega) (by omega)
  have wc : IntKind.i64.wrap w3 = w3 := wrap_i64' (by omega) (by omega)
  obtain ⟨gen, hgen, g1, g2⟩ : ∃ gen, IntKind.u16.wrap w1 = gen ∧ 0 ≤ gen ∧ gen < 65536 := ⟨_, rfl, by rw [IntKind.wrap_u16]; omega, by rw [IntKind.wrap_u16]; omega⟩
  obtain ⟨u4, hu4, u41, u42⟩ : ∃ u, IntKind.u32.wrap w4 = u ∧ 0 ≤ u ∧ u < 4294967296 := ⟨_, rfl, by rw [IntKind.wrap_u32]; omega, by rw [IntKind.wrap_u32]; omega⟩
  obtain ⟨u5, hu5, u51, u52⟩ : ∃ u, IntKind.u32.wrap w5 = u ∧ 0 ≤ u ∧ u < 4294967296 := ⟨_, rfl, by rw [IntKind.wrap_u32]; omega, by rw [IntKind.wrap_u32]; omega⟩
  have wg : IntKind.i64.wrap gen = gen := wrap_i64' (by omega) (by omega)
  have wu4 : IntKind.i64.wrap u4 = u4 := wrap_i64' (by omega) (by omega)
  have wu5 : IntKind.i64.wrap u5 = u5 := wrap_i64' (by omega) (by omega)
  have lx := groups_len x 6
  have hok := groups_ok0 (l := x) (n := 6) (gen := gen) hx (by decide) ⟨g1, by omega⟩
  unfold kM at hk
  generalize hG : groupsF x 6 = G at *
  have c6 : (0 ≤ (6 : Int) ∧ (6 : Int) ≤ 1000) = True := eq_true (by decide)
  have o1 : okR x = True := eq_true hx
  simp (config := { maxSteps := 4000000 }) only [hTrue, det0_eq, c5_enc, cRawss_enc, cRawss_dec, hGroups, hG, hgen, wg, o1, c6, true_and, hCellsL, cMsgss_dec, eBs, cBs, F.fBs, Nat.reduceSub, Nat.reduceAdd, Nat.reduceLT, Nat.reduceEqDiff, Nat.reduceLeDiff, Nat.reduceMul, Nat.reduceBEq, Int.reduceToNat, Op.operands, if_true, if_false, reduceCtorEq, if_pos, forall_const, implies_true, eq_self, ne_eq]
  rw [up_crows]
  have pd : ∀ p : Parsed, cParsed.dec (.agg p.enc) = some p := Parsed.dec_de
  refine ⟨fun _ => hK, fun hraw => ⟨by decide, by omega, fun g hg => by have := hok k g hg; rwa [Nat.zero_add] at this, ?_⟩⟩
  rcases Nat.eq_zero_or_pos G.length with hn | hn
  · have e1 : crowsK gen G k G.length = [⟨1, 23, [], false⟩, ⟨0, 23, [], false⟩] := by
      have : G = [] := List.eq_nil_of_length_eq_zero hn
      subst this
      exact if_pos (Nat.zero_le _)
    rw [e1, hn]
    have z0 : ((0 : Nat) : Int) = 0 := rfl
    refine eK_lend [1, 5, 7, 8, 9] (by kernel_rfl) rfl (fun i : Nat => i = 0) (fun i => [(10, .d (.int .i64 i))]) (fun i => 0) 0 rfl ?_ ?_
    · simp [le_eq, St.head, keepT, setAll, leV, leB, leR, leR0, idsR, refsL, idsL, idsA, idsB]
    rintro i rfl
    have h1 : ((0 : Int) < G.length) = False := eq_false (by omega)
    have z1 : ((0 : Int) < 0) = False := eq_false (by decide)
    have g4 : ∀ a b : Arr, ([a, b] : List Arr)[4]? = none := fun _ _ => rfl
    have rl : ∀ r ids, resL r ids [] = some [] := fun _ _ => rfl
    have hd0 : cBytess.dec (.list []) = some [] := cBytess_dec []
    simp (config := { maxSteps := 4000000 }) only [le_eq, h1, hn, z0, z1, rl, hd0, pd, g4, h24parsed, h24same, hReplay, hSameG, cMsgss_dec, cBytess_dec, hgen, wg, eBs, cBs, F.fBs, Nat.reduceSub, Nat.reduceAdd, Nat.reduceLT, Nat.reduceEqDiff, Nat.reduceLeDiff, Nat.reduceMul, Nat.reduceBEq, Int.reduceToNat, Op.operands, if_true, if_false, reduceCtorEq, if_pos, forall_const, implies_true, eq_self, ne_eq]
    exact ⟨by decide, by decide, by decide, by decide, by decide, hK⟩
  · have hk0 := Int.tmod_nonneg (G.length : Int) u41
    have hk1 := Int.tmod_lt_of_pos u4 (show (0 : Int) < G.length by omega)
    rw [hu4] at hk
    have hkl : k < G.length := by omega
    have hkk : u4.tmod (G.length : Int) = (k : Int) := by omega
    have hgk : G[k]? = some G[k] := List.getElem?_eq_getElem hkl
    have hgd : G.getD k [] = G[k] := by simp [List.getD, hkl]
    have e1 : crowsK gen G k G.length = [⟨1, 23, [], false⟩, ⟨0, 23, cellsK gen G k G.length, false⟩, ⟨1, 5, [], false⟩, ⟨1, 5, ((G.getD k []).flatMap bytesM).map byteCell, false⟩, ⟨1, 5, (frameF gen (k : Nat) (G.getD k [])).1.map byteCell, false⟩] := if_neg (by omega)
    have hc : cellsK gen G k G.length = ((cellsI gen 0 G).map (oneC cBytes)).set k [.ref 4 (frameF gen (k : Nat) G[k]).1.length] := by
      unfold cellsK
      rw [List.take_of_length_le (Nat.le_refl _), hgd]
    rw [e1, hc, hgd]
    have hcl : (cellsI gen 0 G).length = G.length := cellsI_len ..
    have hf0 := hok k G[k] hgk
    rw [Nat.zero_add] at hf0
    generalize G[k] = g at *
    generalize hB : (frameF gen (k : Nat) g).1 = B at *
    have hck : (cellsI gen 0 G)[k]? = some B := by
      have h1 := congrArg (fun l => l[k]?) (cellsI_snoc (gen := gen) hgk)
      rw [← cellsI_take, ← cellsI_take, List.getElem?_take, if_pos (by omega), List.getElem?_append_right (by rw [List.length_take]; omega), List.length_take, Nat.min_eq_left (by omega), Nat.sub_self] at h1
      rw [h1]
      exact congrArg some hB
    generalize hC : cellsI gen 0 G = C at *
    have hEl : ((C.map (oneC cBytes)).set k [.ref 4 B.length]).length = G.length := by simp [hcl]
    refine eK_lend [1, 5, 7, 8, 9] (by kernel_rfl) rfl (fun i : Nat => i ≤ G.length) (fun i => [(10, .d (.int .i64 i))]) (fun i => G.length - i) 0 (Nat.zero_le _) ?_ ?_
    · simp only [le_eq, St.head, keepT, setAll, leV, leB, leR, leR0, idsR, idsL, idsA, idsB, eBs, cBs, F.fBs, Nat.reduceSub, Nat.reduceAdd, Nat.reduceLT, Nat.reduceEqDiff, Nat.reduceLeDiff, Nat.reduceMul, Nat.reduceBEq, Int.reduceToNat, Op.operands, if_true, if_false, reduceCtorEq, if_pos, forall_const, implies_true, eq_self, ne_eq]
      exact ⟨rfl, refs_set _ _ _ (by decide)⟩
    rintro i hi
    rcases Nat.lt_or_ge i G.length with hlt | hge
    · have h1 : ((i : Int) < G.length) = True := eq_true (by omega)
      simp (config := { maxSteps := 4000000 }) only [le_eq, h1, hEl, pd, h24parsed, h24same, hFrame, frameA, cMsgs_dec, hgen, wg, eBs, cBs, F.fBs, Nat.reduceSub, Nat.reduceAdd, Nat.reduceLT, Nat.reduceEqDiff, Nat.reduceLeDiff, Nat.reduceMul, Nat.reduceBEq, Int.reduceToNat, Op.operands, if_true, if_false, reduceCtorEq, if_pos, forall_const, implies_true, eq_self, ne_eq]
      have em : ∀ x : List Msg, oneC cMsgs x = [.list (x.map Msg.enc)] := fun _ => rfl
      have gx : G.getD i default = G[i] := by simp [List.getD, hlt]
      have hgi : G[i]? = some G[i] := List.getElem?_eq_getElem hlt
      generalize G[i] = gi at gx hgi
      have hrec : ∀ x : List D, (G.map (oneC cMsgs))[i]? = some x → x.length = 1 ∧ AV.cptr x = AV.cptr [D.list (gi.map Msg.enc)] := fun x hx => by
        rw [List.getElem?_map, hgi] at hx
        injection hx with hx
        subst hx
        exact ⟨rfl, rfl⟩
      refine ⟨by decide, by decide, by omega, eG_map _ _ _ _ _ _ ⟨fun _ => rfl, ?_⟩⟩
      by_cases hik : i = k
      · subst hik
        have hE : ((C.map (oneC cBytes)).set i [.ref 4 B.length]).getD i [] = [.ref 4 B.length] := by simp [List.getD, hcl, hlt]
        simp (config := { maxSteps := 4000000 }) only [le_eq, h1, hEl, hE, gx, em, pd, h24parsed, h24same, hFrame, frameA, cMsgs_dec, hgen, wg, eBs, cBs, F.fBs, Nat.reduceSub, Nat.reduceAdd, Nat.reduceLT, Nat.reduceEqDiff, Nat.reduceLeDiff, Nat.reduceMul, Nat.reduceBEq, Int.reduceToNat, Op.operands, if_true, if_false, reduceCtorEq, if_pos, forall_const, implies_true, eq_self, ne_eq]
        refine ⟨⟨by decide, by decide, by omega, hrec⟩, by decide, by decide, by omega, eG_map _ _ _ _ _ _ ⟨fun _ => rfl, ?_⟩⟩
        simp (config := { maxSteps := 4000000 }) only [le_eq, h1, hEl, hE, gx, em, pd, h24parsed, h24same, hFrame, frameA, cMsgs_dec, hgen, wg, eBs, cBs, F.fBs, Nat.reduceSub, Nat.reduceAdd, Nat.reduceLT, Nat.reduceEqDiff, Nat.reduceLeDiff, Nat.reduceMul, Nat.reduceBEq, Int.reduceToNat, Op.operands, if_true, if_false, reduceCtorEq, if_pos, forall_const, implies_true, eq_self, ne_eq]
        exact ⟨⟨by decide, by decide, by omega, hrec⟩, by omega, hlt, by omega, hlt, ⟨by omega, by omega, hlt⟩, by omega, by omega, i + 1, by omega, by omega, by rw [wrap_i64' (by omega) (by omega)]; rfl, refs_set _ _ _ (by decide)⟩
      · have hci : C[i]? = some (C[i]'(by omega)) := List.getElem?_eq_getElem (by omega)
        generalize C[i]'(by omega) = c at hci
        have hE : ((C.map (oneC cBytes)).set k [.ref 4 B.length]).getD i [] = [.list (c.map byteCell)] := by
          rw [List.getD_eq_getElem?_getD, List.getElem?_set_ne (fun e => hik e.symm), List.getElem?_map, hci]
          rfl
        simp (config := { maxSteps := 4000000 }) only [le_eq, h1, hEl, hE, gx, em, pd, h24parsed, h24same, hFrame, frameA, cMsgs_dec, hgen, wg, eBs, cBs, F.fBs, Nat.reduceSub, Nat.reduceAdd, Nat.reduceLT, Nat.reduceEqDiff, Nat.reduceLeDiff, Nat.reduceMul, Nat.reduceBEq, Int.reduceToNat, Op.operands, if_true, if_false, reduceCtorEq, if_pos, forall_const, implies_true, eq_self, ne_eq]
        refine ⟨⟨by decide, by decide, by omega, hrec⟩, by decide, by decide, by omega, eG_map _ _ _ _ _ _ ⟨fun _ => rfl, ?_⟩⟩
        simp (config := { maxSteps := 4000000 }) only [le_eq, h1, hEl, hE, gx, em, pd, h24parsed, h24same, hFrame, frameA, cMsgs_dec, hgen, wg, eBs, cBs, F.fBs, Nat.reduceSub, Nat.reduceAdd, Nat.reduceLT, Nat.reduceEqDiff, Nat.reduceLeDiff, Nat.reduceMul, Nat.reduceBEq, Int.reduceToNat, Op.operands, if_true, if_false, reduceCtorEq, if_pos, forall_const, implies_true, eq_self, ne_eq]
        exact ⟨⟨by decide, by decide, by omega, hrec⟩, by omega, hlt, by omega, hlt, ⟨by omega, by omega, hlt⟩, by omega, by omega, i + 1, by omega, by omega, by rw [wrap_i64' (by omega) (by omega)]; rfl, refs_set _ _ _ (by decide)⟩
    · have : i = G.length := by omega
      subst this
      have h1 : ((G.length : Int) < G.length) = False := eq_false (by omega)
      have n0 : ((0 : Int) < G.length) = True := eq_true (by omega)
      have hfr := frame_ok hf0
      rw [hB] at hfr
      have hbl := (walF_len hfr).1
      have hj0 := Int.tmod_nonneg (B.length : Int) u51
      have hj1 := Int.tmod_lt_of_pos u5 (show (0 : Int) < B.length by omega)
      obtain ⟨j, hj⟩ := Int.eq_ofNat_of_zero_le hj0
      have hjl : j < B.length := by omega
      have hbj : B[j]? = some B[j] := List.getElem?_eq_getElem hjl
      generalize B[j] = c at hbj
      have hg : (B.map byteCell).getD j [] = [D.int .u8 c.toNat] := by
        rw [List.getD_eq_getElem?_getD, List.getElem?_map, hbj]
        rfl
      obtain ⟨y, hy, hy1, hy2⟩ : ∃ y : Int, IntKind.u8.wrap w4 = y ∧ 0 ≤ y ∧ y < 256 := by
        refine ⟨_, rfl, ?_⟩
        rw [IntKind.wrap_u8]
        omega
      have hxo := xor_u8 c hy1 hy2
      have hset : (B.map byteCell).set j [D.int .u8 ((c ^^^ UInt8.ofNat y.toNat).toNat : Int)] = (B.set j (c ^^^ UInt8.ofNat y.toNat)).map byteCell := by
        rw [List.map_set]
        rfl
      have hE : ((C.map (oneC cBytes)).set k [.ref 4 B.length]).getD k [] = [.ref 4 B.length] := by simp [List.getD, hcl, hkl]
      simp (config := { maxSteps := 4000000 }) only [le_eq, h1, n0, hEl, hE, pd, hu4, wu4, hkk, hu5, wu5, hj, hg, hy, hxo, hset, Int.toNat_natCast, List.length_map, h24parsed, h24same, hgen, wg, eBs, cBs, F.fBs, Nat.reduceSub, Nat.reduceAdd, Nat.reduceLT, Nat.reduceEqDiff, Nat.reduceLeDiff, Nat.reduceMul, Nat.reduceBEq, Int.reduceToNat, Op.operands, if_true, if_false, reduceCtorEq, if_pos, forall_const, implies_true, eq_self, ne_eq]
      have ht : ∀ x : List UInt8, (C.map (oneC cBytes)).set k [.list (x.map byteCell)] = (C.set k x).map (oneC cBytes) := fun x => by
        rw [List.map_set]
        rfl
      have bk : (0 : Int) ≤ (k : Int) ∧ (k : Int) < (G.length : Int) := ⟨by omega, by omega⟩
      have bj : (0 : Int) ≤ (j : Int) ∧ (j : Int) < (B.length : Int) := ⟨by omega, by omega⟩
      have hl2 : B.length = (B.set j (c ^^^ UInt8.ofNat y.toNat)).length := List.length_set.symm
      generalize B.set j (c ^^^ UInt8.ofNat y.toNat) = B' at *
      have hcs : (C.set k B').length = G.length := by rw [List.length_set]; exact hcl
      refine ⟨by decide, by omega, bk, hkl, by decide, bk, hkl, by omega, bj, hjl, by decide, bj, hjl, ?_⟩
      rw [resL_set (A := ⟨1, 5, B'.map byteCell, false⟩) rfl (by simp) (by simp [hl2]) (by simp), ht]
      simp (config := { maxSteps := 4000000 }) only [hReplay, hSameG, cMsgss_dec, cBytess_dec, hcs, pd, h24parsed, h24same, hgen, wg, List.length_map, eBs, cBs, F.fBs, Nat.reduceSub, Nat.reduceAdd, Nat.reduceLT, Nat.reduceEqDiff, Nat.reduceLeDiff, Nat.reduceMul, Nat.reduceBEq, Int.reduceToNat, Op.operands, if_true, if_false, reduceCtorEq, if_pos, forall_const, implies_true, eq_self, ne_eq]
      exact ⟨by decide, by decide, by omega, by decide, by omega, by decide, by decide, hK⟩
end Go.PE
