/- Groups of messages, and the cells of a log (reference 24). -/
import Derived.Test.YtkgkpmdbcjelfaaWkZ
set_option linter.unusedVariables false
set_option linter.defProp false
set_option linter.all false
set_option linter.unusedSimpArgs false
set_option maxRecDepth 10000
set_option maxHeartbeats 4000000
namespace Go.PE
open Go Go.Proofs

theorem cRaws_dec1 (l : List Raw6) : cRaws.dec (.list (l.map Raw6.enc)) = some l := cRaws.de l
def fullB (g : List Msg) : Bool := decide (0 < (g.length : Int))
def groupsF (l : List (List Raw6)) (n : Int) : List (List Msg) := ((l.take 6).map (listF · n)).filter fullB
def okR (l : List (List Raw6)) : Prop := ∀ x ∈ l, ∀ y ∈ x, Raw6.ok y
def hGroups : Det := det2 cRawss (cI .i64) (fun l n => okR l ∧ 0 ≤ n ∧ n ≤ 1000) fun l n => .d (.list ((groupsF l n).map (oneC cMsgs)))
def groupsI (l : List (List Raw6)) (n : Int) (i : Nat) : List (List Msg) := ((l.take i).map (listF · n)).filter fullB
theorem groupsI_snoc {l : List (List Raw6)} {n : Int} {i : Nat} {x : List Raw6} (h : l[i]? = some x) : groupsI l n (i + 1) = groupsI l n i ++ if fullB (listF x n) then [listF x n] else [] := by
  unfold groupsI
  rw [take_snoc h, List.map_append, List.filter_append]
  congr 1
  simp only [List.map_cons, List.map_nil, List.filter_cons, List.filter_nil]
theorem groupsI_len (l : List (List Raw6)) (n : Int) (i : Nat) : (groupsI l n i).length ≤ i := by
  unfold groupsI
  refine Nat.le_trans (List.length_filter_le _ _) ?_
  simp
  omega
theorem f_24Groups : FPure Try.prog 18 hGroups.spec := by
  refine FPure.runL [(28, .det hList)] (fun _ => []) (by
    intro p hp
    simp only [List.mem_cons, List.not_mem_nil, or_false] at hp
    subst hp
    exact f_05List) F.mixed Try.func18 (by kernel_rfl) rfl (by kernel_rfl) 33 Try.ntmps18 [.tmp 4] Try.results18 ?_
  intro ds K hl hs
  obtain ⟨l, n, rfl, ⟨ho, hn, hn2⟩, hK⟩ := det2_elim hs
  simp only [cRawss_enc, eBs, cBs, F.fBs, Nat.reduceSub, Nat.reduceAdd, Nat.reduceLT, Nat.reduceEqDiff, Nat.reduceLeDiff, Nat.reduceMul, Nat.reduceBEq, Int.reduceToNat, Op.operands, if_true, if_false, reduceCtorEq, if_pos, forall_const, implies_true, eq_self, ne_eq]
  refine eK_rounds [0, 1] (fun i : Nat => i ≤ l.length ∧ i ≤ 6) (fun i => [(5, .arr 1 (groupsI l n i).length), (6, .d (.int .i64 i))]) (fun _ => []) (fun i => [(1, ⟨1, 34, (groupsI l n i).map (oneC cMsgs), false⟩)]) (fun i => l.length - i) 0 ⟨Nat.zero_le _, Nat.zero_le _⟩ ?_ ?_
  · simp [le_eq, St.head, keepT, setAll, leV, leB, leR, leR0, idsR, idsL, idsA, idsB, groupsI]
  rintro i ⟨hi, hin⟩
  have one : ∀ x, oneC cRaws x = [.list (x.map Raw6.enc)] := fun _ => rfl
  have one2 : ∀ x, oneC cMsgs x = [.list (x.map Msg.enc)] := fun _ => rfl
  have hgl := groupsI_len l n i
  simp only [le_eq, one, hList, cRaws_dec1, eBs, cBs, F.fBs, Nat.reduceSub, Nat.reduceAdd, Nat.reduceLT, Nat.reduceEqDiff, Nat.reduceLeDiff, Nat.reduceMul, Nat.reduceBEq, Int.reduceToNat, Op.operands, if_true, if_false, reduceCtorEq, if_pos, forall_const, implies_true, eq_self, ne_eq]
  refine ⟨fun h => ?_, fun h => ?_⟩
  · simp only [Bool.and_eq_true, decide_eq_true_eq] at h
    refine ⟨⟨by omega, by omega⟩, fun x hx => ⟨⟨ho x (List.mem_of_getElem? hx), hn, hn2⟩, fun hf => ?_, fun hf => ?_⟩⟩
    · have hs := groupsI_snoc (n := n) hx
      rw [if_pos (by unfold fullB; exact decide_eq_true hf)] at hs
      refine ⟨by omega, i + 1, ⟨by omega, by omega⟩, by omega, ⟨?_, by rw [wrap_i64' (by omega) (by omega)]; rfl⟩, ?_⟩
      · rw [hs]; simp
      · rw [hs]; simp [one2]
    · have hs := groupsI_snoc (n := n) hx
      rw [if_neg (by unfold fullB; rw [decide_eq_false hf]; decide), List.append_nil] at hs
      refine ⟨i + 1, ⟨by omega, by omega⟩, by omega, ⟨?_, by rw [wrap_i64' (by omega) (by omega)]; rfl⟩, ?_⟩
      · rw [hs]
      · rw [hs]
  · have e : groupsF l n = groupsI l n i := by
      unfold groupsF groupsI
      simp only [Bool.and_eq_false_iff, decide_eq_false_iff_not] at h
      rcases Nat.lt_or_ge i 6 with h1 | h1
      · rw [List.take_of_length_le (show l.length ≤ 6 by omega), List.take_of_length_le (show l.length ≤ i by omega)]
      · rw [show i = 6 by omega]
    rw [e] at hK
    exact hK

/-- The cells of a log, from the number i on. -/
def cellsI (gen : Int) : Nat → List (List Msg) → List (List UInt8)
  | _, [] => []
  | i, g :: gs => (frameF gen i g).1 :: cellsI gen (i + 1) gs
def cellsF (gen : Int) (gs : List (List Msg)) : List (List UInt8) := cellsI gen 0 gs
theorem cellsI_len (gen : Int) : ∀ (gs : List (List Msg)) (i : Nat), (cellsI gen i gs).length = gs.length
  | [], _ => rfl
  | g :: gs, i => by simp [cellsI, cellsI_len gen gs]
theorem cellsI_append (gen : Int) : ∀ (a b : List (List Msg)) (i : Nat), cellsI gen i (a ++ b) = cellsI gen i a ++ cellsI gen (i + a.length) b
  | [], b, i => by simp [cellsI]
  | g :: a, b, i => by
    simp only [List.cons_append, cellsI, cellsI_append gen a b, List.length_cons]
    congr 3
    omega
theorem cellsI_snoc {gen : Int} {gs : List (List Msg)} {i : Nat} {g : List Msg} (h : gs[i]? = some g) : cellsI gen 0 (gs.take (i + 1)) = cellsI gen 0 (gs.take i) ++ [(frameF gen i g).1] := by
  have hi : i < gs.length := (List.getElem?_eq_some_iff.1 h).1
  rw [take_snoc h, cellsI_append]
  simp only [cellsI, List.length_take, Nat.min_eq_left (Nat.le_of_lt hi), Nat.zero_add]
theorem cMsgss_len {gs : List (List Msg)} : ((gs.map (oneC cMsgs)).length) = gs.length := by simp
/-- ref24.Cells: the cells lie in a row of their own, or are handed on as data: as q asks. -/
def hCells (q : Int → Bool) : Handler := fun args b r K => match args, b, r with
  | [.d gs, .d (.int .i64 gen)], [], [] => @nK _ (cMsgss.dec gs) ⟨fun gs => gs.length ≤ 1000000 ∧ (q gen = true → K (.ret (.arr 1 gs.length)) [] [⟨1, 23, [], false⟩, ⟨1, 23, (cellsF gen gs).map (oneC cBytes), false⟩]) ∧ (q gen = false → K (.ret (.d (.list ((cellsF gen gs).map (oneC cBytes))))) [] [])⟩
  | _, _, _ => False
theorem f_24Cells (q : Int → Bool) : HOk Try.prog 19 (hCells q) := by
  refine HOk.runL [(21, .det hFrame)] (fun _ => []) (by
    intro p hp
    simp only [List.mem_cons, List.not_mem_nil, or_false] at hp
    subst hp
    exact f_24Frame) F.mixed Try.func19 (by kernel_rfl) rfl (by kernel_rfl) 31 Try.ntmps19 [.tmp 4] Try.results19 ?_
  intro args b r K hl hs
  unfold hCells at hs
  split at hs
  case h_2 => exact hs.elim
  rename_i gs gen
  obtain ⟨gs, hx, hlen, hK, hD⟩ := nK_elim hs
  obtain rfl := cMsgss.ed _ _ hx
  simp only [eBs, cBs, F.fBs, Nat.reduceSub, Nat.reduceAdd, Nat.reduceLT, Nat.reduceEqDiff, Nat.reduceLeDiff, Nat.reduceMul, Nat.reduceBEq, Int.reduceToNat, Op.operands, if_true, if_false, reduceCtorEq, if_pos, forall_const, implies_true, eq_self, ne_eq]
  refine eK_rounds [0, 1] (fun i : Nat => i ≤ gs.length) (fun i => [(5, .arr 1 i), (6, .d (.int .i64 i))]) (fun _ => []) (fun i => [(1, ⟨1, 23, (cellsI gen 0 (gs.take i)).map (oneC cBytes), false⟩)]) (fun i => gs.length - i) 0 (Nat.zero_le _) ?_ ?_
  · simp [le_eq, St.head, keepT, setAll, leV, leB, leR, leR0, idsR, idsL, idsA, idsB, cellsI]
  intro i hi
  have one2 : ∀ x, oneC cMsgs x = [.list (x.map Msg.enc)] := fun _ => rfl
  have one : ∀ x, oneC cBytes x = [.list (x.map byteCell)] := fun _ => rfl
  have hcl : (cellsI gen 0 (gs.take i)).length = i := by rw [cellsI_len]; simp; omega
  simp only [le_eq, one2, hFrame, frameA, hcl, eBs, cBs, F.fBs, Nat.reduceSub, Nat.reduceAdd, Nat.reduceLT, Nat.reduceEqDiff, Nat.reduceLeDiff, Nat.reduceMul, Nat.reduceBEq, Int.reduceToNat, Op.operands, if_true, if_false, reduceCtorEq, if_pos, forall_const, implies_true, eq_self, ne_eq]
  refine ⟨fun h => ⟨⟨by omega, by omega⟩, fun x hx => ⟨by omega, i + 1, by omega, by omega, ⟨by simp [hcl], by rw [wrap_i64' (by omega) (by omega)]; rfl⟩, ?_⟩⟩, fun h => ?_⟩
  · rw [cellsI_snoc hx]
    simp [one]
  · have : i = gs.length := by omega
    subst this
    cases hq : q gen with
    | true =>
      refine vK_ret _ _ (hK hq) ?_
      simp only [eBs, cBs, F.fBs, Nat.reduceSub, Nat.reduceAdd, Nat.reduceLT, Nat.reduceEqDiff, Nat.reduceLeDiff, Nat.reduceMul, Nat.reduceBEq, Int.reduceToNat, Op.operands, if_true, if_false, reduceCtorEq, if_pos, forall_const, implies_true, eq_self, ne_eq] <;> simp [cellsF]
    | false =>
      have hD := hD hq
      unfold cellsF at hD
      rw [List.take_of_length_le (Nat.le_refl _)]
      refine vK_dat _ _ _ hD ?_ ?_
      · simp [toO, toD, cellsI_len]
      · simp only [arrIdsO, eBs, cBs, F.fBs, Nat.reduceSub, Nat.reduceAdd, Nat.reduceLT, Nat.reduceEqDiff, Nat.reduceLeDiff, Nat.reduceMul, Nat.reduceBEq, Int.reduceToNat, Op.operands, if_true, if_false, reduceCtorEq, if_pos, forall_const, implies_true, eq_self, ne_eq] <;> simp
end Go.PE
