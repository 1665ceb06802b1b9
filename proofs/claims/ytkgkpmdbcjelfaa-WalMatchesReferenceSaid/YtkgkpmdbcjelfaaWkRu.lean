/- The cells of a log (reference 24), of which one lies in a row that may be written. -/
import Derived.Test.YtkgkpmdbcjelfaaWkRt
set_option linter.unusedVariables false
set_option linter.defProp false
set_option linter.all false
set_option linter.unusedSimpArgs false
set_option maxRecDepth 10000
set_option maxHeartbeats 4000000
namespace Go.PE
open Go Go.Proofs

/-- The cells that are made in i rounds: the one numbered k is told by its row. -/
def cellsK (gen : Int) (gs : List (List Msg)) (k i : Nat) : List (List D) := ((cellsI gen 0 (gs.take i)).map (oneC cBytes)).set k [.ref 4 (frameF gen (k : Nat) (gs.getD k [])).1.length]
def crowsK (gen : Int) (gs : List (List Msg)) (k i : Nat) : List Arr :=
  if i ≤ k then [⟨1, 23, [], false⟩, ⟨0, 23, (cellsI gen 0 (gs.take i)).map (oneC cBytes), false⟩]
  else [⟨1, 23, [], false⟩, ⟨0, 23, cellsK gen gs k i, false⟩, ⟨1, 5, [], false⟩, ⟨1, 5, ((gs.getD k []).flatMap bytesM).map byteCell, false⟩, ⟨1, 5, (frameF gen (k : Nat) (gs.getD k [])).1.map byteCell, false⟩]
def hCellsL (k : Nat) : Handler := fun args b r K => match args, b, r with
  | [.d gs, .d (.int .i64 gen)], [], [] => @nK _ (cMsgss.dec gs) ⟨fun gs => gs.length ≤ 1000000 ∧ (∀ g, gs[k]? = some g → (frameF gen (k : Nat) g).2 = 0) ∧ K (.ret (.arr 1 gs.length)) [] (crowsK gen gs k gs.length)⟩
  | _, _, _ => False
theorem refs_data (nr : Nat) (C : List (List UInt8)) : refsL nr (C.map (oneC cBytes)) := by
  intro e he id n hn
  obtain ⟨c, _, rfl⟩ := List.mem_map.1 he
  cases hn
theorem refs_set {nr : Nat} (C : List (List UInt8)) (k n : Nat) (h : 4 < nr) : refsL nr ((C.map (oneC cBytes)).set k [.ref 4 n]) := by
  intro e he id m hn
  rcases List.mem_or_eq_of_mem_set he with h1 | h1
  · exact refs_data nr C e h1 id m hn
  · rw [h1] at hn
    injection hn with hn
    injection hn with hn
    omega
theorem set_last {α : Type} (l : List α) (x y : α) {n : Nat} (h : l.length = n) : (l ++ [x]).set n y = l ++ [y] := by
  subst h
  rw [List.set_append_right _ _ (Nat.le_refl _), Nat.sub_self]
  rfl
theorem leR0_refl : ∀ l : List Arr, leR0 l l
  | [] => trivial
  | A :: l => ⟨rfl, leR0_refl l⟩
theorem crows_ids (gen : Int) (gs : List (List Msg)) (k i : Nat) : idsR (crowsK gen gs k i).length (crowsK gen gs k i) := by
  unfold crowsK
  split
  · simp only [idsR]
    exact ⟨refs_data _ _, trivial⟩
  · simp only [idsR]
    exact ⟨refs_set _ _ _ (by simp), trivial⟩
theorem crows_two (gen : Int) (gs : List (List Msg)) (k i : Nat) : 1 < (crowsK gen gs k i).length := by
  unfold crowsK
  split <;> simp
theorem f_24CellsL (k : Nat) : HOk Try.prog 19 (hCellsL k) := by
  refine HOk.runL [(21, .mem (hFrameQ fun s => decide (s = (k : Nat))))] (fun i => if i = 100002 then [(1, (true, []))] else []) (by
    intro p hp
    simp only [List.mem_cons, List.not_mem_nil, or_false] at hp
    subst hp
    exact f_24FrameQ _) F.mixed Try.func19 (by kernel_rfl) rfl (by kernel_rfl) 31 Try.ntmps19 [.tmp 4] Try.results19 ?_
  intro args b r K hl hs
  unfold hCellsL at hs
  split at hs
  case h_2 => exact hs.elim
  rename_i gs gen
  obtain ⟨gs, hx, hlen, hok, hK⟩ := nK_elim hs
  obtain rfl := cMsgss.ed _ _ hx
  simp only [eBs, cBs, F.fBs, Nat.reduceSub, Nat.reduceAdd, Nat.reduceLT, Nat.reduceEqDiff, Nat.reduceLeDiff, Nat.reduceMul, Nat.reduceBEq, Int.reduceToNat, Op.operands, if_true, if_false, reduceCtorEq, if_pos, forall_const, implies_true, eq_self, ne_eq]
  refine eK_grow [0, 1] (fun i : Nat => i ≤ gs.length) (fun i => [(5, .arr 1 i), (6, .d (.int .i64 i))]) (fun i => crowsK gen gs k i) (fun i => gs.length - i) 0 (Nat.zero_le _) ?_ ?_ ?_
  · intro a _
    unfold crowsK
    split <;> simp
  · simp [le_eq, St.head, keepT, setAll, leV, leB, leR, leR0, idsR, refsL, idsL, idsA, idsB, crowsK, cellsI]
  intro i hi
  have one2 : ∀ x, oneC cMsgs x = [.list (x.map Msg.enc)] := fun _ => rfl
  have one : ∀ x, oneC cBytes x = [.list (x.map byteCell)] := fun _ => rfl
  have hcl : (cellsI gen 0 (gs.take i)).length = i := by rw [cellsI_len]; simp; omega
  rcases Nat.lt_or_ge i gs.length with hlt | hge
  · have h1 : ((i : Int) < gs.length) = True := eq_true (by omega)
    have hx : gs[i]? = some gs[i] := List.getElem?_eq_getElem hlt
    generalize gs[i] = g at hx
    have hsn := cellsI_snoc (gen := gen) hx
    rcases Nat.lt_trichotomy i k with hik | hik | hik
    · have e1 : crowsK gen gs k i = [⟨1, 23, [], false⟩, ⟨0, 23, (cellsI gen 0 (gs.take i)).map (oneC cBytes), false⟩] := if_pos (by omega)
      have e2 : crowsK gen gs k (i + 1) = [⟨1, 23, [], false⟩, ⟨0, 23, (cellsI gen 0 (gs.take (i + 1))).map (oneC cBytes), false⟩] := if_pos (by omega)
      have hq : decide ((i : Int) = (k : Int)) = false := decide_eq_false (by omega)
      rw [e1]
      simp only [le_eq, one2, h1, hq, hFrameQ, cMsgs_dec, frameA, hcl, eBs, cBs, F.fBs, Nat.reduceSub, Nat.reduceAdd, Nat.reduceLT, Nat.reduceEqDiff, Nat.reduceLeDiff, Nat.reduceMul, Nat.reduceBEq, Int.reduceToNat, Op.operands, if_true, if_false, reduceCtorEq, if_pos, forall_const, implies_true, eq_self, ne_eq]
      refine ⟨by omega, fun x hx' => ⟨by omega, i + 1, by omega, by omega, ⟨by simp [hcl], by rw [wrap_i64' (by omega) (by omega)]; rfl⟩, ?_, ?_⟩⟩
      · rw [hx] at hx'
        simp only [Option.some.injEq] at hx'
        subst hx'
        refine ⟨?_, crows_ids _ _ _ _⟩
        rw [e2, hsn]
        simp [leR0, one]
      · exact crows_two _ _ _ _
    · subst hik
      have e1 : crowsK gen gs i i = [⟨1, 23, [], false⟩, ⟨0, 23, (cellsI gen 0 (gs.take i)).map (oneC cBytes), false⟩] := if_pos (Nat.le_refl _)
      have e2 : crowsK gen gs i (i + 1) = [⟨1, 23, [], false⟩, ⟨0, 23, cellsK gen gs i (i + 1), false⟩, ⟨1, 5, [], false⟩, ⟨1, 5, ((gs.getD i []).flatMap bytesM).map byteCell, false⟩, ⟨1, 5, (frameF gen (i : Nat) (gs.getD i [])).1.map byteCell, false⟩] := if_neg (by omega)
      have hq : decide ((i : Int) = (i : Int)) = true := decide_eq_true rfl
      rw [e1]
      simp only [le_eq, one2, h1, hq, hFrameQ, frowsQ, cMsgs_dec, frameA, hcl, eBs, cBs, F.fBs, Nat.reduceSub, Nat.reduceAdd, Nat.reduceLT, Nat.reduceEqDiff, Nat.reduceLeDiff, Nat.reduceMul, Nat.reduceBEq, Int.reduceToNat, Op.operands, if_true, if_false, reduceCtorEq, if_pos, forall_const, implies_true, eq_self, ne_eq]
      refine ⟨by omega, fun x hx' => ?_⟩
      rw [hx] at hx'
      simp only [Option.some.injEq] at hx'
      subst hx'
      refine ⟨hok g hx, by omega, i + 1, by omega, by omega, ⟨by simp [hcl], by rw [wrap_i64' (by omega) (by omega)]; rfl⟩, ⟨?_, crows_ids _ _ _ _⟩, crows_two _ _ _ _⟩
      have hgd : gs.getD i [] = g := by simp [List.getD, hx]
      have hck : cellsK gen gs i (i + 1) = (cellsI gen 0 (gs.take i)).map (oneC cBytes) ++ [[.ref 4 (frameF gen (i : Nat) g).1.length]] := by
        unfold cellsK
        rw [hsn, List.map_append, hgd]
        exact set_last _ _ _ (by rw [List.length_map, hcl])
      rw [e2, hck, hgd]
      simp [leR0]
    · have e1 : crowsK gen gs k i = [⟨1, 23, [], false⟩, ⟨0, 23, cellsK gen gs k i, false⟩, ⟨1, 5, [], false⟩, ⟨1, 5, ((gs.getD k []).flatMap bytesM).map byteCell, false⟩, ⟨1, 5, (frameF gen (k : Nat) (gs.getD k [])).1.map byteCell, false⟩] := if_neg (by omega)
      have e2 : crowsK gen gs k (i + 1) = [⟨1, 23, [], false⟩, ⟨0, 23, cellsK gen gs k (i + 1), false⟩, ⟨1, 5, [], false⟩, ⟨1, 5, ((gs.getD k []).flatMap bytesM).map byteCell, false⟩, ⟨1, 5, (frameF gen (k : Nat) (gs.getD k [])).1.map byteCell, false⟩] := if_neg (by omega)
      have hq : decide ((i : Int) = (k : Int)) = false := decide_eq_false (by omega)
      have hcl' : (cellsK gen gs k i).length = i := by simp [cellsK, hcl]
      rw [e1]
      simp only [le_eq, one2, h1, hq, hFrameQ, cMsgs_dec, frameA, hcl', eBs, cBs, F.fBs, Nat.reduceSub, Nat.reduceAdd, Nat.reduceLT, Nat.reduceEqDiff, Nat.reduceLeDiff, Nat.reduceMul, Nat.reduceBEq, Int.reduceToNat, Op.operands, if_true, if_false, reduceCtorEq, if_pos, forall_const, implies_true, eq_self, ne_eq]
      refine ⟨by omega, fun x hx' => ?_⟩
      rw [hx] at hx'
      simp only [Option.some.injEq] at hx'
      subst hx'
      refine ⟨by omega, i + 1, by omega, by omega, ⟨by simp [hcl'], by rw [wrap_i64' (by omega) (by omega)]; rfl⟩, ⟨?_, crows_ids _ _ _ _⟩, crows_two _ _ _ _⟩
      have hck : cellsK gen gs k (i + 1) = cellsK gen gs k i ++ [[.list ((frameF gen (i : Nat) g).1.map byteCell)]] := by
        unfold cellsK
        rw [hsn, List.map_append, List.set_append_left _ _ (by rw [List.length_map, hcl]; exact hik)]
        rfl
      rw [e2, hck]
      simp [leR0]
  · have : i = gs.length := by omega
    subst this
    have h1 : ((gs.length : Int) < gs.length) = False := eq_false (by omega)
    simp only [le_eq, h1, eBs, cBs, F.fBs, Nat.reduceSub, Nat.reduceAdd, Nat.reduceLT, Nat.reduceEqDiff, Nat.reduceLeDiff, Nat.reduceMul, Nat.reduceBEq, Int.reduceToNat, Op.operands, if_true, if_false, reduceCtorEq, if_pos, forall_const, implies_true, eq_self, ne_eq]
    exact vK_ret _ _ hK ⟨trivial, ⟨leR0_refl _, crows_ids _ _ _ _⟩, rfl, by simpa [idsA] using crows_two gen gs k gs.length, Nat.zero_le _, Nat.zero_le _⟩
end Go.PE
