/- Law 24: WalGenerations. -/
import Derived.Test.YtkgkpmdbcjelfaaWkGp
set_option linter.unusedVariables false
set_option linter.defProp false
set_option linter.all false
set_option linter.unusedSimpArgs false
set_option maxRecDepth 10000
set_option maxHeartbeats 4000000
namespace Go.PE
open Go Go.Proofs

theorem FPure.by_arg {P : Program} {f : FuncId} {α : Type} {s : Spec} (t : α → Spec) (h : ∀ a, FPure P f (t a)) (hs : ∀ ds K, s ds K → ∃ a, t a ds K) : FPure P f s := by
  intro w no vs ds K hno hv hk
  obtain ⟨a, ha⟩ := hs ds K hk
  exact h a w no vs ds K hno hv ha
theorem drop1_one {α : Type} (c : Cod α) (l : List α) (i : Nat) : List.drop 1 ((l.map (oneC c)).getD i []) = [] := by
  rw [List.getD_eq_getElem?_getD, List.getElem?_map]
  cases l[i]? <;> rfl
def hGenerations : Det := det3 cRawss cRawss (cI .u16) (fun x y g => okR x ∧ okR y ∧ rangeP .u16 g) fun _ _ _ => .d (.bool true)
theorem f_WalGenerations : FPure Try.prog 8 hGenerations.spec := by
  refine FPure.by_arg (fun g ds K => ∃ x y, ds = [cRawss.enc x, cRawss.enc y, (cI .u16).enc g] ∧ (okR x ∧ okR y ∧ rangeP .u16 g) ∧ K (.ret (.d (.bool true)))) (fun g => ?_) (fun ds K hs => by
    obtain ⟨x, y, g, e, hp, hK⟩ := det3_elim hs
    exact ⟨g, x, y, e, hp, hK⟩)
  refine FPure.runL [(17, .det hTrue), (18, .det hGroups), (19, .mem (hCells fun n => decide (n = g))), (26, .det hReplay), (25, .det hSameG)] (fun _ => []) (by
    intro p hp
    simp only [List.mem_cons, List.not_mem_nil, or_false] at hp
    rcases hp with rfl | rfl | rfl | rfl | rfl
    · exact f_24sanity
    · exact f_24Groups
    · exact f_24Cells _
    · exact f_walReplay
    · exact f_sameG) F.mixed Try.func8 (by kernel_rfl) rfl (by kernel_rfl) 99 Try.ntmps8 [.tmp 6] Try.results8 ?_
  intro ds K hl hs
  obtain ⟨x, y, rfl, ⟨hx, hy, hg1, hg2⟩, hK⟩ := hs
  have q1 : decide (g = g) = true := decide_eq_true rfl
  have q2 : decide (g + 1 = g) = false := decide_eq_false (by omega)
  have w1 : IntKind.i64.wrap g = g := wrap_i64' (by omega) (by omega)
  have w2 : IntKind.i64.wrap (g + 1) = g + 1 := wrap_i64' (by omega) (by omega)
  have lx := groups_len x 4
  have ly := groups_len y 4
  have c4 : (0 ≤ (4 : Int) ∧ (4 : Int) ≤ 1000) = True := eq_true (by decide)
  have o1 : okR x = True := eq_true hx
  have o2 : okR y = True := eq_true hy
  simp (config := { maxSteps := 4000000 }) only [hTrue, det0_eq, cRawss_enc, cRawss_dec, hGroups, hCells, q1, q2, hReplay, hSameG, w1, w2, o1, o2, c4, true_and, eBs, cBs, F.fBs, Nat.reduceSub, Nat.reduceAdd, Nat.reduceLT, Nat.reduceEqDiff, Nat.reduceLeDiff, Nat.reduceMul, Nat.reduceBEq, Int.reduceToNat, Op.operands, if_true, if_false, reduceCtorEq, if_pos, forall_const, implies_true, eq_self, ne_eq]
  have la : (cellsF g (groupsF x 4)).length = (groupsF x 4).length := cellsI_len _ _ _
  have lb : (cellsF (g + 1) (groupsF y 4)).length = (groupsF y 4).length := cellsI_len _ _ _
  have e1 := mix_new (n := 4) (gen := g) hx hy (by decide) ⟨hg1, hg2⟩
  have e2 := mix_old (n := 4) (gen := g) hx hy (by decide) ⟨hg1, hg2⟩
  have e3 := mix_cut (n := 4) (gen := g + 1) hy (by decide) ⟨by omega, by omega⟩
  have z0 : mixI (cellsF g (groupsF x 4)) (cellsF (g + 1) (groupsF y 4)) 0 = cellsF g (groupsF x 4) := by simp [mixI]
  generalize groupsF x 4 = A at *
  generalize groupsF y 4 = B at *
  generalize cellsF g A = C at *
  generalize cellsF (g + 1) B = E at *
  refine ⟨by omega, by omega, ?_⟩
  refine eK_rounds [2, 7, 8, 9, 11] (fun i : Nat => i ≤ E.length) (fun i => [(10, .arr 1 (mixI C E i).length), (12, .d (.int .i64 i))]) (fun _ => []) (fun i => [(1, ⟨1, 23, (mixI C E i).map (oneC cBytes), false⟩)]) (fun i => E.length - i) 0 (Nat.zero_le _) ?_ ?_
  · simp [le_eq, St.head, keepT, setAll, leV, leB, leR, idsL, idsA, idsB, z0, la]
  intro i hi
  have one : ∀ x, oneC cBytes x = [.list (x.map byteCell)] := fun _ => rfl
  have ml := mix_len (a := C) (b := E) hi
  rcases Nat.lt_or_ge i E.length with hlt | hge
  · have h1 : ((i : Int) < E.length) = True := eq_true (by omega)
    have ml1 := mix_len (a := C) (b := E) (i := i + 1) (by omega)
    rcases Nat.lt_or_ge i C.length with hc | hc
    · have h2 : ((i : Int) < (mixI C E i).length) = True := eq_true (by omega)
      simp only [le_eq, h1, h2, one, drop1_one, eBs, cBs, F.fBs, Nat.reduceSub, Nat.reduceAdd, Nat.reduceLT, Nat.reduceEqDiff, Nat.reduceLeDiff, Nat.reduceMul, Nat.reduceBEq, Int.reduceToNat, Op.operands, if_true, if_false, reduceCtorEq, if_pos, forall_const, implies_true, eq_self, ne_eq]
      refine ⟨by omega, fun z hx => ?_⟩
      have hset : ((mixI C E i).map (oneC cBytes)).set i [D.list (z.map byteCell)] = (mixI C E (i + 1)).map (oneC cBytes) := by
        rw [← mix_set hx hc, List.map_set]
        rfl
      rw [hset]
      exact ⟨by omega, by omega, i + 1, by omega, by omega, ⟨by rw [ml1, ml]; congr 1; omega, by rw [wrap_i64' (by omega) (by omega)]; rfl⟩, rfl⟩
    · have h2 : ((i : Int) < (mixI C E i).length) = False := eq_false (by omega)
      simp only [le_eq, h1, h2, one, drop1_one, eBs, cBs, F.fBs, Nat.reduceSub, Nat.reduceAdd, Nat.reduceLT, Nat.reduceEqDiff, Nat.reduceLeDiff, Nat.reduceMul, Nat.reduceBEq, Int.reduceToNat, Op.operands, if_true, if_false, reduceCtorEq, if_pos, forall_const, implies_true, eq_self, ne_eq]
      refine ⟨by omega, fun z hx => ?_⟩
      have hadd : (mixI C E i).map (oneC cBytes) ++ [[D.list (z.map byteCell)]] = (mixI C E (i + 1)).map (oneC cBytes) := by
        rw [← mix_add hx hc, List.map_append]
        rfl
      rw [hadd]
      exact ⟨by omega, i + 1, by omega, by omega, ⟨by rw [ml1, List.length_map, ml1], by rw [wrap_i64' (by omega) (by omega)]; rfl⟩, rfl⟩
  · have : i = E.length := by omega
    subst this
    have h1 : ((E.length : Int) < E.length) = False := eq_false (by omega)
    rw [← lb] at e1 e2 e3
    have l0 : (((0 : Nat) : Int) = 0) = True := eq_true rfl
    have nt : (¬ True) = False := not_true_eq_false
    have nf : (¬ False) = True := not_false_eq_true
    by_cases hE : E.length = 0
    · rw [if_pos hE] at e2
      have b0 : (0 < (B.length : Int)) = False := eq_false (by omega)
      have b1 : ((B.length : Int) = 0) = True := eq_true (by omega)
      have b2 : ((E.length : Int) < 2) = True := eq_true (by omega)
      simp only [le_eq, h1, hReplay, hSameG, e1, e2, w1, w2, cMsgss_dec, cBytess_dec, b0, b1, b2, decide_true, decide_false, Bool.not_true, eBs, cBs, F.fBs, Nat.reduceSub, Nat.reduceAdd, Nat.reduceLT, Nat.reduceEqDiff, Nat.reduceLeDiff, Nat.reduceMul, Nat.reduceBEq, Int.reduceToNat, Op.operands, if_true, if_false, reduceCtorEq, if_pos, forall_const, implies_true, eq_self, ne_eq]
      repeat' (first | exact hK | omega | with_reducible apply And.intro | (intro _))
    · rw [if_neg hE] at e2
      have b0 : (0 < (B.length : Int)) = True := eq_true (by omega)
      have b1 : ((B.length : Int) = 0) = False := eq_false (by omega)
      simp only [le_eq, h1, hReplay, hSameG, e1, e2, w1, w2, cMsgss_dec, cBytess_dec, b0, b1, l0, nt, nf, decide_true, decide_false, Bool.not_true, eBs, cBs, F.fBs, Nat.reduceSub, Nat.reduceAdd, Nat.reduceLT, Nat.reduceEqDiff, Nat.reduceLeDiff, Nat.reduceMul, Nat.reduceBEq, Int.reduceToNat, Op.operands, if_true, if_false, reduceCtorEq, if_pos, forall_const, implies_true, eq_self, ne_eq]
      have dl : (List.drop 1 E).length ≤ 1000000 := by simp; omega
      refine ⟨by omega, by omega, fun _ => hK, fun h2 => ⟨⟨⟨by omega, by omega, by omega⟩, fun x _ => rfl⟩, dl, ?_⟩⟩
      rw [e3 (by omega)]
      exact hK
end Go.PE
