/- WkTk: what the laws need of it. -/
import Derived.Test.YtknilgmkgjjidaaGreatDoorPe4
import Derived.Test.YtknilgmkgjjidaaGreatDoorFacts
import Derived.Test.YtknilgmkgjjidaaGreatDoorWkTc
set_option linter.unusedVariables false
set_option linter.defProp false
set_option linter.all false
set_option linter.unusedSimpArgs false
set_option maxRecDepth 100000
set_option maxHeartbeats 4000000
namespace Go.PE
open Go Go.Proofs

/-- An empty list is cloned. -/
def hClone0 : Det := fun ds => (ds = [.list []], .d (.list []))
theorem f_clonePair0 : FPure Tryz.prog 148 hClone0.spec := by
  refine FPure.runL [] (fun _ => []) (by simp) F.mixed Tryz.func148 (by kernel_rfl) rfl (by kernel_rfl) 8 Tryz.ntmps148 [.tmp 2] Tryz.results148 ?_
  intro ds K hl hs
  obtain ⟨rfl, hK⟩ := hs
  simp (config := { maxSteps := 4000000 }) only [eBs, cBs, F.fBs, Nat.reduceSub, Nat.reduceAdd, Nat.reduceLT, Nat.reduceEqDiff, Nat.reduceLeDiff, Nat.reduceMul, Nat.reduceBEq, Int.reduceToNat, Op.operands, if_true, if_false, reduceCtorEq, if_pos, forall_const, implies_true, eq_self, ne_eq, iff_self]
  exact ⟨hK, fun e h => (nomatch h), hK⟩
def T19a : List Ent := [
  ⟨105, true, [], none⟩,
  ⟨76, false, [(4, [(0, false, []), (1, false, [0]), (2, false, [0, 1]), (3, false, [0, 1, 2]), (4, false, [0, 1, 2, 3]), (5, false, [0, 1, 2, 3, 4]), (6, true, [1, 2, 3, 4]), (7, false, [1, 2, 3, 4])]), (18, [(0, false, []), (1, false, [0]), (2, false, [0, 1]), (3, false, [0, 1, 2]), (4, false, [0, 1, 2, 3]), (5, false, [0, 1, 2, 3, 4]), (6, false, [0, 1, 2, 3, 4, 5]), (7, false, [0, 1, 2, 3, 4, 5, 6]), (8, false, [0, 1, 2, 3, 4, 5, 6, 7]), (9, false, [0, 1, 2, 3, 4, 5, 6, 7, 8]), (10, false, [0, 1, 2, 3, 4, 5, 6, 7, 8, 9]), (11, false, [0, 1, 2, 3, 4, 5, 6, 7, 8, 9, 10]), (12, true, []), (13, true, [])])], none⟩,
  ⟨75, false, [], none⟩,
  ⟨45, false, [], none⟩,
  ⟨24, false, [], none⟩,
  ⟨25, false, [], none⟩,
  ⟨13, false, [(5, [(0, false, []), (1, false, [0]), (2, false, [0, 1]), (3, false, [0, 1, 2]), (4, false, [0, 1, 2, 3]), (5, true, [1, 2, 3]), (6, true, [])])], none⟩,
  ⟨31, false, [], none⟩,
  ⟨54, true, [(3, [(0, false, []), (1, false, [0]), (2, false, [0, 1]), (3, false, [0, 1, 2]), (4, false, [0, 1, 2, 3]), (5, false, [0, 1, 2, 3, 4]), (6, false, [0, 1, 2, 3, 4, 5]), (7, false, [0, 1, 2, 3, 4, 5, 6]), (8, false, [0, 1, 2, 3, 4, 5, 6, 7]), (9, false, [0, 1, 2, 3, 4, 5, 6, 7, 8]), (10, true, [0, 1, 2, 3, 4, 5, 6, 7, 8]), (11, true, [0, 1, 2, 3, 5, 6, 7, 8]), (12, false, [0, 1, 2, 3, 5, 6, 7, 8]), (13, true, []), (14, true, [])])], none⟩,
  ⟨28, false, [], none⟩,
  ⟨198, true, [], none⟩,
  ⟨147, true, [], none⟩,
  ⟨114, false, [], none⟩,
  ⟨91, false, [], none⟩,
  ⟨115, false, [], none⟩,
  ⟨90, false, [], none⟩,
  ⟨112, true, [(0, [(0, false, []), (1, false, [0]), (2, false, [0, 1]), (3, false, [0, 1, 2]), (4, false, [0, 1, 2, 3]), (5, true, [0, 1, 2]), (6, false, [0, 1, 2]), (7, false, [0, 1, 2, 6]), (8, false, [0, 1, 2, 6, 7]), (9, true, [0, 1, 2, 6, 7, 8]), (10, true, [8]), (11, true, [])]), (5, [(0, false, []), (1, false, [0]), (2, false, [0, 1]), (3, false, [0, 1, 2]), (5, false, [0, 1, 2, 3]), (6, false, [0, 1, 2, 3, 5]), (4, true, [5, 6]), (7, true, [5]), (8, true, [])])], none⟩,
  ⟨88, true, [], none⟩,
  ⟨53, false, [(7, [(0, false, []), (1, false, [0]), (2, false, [0, 1]), (3, false, [0, 1, 2]), (4, true, [0, 1, 2, 3]), (5, true, [])])], none⟩,
  ⟨52, false, [], none⟩,
  ⟨27, false, [], none⟩]
def xClone : List D → Option AV := fun ds => match ds with | [.list []] => some (.d (.list [])) | _ => none
def T19 : List Ent := ⟨148, false, [], some xClone⟩ :: T19a
theorem T19_ok : T19.all (okE Tryz.prog) = true := by kernel_rfl
theorem T19_ext : ∀ e ∈ T19, ∀ g, e.ext = some g → FPure Tryz.prog e.f (fun ds K => ∃ o, extC g ds = some o ∧ K o) := by
  intro e he g hg
  rcases List.mem_cons.1 he with rfl | he
  · injection hg with hg
    subst hg
    intro w no vs ds K hno hv hs
    refine f_clonePair0 w no vs ds K hno hv ?_
    obtain ⟨o, ho, hK⟩ := hs
    unfold extC xClone at ho
    split at ho
    · rename_i x hx
      split at hx
      · injection hx with hx
        injection ho with ho
        subst hx ho
        exact ⟨rfl, hK⟩
      · cases hx
    · cases ho
  · have h1 : T19a.all (fun e => e.ext.isNone) = true := rfl
    have := List.all_eq_true.1 h1 e he
    rw [hg] at this
    cases this
/-- A closed call. -/
def hCl (ds : List D) (x : AV) : Det := fun ds' => (ds' = ds, x)
theorem hCl_eq (ds : List D) (x : AV) (ds' : List D) : hCl ds x ds' = (ds' = ds, x) := rfl
/-- The empty forest. -/
def f0L : List D := [.list [[.bool true, .bool false, .int .i64 1, .list [], .list [], .list [], .list [], .list []]], .int .i64 2, .int .i64 2, .int .i64 1, .list [], .int .i64 1, .int .i64 0, .int .i64 0, .list []]
theorem f0L_eq : f0L = [.list [[.bool true, .bool false, .int .i64 1, .list [], .list [], .list [], .list [], .list []]], .int .i64 2, .int .i64 2, .int .i64 1, .list [], .int .i64 1, .int .i64 0, .int .i64 0, .list []] := rfl
def hMade0 : Det := hCl [.int .u8 0, .list []] (.d (.agg f0L))
theorem f_16Made0 : FPure Tryz.prog 13 hMade0.spec := FPure.closed F.mixed T19_ok T19_ext 100 20 (by kernel_rfl) rfl
def hDig0 : Det := hCl [.list []] (.d (.int .u64 5558979605539197941))
theorem f_digest0 : FPure Tryz.prog 28 hDig0.spec := FPure.closed F.mixed T19_ok T19_ext 100 20 (by kernel_rfl) rfl
def hTab0 : Det := hCl [.agg f0L, .int .i64 0] (.tup [.d (.list []), .d (.int .i64 0)])
theorem f_table0 : FPure Tryz.prog 27 hTab0.spec := FPure.closed F.mixed T19_ok T19_ext 100 20 (by kernel_rfl) rfl
end Go.PE
