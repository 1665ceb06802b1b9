/- Law 18: StreamRests. -/
import Derived.Test.YtkgkpmdbcjelfaaWkSg
import Derived.Test.YtkgkpmdbcjelfaaWkZ
set_option linter.unusedVariables false
set_option linter.defProp false
set_option linter.all false
set_option linter.unusedSimpArgs false
set_option maxRecDepth 10000
set_option maxHeartbeats 4000000
namespace Go.PE
open Go Go.Proofs

theorem list_valid {l : List Raw6} {n : Int} (h : ∀ x ∈ l, x.ok) : ∀ m ∈ listF l n, validB m = true := by
  intro m hm
  obtain ⟨x, hx, rfl⟩ := List.mem_map.1 hm
  exact made_ok (h x (List.mem_of_mem_take hx))
theorem list_len (l : List Raw6) (n : Int) : (listF l n).length ≤ n.toNat := by
  simp [listF]
  omega
def hRests : Det := det2 cRaws (c2 .i8) (fun l p => (∀ x ∈ l, x.ok) ∧ range2 .i8 p) fun _ _ => .d (.bool true)
theorem f_StreamRests : FPure Try.prog 15 hRests.spec := by
  refine FPure.runL [(30, .det hTrue18), (28, .det hList), (31, .det hMake), (38, .det hRest), (33, .det hSameR)] (fun _ => []) (by
    intro p hp
    simp only [List.mem_cons, List.not_mem_nil, or_false] at hp
    rcases hp with rfl | rfl | rfl | rfl | rfl
    · exact f_18sanity
    · exact f_05List
    · exact f_streamMake
    · exact f_streamRest
    · exact f_18Same) F.mixed Try.func15 (by kernel_rfl) rfl (by kernel_rfl) 49 Try.ntmps15 [.tmp 4] Try.results15 ?_
  intro ds K hl hs
  obtain ⟨l, ⟨a, b⟩, rfl, ⟨ho, ⟨ha1, ha2⟩, ⟨hb1, hb2⟩⟩, hK⟩ := det2_elim hs
  simp only at ha1 ha2 hb1 hb2
  have w1 : IntKind.i64.wrap a = a := wrap_i64' (by omega) (by omega)
  have w2 : IntKind.i64.wrap b = b := wrap_i64' (by omega) (by omega)
  have hv := list_valid (n := 10) ho
  have hn := list_len l 10
  have p1 : u64P 1 := ⟨by decide, by decide⟩
  have p2 : u64P 2 := ⟨by decide, by decide⟩
  have r1 := fun n => rest_make n 1 2 (listF l 10)
  have ml := make_len 1 2 (listF l 10)
  generalize hM : listF l 10 = M at *
  generalize hL : makeF 1 2 M = L at *
  have ll : L.length ≤ 12 := by
    have : Int.toNat 10 = 10 := rfl
    omega
  have r2 := fun n k => rest_rest n k L
  simp (config := { maxSteps := 4000000 }) only [hTrue18, det0_eq, c2_enc, cRaws_enc, cRaws_dec, hList, hMake, hRest, hSameR, cRecs_dec, cMsgs_dec, hM, hL, w1, w2, r2, eBs, cBs, F.fBs, Nat.reduceSub, Nat.reduceAdd, Nat.reduceLT, Nat.reduceEqDiff, Nat.reduceLeDiff, Nat.reduceMul, Nat.reduceBEq, Int.reduceToNat, Op.operands, if_true, if_false, reduceCtorEq, if_pos, forall_const, implies_true, eq_self, ne_eq]
  have t10 : Int.toNat 10 = 10 := rfl
  have e : restF (a.tmod 16) L = List.drop (max 0 (min (a.tmod 16) (L.length : Int))).toNat L := by
    rw [r1]
    generalize a.tmod 16 = k
    by_cases h : k ≤ L.length
    · congr 1
      omega
    · rw [List.drop_of_length_le (by omega), List.drop_of_length_le (by omega)]
  have el : (restF (a.tmod 16) L).length ≤ 1000000 := by
    rw [r1, List.length_drop]
    omega
  exact ⟨⟨ho, by decide, by decide⟩, ⟨p1, p2, by omega, hv⟩, by decide, by decide, by decide, by decide, by omega, ⟨by omega, fun _ _ => rfl⟩, fun h => absurd e h, fun _ => ⟨el, by omega, hK⟩⟩
end Go.PE
