/- The common part of the laws on streams (package downspoutlaw18). -/
import Derived.Test.YtkgkpmdbcjelfaaGreatWkSq
import Derived.Test.YtkgkpmdbcjelfaaGreatWkN
set_option linter.unusedVariables false
set_option linter.defProp false
set_option linter.all false
set_option linter.unusedSimpArgs false
set_option maxRecDepth 10000
set_option maxHeartbeats 4000000
namespace Go.PE
open Go Go.Proofs

def sEnd : Rec := ⟨3, 1, 0, 0, 0, ⟨0, [], [], [], [], [], [], 0⟩, 7⟩
def mDrop : Msg := ⟨3, [], [], [], [], [], [], 0⟩
theorem ok_sEnd : okR1 sEnd := ⟨by decide, ⟨by decide, by decide⟩, ⟨by decide, by decide⟩, ⟨by decide, by decide⟩⟩
theorem bytes_sEnd : bytesR sEnd = [3, 0, 0, 0, 1, 0, 0, 0, 0, 0, 0, 0, 0, 0, 0, 0, 7] := by decide
theorem parse_sEnd : parseR [3, 0, 0, 0, 1, 0, 0, 0, 0, 0, 0, 0, 0, 0, 0, 0, 7, 114, 101, 115, 116] = some (sEnd, 17) := by
  have := parseR_ok ok_sEnd [114, 101, 115, 116]
  rw [bytes_sEnd] at this
  exact this
theorem dec_lit : cBytes.dec (.list [[.int .u8 3], [.int .u8 0], [.int .u8 0], [.int .u8 0], [.int .u8 1], [.int .u8 0], [.int .u8 0], [.int .u8 0], [.int .u8 0], [.int .u8 0], [.int .u8 0], [.int .u8 0], [.int .u8 0], [.int .u8 0], [.int .u8 0], [.int .u8 0], [.int .u8 7], [.int .u8 114], [.int .u8 101], [.int .u8 115], [.int .u8 116]]) = some [3, 0, 0, 0, 1, 0, 0, 0, 0, 0, 0, 0, 0, 0, 0, 0, 7, 114, 101, 115, 116] := rfl
theorem parse_nil : parseR [] = none := rfl
theorem dec_drop : cMsgs.dec (.list [[.int .i64 3, .str [], .str [], .str [], .str [], .str [], .str [], .int .i64 0]]) = some [mDrop] := rfl
theorem dec_sEnd : cRec.dec (.agg [.int .i64 3, .int .i64 1, .int .i64 0, .int .u64 0, .int .u64 0, .int .i64 0, .str [], .str [], .str [], .str [], .str [], .str [], .int .i64 0, .int .u64 7]) = some sEnd := rfl
def sA (c : Nat) : Rec := ⟨1, 0, 0, 5, 6, ⟨0, [], [], [], [], [], [], 0⟩, c⟩
def sB (c : Nat) : Rec := ⟨3, 1, 0, 0, 0, ⟨0, [], [], [], [], [], [], 0⟩, c⟩
theorem make56 : ∃ c1 c2 : Nat, makeF 5 6 [] = [sA c1, sB c2] := ⟨_, _, rfl⟩
def s2D (c1 c2 : Nat) : List (List D) := [[.int .i64 1, .int .i64 0, .int .i64 0, .int .u64 5, .int .u64 6, .int .i64 0, .str [], .str [], .str [], .str [], .str [], .str [], .int .i64 0, .int .u64 c1], [.int .i64 3, .int .i64 1, .int .i64 0, .int .u64 0, .int .u64 0, .int .i64 0, .str [], .str [], .str [], .str [], .str [], .str [], .int .i64 0, .int .u64 c2]]
theorem dec_2 (c1 c2 : Nat) : cRecs.dec (.list [[.int .i64 1, .int .i64 0, .int .i64 0, .int .u64 5, .int .u64 6, .int .i64 0, .str [], .str [], .str [], .str [], .str [], .str [], .int .i64 0, .int .u64 c1], [.int .i64 3, .int .i64 1, .int .i64 0, .int .u64 0, .int .u64 0, .int .i64 0, .str [], .str [], .str [], .str [], .str [], .str [], .int .i64 0, .int .u64 c2]]) = some [sA c1, sB c2] := rfl
theorem dec_1 (c1 : Nat) : cRecs.dec (.list [[.int .i64 1, .int .i64 0, .int .i64 0, .int .u64 5, .int .u64 6, .int .i64 0, .str [], .str [], .str [], .str [], .str [], .str [], .int .i64 0, .int .u64 c1]]) = some [sA c1] := rfl
theorem dec_0 : cRecs.dec (.list []) = some [] := rfl
theorem map_2 (c1 c2 : Nat) : List.map Rec.enc [sA c1, sB c2] = [[.int .i64 1, .int .i64 0, .int .i64 0, .int .u64 5, .int .u64 6, .int .i64 0, .str [], .str [], .str [], .str [], .str [], .str [], .int .i64 0, .int .u64 c1], [.int .i64 3, .int .i64 1, .int .i64 0, .int .u64 0, .int .u64 0, .int .i64 0, .str [], .str [], .str [], .str [], .str [], .str [], .int .i64 0, .int .u64 c2]] := rfl
def sEndD : List D := [.int .i64 3, .int .i64 1, .int .i64 0, .int .u64 0, .int .u64 0, .int .i64 0, .str [], .str [], .str [], .str [], .str [], .str [], .int .i64 0, .int .u64 7]
theorem enc_sEnd : sEnd.enc = [.int .i64 3, .int .i64 1, .int .i64 0, .int .u64 0, .int .u64 0, .int .i64 0, .str [], .str [], .str [], .str [], .str [], .str [], .int .i64 0, .int .u64 7] := rfl
theorem enc_zero : zeroRec.enc = [.int .i64 0, .int .i64 0, .int .i64 0, .int .u64 0, .int .u64 0, .int .i64 0, .str [], .str [], .str [], .str [], .str [], .str [], .int .i64 0, .int .u64 0] := rfl
theorem enc_sA (c : Nat) : (sA c).enc = [.int .i64 1, .int .i64 0, .int .i64 0, .int .u64 5, .int .u64 6, .int .i64 0, .str [], .str [], .str [], .str [], .str [], .str [], .int .i64 0, .int .u64 c] := rfl
theorem enc_sB (c : Nat) : (sB c).enc = [.int .i64 3, .int .i64 1, .int .i64 0, .int .u64 0, .int .u64 0, .int .i64 0, .str [], .str [], .str [], .str [], .str [], .str [], .int .i64 0, .int .u64 c] := rfl
theorem bytesD_17 : bytesD [byteCell 3, byteCell 0, byteCell 0, byteCell 0, byteCell 1, byteCell 0, byteCell 0, byteCell 0, byteCell 0, byteCell 0, byteCell 0, byteCell 0, byteCell 0, byteCell 0, byteCell 0, byteCell 0, byteCell 7] = some [3, 0, 0, 0, 1, 0, 0, 0, 0, 0, 0, 0, 0, 0, 0, 0, 7] := bytesD_map [3, 0, 0, 0, 1, 0, 0, 0, 0, 0, 0, 0, 0, 0, 0, 0, 7]
def hTrue18 : Det := det0 True (.d (.bool true))
theorem f_18sanity : FPure Tryz.prog 4 hTrue18.spec := by
  refine FPure.runL [(6, .det hMake), (13, .det hBytesR), (19, .det hParseR), (17, .det hSound), (11, .det hRest), (8, .det hSameR)] (fun i => if i = 10 then [(0, (true, [])), (1, (true, [])), (2, (false, [])), (3, (true, [])), (4, (false, [])), (5, (false, [])), (6, (false, [])), (7, (false, [])), (8, (false, [])), (9, (false, [])), (10, (false, [])), (11, (false, [])), (12, (false, [])), (13, (false, [])), (14, (false, [])), (15, (false, [])), (16, (false, [])), (17, (false, [])), (18, (false, [])), (19, (false, [])), (20, (false, [])), (21, (false, [])), (22, (false, [])), (23, (false, [])), (24, (false, [])), (26, (false, [])), (27, (false, [])), (25, (true, [4, 5, 6, 7, 8, 9, 10, 11, 12, 13, 14, 15, 16, 17, 18, 19, 20, 21, 22, 26, 27])), (28, (true, [4, 5, 6, 7, 8, 9, 10, 11, 12, 13, 14, 15, 16, 17, 18, 19, 20, 21, 22, 26])), (29, (false, [])), (30, (true, []))] else []) (by
    intro p hp
    simp only [List.mem_cons, List.not_mem_nil, or_false] at hp
    rcases hp with rfl | rfl | rfl | rfl | rfl | rfl
    · exact f_streamMake
    · exact f_streamBytes
    · exact f_streamParse
    · exact f_streamSound
    · exact f_streamRest
    · exact f_18Same) F.mixed Tryz.func4 (by kernel_rfl) rfl (by kernel_rfl) 130 Tryz.ntmps4 [.tmp 0] Tryz.results4 ?_
  intro ds K hl hs
  obtain ⟨rfl, -, hK⟩ := det0_elim hs
  have p5 : u64P 5 := ⟨by decide, by decide⟩
  have p6 : u64P 6 := ⟨by decide, by decide⟩
  have p1 : u64P 1 := ⟨by decide, by decide⟩
  have p2 : u64P 2 := ⟨by decide, by decide⟩
  have v0 : ∀ m ∈ ([] : List Msg), validB m = true := fun m h => (nomatch h)
  have v1 : ∀ m ∈ [mDrop], validB m = true := fun m h => by
    simp only [List.mem_singleton] at h
    subst h
    decide
  have r0 := make_range p5 p6 (by decide) v0
  have s0 := make_sound p5 p6 (by decide) v0
  have r1 := rest_make 2 1 2 [mDrop]
  have l1 := make_len 1 2 [mDrop]
  obtain ⟨c1, c2, e⟩ := make56
  rw [e] at r0 s0
  have s1 : soundF [sA c1] = false := rfl
  have s2 : soundF [] = false := rfl
  generalize hT : makeF 1 2 [mDrop] = T at r1 l1
  have t3 : T.take 3 = T := List.take_of_length_le (by rw [l1]; decide)
  have r1' : restF 2 T = List.drop 2 T := r1
  have i1 : ((T.length : Nat) : Int) = 3 := by rw [l1]; rfl
  have i2 : ((2 : Nat) : Int) = 2 := rfl
  have i17 : ((17 : Nat) : Int) = 17 := rfl
  have i22 : ((1 : Nat) : Int) = 1 := rfl
  simp (config := { maxSteps := 4000000 }) only [hMake, hBytesR, hParseR, hSound, hRest, hSameR, parseRA, dec_mNil, dec_drop, dec_lit, dec_sEnd, parse_sEnd, parse_nil, cBytes_nil, e, hT, i1, i2, i17, i22, enc_sA, enc_sB, bytesD_17, decide_true, dec_2, dec_1, dec_0, enc_sEnd, enc_zero, s0, s1, s2, r1', t3, cRecs_dec, bytes_sEnd, eBs, cBs, F.fBs, Nat.reduceSub, Nat.reduceAdd, Nat.reduceLT, Nat.reduceEqDiff, Nat.reduceLeDiff, Nat.reduceMul, Nat.reduceBEq, Int.reduceToNat, Op.operands, if_true, if_false, reduceCtorEq, if_pos, forall_const, implies_true, eq_self, ne_eq]

  have q1 : ∀ x ∈ [sA c1], rangeR x := fun x hx => r0 x (List.mem_of_mem_take (i := 1) hx)
  have q0 : ∀ x ∈ ([] : List Rec), rangeR x := fun x hx => (nomatch hx)
  repeat' (first | exact hK | exact p5 | exact p6 | exact p1 | exact p2 | exact v0 | exact v1 | exact ok_sEnd | exact r0 | exact q1 | exact q0 | (with_reducible apply And.intro) | omega | (intro x hx; rfl) | (intro x hx; simp only [List.mem_cons, List.not_mem_nil, or_false] at hx; rcases hx with rfl | rfl <;> rfl))
end Go.PE
