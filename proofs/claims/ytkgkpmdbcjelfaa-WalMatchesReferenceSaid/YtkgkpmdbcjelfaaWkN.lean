/- The common part of the laws on logs (package downspoutlaw24). -/
import Derived.Test.YtkgkpmdbcjelfaaWkM
set_option linter.unusedVariables false
set_option linter.defProp false
set_option linter.all false
set_option linter.unusedSimpArgs false
set_option maxRecDepth 10000
set_option maxHeartbeats 4000000
namespace Go.PE
open Go Go.Proofs

def det0 (p : Prop) (f : AV) : Det := fun ds => match ds with | [] => (p, f) | _ => (False, .undef)
theorem det0_eq (p : Prop) (f : AV) : det0 p f [] = (p, f) := rfl
theorem det0_elim {p : Prop} {f : AV} {ds : List D} {K : Out → Prop} (h : (det0 p f).spec ds K) : ds = [] ∧ p ∧ K (.ret f) := by
  unfold Det.spec det0 at h
  split at h
  · exact ⟨rfl, h⟩
  · exact h.1.elim
def mDel : Msg := ⟨2, [107], [], [], [], [], [], 0⟩
theorem dec_mDel : cMsgs.dec (.list [[.int .i64 2, .str [107], .str [], .str [], .str [], .str [], .str [], .int .i64 0]]) = some [mDel] := rfl
theorem dec_mNil : cMsgs.dec (.list []) = some [] := rfl
theorem dec_mZero : cMsgs.dec (.list [[.int .i64 0, .str [], .str [], .str [], .str [], .str [], .str [], .int .i64 0], [.int .i64 0, .str [], .str [], .str [], .str [], .str [], .str [], .int .i64 0]]) = some [zeroMsg, zeroMsg] := rfl
theorem dec_fr3 (a b c : List UInt8) : cBytess.dec (.list [[.list (a.map byteCell)], [.list (b.map byteCell)], [.list (c.map byteCell)]]) = some [a, b, c] := cBytess.de [a, b, c]
theorem dec_fr0 : cBytess.dec (.list []) = some [] := rfl
theorem bytes_mDel : ([mDel] : List Msg).flatMap bytesM = [2, 0, 1, 107] := by decide
theorem frame_mDel {g s : Int} (hg : n31B g = true) (hs : n31B s = true) : frameF g s [mDel] = (headF g.toNat s.toNat [2, 0, 1, 107] ++ beN (fnv (headF g.toNat s.toNat [2, 0, 1, 107])) 8 8, 0) := by
  have h : (n31B g && (n31B s && groupB [mDel])) = true := by
    rw [hg, hs]
    decide
  unfold frameF
  rw [if_pos h, bytes_mDel, if_pos (by decide)]
theorem walP_ok {g s : Int} {l : List Msg} (h : (frameF g s l).2 = 0) : walP (frameF g s l).1 = ⟨g, s, l, 0⟩ := by
  have h1 := frame_ok h
  have h2 : 0 ≤ g ∧ 0 ≤ s := by
    unfold frameF at h
    split at h
    · rename_i hc
      simp only [Bool.and_eq_true, n31_iff] at hc
      omega
    · cases h
  unfold walP
  rw [h1]
  simp only [Parsed.mk.injEq, and_true]
  omega
theorem san1 {g s : Int} (hg : n31B g = true) (hs : n31B s = true) : (frameF g s [mDel]).2 = 0 := by rw [frame_mDel hg hs]
theorem san2 {g s : Int} (hg : n31B g = true) (hs : n31B s = true) : walP (frameF g s [mDel]).1 = ⟨g, s, [mDel], 0⟩ := walP_ok (san1 hg hs)
theorem san3 : (frameF (-1) 0 [mDel]).2 = 1 := by decide
theorem san4 : (frameF 0 0 []).2 = 1 := by decide
theorem san5 : (frameF 0 0 [zeroMsg, zeroMsg]).2 = 1 := by decide
theorem san6 : (walP []).e = 240 := by decide
theorem san7 : ((frameF 1 2 [mDel]).1.length : Int) = 25 := by
  rw [frame_mDel rfl rfl, List.length_append, beN_len, headF_len]
  rfl
theorem san8 : List.take 9 (frameF 1 2 [mDel]).1 = [70, 0, 0, 0, 1, 0, 0, 0, 2] := by
  rw [frame_mDel rfl rfl, List.take_append_of_le_length (by rw [headF_len]; decide)]
  decide
theorem san8b : bytesD [byteCell 70, byteCell 0, byteCell 0, byteCell 0, byteCell 1, byteCell 0, byteCell 0, byteCell 0, byteCell 2] = some [70, 0, 0, 0, 1, 0, 0, 0, 2] := bytesD_map [70, 0, 0, 0, 1, 0, 0, 0, 2]
theorem dec_mDel2 : cMsgs.dec (.list [mDel.enc]) = some [mDel] := rfl
theorem san9 : replayF 3 [(frameF 3 0 [mDel]).1, (frameF 3 2 [mDel]).1, (frameF 3 2 [mDel]).1] = [[mDel]] := by
  unfold replayF replayI
  rw [san2 rfl rfl, if_pos (by decide)]
  unfold replayI
  rw [san2 rfl rfl, if_neg (by decide)]
theorem san10 : replayF 3 [] = [] := rfl
theorem san11 : replayF 0 [] = [] := rfl
def hTrue : Det := det0 True (.d (.bool true))
theorem f_24sanity : FPure Try.prog 17 hTrue.spec := by
  refine FPure.runL [(20, .det hFrame), (39, .det hWParse), (29, .det hSame), (26, .det hReplay)] (fun _ => []) (by
    intro p hp
    simp only [List.mem_cons, List.not_mem_nil, or_false] at hp
    rcases hp with rfl | rfl | rfl | rfl
    · exact f_walFrame
    · exact f_walParse
    · exact f_Same
    · exact f_walReplay) F.mixed Try.func17 (by kernel_rfl) rfl (by kernel_rfl) 128 Try.ntmps17 [.tmp 0] Try.results17 ?_
  intro ds K hl hs
  obtain ⟨rfl, -, hK⟩ := det0_elim hs
  simp (config := { maxSteps := 4000000 }) only [hFrame, hWParse, hSame, hReplay, walA_eq, frameA, dec_mDel, dec_mNil, dec_mZero, dec_fr3, dec_fr0, san1 (g := 1) (s := 2) rfl rfl, san2 (g := 1) (s := 2) rfl rfl, san3, san4, san5, san6, san7, san8, san8b, dec_mDel2, show ((21 : Int) < 25) = True from eq_true (by decide), show ((9 : Int) ≤ 25) = True from eq_true (by decide), decide_true, san9, san10, san11, eBs, cBs, F.fBs, Nat.reduceSub, Nat.reduceAdd, Nat.reduceLT, Nat.reduceEqDiff, Nat.reduceLeDiff, Nat.reduceMul, Nat.reduceBEq, Int.reduceToNat, Op.operands, if_true, if_false, reduceCtorEq, if_pos, forall_const, implies_true, eq_self, ne_eq]
  refine ⟨⟨by decide, by decide, by decide⟩, ⟨by decide, by decide⟩, fun _ => hK, fun h => absurd rfl h⟩
end Go.PE
