/- WkL: what the laws need of it. -/
import Derived.Test.YtknilgmkgjjidaaGreatDoorWkK
import Derived.Test.YtknilgmkgjjidaaGreatDoorWkA
set_option linter.unusedVariables false
set_option linter.defProp false
set_option linter.all false
set_option linter.unusedSimpArgs false
set_option maxRecDepth 100000
set_option maxHeartbeats 4000000
namespace Go.PE
open Go Go.Proofs

/-- What Parse gives. -/
structure Parsed where
  gen : Int
  seq : Int
  l : List Msg
  e : Int
  deriving DecidableEq
def Parsed.enc (p : Parsed) : List D := [.int .i64 p.gen, .int .i64 p.seq, .list (p.l.map Msg.enc), .int .i64 p.e]
def Parsed.dec : List D → Option Parsed
  | [.int .i64 g, .int .i64 s, .list es, .int .i64 e] => match decL Msg.dec es with
    | some l => some ⟨g, s, l, e⟩
    | none => none
  | _ => none
theorem Parsed.dec_ed (e : List D) (p : Parsed) (h : Parsed.dec e = some p) : e = p.enc := by
  unfold Parsed.dec at h
  split at h
  · split at h
    · rename_i l hl
      injection h with h
      subst h
      rw [decL_inv Msg.dec_ed hl]
      rfl
    · cases h
  · cases h
theorem Parsed.eta (p : Parsed) : (⟨p.gen, p.seq, p.l, p.e⟩ : Parsed) = p := rfl
theorem Parsed.eqB (a b : Parsed) : (decide (a.gen = b.gen) && (decide (a.seq = b.seq) && (decide (a.l = b.l) && decide (a.e = b.e)))) = decide (a = b) := by
  cases a; cases b
  simp only [Parsed.mk.injEq]
  simp [Bool.decide_and]
end Go.PE
