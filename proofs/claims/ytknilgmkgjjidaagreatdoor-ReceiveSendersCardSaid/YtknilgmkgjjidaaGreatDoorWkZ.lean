/- WkZ: what the laws need of it. -/
import Derived.Test.YtknilgmkgjjidaaGreatDoorWkW
import Derived.Test.YtknilgmkgjjidaaGreatDoorPeRow
set_option linter.unusedVariables false
set_option linter.defProp false
set_option linter.all false
set_option linter.unusedSimpArgs false
set_option maxRecDepth 100000
set_option maxHeartbeats 4000000
namespace Go.PE
open Go Go.Proofs

def c2 (k : IntKind) : Cod (Int × Int) := cAgg (fun p => [.int k p.1, .int k p.2]) (fun e => match e with
  | [.int k0 a, .int k1 b] => if k0 = k ∧ k1 = k then some (a, b) else none
  | _ => none) (fun p => by simp) (fun e p h => by
    split at h
    · split at h
      · rename_i hk
        injection h with h
        subst h
        obtain ⟨rfl, rfl⟩ := hk
        rfl
      · cases h
    · cases h)
def c3 (k : IntKind) : Cod (Int × Int × Int) := cAgg (fun p => [.int k p.1, .int k p.2.1, .int k p.2.2]) (fun e => match e with
  | [.int k0 a, .int k1 b, .int k2 c] => if k0 = k ∧ k1 = k ∧ k2 = k then some (a, b, c) else none
  | _ => none) (fun p => by simp) (fun e p h => by
    split at h
    · split at h
      · rename_i hk
        injection h with h
        subst h
        obtain ⟨rfl, rfl, rfl⟩ := hk
        rfl
      · cases h
    · cases h)
def c4 (k : IntKind) : Cod (Int × Int × Int × Int) := cAgg (fun p => [.int k p.1, .int k p.2.1, .int k p.2.2.1, .int k p.2.2.2]) (fun e => match e with
  | [.int k0 a, .int k1 b, .int k2 c, .int k3 d] => if k0 = k ∧ k1 = k ∧ k2 = k ∧ k3 = k then some (a, b, c, d) else none
  | _ => none) (fun p => by simp) (fun e p h => by
    split at h
    · split at h
      · rename_i hk
        injection h with h
        subst h
        obtain ⟨rfl, rfl, rfl, rfl⟩ := hk
        rfl
      · cases h
    · cases h)
end Go.PE
