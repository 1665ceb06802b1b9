/- Law 24: WalCuts. -/
import Derived.Test.YtkgkpmdbcjelfaaGreatWkU
set_option linter.unusedVariables false
set_option linter.defProp false
set_option linter.all false
set_option linter.unusedSimpArgs false
set_option maxRecDepth 10000
set_option maxHeartbeats 4000000
namespace Go.PE
open Go Go.Proofs

def cPair16 : Cod (Int × Int) := cAgg (fun p => [.int .u16 p.1, .int .u16 p.2]) (fun e => match e with
  | [.int .u16 a, .int .u16 b] => some (a, b)
  | _ => none) (fun _ => rfl) (fun e p h => by
    split at h
    · injection h with h
      subst h
      rfl
    · cases h)
theorem cPair16_enc (p : Int × Int) : cPair16.enc p = .agg [.int .u16 p.1, .int .u16 p.2] := rfl
def pairP (p : Int × Int) : Prop := (0 ≤ p.1 ∧ p.1 ≤ 65535) ∧ (0 ≤ p.2 ∧ p.2 ≤ 65535)
theorem cRaws_dec (l : List Raw6) : cRaws.dec (.list (l.map Raw6.enc)) = some l := cRaws.de l
def hCuts : Det := det3 cRaws cPair16 cBytes (fun l p m => (∀ x ∈ l, x.ok) ∧ pairP p) fun _ _ _ => .d (.bool true)
end Go.PE
