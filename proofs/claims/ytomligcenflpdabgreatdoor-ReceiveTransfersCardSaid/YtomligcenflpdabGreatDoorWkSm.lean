/- WkSm: what the laws need of it. -/
import Derived.Test.YtomligcenflpdabGreatDoorWkSl
import Derived.Test.YtomligcenflpdabGreatDoorWkSk
import Derived.Test.YtomligcenflpdabGreatDoorWkSi
import Derived.Test.YtomligcenflpdabGreatDoorWkY
set_option linter.unusedVariables false
set_option linter.defProp false
set_option linter.all false
set_option linter.unusedSimpArgs false
set_option maxRecDepth 100000
set_option maxHeartbeats 4000000
namespace Go.PE
open Go Go.Proofs

theorem be_check {n m : Nat} (hn : n < 18446744073709551616) (hm : m < 18446744073709551616) (h : beN n 8 8 = beN m 8 8) : n = m := by
  have := congrArg readN h
  rwa [readN_beN (by simpa using hn), readN_beN (by simpa using hm)] at this
end Go.PE
