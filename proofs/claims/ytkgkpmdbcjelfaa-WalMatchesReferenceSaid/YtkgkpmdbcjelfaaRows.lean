/-
  No cell of these rows narrows 'for every input' (looked for: loops, veiled, ifaces, maps, wideKeys, modest, calm, conditions, laid).
  DERIVED. THE GIVEN ROWS OF THIS SEAT. 14 by the template 'for every input the law returns true; each argument reads behind the call as it read before'; 0 by the template 'total and deterministic' (their statements: YtkgkpmdbcjelfaaTotals.lean).
  GIVEN WITH THE SEED: the statements are not yours to turn. If you find one false, say at which input.
  Laid BY PROGRAM, IN A SANDBOX (cutbox-rows.mjs): the forced cells as the released guide's own fill.sh prints them over the translation 390c2b7bf7d1043b… (all of the seat's roots in one cut). By AI agents, Wed Nov 11 2026. No macro, syntax, notation, axiom, sorry.
-/
import Derived.Test.YtkgkpmdbcjelfaaChecked
import GoSem.Claim
import GoSem.ClaimJoined
import GoSem.ClaimMapViews
import Derived.JoinedTies
import Derived.KernelRfl
namespace Go.Proofs.Ytkgkpmdbcjelfaa
/- THE CELL 'sum', in the pinned program and in every row, IS THE sha256 OF THE DUMP (.gsa) THAT YtkgkpmdbcjelfaaProg.lean LOADS. Nothing in Lean hashes anything: it is a label: what it is worth is what the hold of that sum in a sandbox is worth. -/
noncomputable def Try.pinned : Pinned := { name := "ytkgkpmdbcjelfaa", sum := "390c2b7bf7d1043bdca403c9a307d8924434cbc5415a3771a53dff9abcee8ea0", checked := Try.checked }
namespace Rows
def none {H : Type} : Left H := { results := [], args := [] }

/-- 'downspoutlaw24.WalMatchesReference': WHATEVER THE INPUT: true; the input reads as it did. -/
def walMatchesReferenceSpec : ChangeSpec := { name := "walMatchesReference", fn := fun _ => fun
  | [d1, d2, d3] => { results := [.lit (.bool true)], args := [d1, d2, d3] }
  | _ => none }
def walMatchesReferenceRow : OpenClaim := { program := "ytkgkpmdbcjelfaa", sum := "390c2b7bf7d1043bdca403c9a307d8924434cbc5415a3771a53dff9abcee8ea0", func := "downspout/downspoutlaw24.WalMatchesReference", spec := "walMatchesReference", unfollowed := true, recurses := true, apart := false }
def WalMatchesReferenceSaid : Prop := walMatchesReferenceRow.holds Try.pinned (OpenSpec.ofChange walMatchesReferenceSpec)

/-- ITS FALSE NEIGHBOUR: 'it returns false'. Refute it at one input. -/
def walMatchesReferenceWrong : ChangeSpec := { name := "walMatchesReference", fn := fun _ => fun
  | [d1, d2, d3] => { results := [.lit (.bool false)], args := [d1, d2, d3] }
  | _ => none }
def WalMatchesReferenceWrongFalsely : Prop := walMatchesReferenceRow.holds Try.pinned (OpenSpec.ofChange walMatchesReferenceWrong)

/-- 'downspoutlaw24.WalFrames': WHATEVER THE INPUT: true; the input reads as it did. -/
def walFramesSpec : ChangeSpec := { name := "walFrames", fn := fun _ => fun
  | [d1, d2, d3] => { results := [.lit (.bool true)], args := [d1, d2, d3] }
  | _ => none }
def walFramesRow : OpenClaim := { program := "ytkgkpmdbcjelfaa", sum := "390c2b7bf7d1043bdca403c9a307d8924434cbc5415a3771a53dff9abcee8ea0", func := "downspout/downspoutlaw24.WalFrames", spec := "walFrames", unfollowed := true, recurses := true, apart := false }
def WalFramesSaid : Prop := walFramesRow.holds Try.pinned (OpenSpec.ofChange walFramesSpec)

/-- ITS FALSE NEIGHBOUR: 'it returns false'. Refute it at one input. -/
def walFramesWrong : ChangeSpec := { name := "walFrames", fn := fun _ => fun
  | [d1, d2, d3] => { results := [.lit (.bool false)], args := [d1, d2, d3] }
  | _ => none }
def WalFramesWrongFalsely : Prop := walFramesRow.holds Try.pinned (OpenSpec.ofChange walFramesWrong)

/-- 'downspoutlaw24.WalDamage': WHATEVER THE INPUT: true; the input reads as it did. -/
def walDamageSpec : ChangeSpec := { name := "walDamage", fn := fun _ => fun
  | [d1, d2, d3] => { results := [.lit (.bool true)], args := [d1, d2, d3] }
  | _ => none }
def walDamageRow : OpenClaim := { program := "ytkgkpmdbcjelfaa", sum := "390c2b7bf7d1043bdca403c9a307d8924434cbc5415a3771a53dff9abcee8ea0", func := "downspout/downspoutlaw24.WalDamage", spec := "walDamage", unfollowed := true, recurses := true, apart := false }
def WalDamageSaid : Prop := walDamageRow.holds Try.pinned (OpenSpec.ofChange walDamageSpec)

/-- ITS FALSE NEIGHBOUR: 'it returns false'. Refute it at one input. -/
def walDamageWrong : ChangeSpec := { name := "walDamage", fn := fun _ => fun
  | [d1, d2, d3] => { results := [.lit (.bool false)], args := [d1, d2, d3] }
  | _ => none }
def WalDamageWrongFalsely : Prop := walDamageRow.holds Try.pinned (OpenSpec.ofChange walDamageWrong)

/-- 'downspoutlaw24.WalCuts': WHATEVER THE INPUT: true; the input reads as it did. -/
def walCutsSpec : ChangeSpec := { name := "walCuts", fn := fun _ => fun
  | [d1, d2, d3] => { results := [.lit (.bool true)], args := [d1, d2, d3] }
  | _ => none }
def walCutsRow : OpenClaim := { program := "ytkgkpmdbcjelfaa", sum := "390c2b7bf7d1043bdca403c9a307d8924434cbc5415a3771a53dff9abcee8ea0", func := "downspout/downspoutlaw24.WalCuts", spec := "walCuts", unfollowed := true, recurses := true, apart := false }
def WalCutsSaid : Prop := walCutsRow.holds Try.pinned (OpenSpec.ofChange walCutsSpec)

/-- ITS FALSE NEIGHBOUR: 'it returns false'. Refute it at one input. -/
def walCutsWrong : ChangeSpec := { name := "walCuts", fn := fun _ => fun
  | [d1, d2, d3] => { results := [.lit (.bool false)], args := [d1, d2, d3] }
  | _ => none }
def WalCutsWrongFalsely : Prop := walCutsRow.holds Try.pinned (OpenSpec.ofChange walCutsWrong)

/-- 'downspoutlaw24.WalReplays': WHATEVER THE INPUT: true; the input reads as it did. -/
def walReplaysSpec : ChangeSpec := { name := "walReplays", fn := fun _ => fun
  | [d1, d2] => { results := [.lit (.bool true)], args := [d1, d2] }
  | _ => none }
def walReplaysRow : OpenClaim := { program := "ytkgkpmdbcjelfaa", sum := "390c2b7bf7d1043bdca403c9a307d8924434cbc5415a3771a53dff9abcee8ea0", func := "downspout/downspoutlaw24.WalReplays", spec := "walReplays", unfollowed := true, recurses := true, apart := false }
def WalReplaysSaid : Prop := walReplaysRow.holds Try.pinned (OpenSpec.ofChange walReplaysSpec)

/-- ITS FALSE NEIGHBOUR: 'it returns false'. Refute it at one input. -/
def walReplaysWrong : ChangeSpec := { name := "walReplays", fn := fun _ => fun
  | [d1, d2] => { results := [.lit (.bool false)], args := [d1, d2] }
  | _ => none }
def WalReplaysWrongFalsely : Prop := walReplaysRow.holds Try.pinned (OpenSpec.ofChange walReplaysWrong)

/-- 'downspoutlaw24.WalGenerations': WHATEVER THE INPUT: true; the input reads as it did. -/
def walGenerationsSpec : ChangeSpec := { name := "walGenerations", fn := fun _ => fun
  | [d1, d2, d3] => { results := [.lit (.bool true)], args := [d1, d2, d3] }
  | _ => none }
def walGenerationsRow : OpenClaim := { program := "ytkgkpmdbcjelfaa", sum := "390c2b7bf7d1043bdca403c9a307d8924434cbc5415a3771a53dff9abcee8ea0", func := "downspout/downspoutlaw24.WalGenerations", spec := "walGenerations", unfollowed := true, recurses := true, apart := false }
def WalGenerationsSaid : Prop := walGenerationsRow.holds Try.pinned (OpenSpec.ofChange walGenerationsSpec)

/-- ITS FALSE NEIGHBOUR: 'it returns false'. Refute it at one input. -/
def walGenerationsWrong : ChangeSpec := { name := "walGenerations", fn := fun _ => fun
  | [d1, d2, d3] => { results := [.lit (.bool false)], args := [d1, d2, d3] }
  | _ => none }
def WalGenerationsWrongFalsely : Prop := walGenerationsRow.holds Try.pinned (OpenSpec.ofChange walGenerationsWrong)

/-- 'downspoutlaw24.WalLimits': WHATEVER THE INPUT: true; the input reads as it did. -/
def walLimitsSpec : ChangeSpec := { name := "walLimits", fn := fun _ => fun
  | [d1, d2, d3] => { results := [.lit (.bool true)], args := [d1, d2, d3] }
  | _ => none }
def walLimitsRow : OpenClaim := { program := "ytkgkpmdbcjelfaa", sum := "390c2b7bf7d1043bdca403c9a307d8924434cbc5415a3771a53dff9abcee8ea0", func := "downspout/downspoutlaw24.WalLimits", spec := "walLimits", unfollowed := true, recurses := true, apart := false }
def WalLimitsSaid : Prop := walLimitsRow.holds Try.pinned (OpenSpec.ofChange walLimitsSpec)

/-- ITS FALSE NEIGHBOUR: 'it returns false'. Refute it at one input. -/
def walLimitsWrong : ChangeSpec := { name := "walLimits", fn := fun _ => fun
  | [d1, d2, d3] => { results := [.lit (.bool false)], args := [d1, d2, d3] }
  | _ => none }
def WalLimitsWrongFalsely : Prop := walLimitsRow.holds Try.pinned (OpenSpec.ofChange walLimitsWrong)

/-- 'downspoutlaw18.StreamMakes': WHATEVER THE INPUT: true; the input reads as it did. -/
def streamMakesSpec : ChangeSpec := { name := "streamMakes", fn := fun _ => fun
  | [d1, d2] => { results := [.lit (.bool true)], args := [d1, d2] }
  | _ => none }
def streamMakesRow : OpenClaim := { program := "ytkgkpmdbcjelfaa", sum := "390c2b7bf7d1043bdca403c9a307d8924434cbc5415a3771a53dff9abcee8ea0", func := "downspout/downspoutlaw18.StreamMakes", spec := "streamMakes", unfollowed := true, recurses := true, apart := false }
def StreamMakesSaid : Prop := streamMakesRow.holds Try.pinned (OpenSpec.ofChange streamMakesSpec)

/-- ITS FALSE NEIGHBOUR: 'it returns false'. Refute it at one input. -/
def streamMakesWrong : ChangeSpec := { name := "streamMakes", fn := fun _ => fun
  | [d1, d2] => { results := [.lit (.bool false)], args := [d1, d2] }
  | _ => none }
def StreamMakesWrongFalsely : Prop := streamMakesRow.holds Try.pinned (OpenSpec.ofChange streamMakesWrong)

/-- 'downspoutlaw18.StreamBytes': WHATEVER THE INPUT: true; the input reads as it did. -/
def streamBytesSpec : ChangeSpec := { name := "streamBytes", fn := fun _ => fun
  | [d1, d2] => { results := [.lit (.bool true)], args := [d1, d2] }
  | _ => none }
def streamBytesRow : OpenClaim := { program := "ytkgkpmdbcjelfaa", sum := "390c2b7bf7d1043bdca403c9a307d8924434cbc5415a3771a53dff9abcee8ea0", func := "downspout/downspoutlaw18.StreamBytes", spec := "streamBytes", unfollowed := true, recurses := true, apart := false }
def StreamBytesSaid : Prop := streamBytesRow.holds Try.pinned (OpenSpec.ofChange streamBytesSpec)

/-- ITS FALSE NEIGHBOUR: 'it returns false'. Refute it at one input. -/
def streamBytesWrong : ChangeSpec := { name := "streamBytes", fn := fun _ => fun
  | [d1, d2] => { results := [.lit (.bool false)], args := [d1, d2] }
  | _ => none }
def StreamBytesWrongFalsely : Prop := streamBytesRow.holds Try.pinned (OpenSpec.ofChange streamBytesWrong)

/-- 'downspoutlaw18.StreamParses': WHATEVER THE INPUT: true; the input reads as it did. -/
def streamParsesSpec : ChangeSpec := { name := "streamParses", fn := fun _ => fun
  | [d1, d2] => { results := [.lit (.bool true)], args := [d1, d2] }
  | _ => none }
def streamParsesRow : OpenClaim := { program := "ytkgkpmdbcjelfaa", sum := "390c2b7bf7d1043bdca403c9a307d8924434cbc5415a3771a53dff9abcee8ea0", func := "downspout/downspoutlaw18.StreamParses", spec := "streamParses", unfollowed := true, recurses := true, apart := false }
def StreamParsesSaid : Prop := streamParsesRow.holds Try.pinned (OpenSpec.ofChange streamParsesSpec)

/-- ITS FALSE NEIGHBOUR: 'it returns false'. Refute it at one input. -/
def streamParsesWrong : ChangeSpec := { name := "streamParses", fn := fun _ => fun
  | [d1, d2] => { results := [.lit (.bool false)], args := [d1, d2] }
  | _ => none }
def StreamParsesWrongFalsely : Prop := streamParsesRow.holds Try.pinned (OpenSpec.ofChange streamParsesWrong)

/-- 'downspoutlaw18.StreamChecks': WHATEVER THE INPUT: true; the input reads as it did. -/
def streamChecksSpec : ChangeSpec := { name := "streamChecks", fn := fun _ => fun
  | [d1, d2, d3] => { results := [.lit (.bool true)], args := [d1, d2, d3] }
  | _ => none }
def streamChecksRow : OpenClaim := { program := "ytkgkpmdbcjelfaa", sum := "390c2b7bf7d1043bdca403c9a307d8924434cbc5415a3771a53dff9abcee8ea0", func := "downspout/downspoutlaw18.StreamChecks", spec := "streamChecks", unfollowed := true, recurses := true, apart := false }
def StreamChecksSaid : Prop := streamChecksRow.holds Try.pinned (OpenSpec.ofChange streamChecksSpec)

/-- ITS FALSE NEIGHBOUR: 'it returns false'. Refute it at one input. -/
def streamChecksWrong : ChangeSpec := { name := "streamChecks", fn := fun _ => fun
  | [d1, d2, d3] => { results := [.lit (.bool false)], args := [d1, d2, d3] }
  | _ => none }
def StreamChecksWrongFalsely : Prop := streamChecksRow.holds Try.pinned (OpenSpec.ofChange streamChecksWrong)

/-- 'downspoutlaw18.StreamDamage': WHATEVER THE INPUT: true; the input reads as it did. -/
def streamDamageSpec : ChangeSpec := { name := "streamDamage", fn := fun _ => fun
  | [d1, d2, d3] => { results := [.lit (.bool true)], args := [d1, d2, d3] }
  | _ => none }
def streamDamageRow : OpenClaim := { program := "ytkgkpmdbcjelfaa", sum := "390c2b7bf7d1043bdca403c9a307d8924434cbc5415a3771a53dff9abcee8ea0", func := "downspout/downspoutlaw18.StreamDamage", spec := "streamDamage", unfollowed := true, recurses := true, apart := false }
def StreamDamageSaid : Prop := streamDamageRow.holds Try.pinned (OpenSpec.ofChange streamDamageSpec)

/-- ITS FALSE NEIGHBOUR: 'it returns false'. Refute it at one input. -/
def streamDamageWrong : ChangeSpec := { name := "streamDamage", fn := fun _ => fun
  | [d1, d2, d3] => { results := [.lit (.bool false)], args := [d1, d2, d3] }
  | _ => none }
def StreamDamageWrongFalsely : Prop := streamDamageRow.holds Try.pinned (OpenSpec.ofChange streamDamageWrong)

/-- 'downspoutlaw18.StreamRests': WHATEVER THE INPUT: true; the input reads as it did. -/
def streamRestsSpec : ChangeSpec := { name := "streamRests", fn := fun _ => fun
  | [d1, d2] => { results := [.lit (.bool true)], args := [d1, d2] }
  | _ => none }
def streamRestsRow : OpenClaim := { program := "ytkgkpmdbcjelfaa", sum := "390c2b7bf7d1043bdca403c9a307d8924434cbc5415a3771a53dff9abcee8ea0", func := "downspout/downspoutlaw18.StreamRests", spec := "streamRests", unfollowed := true, recurses := true, apart := false }
def StreamRestsSaid : Prop := streamRestsRow.holds Try.pinned (OpenSpec.ofChange streamRestsSpec)

/-- ITS FALSE NEIGHBOUR: 'it returns false'. Refute it at one input. -/
def streamRestsWrong : ChangeSpec := { name := "streamRests", fn := fun _ => fun
  | [d1, d2] => { results := [.lit (.bool false)], args := [d1, d2] }
  | _ => none }
def StreamRestsWrongFalsely : Prop := streamRestsRow.holds Try.pinned (OpenSpec.ofChange streamRestsWrong)

/-- 'downspoutlaw18.StreamOrders': WHATEVER THE INPUT: true; the input reads as it did. -/
def streamOrdersSpec : ChangeSpec := { name := "streamOrders", fn := fun _ => fun
  | [d1, d2] => { results := [.lit (.bool true)], args := [d1, d2] }
  | _ => none }
def streamOrdersRow : OpenClaim := { program := "ytkgkpmdbcjelfaa", sum := "390c2b7bf7d1043bdca403c9a307d8924434cbc5415a3771a53dff9abcee8ea0", func := "downspout/downspoutlaw18.StreamOrders", spec := "streamOrders", unfollowed := true, recurses := true, apart := false }
def StreamOrdersSaid : Prop := streamOrdersRow.holds Try.pinned (OpenSpec.ofChange streamOrdersSpec)

/-- ITS FALSE NEIGHBOUR: 'it returns false'. Refute it at one input. -/
def streamOrdersWrong : ChangeSpec := { name := "streamOrders", fn := fun _ => fun
  | [d1, d2] => { results := [.lit (.bool false)], args := [d1, d2] }
  | _ => none }
def StreamOrdersWrongFalsely : Prop := streamOrdersRow.holds Try.pinned (OpenSpec.ofChange streamOrdersWrong)

/- THE SECOND FORM. 'bulk': how many values and letters a reading holds, each counted each time it is reached (what is shared counts as often as it is met; a slice's spare places count too). A statement '..UptoSaid' is the law's where the arguments, and the package variables that the reading takes, are together of bulk at most 1048576: NARROWER than '..Said'. Prove '..Said' where nothing that the law and all that it calls make is longer than what came in: it says more and counts as full. Else prove '..UptoSaid'. A law counts once. -/
mutual
def uptoBulk {H : Type} : DataW H → Nat
  | .lit (.string bytes) => bytes.length + 1
  | .lit _ => 1
  | .nil => 1
  | .ptr d => uptoBulk d + 1
  | .slice elems spare => uptoBulkAll elems + uptoBulkAll spare + 1
  | .agg parts => uptoBulkAll parts + 1
  | .iface _ d => uptoBulk d + 1
  | .map entries => uptoBulkEntries entries + 1
  | .held _ => 1
def uptoBulkAll {H : Type} : List (DataW H) → Nat
  | [] => 0
  | d :: r => uptoBulk d + uptoBulkAll r
def uptoBulkEntries {H : Type} : List (Lit × DataW H) → Nat
  | [] => 0
  | x :: r => uptoBulkEntry x + uptoBulkEntries r
def uptoBulkEntry {H : Type} : Lit × DataW H → Nat
  | (.string bytes, d) => bytes.length + uptoBulk d + 1
  | (_, d) => uptoBulk d + 1
 end
def uptoSmall : (H : Type) → List (DataW H) → Bool := fun _ ds => decide (uptoBulkAll ds ≤ 1048576)
def OpenSpec.upto (s : _root_.Go.ChangeSpec) : _root_.Go.OpenSpec := { _root_.Go.OpenSpec.ofChange s with cond := some uptoSmall }

/-- 'downspoutlaw24.WalMatchesReference', WHERE WHAT IT READS IS OF BULK AT MOST 1048576: true; the input reads as it did. -/
def walMatchesReferenceUptoRow : OpenClaim := { program := "ytkgkpmdbcjelfaa", sum := "390c2b7bf7d1043bdca403c9a307d8924434cbc5415a3771a53dff9abcee8ea0", func := "downspout/downspoutlaw24.WalMatchesReference", spec := "walMatchesReference", unfollowed := true, recurses := true, apart := false, narrowed := true }
def WalMatchesReferenceUptoSaid : Prop := walMatchesReferenceUptoRow.holds Try.pinned (OpenSpec.upto walMatchesReferenceSpec)

/-- 'downspoutlaw24.WalFrames', WHERE WHAT IT READS IS OF BULK AT MOST 1048576: true; the input reads as it did. -/
def walFramesUptoRow : OpenClaim := { program := "ytkgkpmdbcjelfaa", sum := "390c2b7bf7d1043bdca403c9a307d8924434cbc5415a3771a53dff9abcee8ea0", func := "downspout/downspoutlaw24.WalFrames", spec := "walFrames", unfollowed := true, recurses := true, apart := false, narrowed := true }
def WalFramesUptoSaid : Prop := walFramesUptoRow.holds Try.pinned (OpenSpec.upto walFramesSpec)

/-- 'downspoutlaw24.WalDamage', WHERE WHAT IT READS IS OF BULK AT MOST 1048576: true; the input reads as it did. -/
def walDamageUptoRow : OpenClaim := { program := "ytkgkpmdbcjelfaa", sum := "390c2b7bf7d1043bdca403c9a307d8924434cbc5415a3771a53dff9abcee8ea0", func := "downspout/downspoutlaw24.WalDamage", spec := "walDamage", unfollowed := true, recurses := true, apart := false, narrowed := true }
def WalDamageUptoSaid : Prop := walDamageUptoRow.holds Try.pinned (OpenSpec.upto walDamageSpec)

/-- 'downspoutlaw24.WalCuts', WHERE WHAT IT READS IS OF BULK AT MOST 1048576: true; the input reads as it did. -/
def walCutsUptoRow : OpenClaim := { program := "ytkgkpmdbcjelfaa", sum := "390c2b7bf7d1043bdca403c9a307d8924434cbc5415a3771a53dff9abcee8ea0", func := "downspout/downspoutlaw24.WalCuts", spec := "walCuts", unfollowed := true, recurses := true, apart := false, narrowed := true }
def WalCutsUptoSaid : Prop := walCutsUptoRow.holds Try.pinned (OpenSpec.upto walCutsSpec)

/-- 'downspoutlaw24.WalReplays', WHERE WHAT IT READS IS OF BULK AT MOST 1048576: true; the input reads as it did. -/
def walReplaysUptoRow : OpenClaim := { program := "ytkgkpmdbcjelfaa", sum := "390c2b7bf7d1043bdca403c9a307d8924434cbc5415a3771a53dff9abcee8ea0", func := "downspout/downspoutlaw24.WalReplays", spec := "walReplays", unfollowed := true, recurses := true, apart := false, narrowed := true }
def WalReplaysUptoSaid : Prop := walReplaysUptoRow.holds Try.pinned (OpenSpec.upto walReplaysSpec)

/-- 'downspoutlaw24.WalGenerations', WHERE WHAT IT READS IS OF BULK AT MOST 1048576: true; the input reads as it did. -/
def walGenerationsUptoRow : OpenClaim := { program := "ytkgkpmdbcjelfaa", sum := "390c2b7bf7d1043bdca403c9a307d8924434cbc5415a3771a53dff9abcee8ea0", func := "downspout/downspoutlaw24.WalGenerations", spec := "walGenerations", unfollowed := true, recurses := true, apart := false, narrowed := true }
def WalGenerationsUptoSaid : Prop := walGenerationsUptoRow.holds Try.pinned (OpenSpec.upto walGenerationsSpec)

/-- 'downspoutlaw24.WalLimits', WHERE WHAT IT READS IS OF BULK AT MOST 1048576: true; the input reads as it did. -/
def walLimitsUptoRow : OpenClaim := { program := "ytkgkpmdbcjelfaa", sum := "390c2b7bf7d1043bdca403c9a307d8924434cbc5415a3771a53dff9abcee8ea0", func := "downspout/downspoutlaw24.WalLimits", spec := "walLimits", unfollowed := true, recurses := true, apart := false, narrowed := true }
def WalLimitsUptoSaid : Prop := walLimitsUptoRow.holds Try.pinned (OpenSpec.upto walLimitsSpec)

/-- 'downspoutlaw18.StreamMakes', WHERE WHAT IT READS IS OF BULK AT MOST 1048576: true; the input reads as it did. -/
def streamMakesUptoRow : OpenClaim := { program := "ytkgkpmdbcjelfaa", sum := "390c2b7bf7d1043bdca403c9a307d8924434cbc5415a3771a53dff9abcee8ea0", func := "downspout/downspoutlaw18.StreamMakes", spec := "streamMakes", unfollowed := true, recurses := true, apart := false, narrowed := true }
def StreamMakesUptoSaid : Prop := streamMakesUptoRow.holds Try.pinned (OpenSpec.upto streamMakesSpec)

/-- 'downspoutlaw18.StreamBytes', WHERE WHAT IT READS IS OF BULK AT MOST 1048576: true; the input reads as it did. -/
def streamBytesUptoRow : OpenClaim := { program := "ytkgkpmdbcjelfaa", sum := "390c2b7bf7d1043bdca403c9a307d8924434cbc5415a3771a53dff9abcee8ea0", func := "downspout/downspoutlaw18.StreamBytes", spec := "streamBytes", unfollowed := true, recurses := true, apart := false, narrowed := true }
def StreamBytesUptoSaid : Prop := streamBytesUptoRow.holds Try.pinned (OpenSpec.upto streamBytesSpec)

/-- 'downspoutlaw18.StreamParses', WHERE WHAT IT READS IS OF BULK AT MOST 1048576: true; the input reads as it did. -/
def streamParsesUptoRow : OpenClaim := { program := "ytkgkpmdbcjelfaa", sum := "390c2b7bf7d1043bdca403c9a307d8924434cbc5415a3771a53dff9abcee8ea0", func := "downspout/downspoutlaw18.StreamParses", spec := "streamParses", unfollowed := true, recurses := true, apart := false, narrowed := true }
def StreamParsesUptoSaid : Prop := streamParsesUptoRow.holds Try.pinned (OpenSpec.upto streamParsesSpec)

/-- 'downspoutlaw18.StreamChecks', WHERE WHAT IT READS IS OF BULK AT MOST 1048576: true; the input reads as it did. -/
def streamChecksUptoRow : OpenClaim := { program := "ytkgkpmdbcjelfaa", sum := "390c2b7bf7d1043bdca403c9a307d8924434cbc5415a3771a53dff9abcee8ea0", func := "downspout/downspoutlaw18.StreamChecks", spec := "streamChecks", unfollowed := true, recurses := true, apart := false, narrowed := true }
def StreamChecksUptoSaid : Prop := streamChecksUptoRow.holds Try.pinned (OpenSpec.upto streamChecksSpec)

/-- 'downspoutlaw18.StreamDamage', WHERE WHAT IT READS IS OF BULK AT MOST 1048576: true; the input reads as it did. -/
def streamDamageUptoRow : OpenClaim := { program := "ytkgkpmdbcjelfaa", sum := "390c2b7bf7d1043bdca403c9a307d8924434cbc5415a3771a53dff9abcee8ea0", func := "downspout/downspoutlaw18.StreamDamage", spec := "streamDamage", unfollowed := true, recurses := true, apart := false, narrowed := true }
def StreamDamageUptoSaid : Prop := streamDamageUptoRow.holds Try.pinned (OpenSpec.upto streamDamageSpec)

/-- 'downspoutlaw18.StreamRests', WHERE WHAT IT READS IS OF BULK AT MOST 1048576: true; the input reads as it did. -/
def streamRestsUptoRow : OpenClaim := { program := "ytkgkpmdbcjelfaa", sum := "390c2b7bf7d1043bdca403c9a307d8924434cbc5415a3771a53dff9abcee8ea0", func := "downspout/downspoutlaw18.StreamRests", spec := "streamRests", unfollowed := true, recurses := true, apart := false, narrowed := true }
def StreamRestsUptoSaid : Prop := streamRestsUptoRow.holds Try.pinned (OpenSpec.upto streamRestsSpec)

/-- 'downspoutlaw18.StreamOrders', WHERE WHAT IT READS IS OF BULK AT MOST 1048576: true; the input reads as it did. -/
def streamOrdersUptoRow : OpenClaim := { program := "ytkgkpmdbcjelfaa", sum := "390c2b7bf7d1043bdca403c9a307d8924434cbc5415a3771a53dff9abcee8ea0", func := "downspout/downspoutlaw18.StreamOrders", spec := "streamOrders", unfollowed := true, recurses := true, apart := false, narrowed := true }
def StreamOrdersUptoSaid : Prop := streamOrdersUptoRow.holds Try.pinned (OpenSpec.upto streamOrdersSpec)

end Rows
end Go.Proofs.Ytkgkpmdbcjelfaa
