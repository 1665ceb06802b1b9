/-
  NARROWER THAN 'FOR EVERY INPUT', by the rows' own cells (each row's printed sentence says how): ReceiveMatchesReference: laid · ReceiveRepeats: laid · ReceiveOrders: laid.
  DERIVED. THE GIVEN ROWS OF THIS SEAT. 3 by the template 'for every input the law returns true; each argument reads behind the call as it read before'; 0 by the template 'total and deterministic' (their statements: YtomligcenflpdaaGreatDoorTotals.lean).
  GIVEN WITH THE SEED: the statements are not yours to turn. If you find one false, say at which input.
  Laid BY PROGRAM, IN A SANDBOX (cutbox-rows.mjs): the forced cells as the released guide's own fill.sh prints them over the translation fb8821321ae65cc4… (all of the seat's roots in one cut). By AI agents, Wed Nov 11 2026. No macro, syntax, notation, axiom, sorry.
-/
import Derived.Test.YtomligcenflpdaaGreatDoorChecked
import GoSem.PinnedTables
import GoSem.Claim
import GoSem.ClaimJoined
import GoSem.ClaimMapViews
import Derived.JoinedTies
import Derived.KernelRfl
namespace Go.Proofs.YtomligcenflpdaaGreatDoor
/- THE CELL 'sum', in the pinned program and in every row, IS THE sha256 OF THE DUMP (.gsa) THAT YtomligcenflpdaaGreatDoorProg.lean LOADS. Nothing in Lean hashes anything: it is a label: what it is worth is what the hold of that sum in a sandbox is worth. -/
noncomputable def Tryz.pinned : Pinned := { name := "ytomligcenflpdaagreatdoor", sum := "fb8821321ae65cc436dab708321a35dc0c75093ef0084be49b3e6d40e8caf1b0", checked := Tryz.checked }
namespace Rows
def none {H : Type} : Left H := { results := [], args := [] }

/- WHAT THE LISTED PACKAGE-LEVEL VARIABLES READ AS WHEN THE CALL BEGINS. Each datum BY PROGRAM (the guide's laid-datum.mjs) off the statement by which the dump's own 'gosem.cut.vars' lays the variable. In a bare row this is a premise. The card (YtomligcenflpdaaGreatDoorCards.lean) ties it to the program's text. -/
def laid_unicode_utf8_acceptRanges {H : Type} : DataW H := .agg [.agg [.lit (.int .u8 128), .lit (.int .u8 191)], .agg [.lit (.int .u8 160), .lit (.int .u8 191)], .agg [.lit (.int .u8 128), .lit (.int .u8 159)], .agg [.lit (.int .u8 144), .lit (.int .u8 191)], .agg [.lit (.int .u8 128), .lit (.int .u8 143)], .agg [.lit (.int .u8 0), .lit (.int .u8 0)], .agg [.lit (.int .u8 0), .lit (.int .u8 0)], .agg [.lit (.int .u8 0), .lit (.int .u8 0)], .agg [.lit (.int .u8 0), .lit (.int .u8 0)], .agg [.lit (.int .u8 0), .lit (.int .u8 0)], .agg [.lit (.int .u8 0), .lit (.int .u8 0)], .agg [.lit (.int .u8 0), .lit (.int .u8 0)], .agg [.lit (.int .u8 0), .lit (.int .u8 0)], .agg [.lit (.int .u8 0), .lit (.int .u8 0)], .agg [.lit (.int .u8 0), .lit (.int .u8 0)], .agg [.lit (.int .u8 0), .lit (.int .u8 0)]]
/-- One of Go's own tables, pinned by name: the form's constant. -/
def laid_unicode_utf8_first : DataW Unit := Go.Pinned.utf8First

/-- 'downspoutlaw19.ReceiveMatchesReference': WHATEVER THE INPUT: true; the input reads as it did. -/
def receiveMatchesReferenceSpec : ChangeSpec := { name := "receiveMatchesReference", fn := fun _ => fun
  | [d1, d2, d3] => { results := [.lit (.bool true)], args := [d1, d2, d3] }
  | _ => none }
def receiveMatchesReferenceRow : OpenClaim := { program := "ytomligcenflpdaagreatdoor", sum := "fb8821321ae65cc436dab708321a35dc0c75093ef0084be49b3e6d40e8caf1b0", func := "downspout/downspoutlaw19.ReceiveMatchesReference", spec := "receiveMatchesReference", inPlace := ["internal/bytealg.IndexByteString", "internal/bytealg.IndexString"], unfollowed := true, recurses := true, named := ["internal/bytealg.MaxLen", "unicode/utf8.first", "unicode/utf8.acceptRanges"], apart := false, laid := [("unicode/utf8.acceptRanges", laid_unicode_utf8_acceptRanges), ("unicode/utf8.first", laid_unicode_utf8_first)] }
def ReceiveMatchesReferenceSaid : Prop := receiveMatchesReferenceRow.holds Tryz.pinned (OpenSpec.ofChange receiveMatchesReferenceSpec)

/-- ITS FALSE NEIGHBOUR: 'it returns false'. Refute it at one input. -/
def receiveMatchesReferenceWrong : ChangeSpec := { name := "receiveMatchesReference", fn := fun _ => fun
  | [d1, d2, d3] => { results := [.lit (.bool false)], args := [d1, d2, d3] }
  | _ => none }
def ReceiveMatchesReferenceWrongFalsely : Prop := receiveMatchesReferenceRow.holds Tryz.pinned (OpenSpec.ofChange receiveMatchesReferenceWrong)

/-- 'downspoutlaw19.ReceiveRepeats': WHATEVER THE INPUT: true; the input reads as it did. -/
def receiveRepeatsSpec : ChangeSpec := { name := "receiveRepeats", fn := fun _ => fun
  | [d1, d2, d3] => { results := [.lit (.bool true)], args := [d1, d2, d3] }
  | _ => none }
def receiveRepeatsRow : OpenClaim := { program := "ytomligcenflpdaagreatdoor", sum := "fb8821321ae65cc436dab708321a35dc0c75093ef0084be49b3e6d40e8caf1b0", func := "downspout/downspoutlaw19.ReceiveRepeats", spec := "receiveRepeats", inPlace := ["internal/bytealg.IndexByteString", "internal/bytealg.IndexString"], unfollowed := true, recurses := true, named := ["internal/bytealg.MaxLen", "unicode/utf8.first", "unicode/utf8.acceptRanges"], apart := false, laid := [("unicode/utf8.acceptRanges", laid_unicode_utf8_acceptRanges), ("unicode/utf8.first", laid_unicode_utf8_first)] }
def ReceiveRepeatsSaid : Prop := receiveRepeatsRow.holds Tryz.pinned (OpenSpec.ofChange receiveRepeatsSpec)

/-- ITS FALSE NEIGHBOUR: 'it returns false'. Refute it at one input. -/
def receiveRepeatsWrong : ChangeSpec := { name := "receiveRepeats", fn := fun _ => fun
  | [d1, d2, d3] => { results := [.lit (.bool false)], args := [d1, d2, d3] }
  | _ => none }
def ReceiveRepeatsWrongFalsely : Prop := receiveRepeatsRow.holds Tryz.pinned (OpenSpec.ofChange receiveRepeatsWrong)

/-- 'downspoutlaw19.ReceiveOrders': WHATEVER THE INPUT: true; the input reads as it did. -/
def receiveOrdersSpec : ChangeSpec := { name := "receiveOrders", fn := fun _ => fun
  | [d1, d2, d3] => { results := [.lit (.bool true)], args := [d1, d2, d3] }
  | _ => none }
def receiveOrdersRow : OpenClaim := { program := "ytomligcenflpdaagreatdoor", sum := "fb8821321ae65cc436dab708321a35dc0c75093ef0084be49b3e6d40e8caf1b0", func := "downspout/downspoutlaw19.ReceiveOrders", spec := "receiveOrders", inPlace := ["internal/bytealg.IndexByteString", "internal/bytealg.IndexString"], unfollowed := true, recurses := true, named := ["internal/bytealg.MaxLen", "unicode/utf8.first", "unicode/utf8.acceptRanges"], apart := false, laid := [("unicode/utf8.acceptRanges", laid_unicode_utf8_acceptRanges), ("unicode/utf8.first", laid_unicode_utf8_first)] }
def ReceiveOrdersSaid : Prop := receiveOrdersRow.holds Tryz.pinned (OpenSpec.ofChange receiveOrdersSpec)

/-- ITS FALSE NEIGHBOUR: 'it returns false'. Refute it at one input. -/
def receiveOrdersWrong : ChangeSpec := { name := "receiveOrders", fn := fun _ => fun
  | [d1, d2, d3] => { results := [.lit (.bool false)], args := [d1, d2, d3] }
  | _ => none }
def ReceiveOrdersWrongFalsely : Prop := receiveOrdersRow.holds Tryz.pinned (OpenSpec.ofChange receiveOrdersWrong)

/- THE SECOND FORM. 'bulk': how many values and letters a reading holds, each counted each time it is reached (what is shared counts as often as it is met; a slice's spare places count too). A statement '..UptoSaid' is the law's where the arguments, and the package variables that the reading takes, are together of bulk at most 1048576: NARROWER than '..Said'. Prove '..Said' where nothing that the law and all that it calls make is longer than what came in: it says more and counts as full. Else prove '..UptoSaid'. A law counts once. -/
mutual
def uptoBulk {H : Type} : DataW H → Nat
  | .lit (.string bytes) => bytes.length + 1
  | .lit _ => 1
  | .nil => 1
  | .ptr d => uptoBulk d + 1
  | .slice elems spare => uptoBulkAll elems + uptoBulkAll spare + 1
  | .agg parts => uptoBulkAll parts + 1
  | .iface _ d => uptoBulk d + 1
  | .map entries => uptoBulkEntries entries + 1
  | .held _ => 1
def uptoBulkAll {H : Type} : List (DataW H) → Nat
  | [] => 0
  | d :: r => uptoBulk d + uptoBulkAll r
def uptoBulkEntries {H : Type} : List (Lit × DataW H) → Nat
  | [] => 0
  | x :: r => uptoBulkEntry x + uptoBulkEntries r
def uptoBulkEntry {H : Type} : Lit × DataW H → Nat
  | (.string bytes, d) => bytes.length + uptoBulk d + 1
  | (_, d) => uptoBulk d + 1
 end
def uptoSmall : (H : Type) → List (DataW H) → Bool := fun _ ds => decide (uptoBulkAll ds ≤ 1048576)
def OpenSpec.upto (s : _root_.Go.ChangeSpec) : _root_.Go.OpenSpec := { _root_.Go.OpenSpec.ofChange s with cond := some uptoSmall }

/-- 'downspoutlaw19.ReceiveMatchesReference', WHERE WHAT IT READS IS OF BULK AT MOST 1048576: true; the input reads as it did. -/
def receiveMatchesReferenceUptoRow : OpenClaim := { program := "ytomligcenflpdaagreatdoor", sum := "fb8821321ae65cc436dab708321a35dc0c75093ef0084be49b3e6d40e8caf1b0", func := "downspout/downspoutlaw19.ReceiveMatchesReference", spec := "receiveMatchesReference", inPlace := ["internal/bytealg.IndexByteString", "internal/bytealg.IndexString"], unfollowed := true, recurses := true, named := ["internal/bytealg.MaxLen", "unicode/utf8.first", "unicode/utf8.acceptRanges"], apart := false, laid := [("unicode/utf8.acceptRanges", laid_unicode_utf8_acceptRanges), ("unicode/utf8.first", laid_unicode_utf8_first)], narrowed := true }
def ReceiveMatchesReferenceUptoSaid : Prop := receiveMatchesReferenceUptoRow.holds Tryz.pinned (OpenSpec.upto receiveMatchesReferenceSpec)

/-- 'downspoutlaw19.ReceiveRepeats', WHERE WHAT IT READS IS OF BULK AT MOST 1048576: true; the input reads as it did. -/
def receiveRepeatsUptoRow : OpenClaim := { program := "ytomligcenflpdaagreatdoor", sum := "fb8821321ae65cc436dab708321a35dc0c75093ef0084be49b3e6d40e8caf1b0", func := "downspout/downspoutlaw19.ReceiveRepeats", spec := "receiveRepeats", inPlace := ["internal/bytealg.IndexByteString", "internal/bytealg.IndexString"], unfollowed := true, recurses := true, named := ["internal/bytealg.MaxLen", "unicode/utf8.first", "unicode/utf8.acceptRanges"], apart := false, laid := [("unicode/utf8.acceptRanges", laid_unicode_utf8_acceptRanges), ("unicode/utf8.first", laid_unicode_utf8_first)], narrowed := true }
def ReceiveRepeatsUptoSaid : Prop := receiveRepeatsUptoRow.holds Tryz.pinned (OpenSpec.upto receiveRepeatsSpec)

/-- 'downspoutlaw19.ReceiveOrders', WHERE WHAT IT READS IS OF BULK AT MOST 1048576: true; the input reads as it did. -/
def receiveOrdersUptoRow : OpenClaim := { program := "ytomligcenflpdaagreatdoor", sum := "fb8821321ae65cc436dab708321a35dc0c75093ef0084be49b3e6d40e8caf1b0", func := "downspout/downspoutlaw19.ReceiveOrders", spec := "receiveOrders", inPlace := ["internal/bytealg.IndexByteString", "internal/bytealg.IndexString"], unfollowed := true, recurses := true, named := ["internal/bytealg.MaxLen", "unicode/utf8.first", "unicode/utf8.acceptRanges"], apart := false, laid := [("unicode/utf8.acceptRanges", laid_unicode_utf8_acceptRanges), ("unicode/utf8.first", laid_unicode_utf8_first)], narrowed := true }
def ReceiveOrdersUptoSaid : Prop := receiveOrdersUptoRow.holds Tryz.pinned (OpenSpec.upto receiveOrdersSpec)

end Rows
end Go.Proofs.YtomligcenflpdaaGreatDoor
