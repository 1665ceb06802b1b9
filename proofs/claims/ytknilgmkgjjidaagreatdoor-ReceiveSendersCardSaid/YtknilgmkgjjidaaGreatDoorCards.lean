/-
  DERIVED. GIVEN WITH THE SEED: THE CARDS: each row of YtknilgmkgjjidaaGreatDoorRows.lean that lists a variable, with what it lists TIED to the program's text (the seventh form; the later family's looks); each row that meets fmt, with fmt's text TOLD by the authors' own Lean function (tested against real Go, not proved from fmt's source: count such statements apart). THE CARD IS WHAT COUNTS. Prove the row's statement (the work); the ties are given (YtknilgmkgjjidaaGreatDoorTie.lean); close each card by the builder's one call (the guide's Derived/Test/ToyasCard.lean, 'card_holds'). Laid BY PROGRAM, IN A SANDBOX (cutbox-door.mjs). By AI agents, Wed Nov 11 2026. No macro, syntax, notation, axiom, sorry.
-/
import Derived.Test.YtknilgmkgjjidaaGreatDoorRows
import GoSem.ClaimSeven
namespace Go.Proofs.YtknilgmkgjjidaaGreatDoor
namespace Rows

/-- THE TIED CARD OF 'downspoutlaw19.ReceiveSenders'. -/
def receiveSendersCard : Claim7 := { stood := { row := receiveSendersRow, standIns := [], harness := (true, "0c42b615d10c3028f0db5e00068e87c800391c01c6ff43cf6e2bd21dc094a3c0"), looks := true }, kinds := [], alts := [], laidByText := true, laidKinds := [.data, .pinned], laidTests := true, laidLooks := .later }
def ReceiveSendersCardSaid : Prop := Claim7.holds Tryz.pinned (.plain (OpenSpec.ofChange receiveSendersSpec)) receiveSendersCard

/-- THE SECOND FORM's CARD OF 'downspoutlaw19.ReceiveSenders'. -/
def receiveSendersUptoCard : Claim7 := { stood := { row := receiveSendersUptoRow, standIns := [], harness := (true, "0c42b615d10c3028f0db5e00068e87c800391c01c6ff43cf6e2bd21dc094a3c0"), looks := true }, kinds := [], alts := [], laidByText := true, laidKinds := [.data, .pinned], laidTests := true, laidLooks := .later }
def ReceiveSendersUptoCardSaid : Prop := Claim7.holds Tryz.pinned (.plain (OpenSpec.upto receiveSendersSpec)) receiveSendersUptoCard
end Rows
end Go.Proofs.YtknilgmkgjjidaaGreatDoor
