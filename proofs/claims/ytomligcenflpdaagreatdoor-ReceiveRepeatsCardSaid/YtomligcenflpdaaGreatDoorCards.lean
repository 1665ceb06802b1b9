/-
  DERIVED. GIVEN WITH THE SEED: THE CARDS: each row of YtomligcenflpdaaGreatDoorRows.lean that lists a variable, with what it lists TIED to the program's text (the seventh form; the later family's looks); each row that meets fmt, with fmt's text TOLD by the authors' own Lean function (tested against real Go, not proved from fmt's source: count such statements apart). THE CARD IS WHAT COUNTS. Prove the row's statement (the work); the ties are given (YtomligcenflpdaaGreatDoorTie.lean); close each card by the builder's one call (the guide's Derived/Test/ToyasCard.lean, 'card_holds'). Laid BY PROGRAM, IN A SANDBOX (cutbox-door.mjs). By AI agents, Wed Nov 11 2026. No macro, syntax, notation, axiom, sorry.
-/
import Derived.Test.YtomligcenflpdaaGreatDoorRows
import GoSem.ClaimSeven
namespace Go.Proofs.YtomligcenflpdaaGreatDoor
namespace Rows

/-- THE TIED CARD OF 'downspoutlaw19.ReceiveMatchesReference'. -/
def receiveMatchesReferenceCard : Claim7 := { stood := { row := receiveMatchesReferenceRow, standIns := [], harness := (true, "8d06a8c1133266fdc1b667c4e3f2cc6ec9a6f9592e3a2c12b4d78172c3712a04"), looks := true }, kinds := [], alts := [], laidByText := true, laidKinds := [.data, .pinned], laidTests := true, laidLooks := .later }
def ReceiveMatchesReferenceCardSaid : Prop := Claim7.holds Tryz.pinned (.plain (OpenSpec.ofChange receiveMatchesReferenceSpec)) receiveMatchesReferenceCard

/-- THE TIED CARD OF 'downspoutlaw19.ReceiveRepeats'. -/
def receiveRepeatsCard : Claim7 := { stood := { row := receiveRepeatsRow, standIns := [], harness := (true, "8d06a8c1133266fdc1b667c4e3f2cc6ec9a6f9592e3a2c12b4d78172c3712a04"), looks := true }, kinds := [], alts := [], laidByText := true, laidKinds := [.data, .pinned], laidTests := true, laidLooks := .later }
def ReceiveRepeatsCardSaid : Prop := Claim7.holds Tryz.pinned (.plain (OpenSpec.ofChange receiveRepeatsSpec)) receiveRepeatsCard

/-- THE TIED CARD OF 'downspoutlaw19.ReceiveOrders'. -/
def receiveOrdersCard : Claim7 := { stood := { row := receiveOrdersRow, standIns := [], harness := (true, "8d06a8c1133266fdc1b667c4e3f2cc6ec9a6f9592e3a2c12b4d78172c3712a04"), looks := true }, kinds := [], alts := [], laidByText := true, laidKinds := [.data, .pinned], laidTests := true, laidLooks := .later }
def ReceiveOrdersCardSaid : Prop := Claim7.holds Tryz.pinned (.plain (OpenSpec.ofChange receiveOrdersSpec)) receiveOrdersCard

/-- THE SECOND FORM's CARD OF 'downspoutlaw19.ReceiveMatchesReference'. -/
def receiveMatchesReferenceUptoCard : Claim7 := { stood := { row := receiveMatchesReferenceUptoRow, standIns := [], harness := (true, "8d06a8c1133266fdc1b667c4e3f2cc6ec9a6f9592e3a2c12b4d78172c3712a04"), looks := true }, kinds := [], alts := [], laidByText := true, laidKinds := [.data, .pinned], laidTests := true, laidLooks := .later }
def ReceiveMatchesReferenceUptoCardSaid : Prop := Claim7.holds Tryz.pinned (.plain (OpenSpec.upto receiveMatchesReferenceSpec)) receiveMatchesReferenceUptoCard

/-- THE SECOND FORM's CARD OF 'downspoutlaw19.ReceiveRepeats'. -/
def receiveRepeatsUptoCard : Claim7 := { stood := { row := receiveRepeatsUptoRow, standIns := [], harness := (true, "8d06a8c1133266fdc1b667c4e3f2cc6ec9a6f9592e3a2c12b4d78172c3712a04"), looks := true }, kinds := [], alts := [], laidByText := true, laidKinds := [.data, .pinned], laidTests := true, laidLooks := .later }
def ReceiveRepeatsUptoCardSaid : Prop := Claim7.holds Tryz.pinned (.plain (OpenSpec.upto receiveRepeatsSpec)) receiveRepeatsUptoCard

/-- THE SECOND FORM's CARD OF 'downspoutlaw19.ReceiveOrders'. -/
def receiveOrdersUptoCard : Claim7 := { stood := { row := receiveOrdersUptoRow, standIns := [], harness := (true, "8d06a8c1133266fdc1b667c4e3f2cc6ec9a6f9592e3a2c12b4d78172c3712a04"), looks := true }, kinds := [], alts := [], laidByText := true, laidKinds := [.data, .pinned], laidTests := true, laidLooks := .later }
def ReceiveOrdersUptoCardSaid : Prop := Claim7.holds Tryz.pinned (.plain (OpenSpec.upto receiveOrdersSpec)) receiveOrdersUptoCard
end Rows
end Go.Proofs.YtomligcenflpdaaGreatDoor
