/-
  DERIVED. GIVEN WITH THE SEED: THE CARDS: each row of YtomligcenflpdabGreatDoorRows.lean that lists a variable, with what it lists TIED to the program's text (the seventh form; the later family's looks); each row that meets fmt, with fmt's text TOLD by the authors' own Lean function (tested against real Go, not proved from fmt's source: count such statements apart). THE CARD IS WHAT COUNTS. Prove the row's statement (the work); the ties are given (YtomligcenflpdabGreatDoorTie.lean); close each card by the builder's one call (the guide's Derived/Test/ToyasCard.lean, 'card_holds'). Laid BY PROGRAM, IN A SANDBOX (cutbox-door.mjs). By AI agents, Wed Nov 11 2026. No macro, syntax, notation, axiom, sorry.
-/
import Derived.Test.YtomligcenflpdabGreatDoorRows
import GoSem.ClaimSeven
namespace Go.Proofs.YtomligcenflpdabGreatDoor
namespace Rows

/-- THE TIED CARD OF 'downspoutlaw19.ReceiveChecks'. -/
def receiveChecksCard : Claim7 := { stood := { row := receiveChecksRow, standIns := [], harness := (true, "67e27c982bbc17a30197a3c4cbb02d18e87a1ce0f3e5d4fa98cb4b91bdb3e5b6"), looks := true }, kinds := [], alts := [], laidByText := true, laidKinds := [.data, .pinned], laidTests := true, laidLooks := .later }
def ReceiveChecksCardSaid : Prop := Claim7.holds Tryz.pinned (.plain (OpenSpec.ofChange receiveChecksSpec)) receiveChecksCard

/-- THE TIED CARD OF 'downspoutlaw19.ReceiveSenders'. -/
def receiveSendersCard : Claim7 := { stood := { row := receiveSendersRow, standIns := [], harness := (true, "67e27c982bbc17a30197a3c4cbb02d18e87a1ce0f3e5d4fa98cb4b91bdb3e5b6"), looks := true }, kinds := [], alts := [], laidByText := true, laidKinds := [.data, .pinned], laidTests := true, laidLooks := .later }
def ReceiveSendersCardSaid : Prop := Claim7.holds Tryz.pinned (.plain (OpenSpec.ofChange receiveSendersSpec)) receiveSendersCard

/-- THE TIED CARD OF 'downspoutlaw19.ReceiveTransfers'. -/
def receiveTransfersCard : Claim7 := { stood := { row := receiveTransfersRow, standIns := [], harness := (true, "67e27c982bbc17a30197a3c4cbb02d18e87a1ce0f3e5d4fa98cb4b91bdb3e5b6"), looks := true }, kinds := [], alts := [], laidByText := true, laidKinds := [.data, .pinned], laidTests := true, laidLooks := .later }
def ReceiveTransfersCardSaid : Prop := Claim7.holds Tryz.pinned (.plain (OpenSpec.ofChange receiveTransfersSpec)) receiveTransfersCard

/-- THE SECOND FORM's CARD OF 'downspoutlaw19.ReceiveChecks'. -/
def receiveChecksUptoCard : Claim7 := { stood := { row := receiveChecksUptoRow, standIns := [], harness := (true, "67e27c982bbc17a30197a3c4cbb02d18e87a1ce0f3e5d4fa98cb4b91bdb3e5b6"), looks := true }, kinds := [], alts := [], laidByText := true, laidKinds := [.data, .pinned], laidTests := true, laidLooks := .later }
def ReceiveChecksUptoCardSaid : Prop := Claim7.holds Tryz.pinned (.plain (OpenSpec.upto receiveChecksSpec)) receiveChecksUptoCard

/-- THE SECOND FORM's CARD OF 'downspoutlaw19.ReceiveSenders'. -/
def receiveSendersUptoCard : Claim7 := { stood := { row := receiveSendersUptoRow, standIns := [], harness := (true, "67e27c982bbc17a30197a3c4cbb02d18e87a1ce0f3e5d4fa98cb4b91bdb3e5b6"), looks := true }, kinds := [], alts := [], laidByText := true, laidKinds := [.data, .pinned], laidTests := true, laidLooks := .later }
def ReceiveSendersUptoCardSaid : Prop := Claim7.holds Tryz.pinned (.plain (OpenSpec.upto receiveSendersSpec)) receiveSendersUptoCard

/-- THE SECOND FORM's CARD OF 'downspoutlaw19.ReceiveTransfers'. -/
def receiveTransfersUptoCard : Claim7 := { stood := { row := receiveTransfersUptoRow, standIns := [], harness := (true, "67e27c982bbc17a30197a3c4cbb02d18e87a1ce0f3e5d4fa98cb4b91bdb3e5b6"), looks := true }, kinds := [], alts := [], laidByText := true, laidKinds := [.data, .pinned], laidTests := true, laidLooks := .later }
def ReceiveTransfersUptoCardSaid : Prop := Claim7.holds Tryz.pinned (.plain (OpenSpec.upto receiveTransfersSpec)) receiveTransfersUptoCard
end Rows
end Go.Proofs.YtomligcenflpdabGreatDoor
