/-
  DERIVED. GIVEN WITH THE SEED: THE CARDS: each row of YtnaglmigkbbljaaGreatDoorRows.lean that lists a variable, with what it lists TIED to the program's text (the seventh form; the later family's looks); each row that meets fmt, with fmt's text TOLD by the authors' own Lean function (tested against real Go, not proved from fmt's source: count such statements apart). THE CARD IS WHAT COUNTS. Prove the row's statement (the work); the ties are given (YtnaglmigkbbljaaGreatDoorTie.lean); close each card by the builder's one call (the guide's Derived/Test/ToyasCard.lean, 'card_holds'). Laid BY PROGRAM, IN A SANDBOX (cutbox-door.mjs). By AI agents, Wed Nov 11 2026. No macro, syntax, notation, axiom, sorry.
-/
import Derived.Test.YtnaglmigkbbljaaGreatDoorRows
import GoSem.ClaimSeven
namespace Go.Proofs.YtnaglmigkbbljaaGreatDoor
namespace Rows

/-- THE TIED CARD OF 'sederunttop.TopTransferred'. -/
def topTransferredCard : Claim7 := { stood := { row := topTransferredRow, standIns := [], harness := (true, "9431e65507a65d7184fe05e85daf8da4ac122b1b7e5cd77673bdadeb8aeadad3"), looks := true }, kinds := [], alts := [], laidByText := true, laidKinds := [.data, .data, .data, .data, .sentinel, .sentinel, .pinned], laidTests := true, laidLooks := .later }
def TopTransferredCardSaid : Prop := Claim7.holds Tryz.pinned (.plain (OpenSpec.ofChange topTransferredSpec)) topTransferredCard

/-- THE SECOND FORM's CARD OF 'sederunttop.TopTransferred'. -/
def topTransferredUptoCard : Claim7 := { stood := { row := topTransferredUptoRow, standIns := [], harness := (true, "9431e65507a65d7184fe05e85daf8da4ac122b1b7e5cd77673bdadeb8aeadad3"), looks := true }, kinds := [], alts := [], laidByText := true, laidKinds := [.data, .data, .data, .data, .sentinel, .sentinel, .pinned], laidTests := true, laidLooks := .later }
def TopTransferredUptoCardSaid : Prop := Claim7.holds Tryz.pinned (.plain (OpenSpec.upto topTransferredSpec)) topTransferredUptoCard
end Rows
end Go.Proofs.YtnaglmigkbbljaaGreatDoor
