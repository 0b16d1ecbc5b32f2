/-
  DERIVED. GIVEN WITH THE SEED: THE CARDS: each row of YtmcnpaehmnadeaaGreatDoorRows.lean that lists a variable, with what it lists TIED to the program's text (the seventh form; the later family's looks); each row that meets fmt, with fmt's text TOLD by the authors' own Lean function (tested against real Go, not proved from fmt's source: count such statements apart). THE CARD IS WHAT COUNTS. Prove the row's statement (the work); the ties are given (YtmcnpaehmnadeaaGreatDoorTie.lean); close each card by the builder's one call (the guide's Derived/Test/ToyasCard.lean, 'card_holds'). Laid BY PROGRAM, IN A SANDBOX (cutbox-door.mjs). By AI agents, Wed Nov 11 2026. No macro, syntax, notation, axiom, sorry.
-/
import Derived.Test.YtmcnpaehmnadeaaGreatDoorRows
import GoSem.ClaimSeven
namespace Go.Proofs.YtmcnpaehmnadeaaGreatDoor
namespace Rows

/-- THE TIED CARD OF 'sederuntlaw41.EpochOf'. -/
def epochOfCard : Claim7 := { stood := { row := epochOfRow, standIns := [], harness := (true, "aa5d0bcedc899c0195b79abdbb4b352e990a052033f119c60f6d9eb111e83e8d"), looks := true }, kinds := [], alts := [], laidByText := true, laidKinds := [.data, .data, .data, .sentinel, .sentinel], laidTests := true, laidLooks := .later }
def EpochOfCardSaid : Prop := Claim7.holds Tryz.pinned (.plain (OpenSpec.ofChange epochOfSpec)) epochOfCard

/-- THE TIED CARD OF 'sederuntlaw41.EpochNext'. -/
def epochNextCard : Claim7 := { stood := { row := epochNextRow, standIns := [], harness := (true, "aa5d0bcedc899c0195b79abdbb4b352e990a052033f119c60f6d9eb111e83e8d"), looks := true }, kinds := [], alts := [], laidByText := true, laidKinds := [.data, .data, .data, .sentinel, .sentinel], laidTests := true, laidLooks := .later }
def EpochNextCardSaid : Prop := Claim7.holds Tryz.pinned (.plain (OpenSpec.ofChange epochNextSpec)) epochNextCard

/-- THE SECOND FORM's CARD OF 'sederuntlaw41.EpochOf'. -/
def epochOfUptoCard : Claim7 := { stood := { row := epochOfUptoRow, standIns := [], harness := (true, "aa5d0bcedc899c0195b79abdbb4b352e990a052033f119c60f6d9eb111e83e8d"), looks := true }, kinds := [], alts := [], laidByText := true, laidKinds := [.data, .data, .data, .sentinel, .sentinel], laidTests := true, laidLooks := .later }
def EpochOfUptoCardSaid : Prop := Claim7.holds Tryz.pinned (.plain (OpenSpec.upto epochOfSpec)) epochOfUptoCard

/-- THE SECOND FORM's CARD OF 'sederuntlaw41.EpochNext'. -/
def epochNextUptoCard : Claim7 := { stood := { row := epochNextUptoRow, standIns := [], harness := (true, "aa5d0bcedc899c0195b79abdbb4b352e990a052033f119c60f6d9eb111e83e8d"), looks := true }, kinds := [], alts := [], laidByText := true, laidKinds := [.data, .data, .data, .sentinel, .sentinel], laidTests := true, laidLooks := .later }
def EpochNextUptoCardSaid : Prop := Claim7.holds Tryz.pinned (.plain (OpenSpec.upto epochNextSpec)) epochNextUptoCard
end Rows
end Go.Proofs.YtmcnpaehmnadeaaGreatDoor
