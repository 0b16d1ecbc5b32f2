/-
  DERIVED. GIVEN WITH THE SEED: THE CARDS: each row of YtoigjpkdcadlnaaGreatDoorRows.lean that lists a variable, with what it lists TIED to the program's text (the seventh form; the later family's looks); each row that meets fmt, with fmt's text TOLD by the authors' own Lean function (tested against real Go, not proved from fmt's source: count such statements apart). THE CARD IS WHAT COUNTS. Prove the row's statement (the work); the ties are given (YtoigjpkdcadlnaaGreatDoorTie.lean); close each card by the builder's one call (the guide's Derived/Test/ToyasCard.lean, 'card_holds'). Laid BY PROGRAM, IN A SANDBOX (cutbox-door.mjs). By AI agents, Wed Nov 11 2026. No macro, syntax, notation, axiom, sorry.
-/
import Derived.Test.YtoigjpkdcadlnaaGreatDoorRows
import GoSem.ClaimSeven
namespace Go.Proofs.YtoigjpkdcadlnaaGreatDoor
namespace Rows

/-- THE TIED CARD OF 'sederuntlaw45.LeaseTake'. -/
def leaseTakeCard : Claim7 := { stood := { row := leaseTakeRow, standIns := [], harness := (true, "d32af9e946fec1522770c30b4ddca71972f9028e302775192e3e852d5542fb78"), looks := true }, kinds := [], alts := [], laidByText := true, laidKinds := [.data, .data, .data, .sentinel, .sentinel], laidTests := true, laidLooks := .later }
def LeaseTakeCardSaid : Prop := Claim7.holds Tryz.pinned (.plain (OpenSpec.ofChange leaseTakeSpec)) leaseTakeCard

/-- THE TIED CARD OF 'sederuntlaw45.LeaseValid'. -/
def leaseValidCard : Claim7 := { stood := { row := leaseValidRow, standIns := [], harness := (true, "d32af9e946fec1522770c30b4ddca71972f9028e302775192e3e852d5542fb78"), looks := true }, kinds := [], alts := [], laidByText := true, laidKinds := [.data, .data, .data, .sentinel, .sentinel], laidTests := true, laidLooks := .later }
def LeaseValidCardSaid : Prop := Claim7.holds Tryz.pinned (.plain (OpenSpec.ofChange leaseValidSpec)) leaseValidCard

/-- THE SECOND FORM's CARD OF 'sederuntlaw45.LeaseTake'. -/
def leaseTakeUptoCard : Claim7 := { stood := { row := leaseTakeUptoRow, standIns := [], harness := (true, "d32af9e946fec1522770c30b4ddca71972f9028e302775192e3e852d5542fb78"), looks := true }, kinds := [], alts := [], laidByText := true, laidKinds := [.data, .data, .data, .sentinel, .sentinel], laidTests := true, laidLooks := .later }
def LeaseTakeUptoCardSaid : Prop := Claim7.holds Tryz.pinned (.plain (OpenSpec.upto leaseTakeSpec)) leaseTakeUptoCard

/-- THE SECOND FORM's CARD OF 'sederuntlaw45.LeaseValid'. -/
def leaseValidUptoCard : Claim7 := { stood := { row := leaseValidUptoRow, standIns := [], harness := (true, "d32af9e946fec1522770c30b4ddca71972f9028e302775192e3e852d5542fb78"), looks := true }, kinds := [], alts := [], laidByText := true, laidKinds := [.data, .data, .data, .sentinel, .sentinel], laidTests := true, laidLooks := .later }
def LeaseValidUptoCardSaid : Prop := Claim7.holds Tryz.pinned (.plain (OpenSpec.upto leaseValidSpec)) leaseValidUptoCard
end Rows
end Go.Proofs.YtoigjpkdcadlnaaGreatDoor
