/-
  LeaseValid: for every input the law returns true, and the input reads as it did: the tied card. No condition beside the card's own.
-/
import Derived.Test.YtoigjpkdcadlnaaGreatDoorLvE
import Derived.Test.YtoigjpkdcadlnaaGreatDoorTie
import Derived.Test.YtoigjpkdcadlnaaGreatDoorCards
import Derived.SevenTiedAt
namespace Go.Proofs.YtoigjpkdcadlnaaGreatDoor
open Go
theorem leaseValid_card : Rows.LeaseValidCardSaid :=
  Claim7.holds_tied_plain_at .later [] [.data, .data, .data, .sentinel, .sentinel] true (true, "d32af9e946fec1522770c30b4ddca71972f9028e302775192e3e852d5542fb78") true
    leaseValid_holds (fun _ h => by cases h) (by kernel_rfl) (fun _ h => by cases h) leaseValid_row_tie rfl ⟨rfl, rfl⟩ (by kernel_rfl) rfl
    (fun f fn hf hfn => by
      obtain rfl : f = 4 := Option.some.inj ((show Tryz.prog.funcNamed Rows.leaseValidRow.func = some 4 by kernel_rfl).symm.trans hf) |>.symm
      obtain rfl : fn = Tryz.f4 := (Option.some.inj (Tryz.func4.symm.trans hfn)).symm
      exact ⟨by kernel_rfl, fun j t ht => by
        rw [Tryz.params4] at ht
        have hm : t ∈ [26] := by simpa using Array.mem_of_getElem? ht
        have hall : ([26].all fun u => !Tryz.prog.wantsStandIn u) = true := by kernel_rfl
        exact (show Tryz.prog.wantsStandIn t = false by simpa using List.all_eq_true.1 hall t hm)⟩)
    (by kernel_rfl)
end Go.Proofs.YtoigjpkdcadlnaaGreatDoor
