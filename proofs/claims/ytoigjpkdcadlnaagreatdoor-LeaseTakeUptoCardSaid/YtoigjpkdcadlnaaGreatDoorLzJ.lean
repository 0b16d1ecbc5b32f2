/-
  LeaseTake: for every input of small bulk the law returns true, and the input reads as it did: the tied card of the second form. No condition beside the card's own.
-/
import Derived.Test.YtoigjpkdcadlnaaGreatDoorLzI
import Derived.Test.YtoigjpkdcadlnaaGreatDoorTie
import Derived.Test.YtoigjpkdcadlnaaGreatDoorCards
import Derived.SevenTiedAt
namespace Go.Proofs.YtoigjpkdcadlnaaGreatDoor
open Go
theorem leaseTakeUpto_card : Rows.LeaseTakeUptoCardSaid :=
  Claim7.holds_tied_plain_at .later [] [.data, .data, .data, .sentinel, .sentinel] true (true, "d32af9e946fec1522770c30b4ddca71972f9028e302775192e3e852d5542fb78") true
    leaseTake_holds (fun _ h => by cases h) (by kernel_rfl) (fun _ h => by cases h) leaseTakeUpto_row_tie rfl ⟨rfl, rfl⟩ (by kernel_rfl) rfl
    (fun f fn hf hfn => by
      obtain rfl : f = 3 := Option.some.inj ((show Tryz.prog.funcNamed Rows.leaseTakeUptoRow.func = some 3 by kernel_rfl).symm.trans hf) |>.symm
      obtain rfl : fn = Tryz.f3 := (Option.some.inj (Tryz.func3.symm.trans hfn)).symm
      exact ⟨by kernel_rfl, fun j t ht => by
        rw [Tryz.params3] at ht
        have hm : t ∈ [22] := by simpa using Array.mem_of_getElem? ht
        have hall : ([22].all fun u => !Tryz.prog.wantsStandIn u) = true := by kernel_rfl
        exact (show Tryz.prog.wantsStandIn t = false by simpa using List.all_eq_true.1 hall t hm)⟩)
    (by kernel_rfl)
end Go.Proofs.YtoigjpkdcadlnaaGreatDoor
