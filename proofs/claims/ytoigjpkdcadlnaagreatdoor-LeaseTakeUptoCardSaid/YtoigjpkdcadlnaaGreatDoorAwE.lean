/-
  awake returns true in every world, and leaves what was there.
-/
import Derived.Test.YtoigjpkdcadlnaaGreatDoorAwC
import Derived.Test.YtoigjpkdcadlnaaGreatDoorAwD
namespace Go.Proofs.YtoigjpkdcadlnaaGreatDoor
open Go Go.AM Go.RowKit
theorem awake_true (W : World) : Calls Tryz.prog 5 #[] W fun e w' => e = .returned (.bool true) ∧ Below W.heap.size W w' := by
  obtain ⟨s, hs⟩ := outB_some awakeRun
  rw [runF_eq] at hs
  exact closed_bool progOk1 hs W
end Go.Proofs.YtoigjpkdcadlnaaGreatDoor
