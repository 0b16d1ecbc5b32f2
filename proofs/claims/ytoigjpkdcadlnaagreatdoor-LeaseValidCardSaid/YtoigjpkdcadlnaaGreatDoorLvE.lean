/-
  LeaseValid: for every input the law returns true, and the input reads as it did: the row. No condition beside the row's own.
-/
import Derived.Test.YtoigjpkdcadlnaaGreatDoorLvD
import Derived.Test.YtoigjpkdcadlnaaGreatDoorLvF
import Derived.Test.YtoigjpkdcadlnaaGreatDoorAwE
namespace Go.Proofs.YtoigjpkdcadlnaaGreatDoor
open Go Go.ChangeShapes Go.WideShapes Go.ChangeAt Go.RowKit
theorem leaseValid_holds : Rows.LeaseValidSaid :=
  OpenClaim.holds_of_wide 4 Tryz.f4 rfl rfl rfl rfl rfl rfl rfl ⟨rfl, rfl, rfl, rfl, rfl⟩ rfl rfl rfl rfl rfl (by kernel_rfl) Tryz.func4 lvfAll
    (of_decide_eq_true (by kernel_rfl)) (by unfold Func.isWrapper; first | (rw [if_pos (by decide +kernel)]; kernel_rfl) | (rw [if_neg (by decide +kernel)]; exact ⟨rfl, rfl⟩))
    (fun os started H enc _ => lifted awake_true os started H enc)

end Go.Proofs.YtoigjpkdcadlnaaGreatDoor
