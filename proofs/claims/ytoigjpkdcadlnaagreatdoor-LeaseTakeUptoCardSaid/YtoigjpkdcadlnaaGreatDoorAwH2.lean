/-
  The sum of one of the five strings, by the kernel.
-/
import Derived.Test.YtoigjpkdcadlnaaGreatDoorAwAB
namespace Go.Proofs.YtoigjpkdcadlnaaGreatDoor
open Go Go.AM
theorem hex2 : outS ho2 ((runF Tryz.prog same0 known0 kindOf 3000).call 79 [.str hi2] s00) = true := by kernel_rfl
end Go.Proofs.YtoigjpkdcadlnaaGreatDoor
