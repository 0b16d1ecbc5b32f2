/-
  awake, by the kernel: with the five sums known the abstract machine runs it to true.
-/
import Derived.Test.YtoigjpkdcadlnaaGreatDoorAwAB
namespace Go.Proofs.YtoigjpkdcadlnaaGreatDoor
open Go Go.AM
theorem awakeRun : outB true ((runF Tryz.prog same0 kn kindOf 3000).call 5 [] s00) = true := by kernel_rfl
end Go.Proofs.YtoigjpkdcadlnaaGreatDoor
