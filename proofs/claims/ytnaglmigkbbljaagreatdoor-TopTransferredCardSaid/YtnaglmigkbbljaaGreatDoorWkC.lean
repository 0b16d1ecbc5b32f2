/-
  The sum of one of the two strings, by the kernel.
-/
import Derived.Test.YtnaglmigkbbljaaGreatDoorWkA
set_option maxHeartbeats 6400000
set_option maxRecDepth 1000000
namespace Go.Proofs.YtnaglmigkbbljaaGreatDoor
open Go Go.AM
theorem hex1 : outS ho1 ((runF Tryz.prog same0 known0 kindOf 3000).call 15 [.str hi1] s00) = true := by kernel_rfl
end Go.Proofs.YtnaglmigkbbljaaGreatDoor
