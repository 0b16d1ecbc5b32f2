/-
  awake47 comes to true, by the kernel, with the known calls.
-/
import Derived.Test.YtnaglmigkbbljaaGreatDoorWkA
set_option maxHeartbeats 6400000
set_option maxRecDepth 1000000
namespace Go.Proofs.YtnaglmigkbbljaaGreatDoor
open Go Go.AM
theorem awakeRun : outB true ((runFS Tryz.prog same0 kn sp kindOf 3000).call 4 [] s00) = true := by kernel_rfl
end Go.Proofs.YtnaglmigkbbljaaGreatDoor
