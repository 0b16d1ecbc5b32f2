/-
  TopTransferred: the card's closed facts, one at a time.
-/
import Derived.Test.YtnaglmigkbbljaaGreatDoorCards
import Derived.SevenTiedAt
import Derived.KernelRfl
set_option maxHeartbeats 6400000
set_option maxRecDepth 1000000
namespace Go.Proofs.YtnaglmigkbbljaaGreatDoor
open Go
theorem cd0 : Rows.topTransferredRow.wfByText (OpenSpec.ofChange Rows.topTransferredSpec) = true := by kernel_rfl
theorem cd1 : Tryz.pinned.checked.prog.mainIs = some (true, ("9431e65507a65d7184fe05e85daf8da4ac122b1b7e5cd77673bdadeb8aeadad3" : String).toList) := by kernel_rfl
theorem cd2 : Tryz.prog.funcNamed Rows.topTransferredRow.func = some 3 := by kernel_rfl
theorem cd3 : true = Tryz.prog.looks [] := by kernel_rfl
theorem cd4 : ([22, 23, 5].all fun u => !Tryz.prog.wantsStandIn u) = true := by kernel_rfl
theorem cd5 : false = Rows.topTransferredRow.goesBy Tryz.pinned.checked.prog := by kernel_rfl
end Go.Proofs.YtnaglmigkbbljaaGreatDoor
