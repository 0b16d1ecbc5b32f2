/-
  TopTransferred: the row's closed facts, one at a time.
-/
import Derived.Test.YtnaglmigkbbljaaGreatDoorRows
import Derived.JoinedOf
import Derived.KernelRfl
set_option maxHeartbeats 6400000
set_option maxRecDepth 1000000
namespace Go.Proofs.YtnaglmigkbbljaaGreatDoor
open Go
theorem and_t {a b : Bool} (ha : a = true) (hb : b = true) : (a && b) = true := by rw [ha, hb]; rfl
set_option maxRecDepth 100000
theorem ttf0 : (Rows.topTransferredRow.wf (OpenSpec.ofChange Rows.topTransferredSpec) : Bool) = true := by kernel_rfl
theorem ttf1 : (laidOutB Tryz.prog : Bool) = true := by kernel_rfl
theorem ttf2 : (mapsRowed Tryz.prog : Bool) = true := by kernel_rfl
theorem ttf3 : (Tryz.f3.params.all (Tryz.prog.readableRec ·) : Bool) = true := by kernel_rfl
theorem ttf4 : (namedTie Tryz.prog Rows.topTransferredRow.named Rows.topTransferredSpec.vars : Bool) = true := by kernel_rfl
theorem ttf5 : ((Rows.topTransferredRow.stops == []) : Bool) = true := by kernel_rfl
theorem ttf6 : ((Tryz.prog.stops == []) : Bool) = true := by kernel_rfl
theorem ttf7 : ((Rows.topTransferredRow.knobs == []) : Bool) = true := by kernel_rfl
theorem ttf8 : ((Tryz.prog.stopKnobs == []) : Bool) = true := by kernel_rfl
theorem ttf9 : ((Rows.topTransferredRow.inPlace == Tryz.prog.inPlace 3) : Bool) = true := by kernel_rfl
theorem ttf10 : ((Rows.topTransferredRow.unfollowed == Tryz.prog.unfollowed 3) : Bool) = true := by kernel_rfl
theorem ttf11 : ((Rows.topTransferredRow.recurses == Tryz.prog.recurses 3) : Bool) = true := by kernel_rfl
theorem ttf12 : ((Rows.topTransferredRow.named == Tryz.prog.varsNamed 3) : Bool) = true := by kernel_rfl
theorem ttf13 : ((Rows.topTransferredRow.maps == (Tryz.f3.params.toList ++ Rows.topTransferredSpec.plain.varTypes Tryz.prog).any (Tryz.prog.mapsRec ·)) : Bool) = true := by kernel_rfl
theorem ttf14 : ((Rows.topTransferredRow.ifaces == (Tryz.f3.params.toList ++ Rows.topTransferredSpec.plain.varTypes Tryz.prog).any (Tryz.prog.ifacesRec ·)) : Bool) = true := by kernel_rfl
theorem ttf15 : ((Rows.topTransferredRow.mapsOut == Tryz.prog.mapsAmong Tryz.f3.resultTypes.toList) : Bool) = true := by kernel_rfl
theorem ttf16 : ((Rows.topTransferredRow.loops == (Tryz.f3.params.toList ++ Rows.topTransferredSpec.plain.varTypes Tryz.prog).any (Tryz.prog.loopsFrom ·)) : Bool) = true := by kernel_rfl
theorem ttf17 : ((Rows.topTransferredRow.wideKeys == (Tryz.f3.params.toList ++ Rows.topTransferredSpec.plain.varTypes Tryz.prog ++ Tryz.f3.resultTypes.toList).any (Tryz.prog.wideKeysFrom ·)) : Bool) = true := by kernel_rfl
theorem ttf18 : (Rows.topTransferredSpec.vars.all (Tryz.prog.varReadable ·) : Bool) = true := by kernel_rfl
theorem ttf19 : (Tryz.f3.resultTypes.all (fun t => Tryz.prog.readableRec t && decide (t < Tryz.prog.types.size)) : Bool) = true := by kernel_rfl
theorem ttf20 : ((Rows.topTransferredRow.ifacesOut == Tryz.f3.resultTypes.toList.any (Tryz.prog.ifacesRec ·)) : Bool) = true := by kernel_rfl
theorem ttf21 : ((Rows.topTransferredRow.loopsOut == Tryz.f3.resultTypes.toList.any (Tryz.prog.loopsFrom ·)) : Bool) = true := by kernel_rfl
theorem ttf22 : ((Rows.topTransferredRow.plainKeys == Tryz.prog.plainKeys) : Bool) = true := by kernel_rfl
theorem ttf23 : (Rows.topTransferredRow.shortTexts.isNone : Bool) = true := by kernel_rfl
theorem ttf24 : (Tryz.prog.stopsHeard : Bool) = true := by kernel_rfl
theorem ttf25 : (Tryz.prog.mayEnter : Bool) = true := by kernel_rfl
theorem ttf26 : ((Rows.topTransferredRow.lifted == Tryz.prog.liftsFinal) : Bool) = true := by kernel_rfl
theorem ttf27 : ((Tryz.prog.make == some Rows.topTransferredRow.make) : Bool) = true := by kernel_rfl
theorem ttf28 : ((Rows.topTransferredRow.kinds == (if Rows.topTransferredRow.domain.isEmpty then [] else Tryz.f3.params.toList.map fun t => match Tryz.prog.underlying t with | some (.int k) => some k | _ => none)) : Bool) = true := by kernel_rfl
theorem ttf29 : ((Rows.topTransferredRow.pinned == Rows.topTransferredRow.pinnedBy) : Bool) = true := by kernel_rfl
theorem ttf30 : ((Rows.topTransferredRow.veiled == (Tryz.f3.params.toList ++ Rows.topTransferredSpec.plain.varTypes Tryz.prog ++ Tryz.f3.resultTypes.toList).any (Tryz.prog.veiledRec ·)) : Bool) = true := by kernel_rfl
theorem ttf31 : (Rows.topTransferredRow.veiledFits Tryz.prog Tryz.f3.params.toList (Tryz.f3.params.toList ++ Rows.topTransferredSpec.plain.varTypes Tryz.prog ++ Tryz.f3.resultTypes.toList) : Bool) = true := by kernel_rfl
theorem ttfAll : joinedFacts Tryz.prog 3 Tryz.f3 Rows.topTransferredSpec Rows.topTransferredRow = true := by
 unfold joinedFacts
 exact and_t (and_t (and_t (and_t (and_t (and_t (and_t (and_t (and_t (and_t (and_t (and_t (and_t (and_t (and_t (and_t (and_t (and_t (and_t (and_t (and_t (and_t (and_t (and_t (and_t (and_t (and_t (and_t (and_t (and_t (and_t (ttf0) ttf1) ttf2) ttf3) ttf4) ttf5) ttf6) ttf7) ttf8) ttf9) ttf10) ttf11) ttf12) ttf13) ttf14) ttf15) ttf16) ttf17) ttf18) ttf19) ttf20) ttf21) ttf22) ttf23) ttf24) ttf25) ttf26) ttf27) ttf28) ttf29) ttf30) ttf31
end Go.Proofs.YtnaglmigkbbljaaGreatDoor
