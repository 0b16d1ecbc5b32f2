/-
  EpochNext: the row's closed facts, one at a time.
-/
import Derived.Test.YtmcnpaehmnadeaaGreatDoorRows
import Derived.JoinedOf
import Derived.KernelRfl
set_option maxHeartbeats 6400000
set_option maxRecDepth 1000000
namespace Go.Proofs.YtmcnpaehmnadeaaGreatDoor
open Go
theorem and_t {a b : Bool} (ha : a = true) (hb : b = true) : (a && b) = true := by rw [ha, hb]; rfl
set_option maxRecDepth 100000
theorem enf0 : (Rows.epochNextRow.wf (OpenSpec.ofChange Rows.epochNextSpec) : Bool) = true := by kernel_rfl
theorem enf1 : (laidOutB Tryz.prog : Bool) = true := by kernel_rfl
theorem enf2 : (mapsRowed Tryz.prog : Bool) = true := by kernel_rfl
theorem enf3 : (Tryz.f4.params.all (Tryz.prog.readableRec ·) : Bool) = true := by kernel_rfl
theorem enf4 : (namedTie Tryz.prog Rows.epochNextRow.named Rows.epochNextSpec.vars : Bool) = true := by kernel_rfl
theorem enf5 : ((Rows.epochNextRow.stops == []) : Bool) = true := by kernel_rfl
theorem enf6 : ((Tryz.prog.stops == []) : Bool) = true := by kernel_rfl
theorem enf7 : ((Rows.epochNextRow.knobs == []) : Bool) = true := by kernel_rfl
theorem enf8 : ((Tryz.prog.stopKnobs == []) : Bool) = true := by kernel_rfl
theorem enf9 : ((Rows.epochNextRow.inPlace == Tryz.prog.inPlace 4) : Bool) = true := by kernel_rfl
theorem enf10 : ((Rows.epochNextRow.unfollowed == Tryz.prog.unfollowed 4) : Bool) = true := by kernel_rfl
theorem enf11 : ((Rows.epochNextRow.recurses == Tryz.prog.recurses 4) : Bool) = true := by kernel_rfl
theorem enf12 : ((Rows.epochNextRow.named == Tryz.prog.varsNamed 4) : Bool) = true := by kernel_rfl
theorem enf13 : ((Rows.epochNextRow.maps == (Tryz.f4.params.toList ++ Rows.epochNextSpec.plain.varTypes Tryz.prog).any (Tryz.prog.mapsRec ·)) : Bool) = true := by kernel_rfl
theorem enf14 : ((Rows.epochNextRow.ifaces == (Tryz.f4.params.toList ++ Rows.epochNextSpec.plain.varTypes Tryz.prog).any (Tryz.prog.ifacesRec ·)) : Bool) = true := by kernel_rfl
theorem enf15 : ((Rows.epochNextRow.mapsOut == Tryz.prog.mapsAmong Tryz.f4.resultTypes.toList) : Bool) = true := by kernel_rfl
theorem enf16 : ((Rows.epochNextRow.loops == (Tryz.f4.params.toList ++ Rows.epochNextSpec.plain.varTypes Tryz.prog).any (Tryz.prog.loopsFrom ·)) : Bool) = true := by kernel_rfl
theorem enf17 : ((Rows.epochNextRow.wideKeys == (Tryz.f4.params.toList ++ Rows.epochNextSpec.plain.varTypes Tryz.prog ++ Tryz.f4.resultTypes.toList).any (Tryz.prog.wideKeysFrom ·)) : Bool) = true := by kernel_rfl
theorem enf18 : (Rows.epochNextSpec.vars.all (Tryz.prog.varReadable ·) : Bool) = true := by kernel_rfl
theorem enf19 : (Tryz.f4.resultTypes.all (fun t => Tryz.prog.readableRec t && decide (t < Tryz.prog.types.size)) : Bool) = true := by kernel_rfl
theorem enf20 : ((Rows.epochNextRow.ifacesOut == Tryz.f4.resultTypes.toList.any (Tryz.prog.ifacesRec ·)) : Bool) = true := by kernel_rfl
theorem enf21 : ((Rows.epochNextRow.loopsOut == Tryz.f4.resultTypes.toList.any (Tryz.prog.loopsFrom ·)) : Bool) = true := by kernel_rfl
theorem enf22 : ((Rows.epochNextRow.plainKeys == Tryz.prog.plainKeys) : Bool) = true := by kernel_rfl
theorem enf23 : (Rows.epochNextRow.shortTexts.isNone : Bool) = true := by kernel_rfl
theorem enf24 : (Tryz.prog.stopsHeard : Bool) = true := by kernel_rfl
theorem enf25 : (Tryz.prog.mayEnter : Bool) = true := by kernel_rfl
theorem enf26 : ((Rows.epochNextRow.lifted == Tryz.prog.liftsFinal) : Bool) = true := by kernel_rfl
theorem enf27 : ((Tryz.prog.make == some Rows.epochNextRow.make) : Bool) = true := by kernel_rfl
theorem enf28 : ((Rows.epochNextRow.kinds == (if Rows.epochNextRow.domain.isEmpty then [] else Tryz.f4.params.toList.map fun t => match Tryz.prog.underlying t with | some (.int k) => some k | _ => none)) : Bool) = true := by kernel_rfl
theorem enf29 : ((Rows.epochNextRow.pinned == Rows.epochNextRow.pinnedBy) : Bool) = true := by kernel_rfl
theorem enf30 : ((Rows.epochNextRow.veiled == (Tryz.f4.params.toList ++ Rows.epochNextSpec.plain.varTypes Tryz.prog ++ Tryz.f4.resultTypes.toList).any (Tryz.prog.veiledRec ·)) : Bool) = true := by kernel_rfl
theorem enf31 : (Rows.epochNextRow.veiledFits Tryz.prog Tryz.f4.params.toList (Tryz.f4.params.toList ++ Rows.epochNextSpec.plain.varTypes Tryz.prog ++ Tryz.f4.resultTypes.toList) : Bool) = true := by kernel_rfl
theorem enfAll : joinedFacts Tryz.prog 4 Tryz.f4 Rows.epochNextSpec Rows.epochNextRow = true := by
 unfold joinedFacts
 exact and_t (and_t (and_t (and_t (and_t (and_t (and_t (and_t (and_t (and_t (and_t (and_t (and_t (and_t (and_t (and_t (and_t (and_t (and_t (and_t (and_t (and_t (and_t (and_t (and_t (and_t (and_t (and_t (and_t (and_t (and_t (enf0) enf1) enf2) enf3) enf4) enf5) enf6) enf7) enf8) enf9) enf10) enf11) enf12) enf13) enf14) enf15) enf16) enf17) enf18) enf19) enf20) enf21) enf22) enf23) enf24) enf25) enf26) enf27) enf28) enf29) enf30) enf31
end Go.Proofs.YtmcnpaehmnadeaaGreatDoor
