/-
  EpochOf: the row's closed facts, one at a time.
-/
import Derived.Test.YtmcnpaehmnadeaaGreatDoorRows
import Derived.JoinedOf
import Derived.KernelRfl
namespace Go.Proofs.YtmcnpaehmnadeaaGreatDoor
open Go
theorem and_t {a b : Bool} (ha : a = true) (hb : b = true) : (a && b) = true := by rw [ha, hb]; rfl
set_option maxRecDepth 100000
theorem exf0 : (Rows.epochOfRow.wf (OpenSpec.ofChange Rows.epochOfSpec) : Bool) = true := by kernel_rfl
theorem exf1 : (laidOutB Tryz.prog : Bool) = true := by kernel_rfl
theorem exf2 : (mapsRowed Tryz.prog : Bool) = true := by kernel_rfl
theorem exf3 : (Tryz.f3.params.all (Tryz.prog.readableRec ·) : Bool) = true := by kernel_rfl
theorem exf4 : (namedTie Tryz.prog Rows.epochOfRow.named Rows.epochOfSpec.vars : Bool) = true := by kernel_rfl
theorem exf5 : ((Rows.epochOfRow.stops == []) : Bool) = true := by kernel_rfl
theorem exf6 : ((Tryz.prog.stops == []) : Bool) = true := by kernel_rfl
theorem exf7 : ((Rows.epochOfRow.knobs == []) : Bool) = true := by kernel_rfl
theorem exf8 : ((Tryz.prog.stopKnobs == []) : Bool) = true := by kernel_rfl
theorem exf9 : ((Rows.epochOfRow.inPlace == Tryz.prog.inPlace 3) : Bool) = true := by kernel_rfl
theorem exf10 : ((Rows.epochOfRow.unfollowed == Tryz.prog.unfollowed 3) : Bool) = true := by kernel_rfl
theorem exf11 : ((Rows.epochOfRow.recurses == Tryz.prog.recurses 3) : Bool) = true := by kernel_rfl
theorem exf12 : ((Rows.epochOfRow.named == Tryz.prog.varsNamed 3) : Bool) = true := by kernel_rfl
theorem exf13 : ((Rows.epochOfRow.maps == (Tryz.f3.params.toList ++ Rows.epochOfSpec.plain.varTypes Tryz.prog).any (Tryz.prog.mapsRec ·)) : Bool) = true := by kernel_rfl
theorem exf14 : ((Rows.epochOfRow.ifaces == (Tryz.f3.params.toList ++ Rows.epochOfSpec.plain.varTypes Tryz.prog).any (Tryz.prog.ifacesRec ·)) : Bool) = true := by kernel_rfl
theorem exf15 : ((Rows.epochOfRow.mapsOut == Tryz.prog.mapsAmong Tryz.f3.resultTypes.toList) : Bool) = true := by kernel_rfl
theorem exf16 : ((Rows.epochOfRow.loops == (Tryz.f3.params.toList ++ Rows.epochOfSpec.plain.varTypes Tryz.prog).any (Tryz.prog.loopsFrom ·)) : Bool) = true := by kernel_rfl
theorem exf17 : ((Rows.epochOfRow.wideKeys == (Tryz.f3.params.toList ++ Rows.epochOfSpec.plain.varTypes Tryz.prog ++ Tryz.f3.resultTypes.toList).any (Tryz.prog.wideKeysFrom ·)) : Bool) = true := by kernel_rfl
theorem exf18 : (Rows.epochOfSpec.vars.all (Tryz.prog.varReadable ·) : Bool) = true := by kernel_rfl
theorem exf19 : (Tryz.f3.resultTypes.all (fun t => Tryz.prog.readableRec t && decide (t < Tryz.prog.types.size)) : Bool) = true := by kernel_rfl
theorem exf20 : ((Rows.epochOfRow.ifacesOut == Tryz.f3.resultTypes.toList.any (Tryz.prog.ifacesRec ·)) : Bool) = true := by kernel_rfl
theorem exf21 : ((Rows.epochOfRow.loopsOut == Tryz.f3.resultTypes.toList.any (Tryz.prog.loopsFrom ·)) : Bool) = true := by kernel_rfl
theorem exf22 : ((Rows.epochOfRow.plainKeys == Tryz.prog.plainKeys) : Bool) = true := by kernel_rfl
theorem exf23 : (Rows.epochOfRow.shortTexts.isNone : Bool) = true := by kernel_rfl
theorem exf24 : (Tryz.prog.stopsHeard : Bool) = true := by kernel_rfl
theorem exf25 : (Tryz.prog.mayEnter : Bool) = true := by kernel_rfl
theorem exf26 : ((Rows.epochOfRow.lifted == Tryz.prog.liftsFinal) : Bool) = true := by kernel_rfl
theorem exf27 : ((Tryz.prog.make == some Rows.epochOfRow.make) : Bool) = true := by kernel_rfl
theorem exf28 : ((Rows.epochOfRow.kinds == (if Rows.epochOfRow.domain.isEmpty then [] else Tryz.f3.params.toList.map fun t => match Tryz.prog.underlying t with | some (.int k) => some k | _ => none)) : Bool) = true := by kernel_rfl
theorem exf29 : ((Rows.epochOfRow.pinned == Rows.epochOfRow.pinnedBy) : Bool) = true := by kernel_rfl
theorem exf30 : ((Rows.epochOfRow.veiled == (Tryz.f3.params.toList ++ Rows.epochOfSpec.plain.varTypes Tryz.prog ++ Tryz.f3.resultTypes.toList).any (Tryz.prog.veiledRec ·)) : Bool) = true := by kernel_rfl
theorem exf31 : (Rows.epochOfRow.veiledFits Tryz.prog Tryz.f3.params.toList (Tryz.f3.params.toList ++ Rows.epochOfSpec.plain.varTypes Tryz.prog ++ Tryz.f3.resultTypes.toList) : Bool) = true := by kernel_rfl
theorem exfAll : joinedFacts Tryz.prog 3 Tryz.f3 Rows.epochOfSpec Rows.epochOfRow = true := by
  unfold joinedFacts
  exact and_t (and_t (and_t (and_t (and_t (and_t (and_t (and_t (and_t (and_t (and_t (and_t (and_t (and_t (and_t (and_t (and_t (and_t (and_t (and_t (and_t (and_t (and_t (and_t (and_t (and_t (and_t (and_t (and_t (and_t (and_t (exf0) exf1) exf2) exf3) exf4) exf5) exf6) exf7) exf8) exf9) exf10) exf11) exf12) exf13) exf14) exf15) exf16) exf17) exf18) exf19) exf20) exf21) exf22) exf23) exf24) exf25) exf26) exf27) exf28) exf29) exf30) exf31
end Go.Proofs.YtmcnpaehmnadeaaGreatDoor
