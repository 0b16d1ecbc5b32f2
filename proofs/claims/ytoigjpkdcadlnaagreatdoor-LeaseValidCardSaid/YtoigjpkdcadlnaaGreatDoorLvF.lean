/-
  LeaseValid: the row's closed facts, one at a time.
-/
import Derived.Test.YtoigjpkdcadlnaaGreatDoorRows
import Derived.JoinedOf
import Derived.KernelRfl
namespace Go.Proofs.YtoigjpkdcadlnaaGreatDoor
open Go
theorem and_t {a b : Bool} (ha : a = true) (hb : b = true) : (a && b) = true := by rw [ha, hb]; rfl
set_option maxRecDepth 100000
theorem lvf0 : (Rows.leaseValidRow.wf (OpenSpec.ofChange Rows.leaseValidSpec) : Bool) = true := by kernel_rfl
theorem lvf1 : (laidOutB Tryz.prog : Bool) = true := by kernel_rfl
theorem lvf2 : (mapsRowed Tryz.prog : Bool) = true := by kernel_rfl
theorem lvf3 : (Tryz.f4.params.all (Tryz.prog.readableRec ·) : Bool) = true := by kernel_rfl
theorem lvf4 : (namedTie Tryz.prog Rows.leaseValidRow.named Rows.leaseValidSpec.vars : Bool) = true := by kernel_rfl
theorem lvf5 : ((Rows.leaseValidRow.stops == []) : Bool) = true := by kernel_rfl
theorem lvf6 : ((Tryz.prog.stops == []) : Bool) = true := by kernel_rfl
theorem lvf7 : ((Rows.leaseValidRow.knobs == []) : Bool) = true := by kernel_rfl
theorem lvf8 : ((Tryz.prog.stopKnobs == []) : Bool) = true := by kernel_rfl
theorem lvf9 : ((Rows.leaseValidRow.inPlace == Tryz.prog.inPlace 4) : Bool) = true := by kernel_rfl
theorem lvf10 : ((Rows.leaseValidRow.unfollowed == Tryz.prog.unfollowed 4) : Bool) = true := by kernel_rfl
theorem lvf11 : ((Rows.leaseValidRow.recurses == Tryz.prog.recurses 4) : Bool) = true := by kernel_rfl
theorem lvf12 : ((Rows.leaseValidRow.named == Tryz.prog.varsNamed 4) : Bool) = true := by kernel_rfl
theorem lvf13 : ((Rows.leaseValidRow.maps == (Tryz.f4.params.toList ++ Rows.leaseValidSpec.plain.varTypes Tryz.prog).any (Tryz.prog.mapsRec ·)) : Bool) = true := by kernel_rfl
theorem lvf14 : ((Rows.leaseValidRow.ifaces == (Tryz.f4.params.toList ++ Rows.leaseValidSpec.plain.varTypes Tryz.prog).any (Tryz.prog.ifacesRec ·)) : Bool) = true := by kernel_rfl
theorem lvf15 : ((Rows.leaseValidRow.mapsOut == Tryz.prog.mapsAmong Tryz.f4.resultTypes.toList) : Bool) = true := by kernel_rfl
theorem lvf16 : ((Rows.leaseValidRow.loops == (Tryz.f4.params.toList ++ Rows.leaseValidSpec.plain.varTypes Tryz.prog).any (Tryz.prog.loopsFrom ·)) : Bool) = true := by kernel_rfl
theorem lvf17 : ((Rows.leaseValidRow.wideKeys == (Tryz.f4.params.toList ++ Rows.leaseValidSpec.plain.varTypes Tryz.prog ++ Tryz.f4.resultTypes.toList).any (Tryz.prog.wideKeysFrom ·)) : Bool) = true := by kernel_rfl
theorem lvf18 : (Rows.leaseValidSpec.vars.all (Tryz.prog.varReadable ·) : Bool) = true := by kernel_rfl
theorem lvf19 : (Tryz.f4.resultTypes.all (fun t => Tryz.prog.readableRec t && decide (t < Tryz.prog.types.size)) : Bool) = true := by kernel_rfl
theorem lvf20 : ((Rows.leaseValidRow.ifacesOut == Tryz.f4.resultTypes.toList.any (Tryz.prog.ifacesRec ·)) : Bool) = true := by kernel_rfl
theorem lvf21 : ((Rows.leaseValidRow.loopsOut == Tryz.f4.resultTypes.toList.any (Tryz.prog.loopsFrom ·)) : Bool) = true := by kernel_rfl
theorem lvf22 : ((Rows.leaseValidRow.plainKeys == Tryz.prog.plainKeys) : Bool) = true := by kernel_rfl
theorem lvf23 : (Rows.leaseValidRow.shortTexts.isNone : Bool) = true := by kernel_rfl
theorem lvf24 : (Tryz.prog.stopsHeard : Bool) = true := by kernel_rfl
theorem lvf25 : (Tryz.prog.mayEnter : Bool) = true := by kernel_rfl
theorem lvf26 : ((Rows.leaseValidRow.lifted == Tryz.prog.liftsFinal) : Bool) = true := by kernel_rfl
theorem lvf27 : ((Tryz.prog.make == some Rows.leaseValidRow.make) : Bool) = true := by kernel_rfl
theorem lvf28 : ((Rows.leaseValidRow.kinds == (if Rows.leaseValidRow.domain.isEmpty then [] else Tryz.f4.params.toList.map fun t => match Tryz.prog.underlying t with | some (.int k) => some k | _ => none)) : Bool) = true := by kernel_rfl
theorem lvf29 : ((Rows.leaseValidRow.pinned == Rows.leaseValidRow.pinnedBy) : Bool) = true := by kernel_rfl
theorem lvf30 : ((Rows.leaseValidRow.veiled == (Tryz.f4.params.toList ++ Rows.leaseValidSpec.plain.varTypes Tryz.prog ++ Tryz.f4.resultTypes.toList).any (Tryz.prog.veiledRec ·)) : Bool) = true := by kernel_rfl
theorem lvf31 : (Rows.leaseValidRow.veiledFits Tryz.prog Tryz.f4.params.toList (Tryz.f4.params.toList ++ Rows.leaseValidSpec.plain.varTypes Tryz.prog ++ Tryz.f4.resultTypes.toList) : Bool) = true := by kernel_rfl
theorem lvfAll : joinedFacts Tryz.prog 4 Tryz.f4 Rows.leaseValidSpec Rows.leaseValidRow = true := by
  unfold joinedFacts
  exact and_t (and_t (and_t (and_t (and_t (and_t (and_t (and_t (and_t (and_t (and_t (and_t (and_t (and_t (and_t (and_t (and_t (and_t (and_t (and_t (and_t (and_t (and_t (and_t (and_t (and_t (and_t (and_t (and_t (and_t (and_t (lvf0) lvf1) lvf2) lvf3) lvf4) lvf5) lvf6) lvf7) lvf8) lvf9) lvf10) lvf11) lvf12) lvf13) lvf14) lvf15) lvf16) lvf17) lvf18) lvf19) lvf20) lvf21) lvf22) lvf23) lvf24) lvf25) lvf26) lvf27) lvf28) lvf29) lvf30) lvf31
end Go.Proofs.YtoigjpkdcadlnaaGreatDoor
