/-
  LeaseTake: the closed facts of the row of the second form, one at a time.
-/
import Derived.Test.YtoigjpkdcadlnaaGreatDoorRows
import Derived.JoinedOf
import Derived.KernelRfl
import Derived.JoinedCond
namespace Go.Proofs.YtoigjpkdcadlnaaGreatDoor
open Go
theorem and_tt {a b : Bool} (ha : a = true) (hb : b = true) : (a && b) = true := by rw [ha, hb]; rfl
set_option maxRecDepth 100000
theorem ltf0 : (Rows.leaseTakeUptoRow.wf (OpenSpec.ofChange (Rows.OpenSpec.upto Rows.leaseTakeSpec).bare) : Bool) = true := by kernel_rfl
theorem ltf1 : (laidOutB Tryz.prog : Bool) = true := by kernel_rfl
theorem ltf2 : (mapsRowed Tryz.prog : Bool) = true := by kernel_rfl
theorem ltf3 : (Tryz.f3.params.all (Tryz.prog.readableRec ·) : Bool) = true := by kernel_rfl
theorem ltf4 : (namedTie Tryz.prog Rows.leaseTakeUptoRow.named (Rows.OpenSpec.upto Rows.leaseTakeSpec).bare.vars : Bool) = true := by kernel_rfl
theorem ltf5 : ((Rows.leaseTakeUptoRow.stops == []) : Bool) = true := by kernel_rfl
theorem ltf6 : ((Tryz.prog.stops == []) : Bool) = true := by kernel_rfl
theorem ltf7 : ((Rows.leaseTakeUptoRow.knobs == []) : Bool) = true := by kernel_rfl
theorem ltf8 : ((Tryz.prog.stopKnobs == []) : Bool) = true := by kernel_rfl
theorem ltf9 : ((Rows.leaseTakeUptoRow.inPlace == Tryz.prog.inPlace 3) : Bool) = true := by kernel_rfl
theorem ltf10 : ((Rows.leaseTakeUptoRow.unfollowed == Tryz.prog.unfollowed 3) : Bool) = true := by kernel_rfl
theorem ltf11 : ((Rows.leaseTakeUptoRow.recurses == Tryz.prog.recurses 3) : Bool) = true := by kernel_rfl
theorem ltf12 : ((Rows.leaseTakeUptoRow.named == Tryz.prog.varsNamed 3) : Bool) = true := by kernel_rfl
theorem ltf13 : ((Rows.leaseTakeUptoRow.maps == (Tryz.f3.params.toList ++ (Rows.OpenSpec.upto Rows.leaseTakeSpec).bare.plain.varTypes Tryz.prog).any (Tryz.prog.mapsRec ·)) : Bool) = true := by kernel_rfl
theorem ltf14 : ((Rows.leaseTakeUptoRow.ifaces == (Tryz.f3.params.toList ++ (Rows.OpenSpec.upto Rows.leaseTakeSpec).bare.plain.varTypes Tryz.prog).any (Tryz.prog.ifacesRec ·)) : Bool) = true := by kernel_rfl
theorem ltf15 : ((Rows.leaseTakeUptoRow.mapsOut == Tryz.prog.mapsAmong Tryz.f3.resultTypes.toList) : Bool) = true := by kernel_rfl
theorem ltf16 : ((Rows.leaseTakeUptoRow.loops == (Tryz.f3.params.toList ++ (Rows.OpenSpec.upto Rows.leaseTakeSpec).bare.plain.varTypes Tryz.prog).any (Tryz.prog.loopsFrom ·)) : Bool) = true := by kernel_rfl
theorem ltf17 : ((Rows.leaseTakeUptoRow.wideKeys == (Tryz.f3.params.toList ++ (Rows.OpenSpec.upto Rows.leaseTakeSpec).bare.plain.varTypes Tryz.prog ++ Tryz.f3.resultTypes.toList).any (Tryz.prog.wideKeysFrom ·)) : Bool) = true := by kernel_rfl
theorem ltf18 : ((Rows.OpenSpec.upto Rows.leaseTakeSpec).bare.vars.all (Tryz.prog.varReadable ·) : Bool) = true := by kernel_rfl
theorem ltf19 : (Tryz.f3.resultTypes.all (fun t => Tryz.prog.readableRec t && decide (t < Tryz.prog.types.size)) : Bool) = true := by kernel_rfl
theorem ltf20 : ((Rows.leaseTakeUptoRow.ifacesOut == Tryz.f3.resultTypes.toList.any (Tryz.prog.ifacesRec ·)) : Bool) = true := by kernel_rfl
theorem ltf21 : ((Rows.leaseTakeUptoRow.loopsOut == Tryz.f3.resultTypes.toList.any (Tryz.prog.loopsFrom ·)) : Bool) = true := by kernel_rfl
theorem ltf22 : ((Rows.leaseTakeUptoRow.plainKeys == Tryz.prog.plainKeys) : Bool) = true := by kernel_rfl
theorem ltf23 : (Rows.leaseTakeUptoRow.shortTexts.isNone : Bool) = true := by kernel_rfl
theorem ltf24 : (Tryz.prog.stopsHeard : Bool) = true := by kernel_rfl
theorem ltf25 : (Tryz.prog.mayEnter : Bool) = true := by kernel_rfl
theorem ltf26 : ((Rows.leaseTakeUptoRow.lifted == Tryz.prog.liftsFinal) : Bool) = true := by kernel_rfl
theorem ltf27 : ((Tryz.prog.make == some Rows.leaseTakeUptoRow.make) : Bool) = true := by kernel_rfl
theorem ltf28 : ((Rows.leaseTakeUptoRow.kinds == (if Rows.leaseTakeUptoRow.domain.isEmpty then [] else Tryz.f3.params.toList.map fun t => match Tryz.prog.underlying t with | some (.int k) => some k | _ => none)) : Bool) = true := by kernel_rfl
theorem ltf29 : ((Rows.leaseTakeUptoRow.pinned == Rows.leaseTakeUptoRow.pinnedBy) : Bool) = true := by kernel_rfl
theorem ltf30 : ((Rows.leaseTakeUptoRow.veiled == (Tryz.f3.params.toList ++ (Rows.OpenSpec.upto Rows.leaseTakeSpec).bare.plain.varTypes Tryz.prog ++ Tryz.f3.resultTypes.toList).any (Tryz.prog.veiledRec ·)) : Bool) = true := by kernel_rfl
theorem ltf31 : (Rows.leaseTakeUptoRow.veiledFits Tryz.prog Tryz.f3.params.toList (Tryz.f3.params.toList ++ (Rows.OpenSpec.upto Rows.leaseTakeSpec).bare.plain.varTypes Tryz.prog ++ Tryz.f3.resultTypes.toList) : Bool) = true := by kernel_rfl
theorem ltfAll : joinedFacts Tryz.prog 3 Tryz.f3 (Rows.OpenSpec.upto Rows.leaseTakeSpec).bare Rows.leaseTakeUptoRow = true := by
  unfold joinedFacts
  exact and_tt (and_tt (and_tt (and_tt (and_tt (and_tt (and_tt (and_tt (and_tt (and_tt (and_tt (and_tt (and_tt (and_tt (and_tt (and_tt (and_tt (and_tt (and_tt (and_tt (and_tt (and_tt (and_tt (and_tt (and_tt (and_tt (and_tt (and_tt (and_tt (and_tt (and_tt (ltf0) ltf1) ltf2) ltf3) ltf4) ltf5) ltf6) ltf7) ltf8) ltf9) ltf10) ltf11) ltf12) ltf13) ltf14) ltf15) ltf16) ltf17) ltf18) ltf19) ltf20) ltf21) ltf22) ltf23) ltf24) ltf25) ltf26) ltf27) ltf28) ltf29) ltf30) ltf31
end Go.Proofs.YtoigjpkdcadlnaaGreatDoor
