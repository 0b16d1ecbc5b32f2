/-
  The five sums are known.
-/
import Derived.Test.YtoigjpkdcadlnaaGreatDoorAwH0
import Derived.Test.YtoigjpkdcadlnaaGreatDoorAwH1
import Derived.Test.YtoigjpkdcadlnaaGreatDoorAwH2
import Derived.Test.YtoigjpkdcadlnaaGreatDoorAwH3
import Derived.Test.YtoigjpkdcadlnaaGreatDoorAwH4
namespace Go.Proofs.YtoigjpkdcadlnaaGreatDoor
open Go Go.AM Go.RowKit
theorem learn {a b : List UInt8} (h : outS b ((runF Tryz.prog same0 known0 kindOf 3000).call 79 [.str a] s00) = true) :
    plainV (.str b) = true ∧ (∀ vs w, (callFunc 79 vs).run Tryz.prog w = .ok (.enter 79 vs) w) ∧
    ∀ μ vs w, LR (VR μ) [.str a] vs → Calls Tryz.prog 79 vs.toArray w fun e w' => ∃ v', e = .returned v' ∧ VR μ (.str b) v' ∧ Below w.heap.size w w' := by
  obtain ⟨s, hs⟩ := outS_some h
  rw [runF_eq] at hs
  exact ⟨rfl, plain_call progOk0 (args := [.str a]) rfl rfl hs⟩
theorem progOk1 : ProgOk Tryz.prog same0 kn where
  mixed := progOk0.mixed
  name := progOk0.name
  same := progOk0.same
  known := fun f args v h => by
    have hh := kn_some h
    clear h
    obtain ⟨rfl, hh⟩ := hh
    rcases hh with ⟨rfl, rfl⟩ | ⟨rfl, rfl⟩ | ⟨rfl, rfl⟩ | ⟨rfl, rfl⟩ | ⟨rfl, rfl⟩
    · exact learn hex0
    · exact learn hex1
    · exact learn hex2
    · exact learn hex3
    · exact learn hex4
end Go.Proofs.YtoigjpkdcadlnaaGreatDoor
