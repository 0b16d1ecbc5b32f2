/-
  The program as the abstract machine asks it.
-/
import Derived.Test.YtoigjpkdcadlnaaGreatDoorAmFast4
import Derived.KernelRfl
import Derived.Test.YtoigjpkdcadlnaaGreatDoorProg
namespace Go.Proofs.YtoigjpkdcadlnaaGreatDoor
open Go Go.AM

def same0 (f : FuncId) : Bool := Nat.beq f 279
def known0 (_ : FuncId) (_ : List AV) : Option AV := none

theorem names0 : (Tryz.prog.funcs.toList.all fun fn => !(fn.name == "runtime.NumGoroutine")) = true := by kernel_rfl

theorem noEscape (v : Value) (w : World) : (callFunc 279 #[v]).run Tryz.prog w = .ok (.value v) w := by kernel_rfl

theorem progOk0 : ProgOk Tryz.prog same0 known0 where
  mixed := by kernel_rfl
  name := fun f fn h => by
    have hm : fn ∈ Tryz.prog.funcs.toList := by
      rw [← Array.getElem?_toList] at h
      exact List.mem_of_getElem? h
    have := List.all_eq_true.mp names0 fn hm
    simpa using this
  same := fun f v w h => by
    obtain rfl : f = 279 := Nat.eq_of_beq_eq_true h
    exact noEscape v w
  known := fun _ _ _ h => by cases h
end Go.Proofs.YtoigjpkdcadlnaaGreatDoor
