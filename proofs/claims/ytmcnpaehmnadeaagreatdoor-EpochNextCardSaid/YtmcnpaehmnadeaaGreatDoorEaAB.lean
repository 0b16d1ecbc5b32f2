/-
  The program as the abstract machine asks it; awake returns true.
-/
import Derived.Test.YtmcnpaehmnadeaaGreatDoorAmF
import Derived.KernelRfl
import Derived.Test.YtmcnpaehmnadeaaGreatDoorProg
set_option maxHeartbeats 6400000
set_option maxRecDepth 1000000
namespace Go.Proofs.YtmcnpaehmnadeaaGreatDoor
open Go Go.AM Go.RowKit
def same0 (f : FuncId) : Bool := Nat.beq f 153
def known0 (_ : FuncId) (_ : List AV) : Option AV := none
theorem names0 : (Tryz.prog.funcs.toList.all fun fn => !(fn.name == "runtime.NumGoroutine")) = true := by kernel_rfl
theorem noEscape (v : Value) (w : World) : (callFunc 153 #[v]).run Tryz.prog w = .ok (.value v) w := by kernel_rfl
theorem progOk0 : ProgOk Tryz.prog same0 known0 where
 mixed := by kernel_rfl
 name := fun f fn h => by
  have hm : fn ∈ Tryz.prog.funcs.toList := by
   rw [← Array.getElem?_toList] at h
   exact List.mem_of_getElem? h
  have := List.all_eq_true.mp names0 fn hm
  simpa using this
 same := fun f v w h => by
  obtain rfl : f = 153 := Nat.eq_of_beq_eq_true h
  exact noEscape v w
 known := fun _ _ _ h => by cases h
def outB (b : Bool) : Option (AV × St) → Bool
 | some (.bool c, _) => b == c
 | _ => false
theorem outB_some {b : Bool} {o : Option (AV × St)} (h : outB b o = true) : ∃ s, o = some (.bool b, s) := by
 match o, h with
 | some (.bool c, s), h =>
  have : b = c := by simpa [outB] using h
  exact ⟨s, by rw [this]⟩
theorem awakeRun : outB true ((runF Tryz.prog same0 known0 kindOf 3000).call 6 [] s00) = true := by kernel_rfl
def Awake : Prop := ∀ W : World, Calls Tryz.prog 6 #[] W fun e w' => e = .returned (.bool true) ∧ Below W.heap.size W w'
theorem awake_true : Awake := fun W => by
 obtain ⟨s, hs⟩ := outB_some awakeRun
 rw [runF_eq] at hs
 exact closed_bool progOk0 hs W
end Go.Proofs.YtmcnpaehmnadeaaGreatDoor
/-
  The values that turn an epoch: both Decodes, and the values of their entries, by the kernel.
-/
namespace Go.Proofs.YtmcnpaehmnadeaaGreatDoor
open Go Go.AM Go.RowKit
def jS (c : Nat) : List UInt8 := [2, 4, 106, 111, 105, 110, 1, UInt8.ofNat (48 + c)]
def fS : List UInt8 := [1, 6, 102, 105, 110, 105, 115, 104]
def outE (k c : Int) : Option (AV × St) → Bool
 | some (.tuple [.agg [.int .i64 k', .int .i64 c', .nilSlice], .int .i64 e], _) => k == k' && c == c' && e == 0
 | _ => false
theorem outE_some {k c : Int} {o : Option (AV × St)} (h : outE k c o = true) : ∃ s, o = some (.tuple [.agg [.int .i64 k, .int .i64 c, .nilSlice], .int .i64 0], s) := by
 unfold outE at h
 split at h
 ·simp only [Bool.and_eq_true, beq_iff_eq] at h
  obtain ⟨⟨rfl, rfl⟩, rfl⟩ := h
  exact ⟨_, rfl⟩
 ·cases h
def outS (b : List UInt8) : Option (AV × St) → Bool
 | some (.str c, _) => b == c
 | _ => false
theorem outS_some {b : List UInt8} {o : Option (AV × St)} (h : outS b o = true) : ∃ s, o = some (.str b, s) := by
 unfold outS at h
 split at h
 ·have := eq_of_beq h
  subst this
  exact ⟨_, rfl⟩
 ·cases h
theorem decRun : ((List.range 6).all fun c => outE 2 c ((runF Tryz.prog same0 known0 kindOf 3000).call 23 [.str (jS c)] s00)) = true := by kernel_rfl
theorem decRunF : outE 3 0 ((runF Tryz.prog same0 known0 kindOf 3000).call 23 [.str fS] s00) = true := by kernel_rfl
theorem refRun : ((List.range 6).all fun c => outE 2 c ((runF Tryz.prog same0 known0 kindOf 3000).call 31 [.str (jS c)] s00)) = true := by kernel_rfl
theorem refRunF : outE 3 0 ((runF Tryz.prog same0 known0 kindOf 3000).call 31 [.str fS] s00) = true := by kernel_rfl
theorem valRun : ((List.range 6).all fun c => outS (jS c) ((runF Tryz.prog same0 known0 kindOf 3000).call 39 [.agg [.int .i64 2, .int .i64 (c : Int), .nilSlice]] s00)) = true := by kernel_rfl
theorem valRunF : outS fS ((runF Tryz.prog same0 known0 kindOf 3000).call 39 [.agg [.int .i64 3, .int .i64 0, .nilSlice]] s00) = true := by kernel_rfl
theorem rvalRun : ((List.range 6).all fun c => outS (jS c) ((runF Tryz.prog same0 known0 kindOf 3000).call 50 [.agg [.int .i64 2, .int .i64 (c : Int), .nilSlice]] s00)) = true := by kernel_rfl
theorem rvalRunF : outS fS ((runF Tryz.prog same0 known0 kindOf 3000).call 50 [.agg [.int .i64 3, .int .i64 0, .nilSlice]] s00) = true := by kernel_rfl
end Go.Proofs.YtmcnpaehmnadeaaGreatDoor
