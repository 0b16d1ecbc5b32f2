/-
  EpochNext: how many members a set has: set.Count at every set of servers, by the kernel.
-/
import Derived.Test.YtmcnpaehmnadeaaGreatDoorEaAB
set_option maxHeartbeats 6400000
set_option maxRecDepth 1000000
namespace Go.Proofs.YtmcnpaehmnadeaaGreatDoor
open Go Go.AM Go.RowKit
def popF (x : Nat) : Nat → Nat
 | 0 => 0
 | i + 1 => popF x i + (x >>> i) % 2
def outI (n : Nat) : Option (AV × St) → Bool
 | some (.int .i64 c, _) => (n : Int) == c
 | _ => false
theorem outI_some {n : Nat} {o : Option (AV × St)} (h : outI n o = true) : ∃ s, o = some (.int .i64 n, s) := by
 unfold outI at h
 split at h
 ·have := eq_of_beq h
  subst this
  exact ⟨_, rfl⟩
 ·cases h
noncomputable def cntB (x : Nat) : Bool := outI (popF x 16) ((runF Tryz.prog same0 known0 kindOf 60).call 161 [.int .u16 (x : Int)] s00)
set_option maxRecDepth 100000
theorem cnt0 : ((List.range 1024).all fun i => cntB (i + 0)) = true := by kernel_rfl
theorem cnt1 : ((List.range 1024).all fun i => cntB (i + 1024)) = true := by kernel_rfl
theorem cnt2 : ((List.range 1024).all fun i => cntB (i + 2048)) = true := by kernel_rfl
theorem cnt3 : ((List.range 1024).all fun i => cntB (i + 3072)) = true := by kernel_rfl
theorem cntAll (x : Nat) (hx : x < 4096) : cntB x = true := by
 have h : ∀ k, (((List.range 1024).all fun i => cntB (i + k)) = true) → k ≤ x → x < k + 1024 → cntB x = true := fun k hk h1 h2 => by
  have := List.all_eq_true.mp hk (x - k) (by simp; omega)
  rwa [Nat.sub_add_cancel h1] at this
 by_cases h1 : x < 1024
 ·exact h 0 cnt0 (by omega) (by omega)
 ·by_cases h2 : x < 2048
  ·exact h 1024 cnt1 (by omega) (by omega)
  ·by_cases h3 : x < 3072
   ·exact h 2048 cnt2 (by omega) (by omega)
   ·exact h 3072 cnt3 (by omega) (by omega)
def IsI (n : Int) (w : World) (e : Ending) (w' : World) : Prop := e = .returned (.int .i64 n) ∧ Below w.heap.size w w'
theorem count_ex (x : Nat) (hx : x < 4096) (w : World) : Calls Tryz.prog 161 #[.int .u16 (x : Int)] w (IsI (popF x 16) w) := by
 have h := cntAll x hx
 unfold cntB at h
 obtain ⟨s, hs⟩ := outI_some h
 rw [runF_eq] at hs
 refine ((plain_call progOk0 (args := [.int .u16 (x : Int)]) rfl rfl hs).2 μ0 [.int .u16 (x : Int)] w ⟨rfl, trivial⟩).mono ?_
 rintro e w' ⟨v', rfl, hv, hb⟩
 have e1 : v' = .int .i64 (popF x 16 : Nat) := hv
 subst e1
 exact ⟨rfl, hb⟩
end Go.Proofs.YtmcnpaehmnadeaaGreatDoor
