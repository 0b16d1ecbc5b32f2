/-
  The two strings whose sums awake47 asks for, and their sums; what store.Chunks and Choose come to there.
-/
import Derived.Test.YtnaglmigkbbljaaGreatDoorTbATbC
set_option maxHeartbeats 6400000
set_option maxRecDepth 1000000
namespace Go.Proofs.YtnaglmigkbbljaaGreatDoor
open Go Go.AM
noncomputable section
def hi0 : List UInt8 := [108, 101, 97, 102, 0]
def ho0 : List UInt8 := [53, 50, 98, 97, 102, 102, 57, 98, 50, 52, 54, 52, 102, 98, 101, 102, 48, 55, 52, 50, 52, 102, 97, 57, 54, 55, 56, 98, 48, 57, 57, 55, 99, 97, 102, 50, 56, 50, 52, 101, 48, 52, 48, 56, 101, 98, 98, 55, 49, 99, 54, 48, 99, 57, 101, 48, 99, 53, 56, 54, 102, 50, 99, 102]
def hi1 : List UInt8 := [114, 111, 111, 116, 49, 32, 53, 50, 98, 97, 102, 102, 57, 98, 50, 52, 54, 52, 102, 98, 101, 102, 48, 55, 52, 50, 52, 102, 97, 57, 54, 55, 56, 98, 48, 57, 57, 55, 99, 97, 102, 50, 56, 50, 52, 101, 48, 52, 48, 56, 101, 98, 98, 55, 49, 99, 54, 48, 99, 57, 101, 48, 99, 53, 56, 54, 102, 50, 99, 102]
def ho1 : List UInt8 := [48, 54, 49, 99, 56, 57, 50, 99, 100, 51, 55, 54, 53, 50, 53, 52, 101, 52, 54, 101, 51, 56, 100, 51, 54, 53, 51, 48, 101, 54, 100, 99, 99, 55, 49, 52, 101, 100, 99, 51, 100, 48, 100, 50, 53, 50, 52, 56, 52, 100, 55, 55, 50, 51, 51, 50, 101, 50, 102, 98, 98, 57, 49, 56]
def outS (b : List UInt8) : Option (AV × St) → Bool
 | some (.str c, _) => b == c
 | _ => false
theorem outS_some {b : List UInt8} {o : Option (AV × St)} (h : outS b o = true) : ∃ s, o = some (.str b, s) := by
 unfold outS at h
 split at h
 ·have := eq_of_beq h
  subst this
  exact ⟨_, rfl⟩
 ·cases h
def outB (b : Bool) : Option (AV × St) → Bool
 | some (.bool c, _) => b == c
 | _ => false
theorem outB_some {b : Bool} {o : Option (AV × St)} (h : outB b o = true) : ∃ s, o = some (.bool b, s) := by
 match o, h with
 | some (.bool c, s), h =>
  have : b = c := by simpa [outB] using h
  exact ⟨s, by rw [this]⟩
def lk (s : List UInt8) : Option AV :=
 bif beqB hi0 s then some (.str ho0) else
 bif beqB hi1 s then some (.str ho1) else
 none
def k1 (a : AV) (r : List AV) : Option AV := match a, r with
 | .str s, [] => lk s
 | _, _ => none
def k2 (l : List AV) : Option AV := match l with
 | [.nilSlice, .int .i64 n] => bif (n == 8) then some (.tuple [.nilSlice, .int .i64 0]) else none
 | _ => none
def kn (f : FuncId) (l : List AV) : Option AV :=
 Bool.rec (motive := fun _ => Option AV) (Bool.rec (motive := fun _ => Option AV) none (k2 l) (Nat.beq f 35)) (List.rec (motive := fun _ => Option AV) none (fun a r _ => k1 a r) l) (Nat.beq f 15)
def s1 (l : List AV) (s : St) : Option (AV × St) := match l with
 | [.int .u16 n, .int .i64 k] => bif (n == 7) && (k == 2) then (match AM.newRow s 61 [.int .u16 3, .int .u16 5, .int .u16 6] with | (a, s) => some (.slice a 3 1, s)) else none
 | _ => none
def sp (f : FuncId) (l : List AV) (s : St) : Option (AV × St) := Bool.rec (motive := fun _ => Option (AV × St)) none (s1 l s) (Nat.beq f 155)
end
end Go.Proofs.YtnaglmigkbbljaaGreatDoor
