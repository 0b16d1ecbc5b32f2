/-
  lease.Valid and its reference: what they answer.
-/
import Derived.Test.YtoigjpkdcadlnaaGreatDoorProg
import Derived.WalkKit
import Derived.KernelRfl
import Derived.Lib.Hide
import Derived.Deep.QuietTactic
import Derived.BigQuiet
namespace Go.Proofs.YtoigjpkdcadlnaaGreatDoor
open Go Go.RowKit

/-- one grant is right behind the one before it -/
def Good (sv un : Nat → Int) (i : Nat) : Prop := 0 ≤ sv i ∧ sv i < 12 ∧ 0 ≤ un i ∧ (i = 0 ∨ sv (i - 1) < sv i)
def VOk (view : Int) (n : Nat) (sv un : Nat → Int) : Prop := 0 ≤ view ∧ view ≤ 2147483647 ∧ (view = 0 → n = 0) ∧ ∀ i, i < n → Good sv un i
noncomputable def vB (view : Int) (n : Nat) (sv un : Nat → Int) : Bool := @decide (VOk view n sv un) (Classical.propDecidable _)

def lastV (sv : Nat → Int) (k : Nat) : Int := if k = 0 then -1 else sv (k - 1)
def LastAt (sv : Nat → Int) (k : Nat) (l : Value) : Prop := l = .int .i64 (lastV sv k)

theorem vB_false {view : Int} {n : Nat} {sv un : Nat → Int} (h : ¬ (0 ≤ view ∧ view ≤ 2147483647 ∧ (view = 0 → n = 0))) : false = vB view n sv un :=
  (@decide_eq_false _ (Classical.propDecidable _) fun ⟨a, b, c, _⟩ => h ⟨a, b, c⟩).symm
theorem vB_bad {view : Int} {n : Nat} {sv un : Nat → Int} {k : Nat} (hk : k < n) (h : ¬ Good sv un k) : false = vB view n sv un :=
  (@decide_eq_false _ (Classical.propDecidable _) fun ⟨_, _, _, d⟩ => h (d k hk)).symm
theorem vB_good {view : Int} {n : Nat} {sv un : Nat → Int} (h : VOk view n sv un) : true = vB view n sv un :=
  (@decide_eq_true _ (Classical.propDecidable _) h).symm
theorem bad_last {sv un : Nat → Int} {k : Nat} (h : sv k ≤ lastV sv k) : ¬ Good sv un k := by
  rintro ⟨h0, _, _, h3⟩
  unfold lastV at h
  split at h
  · omega
  · rcases h3 with h3 | h3 <;> omega
theorem bad_high {sv un : Nat → Int} {k : Nat} (h : 12 ≤ sv k) : ¬ Good sv un k := fun ⟨_, h1, _, _⟩ => by omega
theorem bad_until {sv un : Nat → Int} {k : Nat} (h : un k < 0) : ¬ Good sv un k := fun ⟨_, _, h1, _⟩ => by omega
theorem good_next {sv un : Nat → Int} {k : Nat} (hg : ∀ j, j < k → Good sv un j) (h1 : lastV sv k < sv k) (h2 : sv k < 12) (h3 : 0 ≤ un k) : ∀ j, j < k + 1 → Good sv un j := by
  intro j hj
  by_cases h : j = k
  · subst h
    unfold lastV at h1
    split at h1
    · rename_i h0; exact ⟨by omega, h2, h3, .inl h0⟩
    · rename_i h0
      have := (hg (j - 1) (by omega)).1
      exact ⟨by omega, h2, h3, .inr h1⟩
  · exact hg j (by omega)
theorem last_next (sv : Nat → Int) (k : Nat) : sv k = lastV sv (k + 1) := by
  unfold lastV; rw [if_neg (by omega)]; rfl

theorem Tryz.info41 : (Tryz.prog.info? 41).map (fun i => (i.zero, i.size)) = some (some (.agg #[.int .i64 0, .int .i64 0]), 2) := by kernel_rfl

set_option maxHeartbeats 1600000 in
set_option maxRecDepth 1000000 in
theorem leaseValid_any (view : Int) (b off n cap : Nat) (sv un : Nat → Int) (w : World) (hn : n ≤ 9223372036854775807) (hb : b < w.heap.size)
    (h1 : ∀ i, i < n → w.cell? ⟨b, off + i * 2, none⟩ = some (.int .i64 (sv i))) (h2 : ∀ i, i < n → w.cell? ⟨b, off + i * 2 + 1, none⟩ = some (.int .i64 (un i))) :
    Calls Tryz.prog 11 #[.agg #[.int .i64 view, .slice (some ⟨b, off, none⟩) n cap]] w fun e w' => e = .returned (.bool (vB view n sv un)) ∧ Below w.heap.size w w' := by
  go_enter Tryz.func11, Tryz.ntmps11
  go_wp2
  all_goals first
    | (go_ret; exact ⟨congrArg (fun b => Ending.returned (.bool b)) (vB_false (by omega)), (Below.refl _ _).alloc (Nat.le_refl _) _⟩)
    | skip
  all_goals
    go_loopw [3, 28] (fun l i wr => ∃ k : Nat, k ≤ n ∧ i = .int .i64 k ∧ l = .int .i64 (lastV sv k) ∧ (∀ j, j < k → Good sv un j) ∧ Below w.heap.size w wr) (fun _ i _ => n - (intOf i).toNat)
    case atStart => exact ⟨0, Nat.zero_le _, rfl, rfl, fun j hj => absurd hj (Nat.not_lt_zero j), (Below.refl _ _).alloc (Nat.le_refl _) _⟩
    case round =>
      obtain ⟨k, hk, rfl, rfl, hg, hbl⟩ := hrel
      have hc1 : k < n → wr.cell? ⟨b, off + k * 2, none⟩ = some (.int .i64 (sv k)) := fun h => (hbl.cell (by exact hb)).trans (h1 k h)
      have hc2 : k < n → wr.cell? ⟨b, off + k * 2 + 1, none⟩ = some (.int .i64 (un k)) := fun h => (hbl.cell (by exact hb)).trans (h2 k h)
      go_wp2
      all_goals first
        | (go_roundw
           case rel => exact ⟨k + 1, by omega, by go_num, by rw [← last_next], good_next hg (by omega) (by omega) (by omega), hbl.alloc (by have := hbl.size; omega) _⟩
           case measure => simp [intOf]; omega)
        | (go_ret; exact ⟨congrArg (fun b => Ending.returned (.bool b)) (vB_good ⟨by omega, by omega, fun h => by omega, fun i hi => hg i (by omega)⟩), hbl⟩)
        | (go_ret; exact ⟨congrArg (fun b => Ending.returned (.bool b)) (vB_bad (k := k) (by omega) (bad_last (by omega))), hbl.alloc (by have := hbl.size; omega) _⟩)
        | (go_ret; exact ⟨congrArg (fun b => Ending.returned (.bool b)) (vB_bad (k := k) (by omega) (bad_high (by omega))), hbl.alloc (by have := hbl.size; omega) _⟩)
        | (go_ret; exact ⟨congrArg (fun b => Ending.returned (.bool b)) (vB_bad (k := k) (by omega) (bad_until (by omega))), hbl.alloc (by have := hbl.size; omega) _⟩)
end Go.Proofs.YtoigjpkdcadlnaaGreatDoor
