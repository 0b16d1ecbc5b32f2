/-
  The reference of lease.Valid: what it answers.
-/
import Derived.Test.YtoigjpkdcadlnaaGreatDoorLvA
namespace Go.Proofs.YtoigjpkdcadlnaaGreatDoor
open Go Go.RowKit

theorem good_ref {sv un : Nat → Int} {k : Nat} (hg : ∀ j, j < k → Good sv un j) (h0 : 0 ≤ sv k) (h2 : sv k < 12) (h3 : 0 ≤ un k) (h4 : k = 0 ∨ sv (k - 1) < sv k) : ∀ j, j < k + 1 → Good sv un j := by
  intro j hj
  by_cases h : j = k
  · subst h; exact ⟨h0, h2, h3, h4⟩
  · exact hg j (by omega)

theorem below_drewN {B : Nat} {a w : World} (h : Below B a w) (n : Nat) : Below B a (w.drewN n) := ⟨h.os, h.tape, h.output, h.size, h.block⟩

set_option maxHeartbeats 1600000 in
set_option maxRecDepth 1000000 in
theorem refValid_some (view : Int) (b off n cap : Nat) (sv un : Nat → Int) (w : World) (hn : n ≤ 9223372036854775807) (hb : b < w.heap.size) (hpos : 0 < n)
    (h1 : ∀ i, i < n → w.cell? ⟨b, off + i * 2, none⟩ = some (.int .i64 (sv i))) (h2 : ∀ i, i < n → w.cell? ⟨b, off + i * 2 + 1, none⟩ = some (.int .i64 (un i))) :
    Calls Tryz.prog 12 #[.agg #[.int .i64 view, .slice (some ⟨b, off, none⟩) n cap]] w fun e w' => e = .returned (.bool (vB view n sv un)) ∧ Below w.heap.size w w' := by
  go_enter Tryz.func12, Tryz.ntmps12
  go_wp2
  all_goals first
    | (go_ret; exact ⟨congrArg (fun b => Ending.returned (.bool b)) (vB_false (by omega)), (Below.refl _ _).alloc (Nat.le_refl _) _⟩)
    | skip
  go_loopw [3] (fun i wr => ∃ k : Nat, k ≤ n ∧ i = .int .i64 k ∧ (∀ j, j < k → Good sv un j) ∧ wr.cell? ⟨w.heap.size, 1, none⟩ = some (.slice (some ⟨b, off, none⟩) n cap) ∧ w.heap.size < wr.heap.size ∧ Below w.heap.size w wr) (fun i _ => n - (intOf i).toNat)
  case atStart => exact ⟨0, Nat.zero_le _, rfl, fun j hj => absurd hj (Nat.not_lt_zero j), by simp, by simp, (Below.refl _ _).alloc (Nat.le_refl _) _⟩
  case round =>
    obtain ⟨k, hk, rfl, hg, hsl, hlt, hbl⟩ := hrel
    by_cases hkn : k < n
    · have hc1 : wr.cell? ⟨b, off + k * 2, none⟩ = some (.int .i64 (sv k)) := (hbl.cell (by exact hb)).trans (h1 k hkn)
      have hc2 : wr.cell? ⟨b, off + k * 2 + 1, none⟩ = some (.int .i64 (un k)) := (hbl.cell (by exact hb)).trans (h2 k hkn)
      have hb2 : Below w.heap.size w ((wr.alloc (.cells #[.int .i64 (sv k), .int .i64 (un k)] 41))) := hbl.alloc (by omega) _
      have hs2 := Lib.hid ((((Below.refl wr.heap.size wr).alloc (Nat.le_refl _) (.cells #[.int .i64 (sv k), .int .i64 (un k)] 41)).cell (p := ⟨w.heap.size, 1, none⟩) hlt).trans hsl)
      go_wp2
      by_cases g0 : sv k < 0
      · have d0 : decide (sv k < 0) = true := by simpa using g0
        go_quiet (fail)
        go_wp2
        go_ret
        exact ⟨congrArg (fun b => Ending.returned (.bool b)) (vB_bad (k := k) hkn fun h => by have := h.1; omega), below_drewN hb2 _⟩
      · have d0 : decide (sv k < 0) = false := by simpa using g0
        by_cases g1 : 12 ≤ sv k
        · have d1 : decide (12 ≤ sv k) = true := by simpa using g1
          go_quiet (fail)
          go_wp2
          go_ret
          exact ⟨congrArg (fun b => Ending.returned (.bool b)) (vB_bad (k := k) hkn (bad_high g1)), below_drewN hb2 _⟩
        · have d1 : decide (12 ≤ sv k) = false := by simpa using g1
          by_cases g2 : un k < 0
          · have d2 : decide (un k < 0) = true := by simpa using g2
            go_quiet (fail)
            go_wp2
            go_ret
            exact ⟨congrArg (fun b => Ending.returned (.bool b)) (vB_bad (k := k) hkn (bad_until g2)), below_drewN hb2 _⟩
          · have d2 : decide (un k < 0) = false := by simpa using g2
            cases k with
            | zero =>
              go_quiet (fail)
              go_wp2
              go_roundw
              case rel => exact ⟨1, by omega, rfl, good_ref (k := 0) hg (by omega) (by omega) (by omega) (.inl rfl), hs2.out, by simp; omega, below_drewN hb2 _⟩
              case measure => simp [intOf]; omega
            | succ m =>
              have e1 : IntKind.i64.wrap ((m : Int) + 1 - 1) = (m : Int) := by rw [Int.add_sub_cancel]; exact IntWalk.i64_in _ (by omega)
              have e2 : IntKind.i64.wrap (m : Int) = (m : Int) := IntWalk.i64_in _ (by omega)
              have e3 : (0 : Int) ≤ (m : Int) := by omega
              have e4 : (m : Int) < (n : Int) := by omega
              have e5 : m < n := by omega
              have hc3 : (wr.alloc (.cells #[.int .i64 (sv (m + 1)), .int .i64 (un (m + 1))] 41)).cell? ⟨b, off + m * 2, none⟩ = some (.int .i64 (sv m)) := (hb2.cell (by exact hb)).trans (h1 m (by omega))
              go_quiet (fail)
              go_wp2
              · go_ret
                exact ⟨congrArg (fun b => Ending.returned (.bool b)) (vB_bad (k := m + 1) hkn fun h => by
                  rcases h.2.2.2 with h | h
                  · omega
                  · rw [Nat.add_sub_cancel] at h; omega), below_drewN hb2 _⟩
              · clear e1 e2
                go_roundw
                case rel => exact ⟨m + 1 + 1, by omega, by go_num, good_ref (k := m + 1) hg (by omega) (by omega) (by omega) (.inr (by rw [Nat.add_sub_cancel]; assumption)), hs2.out, by simp; omega, below_drewN hb2 _⟩
                case measure => simp [intOf]; omega
    · go_wp2
      go_ret
      exact ⟨congrArg (fun b => Ending.returned (.bool b)) (vB_good ⟨by omega, by omega, fun h => by omega, fun i hi => hg i (by omega)⟩), hbl⟩

set_option maxHeartbeats 1600000 in
set_option maxRecDepth 1000000 in
theorem refValid_none (view : Int) (p : Option Addr) (cap : Nat) (sv un : Nat → Int) (w : World) :
    Calls Tryz.prog 12 #[.agg #[.int .i64 view, .slice p 0 cap]] w fun e w' => e = .returned (.bool (vB view 0 sv un)) ∧ Below w.heap.size w w' := by
  go_enter Tryz.func12, Tryz.ntmps12
  go_wp2
  all_goals first
    | (go_ret; exact ⟨congrArg (fun b => Ending.returned (.bool b)) (vB_false (by omega)), (Below.refl _ _).alloc (Nat.le_refl _) _⟩)
    | skip
  all_goals
    go_loopw [3] (fun i wr => i = .int .i64 0 ∧ wr.cell? ⟨w.heap.size, 1, none⟩ = some (.slice p 0 cap) ∧ Below w.heap.size w wr) (fun _ _ => 0)
    case atStart => exact ⟨rfl, by simp, (Below.refl _ _).alloc (Nat.le_refl _) _⟩
    case round =>
      obtain ⟨rfl, hsl, hbl⟩ := hrel
      go_wp2
      go_ret
      exact ⟨congrArg (fun b => Ending.returned (.bool b)) (vB_good ⟨by omega, by omega, fun h => rfl, fun i hi => absurd hi (Nat.not_lt_zero i)⟩), hbl⟩

set_option maxHeartbeats 1600000 in
set_option maxRecDepth 1000000 in
theorem leaseValid_none (view : Int) (p : Option Addr) (cap : Nat) (sv un : Nat → Int) (w : World) :
    Calls Tryz.prog 11 #[.agg #[.int .i64 view, .slice p 0 cap]] w fun e w' => e = .returned (.bool (vB view 0 sv un)) ∧ Below w.heap.size w w' := by
  go_enter Tryz.func11, Tryz.ntmps11
  go_wp2
  all_goals first
    | (go_ret; exact ⟨congrArg (fun b => Ending.returned (.bool b)) (vB_false (by omega)), (Below.refl _ _).alloc (Nat.le_refl _) _⟩)
    | skip
  all_goals
    go_loopw [3, 28] (fun l i wr => i = .int .i64 0 ∧ (∃ m, l = .int .i64 m) ∧ Below w.heap.size w wr) (fun _ _ _ => 0)
    case atStart => exact ⟨rfl, ⟨_, rfl⟩, (Below.refl _ _).alloc (Nat.le_refl _) _⟩
    case round =>
      obtain ⟨rfl, ⟨m, rfl⟩, hbl⟩ := hrel
      go_wp2
      go_ret
      exact ⟨congrArg (fun b => Ending.returned (.bool b)) (vB_good ⟨by omega, by omega, fun h => rfl, fun i hi => absurd hi (Nat.not_lt_zero i)⟩), hbl⟩
end Go.Proofs.YtoigjpkdcadlnaaGreatDoor
