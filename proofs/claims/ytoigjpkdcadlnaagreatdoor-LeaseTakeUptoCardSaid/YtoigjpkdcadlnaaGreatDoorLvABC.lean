/-
  lease.Valid and its reference: what they answer.
-/
import Derived.Test.YtoigjpkdcadlnaaGreatDoorProg
import Derived.WalkKit
import Derived.KernelRfl
import Derived.Lib.Hide
import Derived.Deep.QuietTactic
import Derived.BigQuiet
import Derived.Deep.RegionHeld3
import Derived.Deep.RegionWith
namespace Go.Proofs.YtoigjpkdcadlnaaGreatDoor
open Go Go.RowKit

/-- one grant is right behind the one before it -/
def Good (sv un : Nat → Int) (i : Nat) : Prop := 0 ≤ sv i ∧ sv i < 12 ∧ 0 ≤ un i ∧ (i = 0 ∨ sv (i - 1) < sv i)
def VOk (view : Int) (n : Nat) (sv un : Nat → Int) : Prop := 0 ≤ view ∧ view ≤ 2147483647 ∧ (view = 0 → n = 0) ∧ ∀ i, i < n → Good sv un i
noncomputable def vB (view : Int) (n : Nat) (sv un : Nat → Int) : Bool := @decide (VOk view n sv un) (Classical.propDecidable _)

def lastV (sv : Nat → Int) (k : Nat) : Int := if k = 0 then -1 else sv (k - 1)
def LastAt (sv : Nat → Int) (k : Nat) (l : Value) : Prop := l = .int .i64 (lastV sv k)

theorem vB_false {view : Int} {n : Nat} {sv un : Nat → Int} (h : ¬ (0 ≤ view ∧ view ≤ 2147483647 ∧ (view = 0 → n = 0))) : false = vB view n sv un :=
  (@decide_eq_false _ (Classical.propDecidable _) fun ⟨a, b, c, _⟩ => h ⟨a, b, c⟩).symm
theorem vB_bad {view : Int} {n : Nat} {sv un : Nat → Int} {k : Nat} (hk : k < n) (h : ¬ Good sv un k) : false = vB view n sv un :=
  (@decide_eq_false _ (Classical.propDecidable _) fun ⟨_, _, _, d⟩ => h (d k hk)).symm
theorem vB_good {view : Int} {n : Nat} {sv un : Nat → Int} (h : VOk view n sv un) : true = vB view n sv un :=
  (@decide_eq_true _ (Classical.propDecidable _) h).symm
theorem bad_last {sv un : Nat → Int} {k : Nat} (h : sv k ≤ lastV sv k) : ¬ Good sv un k := by
  rintro ⟨h0, _, _, h3⟩
  unfold lastV at h
  split at h
  · omega
  · rcases h3 with h3 | h3 <;> omega
theorem bad_high {sv un : Nat → Int} {k : Nat} (h : 12 ≤ sv k) : ¬ Good sv un k := fun ⟨_, h1, _, _⟩ => by omega
theorem bad_until {sv un : Nat → Int} {k : Nat} (h : un k < 0) : ¬ Good sv un k := fun ⟨_, _, h1, _⟩ => by omega
theorem good_next {sv un : Nat → Int} {k : Nat} (hg : ∀ j, j < k → Good sv un j) (h1 : lastV sv k < sv k) (h2 : sv k < 12) (h3 : 0 ≤ un k) : ∀ j, j < k + 1 → Good sv un j := by
  intro j hj
  by_cases h : j = k
  · subst h
    unfold lastV at h1
    split at h1
    · rename_i h0; exact ⟨by omega, h2, h3, .inl h0⟩
    · rename_i h0
      have := (hg (j - 1) (by omega)).1
      exact ⟨by omega, h2, h3, .inr h1⟩
  · exact hg j (by omega)
theorem last_next (sv : Nat → Int) (k : Nat) : sv k = lastV sv (k + 1) := by
  unfold lastV; rw [if_neg (by omega)]; rfl

theorem Tryz.info41 : (Tryz.prog.info? 41).map (fun i => (i.zero, i.size)) = some (some (.agg #[.int .i64 0, .int .i64 0]), 2) := by kernel_rfl

set_option maxHeartbeats 1600000 in
set_option maxRecDepth 1000000 in
theorem leaseValid_any (view : Int) (b off n cap : Nat) (sv un : Nat → Int) (w : World) (hn : n ≤ 9223372036854775807) (hb : b < w.heap.size)
    (h1 : ∀ i, i < n → w.cell? ⟨b, off + i * 2, none⟩ = some (.int .i64 (sv i))) (h2 : ∀ i, i < n → w.cell? ⟨b, off + i * 2 + 1, none⟩ = some (.int .i64 (un i))) :
    Calls Tryz.prog 11 #[.agg #[.int .i64 view, .slice (some ⟨b, off, none⟩) n cap]] w fun e w' => e = .returned (.bool (vB view n sv un)) ∧ Below w.heap.size w w' := by
  go_enter Tryz.func11, Tryz.ntmps11
  go_wp2
  all_goals first
    | (go_ret; exact ⟨congrArg (fun b => Ending.returned (.bool b)) (vB_false (by omega)), (Below.refl _ _).alloc (Nat.le_refl _) _⟩)
    | skip
  all_goals
    go_loopw [3, 28] (fun l i wr => ∃ k : Nat, k ≤ n ∧ i = .int .i64 k ∧ l = .int .i64 (lastV sv k) ∧ (∀ j, j < k → Good sv un j) ∧ Below w.heap.size w wr) (fun _ i _ => n - (intOf i).toNat)
    case atStart => exact ⟨0, Nat.zero_le _, rfl, rfl, fun j hj => absurd hj (Nat.not_lt_zero j), (Below.refl _ _).alloc (Nat.le_refl _) _⟩
    case round =>
      obtain ⟨k, hk, rfl, rfl, hg, hbl⟩ := hrel
      have hc1 : k < n → wr.cell? ⟨b, off + k * 2, none⟩ = some (.int .i64 (sv k)) := fun h => (hbl.cell (by exact hb)).trans (h1 k h)
      have hc2 : k < n → wr.cell? ⟨b, off + k * 2 + 1, none⟩ = some (.int .i64 (un k)) := fun h => (hbl.cell (by exact hb)).trans (h2 k h)
      go_wp2
      all_goals first
        | (go_roundw
           case rel => exact ⟨k + 1, by omega, by go_num, by rw [← last_next], good_next hg (by omega) (by omega) (by omega), hbl.alloc (by have := hbl.size; omega) _⟩
           case measure => simp [intOf]; omega)
        | (go_ret; exact ⟨congrArg (fun b => Ending.returned (.bool b)) (vB_good ⟨by omega, by omega, fun h => by omega, fun i hi => hg i (by omega)⟩), hbl⟩)
        | (go_ret; exact ⟨congrArg (fun b => Ending.returned (.bool b)) (vB_bad (k := k) (by omega) (bad_last (by omega))), hbl.alloc (by have := hbl.size; omega) _⟩)
        | (go_ret; exact ⟨congrArg (fun b => Ending.returned (.bool b)) (vB_bad (k := k) (by omega) (bad_high (by omega))), hbl.alloc (by have := hbl.size; omega) _⟩)
        | (go_ret; exact ⟨congrArg (fun b => Ending.returned (.bool b)) (vB_bad (k := k) (by omega) (bad_until (by omega))), hbl.alloc (by have := hbl.size; omega) _⟩)
end Go.Proofs.YtoigjpkdcadlnaaGreatDoor

/-
  The reference of lease.Valid: what it answers.
-/
namespace Go.Proofs.YtoigjpkdcadlnaaGreatDoor
open Go Go.RowKit

theorem good_ref {sv un : Nat → Int} {k : Nat} (hg : ∀ j, j < k → Good sv un j) (h0 : 0 ≤ sv k) (h2 : sv k < 12) (h3 : 0 ≤ un k) (h4 : k = 0 ∨ sv (k - 1) < sv k) : ∀ j, j < k + 1 → Good sv un j := by
  intro j hj
  by_cases h : j = k
  · subst h; exact ⟨h0, h2, h3, h4⟩
  · exact hg j (by omega)

theorem below_drewN {B : Nat} {a w : World} (h : Below B a w) (n : Nat) : Below B a (w.drewN n) := ⟨h.os, h.tape, h.output, h.size, h.block⟩

set_option maxHeartbeats 1600000 in
set_option maxRecDepth 1000000 in
theorem refValid_some (view : Int) (b off n cap : Nat) (sv un : Nat → Int) (w : World) (hn : n ≤ 9223372036854775807) (hb : b < w.heap.size) (hpos : 0 < n)
    (h1 : ∀ i, i < n → w.cell? ⟨b, off + i * 2, none⟩ = some (.int .i64 (sv i))) (h2 : ∀ i, i < n → w.cell? ⟨b, off + i * 2 + 1, none⟩ = some (.int .i64 (un i))) :
    Calls Tryz.prog 12 #[.agg #[.int .i64 view, .slice (some ⟨b, off, none⟩) n cap]] w fun e w' => e = .returned (.bool (vB view n sv un)) ∧ Below w.heap.size w w' := by
  go_enter Tryz.func12, Tryz.ntmps12
  go_wp2
  all_goals first
    | (go_ret; exact ⟨congrArg (fun b => Ending.returned (.bool b)) (vB_false (by omega)), (Below.refl _ _).alloc (Nat.le_refl _) _⟩)
    | skip
  go_loopw [3] (fun i wr => ∃ k : Nat, k ≤ n ∧ i = .int .i64 k ∧ (∀ j, j < k → Good sv un j) ∧ wr.cell? ⟨w.heap.size, 1, none⟩ = some (.slice (some ⟨b, off, none⟩) n cap) ∧ w.heap.size < wr.heap.size ∧ Below w.heap.size w wr) (fun i _ => n - (intOf i).toNat)
  case atStart => exact ⟨0, Nat.zero_le _, rfl, fun j hj => absurd hj (Nat.not_lt_zero j), by simp, by simp, (Below.refl _ _).alloc (Nat.le_refl _) _⟩
  case round =>
    obtain ⟨k, hk, rfl, hg, hsl, hlt, hbl⟩ := hrel
    by_cases hkn : k < n
    · have hc1 : wr.cell? ⟨b, off + k * 2, none⟩ = some (.int .i64 (sv k)) := (hbl.cell (by exact hb)).trans (h1 k hkn)
      have hc2 : wr.cell? ⟨b, off + k * 2 + 1, none⟩ = some (.int .i64 (un k)) := (hbl.cell (by exact hb)).trans (h2 k hkn)
      have hb2 : Below w.heap.size w ((wr.alloc (.cells #[.int .i64 (sv k), .int .i64 (un k)] 41))) := hbl.alloc (by omega) _
      have hs2 := Lib.hid ((((Below.refl wr.heap.size wr).alloc (Nat.le_refl _) (.cells #[.int .i64 (sv k), .int .i64 (un k)] 41)).cell (p := ⟨w.heap.size, 1, none⟩) hlt).trans hsl)
      go_wp2
      by_cases g0 : sv k < 0
      · have d0 : decide (sv k < 0) = true := by simpa using g0
        go_quiet (fail)
        go_wp2
        go_ret
        exact ⟨congrArg (fun b => Ending.returned (.bool b)) (vB_bad (k := k) hkn fun h => by have := h.1; omega), below_drewN hb2 _⟩
      · have d0 : decide (sv k < 0) = false := by simpa using g0
        by_cases g1 : 12 ≤ sv k
        · have d1 : decide (12 ≤ sv k) = true := by simpa using g1
          go_quiet (fail)
          go_wp2
          go_ret
          exact ⟨congrArg (fun b => Ending.returned (.bool b)) (vB_bad (k := k) hkn (bad_high g1)), below_drewN hb2 _⟩
        · have d1 : decide (12 ≤ sv k) = false := by simpa using g1
          by_cases g2 : un k < 0
          · have d2 : decide (un k < 0) = true := by simpa using g2
            go_quiet (fail)
            go_wp2
            go_ret
            exact ⟨congrArg (fun b => Ending.returned (.bool b)) (vB_bad (k := k) hkn (bad_until g2)), below_drewN hb2 _⟩
          · have d2 : decide (un k < 0) = false := by simpa using g2
            cases k with
            | zero =>
              go_quiet (fail)
              go_wp2
              go_roundw
              case rel => exact ⟨1, by omega, rfl, good_ref (k := 0) hg (by omega) (by omega) (by omega) (.inl rfl), hs2.out, by simp; omega, below_drewN hb2 _⟩
              case measure => simp [intOf]; omega
            | succ m =>
              have e1 : IntKind.i64.wrap ((m : Int) + 1 - 1) = (m : Int) := by rw [Int.add_sub_cancel]; exact IntWalk.i64_in _ (by omega)
              have e2 : IntKind.i64.wrap (m : Int) = (m : Int) := IntWalk.i64_in _ (by omega)
              have e3 : (0 : Int) ≤ (m : Int) := by omega
              have e4 : (m : Int) < (n : Int) := by omega
              have e5 : m < n := by omega
              have hc3 : (wr.alloc (.cells #[.int .i64 (sv (m + 1)), .int .i64 (un (m + 1))] 41)).cell? ⟨b, off + m * 2, none⟩ = some (.int .i64 (sv m)) := (hb2.cell (by exact hb)).trans (h1 m (by omega))
              go_quiet (fail)
              go_wp2
              · go_ret
                exact ⟨congrArg (fun b => Ending.returned (.bool b)) (vB_bad (k := m + 1) hkn fun h => by
                  rcases h.2.2.2 with h | h
                  · omega
                  · rw [Nat.add_sub_cancel] at h; omega), below_drewN hb2 _⟩
              · clear e1 e2
                go_roundw
                case rel => exact ⟨m + 1 + 1, by omega, by go_num, good_ref (k := m + 1) hg (by omega) (by omega) (by omega) (.inr (by rw [Nat.add_sub_cancel]; assumption)), hs2.out, by simp; omega, below_drewN hb2 _⟩
                case measure => simp [intOf]; omega
    · go_wp2
      go_ret
      exact ⟨congrArg (fun b => Ending.returned (.bool b)) (vB_good ⟨by omega, by omega, fun h => by omega, fun i hi => hg i (by omega)⟩), hbl⟩

set_option maxHeartbeats 1600000 in
set_option maxRecDepth 1000000 in
theorem refValid_none (view : Int) (p : Option Addr) (cap : Nat) (sv un : Nat → Int) (w : World) :
    Calls Tryz.prog 12 #[.agg #[.int .i64 view, .slice p 0 cap]] w fun e w' => e = .returned (.bool (vB view 0 sv un)) ∧ Below w.heap.size w w' := by
  go_enter Tryz.func12, Tryz.ntmps12
  go_wp2
  all_goals first
    | (go_ret; exact ⟨congrArg (fun b => Ending.returned (.bool b)) (vB_false (by omega)), (Below.refl _ _).alloc (Nat.le_refl _) _⟩)
    | skip
  all_goals
    go_loopw [3] (fun i wr => i = .int .i64 0 ∧ wr.cell? ⟨w.heap.size, 1, none⟩ = some (.slice p 0 cap) ∧ Below w.heap.size w wr) (fun _ _ => 0)
    case atStart => exact ⟨rfl, by simp, (Below.refl _ _).alloc (Nat.le_refl _) _⟩
    case round =>
      obtain ⟨rfl, hsl, hbl⟩ := hrel
      go_wp2
      go_ret
      exact ⟨congrArg (fun b => Ending.returned (.bool b)) (vB_good ⟨by omega, by omega, fun h => rfl, fun i hi => absurd hi (Nat.not_lt_zero i)⟩), hbl⟩

set_option maxHeartbeats 1600000 in
set_option maxRecDepth 1000000 in
theorem leaseValid_none (view : Int) (p : Option Addr) (cap : Nat) (sv un : Nat → Int) (w : World) :
    Calls Tryz.prog 11 #[.agg #[.int .i64 view, .slice p 0 cap]] w fun e w' => e = .returned (.bool (vB view 0 sv un)) ∧ Below w.heap.size w w' := by
  go_enter Tryz.func11, Tryz.ntmps11
  go_wp2
  all_goals first
    | (go_ret; exact ⟨congrArg (fun b => Ending.returned (.bool b)) (vB_false (by omega)), (Below.refl _ _).alloc (Nat.le_refl _) _⟩)
    | skip
  all_goals
    go_loopw [3, 28] (fun l i wr => i = .int .i64 0 ∧ (∃ m, l = .int .i64 m) ∧ Below w.heap.size w wr) (fun _ _ _ => 0)
    case atStart => exact ⟨rfl, ⟨_, rfl⟩, (Below.refl _ _).alloc (Nat.le_refl _) _⟩
    case round =>
      obtain ⟨rfl, ⟨m, rfl⟩, hbl⟩ := hrel
      go_wp2
      go_ret
      exact ⟨congrArg (fun b => Ending.returned (.bool b)) (vB_good ⟨by omega, by omega, fun h => rfl, fun i hi => absurd hi (Nat.not_lt_zero i)⟩), hbl⟩
end Go.Proofs.YtoigjpkdcadlnaaGreatDoor

/-
  LeaseValid: the law's body, over what awake answers.
-/
namespace Go.Proofs.YtoigjpkdcadlnaaGreatDoor
open Go Go.RowKit

def Awake : Prop := ∀ W : World, Calls Tryz.prog 5 #[] W fun e w' => e = .returned (.bool true) ∧ Below W.heap.size W w'

theorem leaseValid_all (view : Int) (b off n cap : Nat) (sv un : Nat → Int) (w : World) (hn : n ≤ 9223372036854775807) (hb : b < w.heap.size)
    (h1 : ∀ i, i < n → w.cell? ⟨b, off + i * 2, none⟩ = some (.int .i64 (sv i))) (h2 : ∀ i, i < n → w.cell? ⟨b, off + i * 2 + 1, none⟩ = some (.int .i64 (un i))) :
    Calls Tryz.prog 12 #[.agg #[.int .i64 view, .slice (some ⟨b, off, none⟩) n cap]] w fun e w' => e = .returned (.bool (vB view n sv un)) ∧ Below w.heap.size w w' := by
  by_cases h : 0 < n
  · exact refValid_some view b off n cap sv un w hn hb h h1 h2
  · obtain rfl : n = 0 := by omega
    exact refValid_none view _ cap sv un w

/-- the world behind the law's box -/
def InW (w W : World) : Prop := Below w.heap.size w W ∧ w.heap.size < W.heap.size
theorem InW.drewN {w W : World} (h : InW w W) (k : Nat) : InW w (W.drewN k) := ⟨below_drewN h.1 k, h.2⟩
theorem InW.drew {w W : World} (h : InW w W) : InW w W.drew := ⟨⟨h.1.os, h.1.tape, h.1.output, h.1.size, h.1.block⟩, h.2⟩

def Post (w : World) (r : Bool) (c0 c1 : Value) (e : Ending) (w' : World) : Prop :=
  e = .returned (.bool r) ∧ w'.cell? ⟨w.heap.size, 0, none⟩ = some c0 ∧ w'.cell? ⟨w.heap.size, 1, none⟩ = some c1 ∧ InW w w'
theorem post_of {w W : World} {r : Bool} {c0 c1 : Value} (h : InW w W) (h0 : W.cell? ⟨w.heap.size, 0, none⟩ = some c0) (h1 : W.cell? ⟨w.heap.size, 1, none⟩ = some c1)
    {e : Ending} {w' : World} (hp : e = .returned (.bool r) ∧ Below W.heap.size W w') : Post w r c0 c1 e w' :=
  ⟨hp.1, (hp.2.cell (p := ⟨w.heap.size, 0, none⟩) h.2).trans h0, (hp.2.cell (p := ⟨w.heap.size, 1, none⟩) h.2).trans h1, h.1.trans (hp.2.mono (Nat.le_of_lt h.2)), Nat.lt_of_lt_of_le h.2 hp.2.size⟩

def Ans (f : FuncId) (w : World) (a : Value) (r : Bool) : Prop := ∀ W, InW w W → Calls Tryz.prog f #[a] W fun e w' => e = .returned (.bool r) ∧ Below W.heap.size W w'

theorem ans {f : FuncId} {w : World} {a : Value} {r : Bool} {c0 c1 : Value} (h : Ans f w a r) (W : World) (hi : InW w W) (h0 : W.cell? ⟨w.heap.size, 0, none⟩ = some c0) (h1 : W.cell? ⟨w.heap.size, 1, none⟩ = some c1) :
    Calls Tryz.prog f #[a] W (Post w r c0 c1) := (h W hi).mono fun _ _ hp => post_of hi h0 h1 hp

set_option maxHeartbeats 1600000 in
set_option maxRecDepth 1000000 in
theorem law_gen (hA : Awake) (view : Int) (p : Option Addr) (n cap : Nat) (r : Bool) (w : World) (_hn : n ≤ 9223372036854775807)
    (h11 : Ans 11 w (.agg #[.int .i64 view, .slice p n cap]) r) (h12 : Ans 12 w (.agg #[.int .i64 view, .slice p n cap]) r) :
    Calls Tryz.prog 4 #[.agg #[.int .i64 view, .slice p n cap]] w fun e w' => e = .returned (.bool true) ∧ Below w.heap.size w w' := by
  have HA := Lib.hid hA
  have H1 := Lib.hid h11
  have H2 := Lib.hid h12
  clear hA h11 h12
  go_enter Tryz.func4, Tryz.ntmps4
  go_wp2_with (first
    | (go_at_call 5; refine (HA.out _).mono ?_; rintro e w' ⟨rfl, hb1⟩; have hc0 : w'.cell? ⟨w.heap.size, 0, none⟩ = some (.int .i64 view) := (hb1.cell (by simp)).trans (by simp); have hc1 : w'.cell? ⟨w.heap.size, 1, none⟩ = some (.slice p n cap) := (hb1.cell (by simp)).trans (by simp))
    | (go_at_call 5; refine (HA.out _).mono ?_; rintro e w2 ⟨rfl, hb2⟩))
  · go_ret
    exact ⟨rfl, (((Below.refl _ _).alloc (Nat.le_refl _) _).trans (hb1.mono (by simp))).trans (hb2.mono (by have := hb1.size; simp at this; omega))⟩
  · have hbw : Below w.heap.size w w' := ((Below.refl _ _).alloc (Nat.le_refl _) _).trans (hb1.mono (by simp))
    have hsz : w.heap.size < w'.heap.size := by have := hb1.size; simp at this; omega
    have hin : InW w w' := ⟨hbw, hsz⟩
    clear hb1 hbw hsz
    go_region_held3 (fun W => W.cell? ⟨w.heap.size, 0, none⟩ = some (.int .i64 view) ∧ W.cell? ⟨w.heap.size, 1, none⟩ = some (.slice p n cap) ∧ InW w W) (first | exact ⟨hc0, hc1, hin⟩ | exact ⟨hc0, hc1, hin.drew⟩ | exact ⟨hc0, hc1, hin.drewN _⟩ | exact ⟨hd0, hd1, hdn⟩ | go_keep)
      (first
        | (go_at_call 11; refine (ans H1.out _ (by first | exact hin | exact hin.drew | exact hdn | assumption) (by first | exact hc0 | exact hd0 | assumption) (by first | exact hc1 | exact hd1 | assumption)).mono ?_; rintro e w2 ⟨rfl, hd0, hd1, hdn⟩)
        | (go_at_call 12; refine (ans H2.out _ (by first | exact hin | exact hin.drew | exact hdn | assumption) (by first | exact hc0 | exact hd0 | assumption) (by first | exact hc1 | exact hd1 | assumption)).mono ?_; rintro e w2 ⟨rfl, hd0, hd1, hdn⟩))
    go_wp2
    go_ret
    exact ⟨rfl, hdn.1⟩

theorem law_some (hA : Awake) (view : Int) (b off n cap : Nat) (sv un : Nat → Int) (w : World) (hn : n ≤ 9223372036854775807) (hb : b < w.heap.size)
    (h1 : ∀ i, i < n → w.cell? ⟨b, off + i * 2, none⟩ = some (.int .i64 (sv i))) (h2 : ∀ i, i < n → w.cell? ⟨b, off + i * 2 + 1, none⟩ = some (.int .i64 (un i))) :
    Calls Tryz.prog 4 #[.agg #[.int .i64 view, .slice (some ⟨b, off, none⟩) n cap]] w fun e w' => e = .returned (.bool true) ∧ Below w.heap.size w w' :=
  law_gen hA view _ n cap (vB view n sv un) w hn
    (fun W h => leaseValid_any view b off n cap sv un W hn (Nat.lt_trans hb h.2) (fun i hi => (h.1.cell (by exact hb)).trans (h1 i hi)) (fun i hi => (h.1.cell (by exact hb)).trans (h2 i hi)))
    (fun W h => leaseValid_all view b off n cap sv un W hn (Nat.lt_trans hb h.2) (fun i hi => (h.1.cell (by exact hb)).trans (h1 i hi)) (fun i hi => (h.1.cell (by exact hb)).trans (h2 i hi)))
theorem law_none (hA : Awake) (view : Int) (p : Option Addr) (cap : Nat) (w : World) :
    Calls Tryz.prog 4 #[.agg #[.int .i64 view, .slice p 0 cap]] w fun e w' => e = .returned (.bool true) ∧ Below w.heap.size w w' :=
  law_gen hA view _ 0 cap (vB view 0 (fun _ => 0) (fun _ => 0)) w (by omega) (fun W _ => leaseValid_none view p cap _ _ W) (fun W _ => refValid_none view p cap _ _ W)
end Go.Proofs.YtoigjpkdcadlnaaGreatDoor
