/-
  LeaseValid: the law's body, over what awake answers.
-/
import Derived.Test.YtoigjpkdcadlnaaGreatDoorLvB
import Derived.Deep.RegionHeld3
import Derived.Deep.RegionWith
namespace Go.Proofs.YtoigjpkdcadlnaaGreatDoor
open Go Go.RowKit

def Awake : Prop := ∀ W : World, Calls Tryz.prog 5 #[] W fun e w' => e = .returned (.bool true) ∧ Below W.heap.size W w'

theorem leaseValid_all (view : Int) (b off n cap : Nat) (sv un : Nat → Int) (w : World) (hn : n ≤ 9223372036854775807) (hb : b < w.heap.size)
    (h1 : ∀ i, i < n → w.cell? ⟨b, off + i * 2, none⟩ = some (.int .i64 (sv i))) (h2 : ∀ i, i < n → w.cell? ⟨b, off + i * 2 + 1, none⟩ = some (.int .i64 (un i))) :
    Calls Tryz.prog 12 #[.agg #[.int .i64 view, .slice (some ⟨b, off, none⟩) n cap]] w fun e w' => e = .returned (.bool (vB view n sv un)) ∧ Below w.heap.size w w' := by
  by_cases h : 0 < n
  · exact refValid_some view b off n cap sv un w hn hb h h1 h2
  · obtain rfl : n = 0 := by omega
    exact refValid_none view _ cap sv un w

/-- the world behind the law's box -/
def InW (w W : World) : Prop := Below w.heap.size w W ∧ w.heap.size < W.heap.size
theorem InW.drewN {w W : World} (h : InW w W) (k : Nat) : InW w (W.drewN k) := ⟨below_drewN h.1 k, h.2⟩
theorem InW.drew {w W : World} (h : InW w W) : InW w W.drew := ⟨⟨h.1.os, h.1.tape, h.1.output, h.1.size, h.1.block⟩, h.2⟩

def Post (w : World) (r : Bool) (c0 c1 : Value) (e : Ending) (w' : World) : Prop :=
  e = .returned (.bool r) ∧ w'.cell? ⟨w.heap.size, 0, none⟩ = some c0 ∧ w'.cell? ⟨w.heap.size, 1, none⟩ = some c1 ∧ InW w w'
theorem post_of {w W : World} {r : Bool} {c0 c1 : Value} (h : InW w W) (h0 : W.cell? ⟨w.heap.size, 0, none⟩ = some c0) (h1 : W.cell? ⟨w.heap.size, 1, none⟩ = some c1)
    {e : Ending} {w' : World} (hp : e = .returned (.bool r) ∧ Below W.heap.size W w') : Post w r c0 c1 e w' :=
  ⟨hp.1, (hp.2.cell (p := ⟨w.heap.size, 0, none⟩) h.2).trans h0, (hp.2.cell (p := ⟨w.heap.size, 1, none⟩) h.2).trans h1, h.1.trans (hp.2.mono (Nat.le_of_lt h.2)), Nat.lt_of_lt_of_le h.2 hp.2.size⟩

def Ans (f : FuncId) (w : World) (a : Value) (r : Bool) : Prop := ∀ W, InW w W → Calls Tryz.prog f #[a] W fun e w' => e = .returned (.bool r) ∧ Below W.heap.size W w'

theorem ans {f : FuncId} {w : World} {a : Value} {r : Bool} {c0 c1 : Value} (h : Ans f w a r) (W : World) (hi : InW w W) (h0 : W.cell? ⟨w.heap.size, 0, none⟩ = some c0) (h1 : W.cell? ⟨w.heap.size, 1, none⟩ = some c1) :
    Calls Tryz.prog f #[a] W (Post w r c0 c1) := (h W hi).mono fun _ _ hp => post_of hi h0 h1 hp

set_option maxHeartbeats 1600000 in
set_option maxRecDepth 1000000 in
theorem law_gen (hA : Awake) (view : Int) (p : Option Addr) (n cap : Nat) (r : Bool) (w : World) (_hn : n ≤ 9223372036854775807)
    (h11 : Ans 11 w (.agg #[.int .i64 view, .slice p n cap]) r) (h12 : Ans 12 w (.agg #[.int .i64 view, .slice p n cap]) r) :
    Calls Tryz.prog 4 #[.agg #[.int .i64 view, .slice p n cap]] w fun e w' => e = .returned (.bool true) ∧ Below w.heap.size w w' := by
  have HA := Lib.hid hA
  have H1 := Lib.hid h11
  have H2 := Lib.hid h12
  clear hA h11 h12
  go_enter Tryz.func4, Tryz.ntmps4
  go_wp2_with (first
    | (go_at_call 5; refine (HA.out _).mono ?_; rintro e w' ⟨rfl, hb1⟩; have hc0 : w'.cell? ⟨w.heap.size, 0, none⟩ = some (.int .i64 view) := (hb1.cell (by simp)).trans (by simp); have hc1 : w'.cell? ⟨w.heap.size, 1, none⟩ = some (.slice p n cap) := (hb1.cell (by simp)).trans (by simp))
    | (go_at_call 5; refine (HA.out _).mono ?_; rintro e w2 ⟨rfl, hb2⟩))
  · go_ret
    exact ⟨rfl, (((Below.refl _ _).alloc (Nat.le_refl _) _).trans (hb1.mono (by simp))).trans (hb2.mono (by have := hb1.size; simp at this; omega))⟩
  · have hbw : Below w.heap.size w w' := ((Below.refl _ _).alloc (Nat.le_refl _) _).trans (hb1.mono (by simp))
    have hsz : w.heap.size < w'.heap.size := by have := hb1.size; simp at this; omega
    have hin : InW w w' := ⟨hbw, hsz⟩
    clear hb1 hbw hsz
    go_region_held3 (fun W => W.cell? ⟨w.heap.size, 0, none⟩ = some (.int .i64 view) ∧ W.cell? ⟨w.heap.size, 1, none⟩ = some (.slice p n cap) ∧ InW w W) (first | exact ⟨hc0, hc1, hin⟩ | exact ⟨hc0, hc1, hin.drew⟩ | exact ⟨hc0, hc1, hin.drewN _⟩ | exact ⟨hd0, hd1, hdn⟩ | go_keep)
      (first
        | (go_at_call 11; refine (ans H1.out _ (by first | exact hin | exact hin.drew | exact hdn | assumption) (by first | exact hc0 | exact hd0 | assumption) (by first | exact hc1 | exact hd1 | assumption)).mono ?_; rintro e w2 ⟨rfl, hd0, hd1, hdn⟩)
        | (go_at_call 12; refine (ans H2.out _ (by first | exact hin | exact hin.drew | exact hdn | assumption) (by first | exact hc0 | exact hd0 | assumption) (by first | exact hc1 | exact hd1 | assumption)).mono ?_; rintro e w2 ⟨rfl, hd0, hd1, hdn⟩))
    go_wp2
    go_ret
    exact ⟨rfl, hdn.1⟩

theorem law_some (hA : Awake) (view : Int) (b off n cap : Nat) (sv un : Nat → Int) (w : World) (hn : n ≤ 9223372036854775807) (hb : b < w.heap.size)
    (h1 : ∀ i, i < n → w.cell? ⟨b, off + i * 2, none⟩ = some (.int .i64 (sv i))) (h2 : ∀ i, i < n → w.cell? ⟨b, off + i * 2 + 1, none⟩ = some (.int .i64 (un i))) :
    Calls Tryz.prog 4 #[.agg #[.int .i64 view, .slice (some ⟨b, off, none⟩) n cap]] w fun e w' => e = .returned (.bool true) ∧ Below w.heap.size w w' :=
  law_gen hA view _ n cap (vB view n sv un) w hn
    (fun W h => leaseValid_any view b off n cap sv un W hn (Nat.lt_trans hb h.2) (fun i hi => (h.1.cell (by exact hb)).trans (h1 i hi)) (fun i hi => (h.1.cell (by exact hb)).trans (h2 i hi)))
    (fun W h => leaseValid_all view b off n cap sv un W hn (Nat.lt_trans hb h.2) (fun i hi => (h.1.cell (by exact hb)).trans (h1 i hi)) (fun i hi => (h.1.cell (by exact hb)).trans (h2 i hi)))
theorem law_none (hA : Awake) (view : Int) (p : Option Addr) (cap : Nat) (w : World) :
    Calls Tryz.prog 4 #[.agg #[.int .i64 view, .slice p 0 cap]] w fun e w' => e = .returned (.bool true) ∧ Below w.heap.size w w' :=
  law_gen hA view _ 0 cap (vB view 0 (fun _ => 0) (fun _ => 0)) w (by omega) (fun W _ => leaseValid_none view p cap _ _ W) (fun W _ => refValid_none view p cap _ _ W)
end Go.Proofs.YtoigjpkdcadlnaaGreatDoor
