/-
  LeaseTake: message.Valid's helpers.
-/
import Derived.Test.YtoigjpkdcadlnaaGreatDoorLtG
namespace Go.Proofs.YtoigjpkdcadlnaaGreatDoor
open Go Go.RowKit

def numB (n : Int) : Bool := decide (0 ≤ n ∧ n ≤ 2147483647)
theorem numB_t {n : Int} (h : 0 ≤ n ∧ n ≤ 2147483647) : true = numB n := by unfold numB; simp [h]
theorem numB_f {n : Int} (h : ¬ (0 ≤ n ∧ n ≤ 2147483647)) : false = numB n := by unfold numB; simp only [h, decide_false]

set_option maxHeartbeats 800000 in
theorem number_any (n : Int) (w : World) : Calls Tryz.prog 52 #[.int .i64 n] w fun e w' => e = .returned (.bool (numB n)) ∧ w = w' := by
  by_cases h0 : 0 ≤ n
  · by_cases h1 : n ≤ 2147483647
    · go_enter Tryz.func52, Tryz.ntmps52
      go_wp2
      go_ret
      exact ⟨congrArg (fun b => Ending.returned (.bool b)) (numB_t ⟨h0, h1⟩), rfl⟩
    · go_enter Tryz.func52, Tryz.ntmps52
      go_wp2
      go_ret
      exact ⟨congrArg (fun b => Ending.returned (.bool b)) (numB_f (by omega)), rfl⟩
  · go_enter Tryz.func52, Tryz.ntmps52
    go_wp2
    go_ret
    exact ⟨congrArg (fun b => Ending.returned (.bool b)) (numB_f (by omega)), rfl⟩

/-- the word of a kind, and its fields -/
def KindRet (w : World) (e : Ending) (w' : World) : Prop := ∃ (s : ByteArray) (f : Int), e = .returned (.tuple #[.string s, .int .i64 f]) ∧ 0 ≤ f ∧ f ≤ 511 ∧ w = w'

set_option maxHeartbeats 1600000 in
set_option maxRecDepth 100000 in
theorem kind_any (k : Int) (w : World) : Calls Tryz.prog 51 #[.int .i64 k] w (KindRet w) := by
  go_enter Tryz.func51, Tryz.ntmps51
  go_wp2
  all_goals
    go_ret2
    exact ⟨_, _, rfl, by omega, by omega, rfl⟩

set_option maxHeartbeats 1600000 in
set_option maxRecDepth 100000 in
theorem kind_grant (w : World) : Calls Tryz.prog 51 #[.int .i64 9] w fun e w' => e = .returned (.tuple #[.string ⟨#[103, 114, 97, 110, 116]⟩, .int .i64 5]) ∧ w = w' := by
  go_enter Tryz.func51, Tryz.ntmps51
  go_wp2
  go_ret2
  exact ⟨rfl, rfl⟩

/-! the checker -/
/-- the checker's block -/
def Chk (C : Nat) (p q : Bool) (w : World) : Prop := w.heap[C]? = some (.cells #[.bool p, .bool q] 121 (0, 0))
theorem Chk.lt {C : Nat} {p q : Bool} {w : World} (h : Chk C p q w) : C < w.heap.size := (Array.getElem?_eq_some_iff.mp h).1
theorem Chk.c0 {C : Nat} {p q : Bool} {w : World} (h : Chk C p q w) : w.cell? ⟨C, 0, none⟩ = some (.bool p) := by unfold World.cell?; rw [show w.heap[C]? = _ from h]; rfl
theorem Chk.c1 {C : Nat} {p q : Bool} {w : World} (h : Chk C p q w) : w.cell? ⟨C, 1, none⟩ = some (.bool q) := by unfold World.cell?; rw [show w.heap[C]? = _ from h]; rfl
theorem Chk.f0 {C : Nat} {p q : Bool} {w : World} (h : Chk C p q w) : w.frozen? ⟨C, 0, none⟩ = false := by unfold World.frozen?; rw [show w.heap[C]? = _ from h]; rfl
theorem Chk.f1 {C : Nat} {p q : Bool} {w : World} (h : Chk C p q w) : w.frozen? ⟨C, 1, none⟩ = false := by unfold World.frozen?; rw [show w.heap[C]? = _ from h]; rfl
theorem Chk.set1 {C : Nat} {p q : Bool} {w : World} (h : Chk C p q w) (r : Bool) : Chk C p r (w.setCell ⟨C, 1, none⟩ (.bool r)) := by
  unfold Chk World.setCell
  simp [Array.getElem?_modify, show w.heap[C]? = _ from h]
theorem Chk.set0 {C : Nat} {p q : Bool} {w : World} (h : Chk C p q w) (r : Bool) : Chk C r q (w.setCell ⟨C, 0, none⟩ (.bool r)) := by
  unfold Chk World.setCell
  simp [Array.getElem?_modify, show w.heap[C]? = _ from h]

/-- a method of the checker: only its block has changed -/
def ChkRet (C : Nat) (w : World) (e : Ending) (w' : World) : Prop := ∃ p q, e = .returned (.tuple #[]) ∧ Chk C p q w' ∧ w.grownBy w' (some C)

theorem only_setCell {a w : World} {g : Nat} (h : a.grownBy w (some g)) {p : Addr} (hp : p.block = g ∨ a.heap.size ≤ p.block) (u : Value) : a.grownBy (w.setCell p u) (some g) :=
  ⟨h.os, h.tape, h.output, by simpa [World.setCell] using h.size, fun i hi hne => (Below.heap_setCell w p u i (by
    rintro rfl
    rcases hp with hp | hp
    · exact hne (by rw [hp])
    · omega)).trans (h.block i hi hne)⟩
theorem only_alloc {a w : World} {row : Option Nat} (h : a.grownBy w row) (o : Obj) : a.grownBy (w.alloc o) row :=
  ⟨h.os, h.tape, h.output, Nat.le_trans h.size (by simp), fun i hi hne => (Below.heap_alloc w o i (Nat.lt_of_lt_of_le hi h.size)).trans (h.block i hi hne)⟩
theorem only_refl (a : World) (row : Option Nat) : a.grownBy a row := ⟨rfl, rfl, rfl, Nat.le_refl _, fun _ _ _ => rfl⟩
theorem only_trans {a b c : World} {row : Option Nat} (h : a.grownBy b row) (k : b.grownBy c row) : a.grownBy c row :=
  ⟨k.os.trans h.os, k.tape.trans h.tape, k.output.trans h.output, Nat.le_trans h.size k.size, fun i hi hne => (k.block i (Nat.lt_of_lt_of_le hi h.size) hne).trans (h.block i hi hne)⟩
theorem only_cell {a b : World} {C : Nat} (h : a.grownBy b (some C)) {p : Addr} (hp : p.block < a.heap.size) (hne : p.block ≠ C) : b.cell? p = a.cell? p :=
  World.cell?_of_block (h.block p.block hp (fun e => hne (by injection e)))
end Go.Proofs.YtoigjpkdcadlnaaGreatDoor

/-
  LeaseTake: message.Valid's checker.
-/
namespace Go.Proofs.YtoigjpkdcadlnaaGreatDoor
open Go Go.RowKit

theorem SgnAt.only {w W : World} {C b o : Nat} (h : w.grownBy W (some C)) (hb : b < w.heap.size) (hne : b ≠ C) (hs : SgnAt w b o) : SgnAt W b o := by
  obtain ⟨a0, a1, a2, a3, x, y, h0, h1, h2, h3, hx, hy, c0, c1, c2, c3, c4, c5⟩ := hs
  exact ⟨a0, a1, a2, a3, x, y, h0, h1, h2, h3, hx, hy, (only_cell h (by exact hb) (by exact hne)).trans c0, (only_cell h (by exact hb) (by exact hne)).trans c1, (only_cell h (by exact hb) (by exact hne)).trans c2, (only_cell h (by exact hb) (by exact hne)).trans c3, (only_cell h (by exact hb) (by exact hne)).trans c4, (only_cell h (by exact hb) (by exact hne)).trans c5⟩
theorem Chk.alloc {C : Nat} {p q : Bool} {w : World} (h : Chk C p q w) (o : Obj) : Chk C p q (w.alloc o) := (Below.heap_alloc w o C h.lt).trans h

set_option maxHeartbeats 1600000 in
set_option maxRecDepth 1000000 in
theorem signed_some (C b off n cap : Nat) (p q : Bool) (w : World) (hn : n ≤ 1048576) (hC : Chk C p q w) (hb : b < w.heap.size) (hne : b ≠ C) (h : ∀ i, i < n → SgnAt w b (off + i * 6)) :
    Calls Tryz.prog 54 #[.pointer (some ⟨C, 0, none⟩), .slice (some ⟨b, off, none⟩) n cap] w (ChkRet C w) := by
  have H := Lib.hid h
  clear h
  go_enter Tryz.func54, Tryz.ntmps54
  go_wp2
  go_loopw [8] (fun i wr => ∃ (k : Nat) (p q : Bool), k ≤ n ∧ i = .int .i64 k ∧ Chk C p q wr ∧ w.grownBy wr (some C)) (fun i _ => n - (intOf i).toNat)
  case atStart => exact ⟨0, p, q, Nat.zero_le _, rfl, hC, only_refl _ _⟩
  case round =>
    obtain ⟨k, p, q, hk, rfl, hK, hG⟩ := hrel
    by_cases hkn : k < n
    · obtain ⟨a0, a1, a2, a3, x, y, q0, q1, q2, q3, hx, hy, c0, c1, c2, c3, c4, c5⟩ := (H.out k hkn).only hG hb hne
      have hlt := hK.lt
      have hneC : C ≠ wr.heap.size := by omega
      have k1 := hK.c1
      have g1 := hK.f1
      have HK := Lib.hid hK
      have HG := Lib.hid hG
      clear hK hG hC
      go_wp2
      all_goals
        go_roundw
        case rel => exact ⟨k + 1, p, _, by omega, by go_num, (HK.out.set1 _).alloc _, only_alloc (only_setCell (p := ⟨C, 1, none⟩) HG.out (.inl rfl) _) _⟩
        case measure => simp [intOf]; omega
    · go_wp2
      go_end0
      exact ⟨p, q, rfl, hK, hG⟩

set_option maxHeartbeats 1600000 in
set_option maxRecDepth 1000000 in
theorem signed_none (C cap : Nat) (a : Option Addr) (p q : Bool) (w : World) (hC : Chk C p q w) :
    Calls Tryz.prog 54 #[.pointer (some ⟨C, 0, none⟩), .slice a 0 cap] w fun e w' => e = .returned (.tuple #[]) ∧ Chk C p q w' ∧ w.grownBy w' (some C) := by
  go_enter Tryz.func54, Tryz.ntmps54
  go_wp2
  go_loopw [8] (fun i wr => i = .int .i64 0 ∧ Chk C p q wr ∧ w.grownBy wr (some C)) (fun _ _ => 0)
  case atStart => exact ⟨rfl, hC, only_refl _ _⟩
  case round =>
    obtain ⟨rfl, hK, hG⟩ := hrel
    go_wp2
    go_end0
    exact ⟨rfl, hK, hG⟩

/-- a slice of signatures away from the checker -/
def SgnsA (w : World) (C : Nat) (a : Option Addr) (n : Nat) : Prop := n = 0 ∨ ∃ b off, a = some ⟨b, off, none⟩ ∧ b < w.heap.size ∧ b ≠ C ∧ ∀ i, i < n → SgnAt w b (off + i * 6)
theorem SgnsA.only {w W : World} {C : Nat} {a : Option Addr} {n : Nat} (h : w.grownBy W (some C)) (hs : SgnsA w C a n) : SgnsA W C a n := by
  rcases hs with hs | ⟨b, off, rfl, hb, hne, hs⟩
  · exact .inl hs
  · exact .inr ⟨b, off, rfl, Nat.lt_of_lt_of_le hb h.size, hne, fun i hi => (hs i hi).only h hb hne⟩
theorem signed_any (C n cap : Nat) (a : Option Addr) (p q : Bool) (w : World) (hn : n ≤ 1048576) (hC : Chk C p q w) (h : SgnsA w C a n) :
    Calls Tryz.prog 54 #[.pointer (some ⟨C, 0, none⟩), .slice a n cap] w (ChkRet C w) := by
  rcases h with rfl | ⟨b, off, rfl, hb, hne, h⟩
  · exact (signed_none C cap a p q w hC).mono fun e w' ⟨h1, h2, h3⟩ => ⟨p, q, h1, h2, h3⟩
  · exact signed_some C b off n cap p q w hn hC hb hne h

set_option maxHeartbeats 1600000 in
set_option maxRecDepth 1000000 in
theorem cert_any (C n cap : Nat) (a : Option Addr) (p q : Bool) (w : World) (hn : n ≤ 1048576) (hC : Chk C p q w) (h : SgnsA w C a n) :
    Calls Tryz.prog 97 #[.pointer (some ⟨C, 0, none⟩), .slice a n cap] w (ChkRet C w) := by
  have H := Lib.hid h
  have k1 := hC.c1
  have g1 := hC.f1
  have HC := Lib.hid hC
  clear h hC
  go_enter Tryz.func97, Tryz.ntmps97
  go_wp2_with (go_at_call 54; refine (signed_any C n cap a p _ _ hn (HC.out.set1 _) (H.out.only (only_setCell (p := ⟨C, 1, none⟩) (only_refl w _) (.inl rfl) _))).mono ?_; rintro e w2 ⟨p2, q2, rfl, hC2, hG2⟩)
  all_goals
    go_end0
    exact ⟨p2, q2, rfl, hC2, only_trans (only_setCell (p := ⟨C, 1, none⟩) (only_refl w _) (.inl rfl) _) hG2⟩
end Go.Proofs.YtoigjpkdcadlnaaGreatDoor

/-
  LeaseTake: message.Valid's checker: entries, statuses, snapshots.
-/
namespace Go.Proofs.YtoigjpkdcadlnaaGreatDoor
open Go Go.RowKit

theorem two_set {w : World} {C : Nat} (r s : Bool) : w.grownBy ((w.setCell ⟨C, 0, none⟩ (.bool r)).setCell ⟨C, 1, none⟩ (.bool s)) (some C) :=
  only_setCell (p := ⟨C, 1, none⟩) (only_setCell (p := ⟨C, 0, none⟩) (only_refl w _) (.inl rfl) _) (.inl rfl) _

set_option maxHeartbeats 3200000 in
set_option maxRecDepth 1000000 in
theorem entry_any (C n cap : Nat) (v : Int) (x : ByteArray) (a : Option Addr) (p q : Bool) (w : World) (hn : n ≤ 1048576) (hC : Chk C p q w) (h : SgnsA w C a n) :
    Calls Tryz.prog 56 #[.pointer (some ⟨C, 0, none⟩), .agg #[.int .i64 v, .string x, .slice a n cap]] w (ChkRet C w) := by
  have H := Lib.hid h
  have k0 := hC.c0
  have g0 := hC.f0
  have k1 := hC.c1
  have g1 := hC.f1
  have hlt := hC.lt
  have hneC : C ≠ w.heap.size := by omega
  have HC := Lib.hid hC
  clear h hC
  go_enter Tryz.func56, Tryz.ntmps56
  go_wp2_with (first
    | (go_at_call 52; refine (number_any _ _).mono ?_; rintro e w1 ⟨rfl, rfl⟩)
    | (go_at_call 97; refine (cert_any C n cap a _ _ _ hn (((HC.out.set0 _).set1 _).alloc _) (H.out.only (only_alloc (two_set _ _) _))).mono ?_; rintro e w2 ⟨p2, q2, rfl, hC2, hG2⟩))
  all_goals
    go_end0
    exact ⟨p2, q2, rfl, hC2, only_trans (only_alloc (two_set _ _) _) hG2⟩
end Go.Proofs.YtoigjpkdcadlnaaGreatDoor
