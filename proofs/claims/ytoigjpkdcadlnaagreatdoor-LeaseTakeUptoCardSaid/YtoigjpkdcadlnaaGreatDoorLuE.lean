/-
  LeaseTake: message.Valid's checker: snapshots.
-/
import Derived.Test.YtoigjpkdcadlnaaGreatDoorLuD
namespace Go.Proofs.YtoigjpkdcadlnaaGreatDoor
open Go Go.RowKit

def EntA (w : World) (C b o : Nat) : Prop := ∃ (a : Int) (x : ByteArray) (p : Option Addr) (n cap : Nat), n ≤ 1048576 ∧ SgnsA w C p n ∧
  w.cell? ⟨b, o, none⟩ = some (.int .i64 a) ∧ w.cell? ⟨b, o + 1, none⟩ = some (.string x) ∧ w.cell? ⟨b, o + 2, none⟩ = some (.slice p n cap)
def HandA (w : World) (C b o : Nat) : Prop := (∃ s : Int, w.cell? ⟨b, o, none⟩ = some (.int .i64 s)) ∧ EntA w C b (o + 1)
def HandsA (w : World) (C : Nat) (a : Option Addr) (n : Nat) : Prop := n = 0 ∨ ∃ b off, a = some ⟨b, off, none⟩ ∧ b < w.heap.size ∧ b ≠ C ∧ ∀ i, i < n → HandA w C b (off + i * 4)
theorem EntA.only {w W : World} {C b o : Nat} (h : w.grownBy W (some C)) (hb : b < w.heap.size) (hne : b ≠ C) (hs : EntA w C b o) : EntA W C b o := by
  obtain ⟨a, x, p, n, cap, hn, hp, c0, c1, c2⟩ := hs
  exact ⟨a, x, p, n, cap, hn, hp.only h, (only_cell h (by exact hb) (by exact hne)).trans c0, (only_cell h (by exact hb) (by exact hne)).trans c1, (only_cell h (by exact hb) (by exact hne)).trans c2⟩
theorem HandA.only {w W : World} {C b o : Nat} (h : w.grownBy W (some C)) (hb : b < w.heap.size) (hne : b ≠ C) (hs : HandA w C b o) : HandA W C b o := by
  obtain ⟨⟨s, c0⟩, he⟩ := hs
  exact ⟨⟨s, (only_cell h (by exact hb) (by exact hne)).trans c0⟩, he.only h hb hne⟩

theorem one_set {w : World} {C : Nat} (r : Bool) : w.grownBy (w.setCell ⟨C, 0, none⟩ (.bool r)) (some C) := only_setCell (p := ⟨C, 0, none⟩) (only_refl w _) (.inl rfl) _

set_option maxHeartbeats 6400000 in
set_option maxRecDepth 1000000 in
theorem snapshot_any (C nc cc np cp nh ch : Nat) (s : Int) (r : ByteArray) (pc pp ph : Option Addr) (p q : Bool) (w : World) (hn : np ≤ 1048576) (hh : nh ≤ 1048576) (hC : Chk C p q w) (h : SgnsA w C pp np) (hH : HandsA w C ph nh) :
    Calls Tryz.prog 57 #[.pointer (some ⟨C, 0, none⟩), .agg #[.int .i64 s, .string r, .slice pc nc cc, .slice pp np cp, .slice ph nh ch]] w (ChkRet C w) := by
  have H := Lib.hid h
  have HH := Lib.hid hH
  have k0 := hC.c0
  have g0 := hC.f0
  have k1 := hC.c1
  have g1 := hC.f1
  have hlt := hC.lt
  have hneC : C ≠ w.heap.size := by omega
  have HC := Lib.hid hC
  clear h hC hH
  go_enter Tryz.func57, Tryz.ntmps57
  go_wp2_with (first
    | (go_at_call 52; refine (number_any _ _).mono ?_; rintro e w1 ⟨rfl, rfl⟩)
    | (go_at_call 97; refine (cert_any C np cp pp _ _ _ hn (((HC.out.set0 _).set1 _).alloc _) (H.out.only (only_alloc (two_set _ _) _))).mono ?_; rintro e w2 ⟨p2, q2, rfl, hC2, hG2⟩; have t4 : w2.cell? ⟨w.heap.size, 4, none⟩ = some (.slice ph nh ch) := box_only hG2 (by simp) hneC 4 _ rfl; have HG2 := Lib.hid (only_trans (only_alloc (two_set _ _) _) hG2); have HC2 := Lib.hid hC2; clear hG2 hC2))
  all_goals
    go_loopw [45] (fun i wr => ∃ (k : Nat) (p q : Bool), k ≤ nh ∧ i = .int .i64 k ∧ Chk C p q wr ∧ w.grownBy wr (some C)) (fun i _ => nh - (intOf i).toNat)
    case atStart => exact ⟨0, p2, q2, Nat.zero_le _, rfl, HC2.out, HG2.out⟩
    case round =>
      obtain ⟨k, p3, q3, hk, rfl, hK, hG⟩ := hrel
      by_cases hkn : k < nh
      · obtain ⟨b, off, rfl, hb, hne, hx⟩ : ∃ b off, ph = some ⟨b, off, none⟩ ∧ b < w.heap.size ∧ b ≠ C ∧ ∀ i, i < nh → HandA w C b (off + i * 4) := by
          rcases HH.out with h0 | h1
          · omega
          · exact h1
        obtain ⟨⟨s', c0⟩, a, x, pe, ne, ce, hne', hpe, c1, c2, c3⟩ := (hx k hkn).only hG hb hne
        have hltr := hK.lt
        have hneR : C ≠ wr.heap.size := by omega
        have j0 := hK.c0
        have f0 := hK.f0
        have HP := Lib.hid hpe
        have HK := Lib.hid hK
        have HG := Lib.hid hG
        clear hK hG hx hpe k0 g0 k1 g1
        go_wp2_with (first
          | (go_at_call 52; refine (number_any _ _).mono ?_; rintro e w1 ⟨rfl, rfl⟩)
          | (go_at_call 56; refine (entry_any C ne ce _ _ pe _ _ _ hne' ((HK.out.set0 _).alloc _) (HP.out.only (only_alloc (one_set _) _))).mono ?_; rintro e w4 ⟨p4, q4, rfl, hC4, hG4⟩; have HC4 := Lib.hid hC4; have HG4 := Lib.hid (only_trans HG.out (only_trans (only_alloc (one_set _) _) hG4)); clear hC4 hG4))
        all_goals
          go_roundw
          case rel => exact ⟨k + 1, p4, q4, by omega, by go_num, HC4.out, HG4.out⟩
          case measure => simp [intOf]; omega
      · go_wp2
        go_end0
        exact ⟨p3, q3, rfl, hK, hG⟩
end Go.Proofs.YtoigjpkdcadlnaaGreatDoor
