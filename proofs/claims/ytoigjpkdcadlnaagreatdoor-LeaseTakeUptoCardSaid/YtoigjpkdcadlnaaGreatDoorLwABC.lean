/-
  LeaseTake: the reference's Valid of messages: helpers.
-/
import Derived.Test.YtoigjpkdcadlnaaGreatDoorLuI
namespace Go.Proofs.YtoigjpkdcadlnaaGreatDoor
open Go Go.RowKit

set_option maxHeartbeats 800000 in
theorem numberRef_any (n : Int) (w : World) : Calls Tryz.prog 61 #[.int .i64 n] w fun e w' => e = .returned (.bool (numB n)) ∧ w = w' := by
  by_cases h0 : 0 ≤ n
  · by_cases h1 : n ≤ 2147483647
    · go_enter Tryz.func61, Tryz.ntmps61
      go_wp2
      go_ret
      exact ⟨congrArg (fun b => Ending.returned (.bool b)) (numB_t ⟨h0, h1⟩), rfl⟩
    · go_enter Tryz.func61, Tryz.ntmps61
      go_wp2
      go_ret
      exact ⟨congrArg (fun b => Ending.returned (.bool b)) (numB_f (by omega)), rfl⟩
  · go_enter Tryz.func61, Tryz.ntmps61
    go_wp2
    go_ret
    exact ⟨congrArg (fun b => Ending.returned (.bool b)) (numB_f (by omega)), rfl⟩

/-- some truth value; the world as it was -/
def BSame (w : World) (e : Ending) (w' : World) : Prop := ∃ b : Bool, e = .returned (.bool b) ∧ w = w'

set_option maxHeartbeats 1600000 in
set_option maxRecDepth 1000000 in
theorem short_some (b off n cap : Nat) (w : World) (hn : n ≤ 1048576) (h : ∀ i, i < n → SgnAt w b (off + i * 6)) : Calls Tryz.prog 104 #[.slice (some ⟨b, off, none⟩) n cap] w (BSame w) := by
  have H := Lib.hid h
  clear h
  go_enter Tryz.func104, Tryz.ntmps104
  go_wp2
  go_loop [3] (fun i => ∃ k : Nat, k ≤ n ∧ i = .int .i64 k) (fun i => n - (intOf i).toNat)
  case atStart => exact ⟨0, Nat.zero_le _, rfl⟩
  case round =>
    obtain ⟨k, hk, rfl⟩ := hrel
    by_cases hkn : k < n
    · obtain ⟨a0, a1, a2, a3, x, y, q0, q1, q2, q3, hx, hy, c0, c1, c2, c3, c4, c5⟩ := H.out k hkn
      go_wp2
      all_goals first
        | (go_round
           case rel => exact ⟨k + 1, by omega, by go_num⟩
           case measure => simp [intOf]; omega)
        | (go_ret; exact ⟨_, rfl, rfl⟩)
    · go_wp2
      go_ret
      exact ⟨_, rfl, rfl⟩

set_option maxHeartbeats 1600000 in
set_option maxRecDepth 1000000 in
theorem short_none (p : Option Addr) (cap : Nat) (w : World) : Calls Tryz.prog 104 #[.slice p 0 cap] w fun e w' => e = .returned (.bool true) ∧ w = w' := by
  go_enter Tryz.func104, Tryz.ntmps104
  go_wp2
  go_loop [3] (fun i => i = .int .i64 0) (fun _ => 0)
  case atStart => exact rfl
  case round =>
    obtain rfl := hrel
    go_wp2
    go_ret
    exact ⟨rfl, rfl⟩
theorem short_any (p : Option Addr) (n cap : Nat) (w : World) (hn : n ≤ 1048576) (h : SgnsP w p n) : Calls Tryz.prog 104 #[.slice p n cap] w (BSame w) := by
  rcases h with rfl | ⟨b, off, rfl, hb, h⟩
  · exact (short_none p cap w).mono fun _ _ ⟨h1, h2⟩ => ⟨true, h1, h2⟩
  · exact short_some b off n cap w hn h

set_option maxHeartbeats 1600000 in
set_option maxRecDepth 1000000 in
theorem entryShort_any (a : Int) (x : ByteArray) (p : Option Addr) (n cap : Nat) (hn : n ≤ 1048576) (w : World) (hp : SgnsP w p n) : Calls Tryz.prog 103 #[.agg #[.int .i64 a, .string x, .slice p n cap]] w (BoolRet w) := by
  have HP := Lib.hid (hp.below ((Below.refl w.heap.size w).alloc (Nat.le_refl _) (.cells #[.int .i64 a, .string x, .slice p n cap] 110)))
  clear hp
  go_enter Tryz.func103, Tryz.ntmps103
  go_wp2_with (go_at_call 104; refine (short_any _ _ _ _ hn HP.out).mono ?_; rintro e w2 ⟨b, rfl, rfl⟩)
  all_goals
    go_ret
    exact ⟨_, rfl, (Below.refl _ _).alloc (Nat.le_refl _) _⟩

set_option maxHeartbeats 1600000 in
set_option maxRecDepth 1000000 in
theorem statusRange_any (v0 v1 v2 v3 e0 e1 e2 e3 : Int) (x y z : ByteArray) (a : Option Addr) (n cap : Nat) (w : World) :
    Calls Tryz.prog 101 #[.agg #[.int .i64 v0, .int .i64 v1, .int .i64 v2, .int .i64 v3, .string x, .slice a n cap, .int .i64 e0, .int .i64 e1, .int .i64 e2, .int .i64 e3, .string y, .string z]] w (BoolRet w) := by
  go_enter Tryz.func101, Tryz.ntmps101
  go_wp2_with (go_at_call 61; refine (numberRef_any _ _).mono ?_; rintro e w2 ⟨rfl, rfl⟩)
  all_goals
    go_ret
    exact ⟨_, rfl, (Below.refl _ _).alloc (Nat.le_refl _) _⟩
end Go.Proofs.YtoigjpkdcadlnaaGreatDoor

/-
  LeaseTake: the reference's Valid of messages: statuses, what is empty.
-/
namespace Go.Proofs.YtoigjpkdcadlnaaGreatDoor
open Go Go.RowKit

theorem sgnP1 {W : World} {a b c d : Int} {x y : ByteArray} (ha : I64 a) (hb : I64 b) (hc : I64 c) (hd : I64 d) (hx : x.size ≤ 1048576) (hy : y.size ≤ 1048576) (t : TypeId) :
    SgnsP (W.alloc (.cells #[.int .i64 a, .int .i64 b, .int .i64 c, .int .i64 d, .string x, .string y] t)) (some ⟨W.heap.size, 0, none⟩) 1 := by
  refine .inr ⟨W.heap.size, 0, rfl, by have := World.size_alloc W (.cells #[.int .i64 a, .int .i64 b, .int .i64 c, .int .i64 d, .string x, .string y] t); omega, fun i hi => ?_⟩
  obtain rfl : i = 0 := by omega
  exact ⟨a, b, c, d, x, y, ha, hb, hc, hd, hx, hy, by simp, by simp, by simp, by simp, by simp, by simp⟩

set_option maxHeartbeats 1600000 in
set_option maxRecDepth 1000000 in
theorem statusShort_any (v0 v1 v2 v3 e0 e1 e2 e3 : Int) (x y z : ByteArray) (p : Option Addr) (n cap : Nat) (w : World) (hn : n ≤ 1048576) (hp : SgnsP w p n)
    (i0 : I64 e0) (i1 : I64 e1) (i2 : I64 e2) (i3 : I64 e3) (hy : y.size ≤ 1048576) (hz : z.size ≤ 1048576) :
    Calls Tryz.prog 102 #[.agg #[.int .i64 v0, .int .i64 v1, .int .i64 v2, .int .i64 v3, .string x, .slice p n cap, .int .i64 e0, .int .i64 e1, .int .i64 e2, .int .i64 e3, .string y, .string z]] w (BoolRet w) := by
  have hb1 : Below w.heap.size w (w.alloc (.cells #[.int .i64 v0, .int .i64 v1, .int .i64 v2, .int .i64 v3, .string x, .slice p n cap, .int .i64 e0, .int .i64 e1, .int .i64 e2, .int .i64 e3, .string y, .string z] 101)) := (Below.refl _ _).alloc (Nat.le_refl _) _
  have HP := Lib.hid (hp.below hb1)
  have HB := Lib.hid hb1
  have hlt : w.heap.size ≤ (w.alloc (.cells #[.int .i64 v0, .int .i64 v1, .int .i64 v2, .int .i64 v3, .string x, .slice p n cap, .int .i64 e0, .int .i64 e1, .int .i64 e2, .int .i64 e3, .string y, .string z] 101)).heap.size := hb1.size
  have HL := Lib.hid hlt
  clear hp hb1 hlt
  go_enter Tryz.func102, Tryz.ntmps102
  go_wp2_with (first
    | (go_at_call 104; (with_reducible refine (short_any p n cap _ hn HP.out).mono ?_); rintro e w2 ⟨b, rfl, rfl⟩)
    | (go_at_call 104; refine (short_any _ 1 _ _ (by omega) (by have h := sgnP1 (W := w.alloc (.cells #[.int .i64 v0, .int .i64 v1, .int .i64 v2, .int .i64 v3, .string x, .slice p n cap, .int .i64 e0, .int .i64 e1, .int .i64 e2, .int .i64 e3, .string y, .string z] 101)) i0 i1 i2 i3 hy hz 28; simpa using h)).mono ?_; rintro e w3 ⟨b2, rfl, rfl⟩))
  all_goals
    go_ret
    first
      | exact ⟨_, rfl, HB.out⟩
      | exact ⟨_, rfl, HB.out.alloc HL.out _⟩

set_option maxHeartbeats 1600000 in
theorem emptyRef_any (s : Int) (r : ByteArray) (pc pp ph : Option Addr) (nc cc np cp nh ch : Nat) (h1 : nc ≤ 1048576) (h2 : np ≤ 1048576) (h3 : nh ≤ 1048576) (w : World) :
    Calls Tryz.prog 99 #[.agg #[.int .i64 s, .string r, .slice pc nc cc, .slice pp np cp, .slice ph nh ch]] w (BRet (emptyB s r (nc + np + nh)) w) := by
  by_cases hs : s = 0
  · by_cases hr : r.size = 0
    · obtain rfl : r = ⟨#[]⟩ := by
        have : r.data = #[] := Array.eq_empty_of_size_eq_zero hr
        cases r; simp_all
      go_enter Tryz.func99, Tryz.ntmps99
      go_wp2
      go_ret
      refine ⟨congrArg (fun b => Ending.returned (.bool b)) ?_, (Below.refl _ _).alloc (Nat.le_refl _) _⟩
      by_cases hz : nc + np + nh = 0
      · rw [← emptyB_t ⟨hs, hr, hz⟩]; simp; omega
      · rw [← emptyB_f (fun h => hz h.2.2)]; simp; omega
    · have r1 := ba_ne hr
      go_enter Tryz.func99, Tryz.ntmps99
      go_wp2
      go_ret
      exact ⟨congrArg (fun b => Ending.returned (.bool b)) (emptyB_f (fun h => hr h.2.1)), (Below.refl _ _).alloc (Nat.le_refl _) _⟩
  · go_enter Tryz.func99, Tryz.ntmps99
    go_wp2
    go_ret
    exact ⟨congrArg (fun b => Ending.returned (.bool b)) (emptyB_f (fun h => hs h.1)), (Below.refl _ _).alloc (Nat.le_refl _) _⟩
end Go.Proofs.YtoigjpkdcadlnaaGreatDoor

/-
  LeaseTake: the reference's Valid of messages: ranges.
-/
namespace Go.Proofs.YtoigjpkdcadlnaaGreatDoor
open Go Go.RowKit

set_option maxHeartbeats 3200000 in
set_option maxRecDepth 1000000 in
theorem ranges_any (m : Msg) (w : World) (hm : m.Ok w) : Calls Tryz.prog 63 #[.agg #[.int .i64 m.kind, .int .i64 m.frm, .int .i64 m.dst, .int .i64 m.view, .int .i64 m.slot, .string m.value, .int .i64 m.untl, .int .i64 m.g0, .int .i64 m.g1, .int .i64 m.g2, .int .i64 m.g3, .string m.gd, .string m.gs, .slice m.stP m.stN m.stC, .slice m.enP m.enN m.enC, .int .i64 m.sl, .string m.rt, .slice m.ckP m.ckN m.ckC, .slice m.pfP m.pfN m.pfC, .slice m.hnP m.hnN m.hnC, .slice m.txP m.txN m.txC]] w (BoolRet w) := by
  have hB0 : Box w (w.alloc (.cells #[.int .i64 m.kind, .int .i64 m.frm, .int .i64 m.dst, .int .i64 m.view, .int .i64 m.slot, .string m.value, .int .i64 m.untl, .int .i64 m.g0, .int .i64 m.g1, .int .i64 m.g2, .int .i64 m.g3, .string m.gd, .string m.gs, .slice m.stP m.stN m.stC, .slice m.enP m.enN m.enC, .int .i64 m.sl, .string m.rt, .slice m.ckP m.ckN m.ckC, .slice m.pfP m.pfN m.pfC, .slice m.hnP m.hnN m.hnC, .slice m.txP m.txN m.txC] 37)) m.cells := Box.first w m.cells 37
  have HM := Lib.hid hm
  have hst := hm.stH
  have hen := hm.enH
  have hhn := hm.hnH
  clear hm
  go_enter Tryz.func63, Tryz.ntmps63
  go_wp2
  revert hB0
  generalize w.alloc _ = W1
  intro hB0
  go_loopw [3] (fun i wr => ∃ k : Nat, k ≤ m.stN ∧ i = .int .i64 k ∧ Box w wr m.cells) (fun i _ => m.stN - (intOf i).toNat)
  case atStart => exact ⟨0, Nat.zero_le _, rfl, hB0⟩
  case round =>
    obtain ⟨k, hk, rfl, hB⟩ := hrel
    clear hB0
    have hc13 : wr.cell? ⟨w.heap.size, 13, none⟩ = some (.slice m.stP m.stN m.stC) := hB.2 13 _ rfl
    by_cases hkn : k < m.stN
    · obtain ⟨b, off, hp, hb, hh⟩ : ∃ b off, m.stP = some ⟨b, off, none⟩ ∧ b < w.heap.size ∧ ∀ i, i < m.stN → StatAt w b (off + i * 12) := by
        rcases HM.out.stR with h0 | h1
        · omega
        · exact h1
      obtain ⟨a, b0, c, d, e0, e1, e2, e3, x, y, z, p, n, cap, q1, q2, q3, q4, q5, q6, q7, q8, q9, q10, q11, q12, qp, k0, k1, k2, k3, k4, k5, k6, k7, k8, k9, k10, k11⟩ := (hh k hkn).below hB.1.1 hb
      rw [hp] at hc13
      have HBx := Lib.hid hB
      clear hh qp hp hB
      go_wp2_with (go_at_call 101; refine (statusRange_any _ _ _ _ _ _ _ _ _ _ _ _ _ _ _).mono ?_; rintro e w2 ⟨r, rfl, hb2⟩; have hB2 := Lib.hid (HBx.out.below hb2); clear hb2)
      all_goals first
        | (go_roundw
           case rel => exact ⟨k + 1, by omega, by go_num, hB2.out⟩
           case measure => simp [intOf]; omega)
        | (go_ret; exact ⟨_, rfl, hB2.out.1.1⟩)
    · go_wp2
      have hc14 : wr.cell? ⟨w.heap.size, 14, none⟩ = some (.slice m.enP m.enN m.enC) := hB.2 14 _ rfl
      have hc19 : wr.cell? ⟨w.heap.size, 19, none⟩ = some (.slice m.hnP m.hnN m.hnC) := hB.2 19 _ rfl
      have hc15 : wr.cell? ⟨w.heap.size, 15, none⟩ = some (.int .i64 m.sl) := hB.2 15 _ rfl
      go_loop [4] (fun i => ∃ k : Nat, k ≤ m.enN ∧ i = .int .i64 k) (fun i => m.enN - (intOf i).toNat)
      case atStart => exact ⟨0, Nat.zero_le _, rfl⟩
      case round =>
        obtain ⟨k2, hk2, rfl⟩ := hrel
        by_cases hkn2 : k2 < m.enN
        · obtain ⟨b, off, hp, hb, hh⟩ : ∃ b off, m.enP = some ⟨b, off, none⟩ ∧ b < w.heap.size ∧ ∀ i, i < m.enN → EntAt w b (off + i * 3) := by
            rcases HM.out.enR with h0 | h1
            · omega
            · exact h1
          obtain ⟨a, x, p, n, cap, q1, q2, q3, qp, k0, k1, k2'⟩ := (hh k2 hkn2).below hB.1.1 hb
          rw [hp] at hc14
          clear hh qp hp
          go_wp2_with (go_at_call 61; refine (numberRef_any _ _).mono ?_; rintro e w2 ⟨rfl, rfl⟩)
          all_goals first
            | (go_round
               case rel => exact ⟨k2 + 1, by omega, by go_num⟩
               case measure => simp [intOf]; omega)
            | (go_ret; exact ⟨_, rfl, hB.1.1⟩)
        · go_wp2
          go_loop [5] (fun i => ∃ k : Nat, k ≤ m.hnN ∧ i = .int .i64 k) (fun i => m.hnN - (intOf i).toNat)
          case atStart => exact ⟨0, Nat.zero_le _, rfl⟩
          case round =>
            obtain ⟨k3, hk3, rfl⟩ := hrel
            by_cases hkn3 : k3 < m.hnN
            · obtain ⟨b, off, hp, hb, hh⟩ : ∃ b off, m.hnP = some ⟨b, off, none⟩ ∧ b < w.heap.size ∧ ∀ i, i < m.hnN → HandAt w b (off + i * 4) := by
                rcases HM.out.hnR with h0 | h1
                · omega
                · exact h1
              obtain ⟨s', qs, k0, a, x, p, n, cap, q1, q2, q3, qp, k1, k2', k3'⟩ := (hh k3 hkn3).below hB.1.1 hb
              rw [hp] at hc19
              clear hh qp hp
              go_wp2_with (go_at_call 61; refine (numberRef_any _ _).mono ?_; rintro e w2 ⟨rfl, rfl⟩)
              all_goals first
                | (go_round
                   case rel => exact ⟨k3 + 1, by omega, by go_num⟩
                   case measure => simp [intOf]; omega)
                | (go_ret; exact ⟨_, rfl, hB.1.1⟩)
            · go_wp2_with (go_at_call 61; refine (numberRef_any _ _).mono ?_; rintro e w2 ⟨rfl, rfl⟩)
              go_ret
              exact ⟨_, rfl, hB.1.1⟩
end Go.Proofs.YtoigjpkdcadlnaaGreatDoor
