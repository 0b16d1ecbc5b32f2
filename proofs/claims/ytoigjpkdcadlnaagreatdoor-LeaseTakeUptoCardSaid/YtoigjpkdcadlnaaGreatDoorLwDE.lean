/-
  LeaseTake: the reference's Valid of messages: lengths.
-/
import Derived.Test.YtoigjpkdcadlnaaGreatDoorLwABC
import Derived.Test.YtoigjpkdcadlnaaGreatDoorAwAB
namespace Go.Proofs.YtoigjpkdcadlnaaGreatDoor
open Go Go.RowKit

/-- the message's box and the copy of its snapshot -/
def Box2 (m : Msg) (w W1 W : World) : Prop := Box w W m.cells ∧ Box W1 W [.int .i64 m.sl, .string m.rt, .slice m.ckP m.ckN m.ckC, .slice m.pfP m.pfN m.pfC, .slice m.hnP m.hnN m.hnC]
theorem Box2.below {m : Msg} {w W1 W W' : World} (h : Box2 m w W1 W) (hb : Below W.heap.size W W') : Box2 m w W1 W' := ⟨h.1.below hb, h.2.below hb⟩

set_option maxHeartbeats 6400000 in
set_option maxRecDepth 1000000 in
theorem lengths_any (m : Msg) (w : World) (hm : m.Ok w) : Calls Tryz.prog 64 #[.agg #[.int .i64 m.kind, .int .i64 m.frm, .int .i64 m.dst, .int .i64 m.view, .int .i64 m.slot, .string m.value, .int .i64 m.untl, .int .i64 m.g0, .int .i64 m.g1, .int .i64 m.g2, .int .i64 m.g3, .string m.gd, .string m.gs, .slice m.stP m.stN m.stC, .slice m.enP m.enN m.enC, .int .i64 m.sl, .string m.rt, .slice m.ckP m.ckN m.ckC, .slice m.pfP m.pfN m.pfC, .slice m.hnP m.hnN m.hnC, .slice m.txP m.txN m.txC]] w (BoolRet w) := by
  have hB0 : Box w (w.alloc (.cells #[.int .i64 m.kind, .int .i64 m.frm, .int .i64 m.dst, .int .i64 m.view, .int .i64 m.slot, .string m.value, .int .i64 m.untl, .int .i64 m.g0, .int .i64 m.g1, .int .i64 m.g2, .int .i64 m.g3, .string m.gd, .string m.gs, .slice m.stP m.stN m.stC, .slice m.enP m.enN m.enC, .int .i64 m.sl, .string m.rt, .slice m.ckP m.ckN m.ckC, .slice m.pfP m.pfN m.pfC, .slice m.hnP m.hnN m.hnC, .slice m.txP m.txN m.txC] 37)) m.cells := Box.first w m.cells 37
  have HM := Lib.hid hm
  have hst := hm.stH
  have hen := hm.enH
  have hhn := hm.hnH
  have htx := hm.txH
  clear hm
  go_enter Tryz.func64, Tryz.ntmps64
  go_upto_region 1 with fail
  revert hB0
  generalize w.alloc _ = W1
  intro hB0
  have hX := Box.first W1 [.int .i64 m.sl, .string m.rt, .slice m.ckP m.ckN m.ckC, .slice m.pfP m.pfN m.pfC, .slice m.hnP m.hnN m.hnC] 35
  have hBX := hB0.alloc (.cells #[.int .i64 m.sl, .string m.rt, .slice m.ckP m.ckN m.ckC, .slice m.pfP m.pfN m.pfC, .slice m.hnP m.hnN m.hnC] 35)
  have c5 := hB0.2 5 _ rfl
  have c13 := hB0.2 13 _ rfl
  have c14 := hB0.2 14 _ rfl
  have c15 := hB0.2 15 _ rfl
  have c16 := hB0.2 16 _ rfl
  have c17 := hB0.2 17 _ rfl
  have c18 := hB0.2 18 _ rfl
  have c19 := hB0.2 19 _ rfl
  have c20 := hB0.2 20 _ rfl
  have hltW := hB0.1.2
  have hneW : w.heap.size ≠ W1.heap.size := by omega
  go_wp2
  all_goals first
    | (go_ret; exact ⟨_, rfl, hBX.1.1⟩)
    | skip
  have hD : Box2 m w W1 (W1.alloc (.cells #[.int .i64 m.sl, .string m.rt, .slice m.ckP m.ckN m.ckC, .slice m.pfP m.pfN m.pfC, .slice m.hnP m.hnN m.hnC] 35)) := ⟨hBX, hX⟩
  have HD := Lib.hid hD
  clear hD hBX hX hB0 c5 c13 c14 c15 c16 c17 c18 c19 c20
  generalize W1.alloc _ = W2 at HD ⊢
  have d20 := HD.out.1.2 20 _ rfl
  go_loop [4, 5] (fun x i => ∃ (k : Nat) (z : Int), k ≤ m.txN ∧ i = .int .i64 k ∧ x = .int .i64 z) (fun _ i => m.txN - (intOf i).toNat)
  case atStart => exact ⟨0, 0, Nat.zero_le _, rfl, rfl⟩
  case round =>
    obtain ⟨k, z, hk, rfl, rfl⟩ := hrel
    by_cases hkn : k < m.txN
    · obtain ⟨b, off, hp, hb, hx⟩ : ∃ b off, m.txP = some ⟨b, off, none⟩ ∧ b < W2.heap.size ∧ ∀ i, i < m.txN → ∃ s : ByteArray, W2.cell? ⟨b, off + i, none⟩ = some (.string s) ∧ s.size ≤ 1048576 := by
        rcases HM.out.txR.below HD.out.1.1.1 with h0 | ⟨b, off, h1, h2⟩
        · omega
        · exact ⟨b, off, h1, h2.1, h2.2⟩
      obtain ⟨s, hc, hs⟩ := hx k hkn
      rw [hp] at d20
      clear hx hp
      go_wp2
      go_round
      case rel => exact ⟨k + 1, _, by omega, by go_num, rfl⟩
      case measure => simp [intOf]; omega
    · go_wp2
      clear d20
      go_loopw [6] (fun i wr => ∃ k : Nat, k ≤ m.stN ∧ i = .int .i64 k ∧ Box2 m w W1 wr) (fun i _ => m.stN - (intOf i).toNat)
      case atStart => exact ⟨0, Nat.zero_le _, rfl, HD.out⟩
      case round =>
        obtain ⟨k2, hk2, rfl, hB⟩ := hrel
        have hc13 := hB.1.2 13 _ rfl
        have HB := Lib.hid hB
        by_cases hkn2 : k2 < m.stN
        · obtain ⟨b, off, hp, hb, hh⟩ : ∃ b off, m.stP = some ⟨b, off, none⟩ ∧ b < w.heap.size ∧ ∀ i, i < m.stN → StatAt w b (off + i * 12) := by
            rcases HM.out.stR with h0 | h1
            · omega
            · exact h1
          obtain ⟨a, b0, c, d, e0, e1, e2, e3, x, y, z', p, n, cap, q1, q2, q3, q4, q5, q6, q7, q8, q9, q10, q11, q12, qp, k0, k1, k2', k3, k4, k5, k6, k7, k8, k9, k10, k11⟩ := (hh k2 hkn2).below hB.1.1.1 hb
          have HQ := Lib.hid qp
          rw [hp] at hc13
          clear hh qp hp hB
          go_wp2_with (go_at_call 102; refine (statusShort_any _ _ _ _ _ _ _ _ _ _ _ _ _ _ _ q12 HQ.out q5 q6 q7 q8 q10 q11).mono ?_; rintro e w2 ⟨r, rfl, hb2⟩; have hB2 := Lib.hid (HB.out.below hb2); clear hb2)
          all_goals first
            | (go_roundw
               case rel => exact ⟨k2 + 1, by omega, by go_num, hB2.out⟩
               case measure => simp [intOf]; omega)
            | (go_ret; exact ⟨_, rfl, hB2.out.1.1.1⟩)
        · clear hB
          go_wp2
          clear hc13
          go_loopw [7] (fun i wr => ∃ k : Nat, k ≤ m.enN ∧ i = .int .i64 k ∧ Box2 m w W1 wr) (fun i _ => m.enN - (intOf i).toNat)
          case atStart => exact ⟨0, Nat.zero_le _, rfl, HB.out⟩
          case round =>
            obtain ⟨k3, hk3, rfl, hB⟩ := hrel
            have hc14 := hB.1.2 14 _ rfl
            have HB3 := Lib.hid hB
            by_cases hkn3 : k3 < m.enN
            · obtain ⟨b, off, hp, hb, hh⟩ : ∃ b off, m.enP = some ⟨b, off, none⟩ ∧ b < w.heap.size ∧ ∀ i, i < m.enN → EntAt w b (off + i * 3) := by
                rcases HM.out.enR with h0 | h1
                · omega
                · exact h1
              obtain ⟨a, x, p, n, cap, q1, q2, q3, qp, k0, k1, k2'⟩ := (hh k3 hkn3).below hB.1.1.1 hb
              have HQ := Lib.hid qp
              rw [hp] at hc14
              clear hh qp hp hB
              go_wp2_with (go_at_call 103; refine (entryShort_any _ _ _ _ _ q3 _ HQ.out).mono ?_; rintro e w2 ⟨r, rfl, hb2⟩; have hB2 := Lib.hid (HB3.out.below hb2); clear hb2)
              all_goals first
                | (go_roundw
                   case rel => exact ⟨k3 + 1, by omega, by go_num, hB2.out⟩
                   case measure => simp [intOf]; omega)
                | (go_ret; exact ⟨_, rfl, hB2.out.1.1.1⟩)
            · clear hB
              go_wp2
              clear hc14
              go_loopw [8] (fun i wr => ∃ k : Nat, k ≤ m.hnN ∧ i = .int .i64 k ∧ Box2 m w W1 wr) (fun i _ => m.hnN - (intOf i).toNat)
              case atStart => exact ⟨0, Nat.zero_le _, rfl, HB3.out⟩
              case round =>
                obtain ⟨k4, hk4, rfl, hB⟩ := hrel
                have hx4 := hB.2.2 4 _ rfl
                have HB4 := Lib.hid hB
                by_cases hkn4 : k4 < m.hnN
                · obtain ⟨b, off, hp, hb, hh⟩ : ∃ b off, m.hnP = some ⟨b, off, none⟩ ∧ b < w.heap.size ∧ ∀ i, i < m.hnN → HandAt w b (off + i * 4) := by
                    rcases HM.out.hnR with h0 | h1
                    · omega
                    · exact h1
                  obtain ⟨s', qs, k0, a, x, p, n, cap, q1, q2, q3, qp, k1, k2', k3'⟩ := (hh k4 hkn4).below hB.1.1.1 hb
                  have HQ := Lib.hid qp
                  rw [hp] at hx4
                  clear hh qp hp hB
                  go_wp2_with (go_at_call 103; refine (entryShort_any _ _ _ _ _ q3 _ HQ.out).mono ?_; rintro e w2 ⟨r, rfl, hb2⟩; have hB2 := Lib.hid (HB4.out.below hb2); clear hb2)
                  all_goals first
                    | (go_roundw
                       case rel => exact ⟨k4 + 1, by omega, by go_num, hB2.out⟩
                       case measure => simp [intOf]; omega)
                    | (go_ret; exact ⟨_, rfl, hB2.out.1.1.1⟩)
                · have x3 := hB.2.2 3 _ rfl
                  have g7 := hB.1.2 7 _ rfl
                  have g8 := hB.1.2 8 _ rfl
                  have g9 := hB.1.2 9 _ rfl
                  have g10 := hB.1.2 10 _ rfl
                  have g11 := hB.1.2 11 _ rfl
                  have g12 := hB.1.2 12 _ rfl
                  have hl1 := hB.1.1.2
                  have hl2 := hB.2.1.2
                  have hne1 : w.heap.size ≠ wr.heap.size := by omega
                  have hne2 : W1.heap.size ≠ wr.heap.size := by omega
                  have HPF := Lib.hid ((HM.out.pfR.below hB.1.1.1).below ((Below.refl wr.heap.size wr).alloc (Nat.le_refl _) (.cells #[.int .i64 m.g0, .int .i64 m.g1, .int .i64 m.g2, .int .i64 m.g3, .string m.gd, .string m.gs] 28)))
                  have hpf := HM.out.pfH
                  clear hB
                  go_wp2_with (first
                    | (go_at_call 104; (with_reducible refine (short_any m.pfP m.pfN m.pfC _ hpf HPF.out).mono ?_); rintro e w2 ⟨r, rfl, rfl⟩)
                    | (go_at_call 104; refine (short_any _ 1 _ _ (by omega) (sgnP1 HM.out.g0H HM.out.g1H HM.out.g2H HM.out.g3H HM.out.gdH HM.out.gsH _)).mono ?_; rintro e w3 ⟨r2, rfl, rfl⟩))
                  all_goals
                    go_ret
                    first
                      | exact ⟨_, rfl, HB4.out.1.1.1⟩
                      | exact ⟨_, rfl, (HB4.out.1.1.alloc _).1⟩
end Go.Proofs.YtoigjpkdcadlnaaGreatDoor

/-
  LeaseTake: the reference's table of fields, by the kernel.
-/
namespace Go.Proofs.YtoigjpkdcadlnaaGreatDoor
open Go Go.RowKit Go.AM

/-- the fields of the kinds, and their letters -/
def fieldsL : List (List Nat) := [[], [86, 83], [86, 83, 84, 69], [86, 83, 88, 71, 84], [86, 83, 71], [86, 83, 88, 71], [83, 69], [83], [86], [86, 85], [83, 88, 71], [80, 85], [86, 83, 85, 88, 76]]
def lettersL : List Nat := [86, 83, 85, 88, 71, 84, 69, 80, 76]
def hasB (k i : Nat) : Bool := (fieldsL.getD k []).contains (lettersL.getD i 0)

theorem hasRun : ((List.range 13).all fun k => (List.range 9).all fun i => outB (hasB k i) ((runF Tryz.prog same0 known0 kindOf 3000).call 100 [.int .i64 (k : Int), .int .u8 (lettersL.getD i 0 : Int)] s00)) = true := by kernel_rfl

theorem has_any (k i : Nat) (hk : k < 13) (hi : i < 9) (w : World) : Calls Tryz.prog 100 #[.int .i64 (k : Int), .int .u8 (lettersL.getD i 0 : Int)] w (BRet (hasB k i) w) := by
  have h1 := List.all_eq_true.mp hasRun k (by simpa using hk)
  have h2 := List.all_eq_true.mp h1 i (by simpa using hi)
  obtain ⟨s, hs⟩ := outB_some h2
  rw [runF_eq] at hs
  refine ((plain_call progOk0 (args := [.int .i64 (k : Int), .int .u8 (lettersL.getD i 0 : Int)]) rfl rfl hs).2 μ0 [.int .i64 (k : Int), .int .u8 (lettersL.getD i 0 : Int)] w ⟨rfl, rfl, trivial⟩).mono ?_
  rintro e w' ⟨v', rfl, hv, hb⟩
  have : v' = .bool (hasB k i) := hv
  subst this
  exact ⟨rfl, hb⟩
end Go.Proofs.YtoigjpkdcadlnaaGreatDoor
