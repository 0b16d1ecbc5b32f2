/-
  LeaseTake: the reference's Valid of messages: a spare field.
-/
import Derived.Test.YtoigjpkdcadlnaaGreatDoorLwDE
namespace Go.Proofs.YtoigjpkdcadlnaaGreatDoor
open Go Go.RowKit

def Spare (m : Msg) (kd : Nat) (i : Nat) : Prop := pb m i = true ∧ hasB kd i = false
def SpF (m : Msg) (w W3 : World) (W : World) : Prop := Box w W m.cells ∧ Below W3.heap.size W3 W
theorem SpF.keeps (m : Msg) (w W3 : World) : Keeps (SpF m w W3) := fun _ _ h hb => ⟨h.1.below hb, below_trans h.2 hb⟩
theorem bF {b : Bool} {F : World → Prop} (hk : Keeps F) {W : World} {f : FuncId} {args : Array Value} (hF : F W) (h : Calls Tryz.prog f args W (BRet b W)) : Calls Tryz.prog f args W fun e w' => e = .returned (.bool b) ∧ F w' :=
  h.mono fun _ _ ⟨h1, h2⟩ => ⟨h1, hk _ _ hF h2⟩
theorem spS {m : Msg} {w W3 W : World} {kd blk j : Nat} (hkd : m.kind = (kd : Int)) (hblk : blk < W3.heap.size) (hc : W3.cell? ⟨blk, j, none⟩ = some (.bool (pb m j))) (hb : pb m j = true) (h : SpF m w W3 W) :
    W.cell? ⟨blk, j, none⟩ = some (.bool true) ∧ W.cell? ⟨w.heap.size, 0, none⟩ = some (.int .i64 (kd : Int)) ∧ SpF m w W3 W :=
  ⟨(h.2.cell (p := ⟨blk, j, none⟩) hblk).trans (by rw [hc, hb]), by rw [← hkd]; exact h.1.2 0 _ rfl, h⟩

def SpRet (m : Msg) (kd : Nat) (w : World) (e : Ending) (w' : World) : Prop := ∃ b : Bool, e = .returned (.bool b) ∧ (b = true ↔ ∃ i, i < 9 ∧ Spare m kd i) ∧ Below w.heap.size w w'
theorem Keeps.drewN {F : World → Prop} (h : Keeps F) {W : World} (hF : F W) (n : Nat) : F (W.drewN n) := h _ _ hF ⟨rfl, rfl, rfl, Nat.le_refl _, fun _ _ => rfl⟩
theorem ns_step {m : Msg} {kd k : Nat} (h : ∀ j, j < k → ¬ Spare m kd j) (hk : ¬ Spare m kd k) : ∀ j, j < k + 1 → ¬ Spare m kd j := fun j hj => by
  by_cases e : j = k
  · subst e; exact hk
  · exact h j (by omega)

set_option maxHeartbeats 12800000 in
set_option maxRecDepth 1000000 in
theorem spare_any (m : Msg) (kd : Nat) (hkd : kd < 13) (hmk : m.kind = (kd : Int)) (w : World) (hm : m.Ok w) : Calls Tryz.prog 62 #[.agg #[.int .i64 m.kind, .int .i64 m.frm, .int .i64 m.dst, .int .i64 m.view, .int .i64 m.slot, .string m.value, .int .i64 m.untl, .int .i64 m.g0, .int .i64 m.g1, .int .i64 m.g2, .int .i64 m.g3, .string m.gd, .string m.gs, .slice m.stP m.stN m.stC, .slice m.enP m.enN m.enC, .int .i64 m.sl, .string m.rt, .slice m.ckP m.ckN m.ckC, .slice m.pfP m.pfN m.pfC, .slice m.hnP m.hnN m.hnC, .slice m.txP m.txN m.txC]] w (SpRet m kd w) := by
  have hB0 : Box w (w.alloc (.cells #[.int .i64 m.kind, .int .i64 m.frm, .int .i64 m.dst, .int .i64 m.view, .int .i64 m.slot, .string m.value, .int .i64 m.untl, .int .i64 m.g0, .int .i64 m.g1, .int .i64 m.g2, .int .i64 m.g3, .string m.gd, .string m.gs, .slice m.stP m.stN m.stC, .slice m.enP m.enN m.enC, .int .i64 m.sl, .string m.rt, .slice m.ckP m.ckN m.ckC, .slice m.pfP m.pfN m.pfC, .slice m.hnP m.hnN m.hnC, .slice m.txP m.txN m.txC] 37)) m.cells := Box.first w m.cells 37
  have HM := Lib.hid hm
  have HKD := Lib.hid hmk
  have hneq := neq28 m.g0 m.g1 m.g2 m.g3 m.gd m.gs
  clear hm hmk
  go_enter Tryz.func62, Tryz.ntmps62
  go_wp2
  revert hB0
  generalize w.alloc _ = W1
  intro hB0
  go_region_held3 (fun W => W.cell? ⟨w.heap.size, 3, none⟩ = some (.int .i64 m.view) ∧ W.cell? ⟨w.heap.size, 4, none⟩ = some (.int .i64 m.slot) ∧ W.cell? ⟨w.heap.size, 5, none⟩ = some (.string m.value) ∧ W.cell? ⟨w.heap.size, 6, none⟩ = some (.int .i64 m.untl) ∧ W.cell? ⟨w.heap.size, 7, none⟩ = some (.int .i64 m.g0) ∧ W.cell? ⟨w.heap.size, 8, none⟩ = some (.int .i64 m.g1) ∧ W.cell? ⟨w.heap.size, 9, none⟩ = some (.int .i64 m.g2) ∧ W.cell? ⟨w.heap.size, 10, none⟩ = some (.int .i64 m.g3) ∧ W.cell? ⟨w.heap.size, 11, none⟩ = some (.string m.gd) ∧ W.cell? ⟨w.heap.size, 12, none⟩ = some (.string m.gs) ∧ W.cell? ⟨w.heap.size, 13, none⟩ = some (.slice m.stP m.stN m.stC) ∧ W.cell? ⟨w.heap.size, 14, none⟩ = some (.slice m.enP m.enN m.enC) ∧ W.cell? ⟨w.heap.size, 15, none⟩ = some (.int .i64 m.sl) ∧ W.cell? ⟨w.heap.size, 16, none⟩ = some (.string m.rt) ∧ W.cell? ⟨w.heap.size, 17, none⟩ = some (.slice m.ckP m.ckN m.ckC) ∧ W.cell? ⟨w.heap.size, 18, none⟩ = some (.slice m.pfP m.pfN m.pfC) ∧ W.cell? ⟨w.heap.size, 19, none⟩ = some (.slice m.hnP m.hnN m.hnC) ∧ W.cell? ⟨w.heap.size, 20, none⟩ = some (.slice m.txP m.txN m.txC) ∧ Box w W m.cells)
    (first | exact boxP hB0 | exact boxP hB0.drew | exact boxP hB2 | exact boxP (hB2.alloc _) | exact boxP hB2.drew)
    (first
      | (go_at_call 99; (with_reducible refine (bBox (by first | exact hB0 | exact hB0.drew) (emptyRef_any _ _ _ _ _ _ _ _ _ _ _ HM.out.ckH HM.out.pfH HM.out.hnH _)).mono ?_); rintro e w2 ⟨rfl, hB2⟩))
  go_wp2
  obtain ⟨W3, hW3⟩ : ∃ W3, W3 = w2.alloc (.cells #[.bool (m.view != 0), .bool (m.slot != 0), .bool (m.untl != 0), .bool (!m.value.toList.isEmpty), .bool (!sgZ m.g0 m.g1 m.g2 m.g3 m.gd.data.toList m.gs.data.toList), .bool (decide (0 < m.stN)), .bool (decide (0 < m.enN)), .bool (!emptyB m.sl m.rt (m.ckN + m.pfN + m.hnN)), .bool (decide (0 < m.txN))] 4) := ⟨_, rfl⟩
  have hcs : ∀ i, i < 9 → W3.cell? ⟨w2.heap.size, i, none⟩ = some (.bool (pb m i)) := fun i hi => by
    rw [hW3]
    match i, hi with
    | 0, _ => simp [pb, presL]
    | 1, _ => simp [pb, presL]
    | 2, _ => simp [pb, presL]
    | 3, _ => simp [pb, presL]
    | 4, _ => simp [pb, presL]
    | 5, _ => simp [pb, presL]
    | 6, _ => simp [pb, presL]
    | 7, _ => simp [pb, presL]
    | 8, _ => simp [pb, presL]
  have hB3 : Box w W3 m.cells := by rw [hW3]; exact hB2.alloc _
  have hblk : w2.heap.size < W3.heap.size := by rw [hW3]; have := World.size_alloc w2 (.cells #[.bool (m.view != 0), .bool (m.slot != 0), .bool (m.untl != 0), .bool (!m.value.toList.isEmpty), .bool (!sgZ m.g0 m.g1 m.g2 m.g3 m.gd.data.toList m.gs.data.toList), .bool (decide (0 < m.stN)), .bool (decide (0 < m.enN)), .bool (!emptyB m.sl m.rt (m.ckN + m.pfN + m.hnN)), .bool (decide (0 < m.txN))] 4); omega
  rw [← hW3]
  have HCS := Lib.hid hcs
  clear hcs hW3 hneq
  generalize w2.heap.size = blk at HCS hblk ⊢
  go_loopw [4] (fun i wr => ∃ k : Nat, k ≤ 9 ∧ i = .int .i64 k ∧ (∀ j, j < k → ¬ Spare m kd j) ∧ SpF m w W3 wr) (fun i _ => 9 - (intOf i).toNat)
  case atStart => exact ⟨0, by omega, rfl, fun j hj => absurd hj (Nat.not_lt_zero j), hB3, Below.refl _ _⟩
  case round =>
    obtain ⟨k, hk, rfl, hns, hF⟩ := hrel
    by_cases hkn : k < 9
    · have hk9 : k = 0 ∨ k = 1 ∨ k = 2 ∨ k = 3 ∨ k = 4 ∨ k = 5 ∨ k = 6 ∨ k = 7 ∨ k = 8 := by omega
      rcases hk9 with rfl | rfl | rfl | rfl | rfl | rfl | rfl | rfl | rfl
      · have hc : wr.cell? ⟨blk, 0, none⟩ = some (.bool (pb m 0)) := (hF.2.cell (by exact hblk)).trans (HCS.out 0 (by omega))
        have hkc : wr.cell? ⟨w.heap.size, 0, none⟩ = some (.int .i64 (kd : Int)) := by rw [← HKD.out]; exact hF.1.2 0 _ rfl
        cases hb : pb m 0 with
        | true =>
          rw [hb] at hc
          go_wp2_with fail
          go_region_held3 (fun W => W.cell? ⟨blk, 0, none⟩ = some (.bool true) ∧ W.cell? ⟨w.heap.size, 0, none⟩ = some (.int .i64 (kd : Int)) ∧ SpF m w W3 W)
            (first | exact ⟨hc, hkc, hF⟩ | exact ⟨hc, hkc, (SpF.keeps m w W3).drew hF⟩ | exact spS HKD.out hblk (HCS.out 0 (by omega)) hb hF2)
            (first | (go_at_call 100; refine (bF (SpF.keeps m w W3) (by first | exact hF | exact (SpF.keeps m w W3).drew hF) (has_any kd 0 hkd (by omega) _)).mono ?_; rintro e w2 ⟨rfl, hF2⟩))
          go_wp2
          all_goals first
            | (go_roundw
               case rel => exact ⟨1, by omega, rfl, ns_step hns (fun h => by have h2 := h.2; simp_all), hF2⟩
               case measure => simp [intOf])
            | (go_ret; exact ⟨true, rfl, ⟨fun _ => ⟨0, by omega, hb, by simp_all⟩, fun _ => rfl⟩, hF2.1.1.1⟩)
        | false =>
          rw [hb] at hc
          go_wp2_with fail
          go_quiet (fail)
          go_wp2
          go_roundw
          case rel => exact ⟨1, by omega, rfl, ns_step hns (fun h => by have h1 := h.1; rw [hb] at h1; cases h1), (SpF.keeps m w W3).drewN hF _⟩
          case measure => simp [intOf]
      · have hc : wr.cell? ⟨blk, 1, none⟩ = some (.bool (pb m 1)) := (hF.2.cell (by exact hblk)).trans (HCS.out 1 (by omega))
        have hkc : wr.cell? ⟨w.heap.size, 0, none⟩ = some (.int .i64 (kd : Int)) := by rw [← HKD.out]; exact hF.1.2 0 _ rfl
        cases hb : pb m 1 with
        | true =>
          rw [hb] at hc
          go_wp2_with fail
          go_region_held3 (fun W => W.cell? ⟨blk, 1, none⟩ = some (.bool true) ∧ W.cell? ⟨w.heap.size, 0, none⟩ = some (.int .i64 (kd : Int)) ∧ SpF m w W3 W)
            (first | exact ⟨hc, hkc, hF⟩ | exact ⟨hc, hkc, (SpF.keeps m w W3).drew hF⟩ | exact spS HKD.out hblk (HCS.out 1 (by omega)) hb hF2)
            (first | (go_at_call 100; refine (bF (SpF.keeps m w W3) (by first | exact hF | exact (SpF.keeps m w W3).drew hF) (has_any kd 1 hkd (by omega) _)).mono ?_; rintro e w2 ⟨rfl, hF2⟩))
          go_wp2
          all_goals first
            | (go_roundw
               case rel => exact ⟨2, by omega, rfl, ns_step hns (fun h => by have h2 := h.2; simp_all), hF2⟩
               case measure => simp [intOf])
            | (go_ret; exact ⟨true, rfl, ⟨fun _ => ⟨1, by omega, hb, by simp_all⟩, fun _ => rfl⟩, hF2.1.1.1⟩)
        | false =>
          rw [hb] at hc
          go_wp2_with fail
          go_quiet (fail)
          go_wp2
          go_roundw
          case rel => exact ⟨2, by omega, rfl, ns_step hns (fun h => by have h1 := h.1; rw [hb] at h1; cases h1), (SpF.keeps m w W3).drewN hF _⟩
          case measure => simp [intOf]
      · have hc : wr.cell? ⟨blk, 2, none⟩ = some (.bool (pb m 2)) := (hF.2.cell (by exact hblk)).trans (HCS.out 2 (by omega))
        have hkc : wr.cell? ⟨w.heap.size, 0, none⟩ = some (.int .i64 (kd : Int)) := by rw [← HKD.out]; exact hF.1.2 0 _ rfl
        cases hb : pb m 2 with
        | true =>
          rw [hb] at hc
          go_wp2_with fail
          go_region_held3 (fun W => W.cell? ⟨blk, 2, none⟩ = some (.bool true) ∧ W.cell? ⟨w.heap.size, 0, none⟩ = some (.int .i64 (kd : Int)) ∧ SpF m w W3 W)
            (first | exact ⟨hc, hkc, hF⟩ | exact ⟨hc, hkc, (SpF.keeps m w W3).drew hF⟩ | exact spS HKD.out hblk (HCS.out 2 (by omega)) hb hF2)
            (first | (go_at_call 100; refine (bF (SpF.keeps m w W3) (by first | exact hF | exact (SpF.keeps m w W3).drew hF) (has_any kd 2 hkd (by omega) _)).mono ?_; rintro e w2 ⟨rfl, hF2⟩))
          go_wp2
          all_goals first
            | (go_roundw
               case rel => exact ⟨3, by omega, rfl, ns_step hns (fun h => by have h2 := h.2; simp_all), hF2⟩
               case measure => simp [intOf])
            | (go_ret; exact ⟨true, rfl, ⟨fun _ => ⟨2, by omega, hb, by simp_all⟩, fun _ => rfl⟩, hF2.1.1.1⟩)
        | false =>
          rw [hb] at hc
          go_wp2_with fail
          go_quiet (fail)
          go_wp2
          go_roundw
          case rel => exact ⟨3, by omega, rfl, ns_step hns (fun h => by have h1 := h.1; rw [hb] at h1; cases h1), (SpF.keeps m w W3).drewN hF _⟩
          case measure => simp [intOf]
      · have hc : wr.cell? ⟨blk, 3, none⟩ = some (.bool (pb m 3)) := (hF.2.cell (by exact hblk)).trans (HCS.out 3 (by omega))
        have hkc : wr.cell? ⟨w.heap.size, 0, none⟩ = some (.int .i64 (kd : Int)) := by rw [← HKD.out]; exact hF.1.2 0 _ rfl
        cases hb : pb m 3 with
        | true =>
          rw [hb] at hc
          go_wp2_with fail
          go_region_held3 (fun W => W.cell? ⟨blk, 3, none⟩ = some (.bool true) ∧ W.cell? ⟨w.heap.size, 0, none⟩ = some (.int .i64 (kd : Int)) ∧ SpF m w W3 W)
            (first | exact ⟨hc, hkc, hF⟩ | exact ⟨hc, hkc, (SpF.keeps m w W3).drew hF⟩ | exact spS HKD.out hblk (HCS.out 3 (by omega)) hb hF2)
            (first | (go_at_call 100; refine (bF (SpF.keeps m w W3) (by first | exact hF | exact (SpF.keeps m w W3).drew hF) (has_any kd 3 hkd (by omega) _)).mono ?_; rintro e w2 ⟨rfl, hF2⟩))
          go_wp2
          all_goals first
            | (go_roundw
               case rel => exact ⟨4, by omega, rfl, ns_step hns (fun h => by have h2 := h.2; simp_all), hF2⟩
               case measure => simp [intOf])
            | (go_ret; exact ⟨true, rfl, ⟨fun _ => ⟨3, by omega, hb, by simp_all⟩, fun _ => rfl⟩, hF2.1.1.1⟩)
        | false =>
          rw [hb] at hc
          go_wp2_with fail
          go_quiet (fail)
          go_wp2
          go_roundw
          case rel => exact ⟨4, by omega, rfl, ns_step hns (fun h => by have h1 := h.1; rw [hb] at h1; cases h1), (SpF.keeps m w W3).drewN hF _⟩
          case measure => simp [intOf]
      · have hc : wr.cell? ⟨blk, 4, none⟩ = some (.bool (pb m 4)) := (hF.2.cell (by exact hblk)).trans (HCS.out 4 (by omega))
        have hkc : wr.cell? ⟨w.heap.size, 0, none⟩ = some (.int .i64 (kd : Int)) := by rw [← HKD.out]; exact hF.1.2 0 _ rfl
        cases hb : pb m 4 with
        | true =>
          rw [hb] at hc
          go_wp2_with fail
          go_region_held3 (fun W => W.cell? ⟨blk, 4, none⟩ = some (.bool true) ∧ W.cell? ⟨w.heap.size, 0, none⟩ = some (.int .i64 (kd : Int)) ∧ SpF m w W3 W)
            (first | exact ⟨hc, hkc, hF⟩ | exact ⟨hc, hkc, (SpF.keeps m w W3).drew hF⟩ | exact spS HKD.out hblk (HCS.out 4 (by omega)) hb hF2)
            (first | (go_at_call 100; refine (bF (SpF.keeps m w W3) (by first | exact hF | exact (SpF.keeps m w W3).drew hF) (has_any kd 4 hkd (by omega) _)).mono ?_; rintro e w2 ⟨rfl, hF2⟩))
          go_wp2
          all_goals first
            | (go_roundw
               case rel => exact ⟨5, by omega, rfl, ns_step hns (fun h => by have h2 := h.2; simp_all), hF2⟩
               case measure => simp [intOf])
            | (go_ret; exact ⟨true, rfl, ⟨fun _ => ⟨4, by omega, hb, by simp_all⟩, fun _ => rfl⟩, hF2.1.1.1⟩)
        | false =>
          rw [hb] at hc
          go_wp2_with fail
          go_quiet (fail)
          go_wp2
          go_roundw
          case rel => exact ⟨5, by omega, rfl, ns_step hns (fun h => by have h1 := h.1; rw [hb] at h1; cases h1), (SpF.keeps m w W3).drewN hF _⟩
          case measure => simp [intOf]
      · have hc : wr.cell? ⟨blk, 5, none⟩ = some (.bool (pb m 5)) := (hF.2.cell (by exact hblk)).trans (HCS.out 5 (by omega))
        have hkc : wr.cell? ⟨w.heap.size, 0, none⟩ = some (.int .i64 (kd : Int)) := by rw [← HKD.out]; exact hF.1.2 0 _ rfl
        cases hb : pb m 5 with
        | true =>
          rw [hb] at hc
          go_wp2_with fail
          go_region_held3 (fun W => W.cell? ⟨blk, 5, none⟩ = some (.bool true) ∧ W.cell? ⟨w.heap.size, 0, none⟩ = some (.int .i64 (kd : Int)) ∧ SpF m w W3 W)
            (first | exact ⟨hc, hkc, hF⟩ | exact ⟨hc, hkc, (SpF.keeps m w W3).drew hF⟩ | exact spS HKD.out hblk (HCS.out 5 (by omega)) hb hF2)
            (first | (go_at_call 100; refine (bF (SpF.keeps m w W3) (by first | exact hF | exact (SpF.keeps m w W3).drew hF) (has_any kd 5 hkd (by omega) _)).mono ?_; rintro e w2 ⟨rfl, hF2⟩))
          go_wp2
          all_goals first
            | (go_roundw
               case rel => exact ⟨6, by omega, rfl, ns_step hns (fun h => by have h2 := h.2; simp_all), hF2⟩
               case measure => simp [intOf])
            | (go_ret; exact ⟨true, rfl, ⟨fun _ => ⟨5, by omega, hb, by simp_all⟩, fun _ => rfl⟩, hF2.1.1.1⟩)
        | false =>
          rw [hb] at hc
          go_wp2_with fail
          go_quiet (fail)
          go_wp2
          go_roundw
          case rel => exact ⟨6, by omega, rfl, ns_step hns (fun h => by have h1 := h.1; rw [hb] at h1; cases h1), (SpF.keeps m w W3).drewN hF _⟩
          case measure => simp [intOf]
      · have hc : wr.cell? ⟨blk, 6, none⟩ = some (.bool (pb m 6)) := (hF.2.cell (by exact hblk)).trans (HCS.out 6 (by omega))
        have hkc : wr.cell? ⟨w.heap.size, 0, none⟩ = some (.int .i64 (kd : Int)) := by rw [← HKD.out]; exact hF.1.2 0 _ rfl
        cases hb : pb m 6 with
        | true =>
          rw [hb] at hc
          go_wp2_with fail
          go_region_held3 (fun W => W.cell? ⟨blk, 6, none⟩ = some (.bool true) ∧ W.cell? ⟨w.heap.size, 0, none⟩ = some (.int .i64 (kd : Int)) ∧ SpF m w W3 W)
            (first | exact ⟨hc, hkc, hF⟩ | exact ⟨hc, hkc, (SpF.keeps m w W3).drew hF⟩ | exact spS HKD.out hblk (HCS.out 6 (by omega)) hb hF2)
            (first | (go_at_call 100; refine (bF (SpF.keeps m w W3) (by first | exact hF | exact (SpF.keeps m w W3).drew hF) (has_any kd 6 hkd (by omega) _)).mono ?_; rintro e w2 ⟨rfl, hF2⟩))
          go_wp2
          all_goals first
            | (go_roundw
               case rel => exact ⟨7, by omega, rfl, ns_step hns (fun h => by have h2 := h.2; simp_all), hF2⟩
               case measure => simp [intOf])
            | (go_ret; exact ⟨true, rfl, ⟨fun _ => ⟨6, by omega, hb, by simp_all⟩, fun _ => rfl⟩, hF2.1.1.1⟩)
        | false =>
          rw [hb] at hc
          go_wp2_with fail
          go_quiet (fail)
          go_wp2
          go_roundw
          case rel => exact ⟨7, by omega, rfl, ns_step hns (fun h => by have h1 := h.1; rw [hb] at h1; cases h1), (SpF.keeps m w W3).drewN hF _⟩
          case measure => simp [intOf]
      · have hc : wr.cell? ⟨blk, 7, none⟩ = some (.bool (pb m 7)) := (hF.2.cell (by exact hblk)).trans (HCS.out 7 (by omega))
        have hkc : wr.cell? ⟨w.heap.size, 0, none⟩ = some (.int .i64 (kd : Int)) := by rw [← HKD.out]; exact hF.1.2 0 _ rfl
        cases hb : pb m 7 with
        | true =>
          rw [hb] at hc
          go_wp2_with fail
          go_region_held3 (fun W => W.cell? ⟨blk, 7, none⟩ = some (.bool true) ∧ W.cell? ⟨w.heap.size, 0, none⟩ = some (.int .i64 (kd : Int)) ∧ SpF m w W3 W)
            (first | exact ⟨hc, hkc, hF⟩ | exact ⟨hc, hkc, (SpF.keeps m w W3).drew hF⟩ | exact spS HKD.out hblk (HCS.out 7 (by omega)) hb hF2)
            (first | (go_at_call 100; refine (bF (SpF.keeps m w W3) (by first | exact hF | exact (SpF.keeps m w W3).drew hF) (has_any kd 7 hkd (by omega) _)).mono ?_; rintro e w2 ⟨rfl, hF2⟩))
          go_wp2
          all_goals first
            | (go_roundw
               case rel => exact ⟨8, by omega, rfl, ns_step hns (fun h => by have h2 := h.2; simp_all), hF2⟩
               case measure => simp [intOf])
            | (go_ret; exact ⟨true, rfl, ⟨fun _ => ⟨7, by omega, hb, by simp_all⟩, fun _ => rfl⟩, hF2.1.1.1⟩)
        | false =>
          rw [hb] at hc
          go_wp2_with fail
          go_quiet (fail)
          go_wp2
          go_roundw
          case rel => exact ⟨8, by omega, rfl, ns_step hns (fun h => by have h1 := h.1; rw [hb] at h1; cases h1), (SpF.keeps m w W3).drewN hF _⟩
          case measure => simp [intOf]
      · have hc : wr.cell? ⟨blk, 8, none⟩ = some (.bool (pb m 8)) := (hF.2.cell (by exact hblk)).trans (HCS.out 8 (by omega))
        have hkc : wr.cell? ⟨w.heap.size, 0, none⟩ = some (.int .i64 (kd : Int)) := by rw [← HKD.out]; exact hF.1.2 0 _ rfl
        cases hb : pb m 8 with
        | true =>
          rw [hb] at hc
          go_wp2_with fail
          go_region_held3 (fun W => W.cell? ⟨blk, 8, none⟩ = some (.bool true) ∧ W.cell? ⟨w.heap.size, 0, none⟩ = some (.int .i64 (kd : Int)) ∧ SpF m w W3 W)
            (first | exact ⟨hc, hkc, hF⟩ | exact ⟨hc, hkc, (SpF.keeps m w W3).drew hF⟩ | exact spS HKD.out hblk (HCS.out 8 (by omega)) hb hF2)
            (first | (go_at_call 100; refine (bF (SpF.keeps m w W3) (by first | exact hF | exact (SpF.keeps m w W3).drew hF) (has_any kd 8 hkd (by omega) _)).mono ?_; rintro e w2 ⟨rfl, hF2⟩))
          go_wp2
          all_goals first
            | (go_roundw
               case rel => exact ⟨9, by omega, rfl, ns_step hns (fun h => by have h2 := h.2; simp_all), hF2⟩
               case measure => simp [intOf])
            | (go_ret; exact ⟨true, rfl, ⟨fun _ => ⟨8, by omega, hb, by simp_all⟩, fun _ => rfl⟩, hF2.1.1.1⟩)
        | false =>
          rw [hb] at hc
          go_wp2_with fail
          go_quiet (fail)
          go_wp2
          go_roundw
          case rel => exact ⟨9, by omega, rfl, ns_step hns (fun h => by have h1 := h.1; rw [hb] at h1; cases h1), (SpF.keeps m w W3).drewN hF _⟩
          case measure => simp [intOf]
    · obtain rfl : k = 9 := by omega
      go_wp2
      go_ret
      exact ⟨false, rfl, ⟨fun h => (by cases h), fun ⟨i, hi, hs⟩ => absurd hs (hns i hi)⟩, hF.1.1.1⟩
end Go.Proofs.YtoigjpkdcadlnaaGreatDoor
