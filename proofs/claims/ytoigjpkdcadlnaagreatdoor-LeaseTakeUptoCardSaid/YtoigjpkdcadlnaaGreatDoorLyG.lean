/-
  LeaseTake: the reference's Valid of messages returns.
-/
import Derived.Test.YtoigjpkdcadlnaaGreatDoorLyDE
namespace Go.Proofs.YtoigjpkdcadlnaaGreatDoor
open Go Go.RowKit

set_option maxHeartbeats 12800000 in
set_option maxRecDepth 1000000 in
theorem validRef_weak (m : Msg) (w : World) (hm : m.Ok w) : Calls Tryz.prog 27 #[.agg #[.int .i64 m.kind, .int .i64 m.frm, .int .i64 m.dst, .int .i64 m.view, .int .i64 m.slot, .string m.value, .int .i64 m.untl, .int .i64 m.g0, .int .i64 m.g1, .int .i64 m.g2, .int .i64 m.g3, .string m.gd, .string m.gs, .slice m.stP m.stN m.stC, .slice m.enP m.enN m.enC, .int .i64 m.sl, .string m.rt, .slice m.ckP m.ckN m.ckC, .slice m.pfP m.pfN m.pfC, .slice m.hnP m.hnN m.hnC, .slice m.txP m.txN m.txC]] w (IntRet w) := by
  have hB0 : Box w (w.alloc (.cells #[.int .i64 m.kind, .int .i64 m.frm, .int .i64 m.dst, .int .i64 m.view, .int .i64 m.slot, .string m.value, .int .i64 m.untl, .int .i64 m.g0, .int .i64 m.g1, .int .i64 m.g2, .int .i64 m.g3, .string m.gd, .string m.gs, .slice m.stP m.stN m.stC, .slice m.enP m.enN m.enC, .int .i64 m.sl, .string m.rt, .slice m.ckP m.ckN m.ckC, .slice m.pfP m.pfN m.pfC, .slice m.hnP m.hnN m.hnC, .slice m.txP m.txN m.txC] 37)) m.cells := Box.first w m.cells 37
  have hA0 : (w.alloc (.cells #[.int .i64 m.kind, .int .i64 m.frm, .int .i64 m.dst, .int .i64 m.view, .int .i64 m.slot, .string m.value, .int .i64 m.untl, .int .i64 m.g0, .int .i64 m.g1, .int .i64 m.g2, .int .i64 m.g3, .string m.gd, .string m.gs, .slice m.stP m.stN m.stC, .slice m.enP m.enN m.enC, .int .i64 m.sl, .string m.rt, .slice m.ckP m.ckN m.ckC, .slice m.pfP m.pfN m.pfC, .slice m.hnP m.hnN m.hnC, .slice m.txP m.txN m.txC] 37)).heap[w.heap.size]? = some (.cells #[.int .i64 m.kind, .int .i64 m.frm, .int .i64 m.dst, .int .i64 m.view, .int .i64 m.slot, .string m.value, .int .i64 m.untl, .int .i64 m.g0, .int .i64 m.g1, .int .i64 m.g2, .int .i64 m.g3, .string m.gd, .string m.gs, .slice m.stP m.stN m.stC, .slice m.enP m.enN m.enC, .int .i64 m.sl, .string m.rt, .slice m.ckP m.ckN m.ckC, .slice m.pfP m.pfN m.pfC, .slice m.hnP m.hnN m.hnC, .slice m.txP m.txN m.txC] 37 (0, 0)) := heap_alloc_new w _
  have HM := Lib.hid (hm.below hB0.1.1)
  have HB0 := Lib.hid hB0
  have HA0 := Lib.hid hA0
  clear hm hB0 hA0
  by_cases hk : 1 ≤ m.kind ∧ m.kind ≤ 12
  · obtain ⟨kd, hkd⟩ : ∃ kd : Nat, m.kind = (kd : Int) := ⟨m.kind.toNat, by omega⟩
    have hk13 : kd < 13 := by omega
    have HKD := Lib.hid hkd
    obtain ⟨hk1, hk2⟩ := hk
    clear hkd
    go_enter Tryz.func27, Tryz.ntmps27
    go_upto_region 5 with (go_at_call 61; refine (numberRef_any _ _).mono ?_; rintro e w1 ⟨rfl, rfl⟩)
    all_goals first
      | (go_ret; exact ⟨_, rfl, HB0.out.1.1⟩)
      | skip
    go_step
    refine wpList_load_row rfl 37 (.tmp 1) rfl w.heap.size rfl 37 #[.int .i64 m.kind, .int .i64 m.frm, .int .i64 m.dst, .int .i64 m.view, .int .i64 m.slot, .string m.value, .int .i64 m.untl, .int .i64 m.g0, .int .i64 m.g1, .int .i64 m.g2, .int .i64 m.g3, .string m.gd, .string m.gs, .slice m.stP m.stN m.stC, .slice m.enP m.enN m.enC, .int .i64 m.sl, .string m.rt, .slice m.ckP m.ckN m.ckC, .slice m.pfP m.pfN m.pfC, .slice m.hnP m.hnN m.hnC, .slice m.txP m.txN m.txC] (0, 0) _ HA0.out Tryz.underlying37 rfl Tryz.size37 ?_
    go_wp2_with fail
    go_at_call 62
    refine (spare_any m kd hk13 HKD.out _ HM.out).mono ?_
    rintro e w2 ⟨b2, rfl, -, hbl2⟩
    have HA2 := Lib.hid ((hbl2.block w.heap.size HB0.out.1.2).trans HA0.out)
    have hB2 := HB0.out.below hbl2
    have HM2 := Lib.hid (HM.out.below hbl2)
    have a0 : w2.cell? ⟨w.heap.size, 0, none⟩ = some (.int .i64 m.kind) := hB2.2 0 _ rfl
    have a13 : w2.cell? ⟨w.heap.size, 13, none⟩ = some (.slice m.stP m.stN m.stC) := hB2.2 13 _ rfl
    have HB2 := Lib.hid hB2
    clear hbl2 hB2
    go_upto_region 7 with fail
    all_goals first
      | (go_ret; exact ⟨_, rfl, HB2.out.1.1⟩)
      | skip
    all_goals
      clear a0 a13
      go_step
      refine wpList_load_row rfl 37 (.tmp 1) rfl w.heap.size rfl 37 #[.int .i64 m.kind, .int .i64 m.frm, .int .i64 m.dst, .int .i64 m.view, .int .i64 m.slot, .string m.value, .int .i64 m.untl, .int .i64 m.g0, .int .i64 m.g1, .int .i64 m.g2, .int .i64 m.g3, .string m.gd, .string m.gs, .slice m.stP m.stN m.stC, .slice m.enP m.enN m.enC, .int .i64 m.sl, .string m.rt, .slice m.ckP m.ckN m.ckC, .slice m.pfP m.pfN m.pfC, .slice m.hnP m.hnN m.hnC, .slice m.txP m.txN m.txC] (0, 0) _ HA2.out Tryz.underlying37 rfl Tryz.size37 ?_
      generalize hMV : Value.agg #[.int .i64 m.kind, .int .i64 m.frm, .int .i64 m.dst, .int .i64 m.view, .int .i64 m.slot, .string m.value, .int .i64 m.untl, .int .i64 m.g0, .int .i64 m.g1, .int .i64 m.g2, .int .i64 m.g3, .string m.gd, .string m.gs, .slice m.stP m.stN m.stC, .slice m.enP m.enN m.enC, .int .i64 m.sl, .string m.rt, .slice m.ckP m.ckN m.ckC, .slice m.pfP m.pfN m.pfC, .slice m.hnP m.hnN m.hnC, .slice m.txP m.txN m.txC] = MV
      have HMV := Lib.hid hMV
      clear hMV
      go_wp2_with fail
      go_at_call 63
      obtain rfl := HMV.out
      refine (ranges_any m _ HM2.out).mono ?_
      rintro e w3 ⟨b3, rfl, hb3⟩
      have HA3 := Lib.hid ((hb3.block w.heap.size HB2.out.1.2).trans HA2.out)
      have HB3 := Lib.hid (HB2.out.below hb3)
      have HM3 := Lib.hid (HM2.out.below hb3)
      clear hb3
      go_upto_region 9 with fail
      all_goals first
        | (go_ret; exact ⟨_, rfl, HB3.out.1.1⟩)
        | skip
      go_step
      refine wpList_load_row rfl 37 (.tmp 1) rfl w.heap.size rfl 37 #[.int .i64 m.kind, .int .i64 m.frm, .int .i64 m.dst, .int .i64 m.view, .int .i64 m.slot, .string m.value, .int .i64 m.untl, .int .i64 m.g0, .int .i64 m.g1, .int .i64 m.g2, .int .i64 m.g3, .string m.gd, .string m.gs, .slice m.stP m.stN m.stC, .slice m.enP m.enN m.enC, .int .i64 m.sl, .string m.rt, .slice m.ckP m.ckN m.ckC, .slice m.pfP m.pfN m.pfC, .slice m.hnP m.hnN m.hnC, .slice m.txP m.txN m.txC] (0, 0) _ HA3.out Tryz.underlying37 rfl Tryz.size37 ?_
      generalize hMV : Value.agg #[.int .i64 m.kind, .int .i64 m.frm, .int .i64 m.dst, .int .i64 m.view, .int .i64 m.slot, .string m.value, .int .i64 m.untl, .int .i64 m.g0, .int .i64 m.g1, .int .i64 m.g2, .int .i64 m.g3, .string m.gd, .string m.gs, .slice m.stP m.stN m.stC, .slice m.enP m.enN m.enC, .int .i64 m.sl, .string m.rt, .slice m.ckP m.ckN m.ckC, .slice m.pfP m.pfN m.pfC, .slice m.hnP m.hnN m.hnC, .slice m.txP m.txN m.txC] = MV
      have HMV := Lib.hid hMV
      clear hMV
      go_wp2_with fail
      go_at_call 64
      obtain rfl := HMV.out
      refine (lengths_any m _ HM3.out).mono ?_
      rintro e w4 ⟨b4, rfl, hb4⟩
      have hB4 := HB3.out.below hb4
      have a17 : w4.cell? ⟨w.heap.size, 17, none⟩ = some (.slice m.ckP m.ckN m.ckC) := hB4.2 17 _ rfl
      have HB4 := Lib.hid hB4
      clear hb4 hB4
      go_wp2_with fail
      all_goals
        go_ret
        exact ⟨_, rfl, HB4.out.1.1⟩
  · by_cases h1 : m.kind < 1
    · go_enter Tryz.func27, Tryz.ntmps27
      go_wp2
      go_ret
      exact ⟨_, rfl, HB0.out.1.1⟩
    · have h2 : 12 < m.kind := by omega
      go_enter Tryz.func27, Tryz.ntmps27
      go_wp2
      go_ret
      exact ⟨_, rfl, HB0.out.1.1⟩
end Go.Proofs.YtoigjpkdcadlnaaGreatDoor
