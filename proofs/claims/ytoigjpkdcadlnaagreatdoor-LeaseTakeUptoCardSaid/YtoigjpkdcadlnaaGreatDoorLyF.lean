/-
  LeaseTake: the reference's Valid of messages at every message.
-/
import Derived.Test.YtoigjpkdcadlnaaGreatDoorLyDE
namespace Go.Proofs.YtoigjpkdcadlnaaGreatDoor
open Go Go.RowKit

theorem noSpare_iff {m : Msg} (h : ¬ ∃ i, i < 9 ∧ Spare m 9 i) : NoMore m := by
  have hh : ∀ i, i < 9 → hasB 9 i = false → pb m i = false := fun i hi hb => by
    cases hp : pb m i with
    | false => rfl
    | true => exact absurd ⟨i, hi, hp, hb⟩ h
  exact ⟨hh 1 (by omega) (by decide), hh 3 (by omega) (by decide), hh 4 (by omega) (by decide), hh 5 (by omega) (by decide), hh 6 (by omega) (by decide), hh 7 (by omega) (by decide), hh 8 (by omega) (by decide)⟩

set_option maxHeartbeats 12800000 in
set_option maxRecDepth 1000000 in
theorem validRef_no (m : Msg) (w : World) (hm : m.Ok w) (hk : m.kind = 9) (hno : ¬ GOk m) : Calls Tryz.prog 27 #[.agg #[.int .i64 9, .int .i64 m.frm, .int .i64 m.dst, .int .i64 m.view, .int .i64 m.slot, .string m.value, .int .i64 m.untl, .int .i64 m.g0, .int .i64 m.g1, .int .i64 m.g2, .int .i64 m.g3, .string m.gd, .string m.gs, .slice m.stP m.stN m.stC, .slice m.enP m.enN m.enC, .int .i64 m.sl, .string m.rt, .slice m.ckP m.ckN m.ckC, .slice m.pfP m.pfN m.pfC, .slice m.hnP m.hnN m.hnC, .slice m.txP m.txN m.txC]] w (VRet m w) := by
  have hB0 : Box w (w.alloc (.cells #[.int .i64 9, .int .i64 m.frm, .int .i64 m.dst, .int .i64 m.view, .int .i64 m.slot, .string m.value, .int .i64 m.untl, .int .i64 m.g0, .int .i64 m.g1, .int .i64 m.g2, .int .i64 m.g3, .string m.gd, .string m.gs, .slice m.stP m.stN m.stC, .slice m.enP m.enN m.enC, .int .i64 m.sl, .string m.rt, .slice m.ckP m.ckN m.ckC, .slice m.pfP m.pfN m.pfC, .slice m.hnP m.hnN m.hnC, .slice m.txP m.txN m.txC] 37)) m.cells := by unfold Msg.cells; rw [hk]; exact Box.first w _ 37
  have hA0 : (w.alloc (.cells #[.int .i64 9, .int .i64 m.frm, .int .i64 m.dst, .int .i64 m.view, .int .i64 m.slot, .string m.value, .int .i64 m.untl, .int .i64 m.g0, .int .i64 m.g1, .int .i64 m.g2, .int .i64 m.g3, .string m.gd, .string m.gs, .slice m.stP m.stN m.stC, .slice m.enP m.enN m.enC, .int .i64 m.sl, .string m.rt, .slice m.ckP m.ckN m.ckC, .slice m.pfP m.pfN m.pfC, .slice m.hnP m.hnN m.hnC, .slice m.txP m.txN m.txC] 37)).heap[w.heap.size]? = some (.cells #[.int .i64 9, .int .i64 m.frm, .int .i64 m.dst, .int .i64 m.view, .int .i64 m.slot, .string m.value, .int .i64 m.untl, .int .i64 m.g0, .int .i64 m.g1, .int .i64 m.g2, .int .i64 m.g3, .string m.gd, .string m.gs, .slice m.stP m.stN m.stC, .slice m.enP m.enN m.enC, .int .i64 m.sl, .string m.rt, .slice m.ckP m.ckN m.ckC, .slice m.pfP m.pfN m.pfC, .slice m.hnP m.hnN m.hnC, .slice m.txP m.txN m.txC] 37 (0, 0)) := heap_alloc_new w _
  have HM1 := Lib.hid (hm.below hB0.1.1)
  have HB0 := Lib.hid hB0
  have HA0 := Lib.hid hA0
  have HK := Lib.hid hk
  have HN := Lib.hid hno
  have hSp : Calls Tryz.prog 62 #[.agg #[.int .i64 9, .int .i64 m.frm, .int .i64 m.dst, .int .i64 m.view, .int .i64 m.slot, .string m.value, .int .i64 m.untl, .int .i64 m.g0, .int .i64 m.g1, .int .i64 m.g2, .int .i64 m.g3, .string m.gd, .string m.gs, .slice m.stP m.stN m.stC, .slice m.enP m.enN m.enC, .int .i64 m.sl, .string m.rt, .slice m.ckP m.ckN m.ckC, .slice m.pfP m.pfN m.pfC, .slice m.hnP m.hnN m.hnC, .slice m.txP m.txN m.txC]] (w.alloc (.cells #[.int .i64 9, .int .i64 m.frm, .int .i64 m.dst, .int .i64 m.view, .int .i64 m.slot, .string m.value, .int .i64 m.untl, .int .i64 m.g0, .int .i64 m.g1, .int .i64 m.g2, .int .i64 m.g3, .string m.gd, .string m.gs, .slice m.stP m.stN m.stC, .slice m.enP m.enN m.enC, .int .i64 m.sl, .string m.rt, .slice m.ckP m.ckN m.ckC, .slice m.pfP m.pfN m.pfC, .slice m.hnP m.hnN m.hnC, .slice m.txP m.txN m.txC] 37)) (SpRet m 9 (w.alloc (.cells #[.int .i64 9, .int .i64 m.frm, .int .i64 m.dst, .int .i64 m.view, .int .i64 m.slot, .string m.value, .int .i64 m.untl, .int .i64 m.g0, .int .i64 m.g1, .int .i64 m.g2, .int .i64 m.g3, .string m.gd, .string m.gs, .slice m.stP m.stN m.stC, .slice m.enP m.enN m.enC, .int .i64 m.sl, .string m.rt, .slice m.ckP m.ckN m.ckC, .slice m.pfP m.pfN m.pfC, .slice m.hnP m.hnN m.hnC, .slice m.txP m.txN m.txC] 37))) := by
    have h := spare_any m 9 (by omega) hk _ HM1.out
    rw [hk] at h
    exact h
  have HSp := Lib.hid hSp
  clear hm hk hno hB0 hA0 hSp
  go_enter Tryz.func27, Tryz.ntmps27
  go_upto_region 5 with (go_at_call 61; refine (numberRef_any _ _).mono ?_; rintro e w1 ⟨rfl, rfl⟩)
  all_goals first
    | (go_ret; exact ⟨_, rfl, ⟨fun h => absurd h (by decide), fun h => absurd h HN.out⟩, HB0.out.1.1⟩)
    | skip
  have hst : ∀ P : NoMore m, False := fun h => HN.out ⟨by omega, by omega, by omega, by omega, by assumption, by assumption, by omega, h⟩
  have HST := Lib.hid hst
  clear hst
  go_wp2_with (refine wpList_load_row rfl 37 (.tmp 1) rfl w.heap.size rfl 37 #[.int .i64 9, .int .i64 m.frm, .int .i64 m.dst, .int .i64 m.view, .int .i64 m.slot, .string m.value, .int .i64 m.untl, .int .i64 m.g0, .int .i64 m.g1, .int .i64 m.g2, .int .i64 m.g3, .string m.gd, .string m.gs, .slice m.stP m.stN m.stC, .slice m.enP m.enN m.enC, .int .i64 m.sl, .string m.rt, .slice m.ckP m.ckN m.ckC, .slice m.pfP m.pfN m.pfC, .slice m.hnP m.hnN m.hnC, .slice m.txP m.txN m.txC] (0, 0) _ HA0.out Tryz.underlying37 rfl Tryz.size37 ?_)
  go_at_call 62
  refine HSp.out.mono ?_
  rintro e w2 ⟨b2, rfl, hb2, hbl2⟩
  obtain rfl : b2 = true := (by cases b2; exact (HST.out (noSpare_iff fun h => Bool.false_ne_true (hb2.mpr h))).elim; rfl)
  clear hb2
  have HB2 := Lib.hid (HB0.out.below hbl2)
  clear hbl2
  go_wp2_with fail
  go_ret
  exact ⟨_, rfl, ⟨fun h => absurd h (by decide), fun h => absurd h HN.out⟩, HB2.out.1.1⟩

theorem validRef_grant (m : Msg) (w : World) (hm : m.Ok w) (hk : m.kind = 9) : Calls Tryz.prog 27 #[.agg #[.int .i64 m.kind, .int .i64 m.frm, .int .i64 m.dst, .int .i64 m.view, .int .i64 m.slot, .string m.value, .int .i64 m.untl, .int .i64 m.g0, .int .i64 m.g1, .int .i64 m.g2, .int .i64 m.g3, .string m.gd, .string m.gs, .slice m.stP m.stN m.stC, .slice m.enP m.enN m.enC, .int .i64 m.sl, .string m.rt, .slice m.ckP m.ckN m.ckC, .slice m.pfP m.pfN m.pfC, .slice m.hnP m.hnN m.hnC, .slice m.txP m.txN m.txC]] w (VRet m w) := by
  by_cases h : GOk m
  · have hz := zMsg_of hk h.2.2.2.2.2.2.2
    obtain ⟨h0, h1, h2, h3, h4, h5, h6, h7⟩ := h
    have hv : 0 ≤ m.view ∧ m.view ≤ 2147483647 := by unfold numB at h4; simpa using h4
    have hh := validRef_yes m.frm m.dst m.view m.untl m.stP m.enP m.ckP m.pfP m.hnP m.txP m.stC m.enC m.ckC m.pfC m.hnC m.txC w h0 h1 h2 h3 hv.1 hv.2 h6 hm.untlH.2
    have hr : Calls Tryz.prog 27 #[.agg (zMsg m.frm m.dst m.view m.untl m.stP m.enP m.ckP m.pfP m.hnP m.txP m.stC m.enC m.ckC m.pfC m.hnC m.txC).cells.toArray] w (OkRet w) := hh
    rw [← hz] at hr
    exact Calls.mono hr fun e w' ⟨q1, q2⟩ => ⟨0, q1, ⟨fun _ => ⟨h0, h1, h2, h3, h4, h5, h6, h7⟩, fun _ => rfl⟩, q2⟩
  · have hh := validRef_no m w hm hk h
    rw [← hk] at hh
    exact hh
end Go.Proofs.YtoigjpkdcadlnaaGreatDoor
