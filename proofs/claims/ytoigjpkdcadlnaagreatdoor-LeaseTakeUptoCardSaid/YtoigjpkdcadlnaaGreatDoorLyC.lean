/-
  LeaseTake: message.Valid at every grant.
-/
import Derived.Test.YtoigjpkdcadlnaaGreatDoorLyAB
namespace Go.Proofs.YtoigjpkdcadlnaaGreatDoor
open Go Go.RowKit

/-- a grant that is right -/
def GOk (m : Msg) : Prop := 0 ≤ m.frm ∧ m.frm < 12 ∧ 0 ≤ m.dst ∧ m.dst < 18 ∧ numB m.view = true ∧ numB m.slot = true ∧ 0 ≤ m.untl ∧ NoMore m

theorem ba_nil {s : ByteArray} (h : s.toList.isEmpty = true) : s = ⟨#[]⟩ := by
  rw [ByteArray.toList_eq] at h
  have h2 : s.data.toList = [] := List.isEmpty_iff.mp h
  have h3 : s.data = #[] := by apply Array.toList_inj.mp; rw [h2]
  cases s
  simp_all
theorem ba_nil' {s : ByteArray} (h : s.data.toList = []) : s = ⟨#[]⟩ := ba_nil (by rw [ByteArray.toList_eq, h]; rfl)
theorem ba_nil0 {s : ByteArray} (h : s.size = 0) : s = ⟨#[]⟩ := by
  have h3 : s.data = #[] := Array.eq_empty_of_size_eq_zero h
  cases s
  simp_all
theorem sgZ_t {a b c d : Int} {x y : List UInt8} (h : sgZ a b c d x y = true) : a = 0 ∧ b = 0 ∧ c = 0 ∧ d = 0 ∧ x = [] ∧ y = [] := by
  unfold sgZ at h
  simpa using h
theorem emptyB_iff {s : Int} {r : ByteArray} {n : Nat} (h : emptyB s r n = true) : s = 0 ∧ r.size = 0 ∧ n = 0 := by
  unfold emptyB at h
  simpa using h

theorem zMsg_of {m : Msg} (hk : m.kind = 9) (h : NoMore m) : m = zMsg m.frm m.dst m.view m.untl m.stP m.enP m.ckP m.pfP m.hnP m.txP m.stC m.enC m.ckC m.pfC m.hnC m.txC := by
  obtain ⟨h1, h3, h4, h5, h6, h7, h8⟩ := h
  have e1 : m.slot = 0 := by have : (m.slot != 0) = false := h1; simpa using this
  have e3 : m.value = ⟨#[]⟩ := ba_nil (by have : (!m.value.toList.isEmpty) = false := h3; simpa using this)
  obtain ⟨g0, g1, g2, g3, g4, g5⟩ := sgZ_t (show sgZ m.g0 m.g1 m.g2 m.g3 m.gd.data.toList m.gs.data.toList = true by have : (!sgZ m.g0 m.g1 m.g2 m.g3 m.gd.data.toList m.gs.data.toList) = false := h4; simpa using this)
  have g4' := ba_nil' g4
  have g5' := ba_nil' g5
  have e5 : m.stN = 0 := by have : decide (0 < m.stN) = false := h5; simpa using this
  have e6 : m.enN = 0 := by have : decide (0 < m.enN) = false := h6; simpa using this
  obtain ⟨s0, s1, s2⟩ := emptyB_iff (show emptyB m.sl m.rt (m.ckN + m.pfN + m.hnN) = true by have : (!emptyB m.sl m.rt (m.ckN + m.pfN + m.hnN)) = false := h7; simpa using this)
  have s1' := ba_nil0 s1
  have e8 : m.txN = 0 := by have : decide (0 < m.txN) = false := h8; simpa using this
  have k1 : m.ckN = 0 := by omega
  have k2 : m.pfN = 0 := by omega
  have k3 : m.hnN = 0 := by omega
  clear h1 h3 h4 h5 h6 h7 h8 g4 g5 s1 s2
  cases m
  simp only at *
  subst hk e1 e3 g0 g1 g2 g3 g4' g5' e5 e6 s0 s1' k1 k2 k3 e8
  rfl

/-- what Valid answers at a grant -/
def VRet (m : Msg) (w : World) (e : Ending) (w' : World) : Prop := ∃ k : Int, e = .returned (.int .i64 k) ∧ (k = 0 ↔ GOk m) ∧ Below w.heap.size w w'

set_option maxHeartbeats 12800000 in
set_option maxRecDepth 1000000 in
theorem valid_no (m : Msg) (w : World) (hm : m.Ok w) (hk : m.kind = 9) (hno : ¬ GOk m) : Calls Tryz.prog 23 #[.agg #[.int .i64 9, .int .i64 m.frm, .int .i64 m.dst, .int .i64 m.view, .int .i64 m.slot, .string m.value, .int .i64 m.untl, .int .i64 m.g0, .int .i64 m.g1, .int .i64 m.g2, .int .i64 m.g3, .string m.gd, .string m.gs, .slice m.stP m.stN m.stC, .slice m.enP m.enN m.enC, .int .i64 m.sl, .string m.rt, .slice m.ckP m.ckN m.ckC, .slice m.pfP m.pfN m.pfC, .slice m.hnP m.hnN m.hnC, .slice m.txP m.txN m.txC]] w (VRet m w) := by
  have hB0 : Box w (w.alloc (.cells #[.int .i64 9, .int .i64 m.frm, .int .i64 m.dst, .int .i64 m.view, .int .i64 m.slot, .string m.value, .int .i64 m.untl, .int .i64 m.g0, .int .i64 m.g1, .int .i64 m.g2, .int .i64 m.g3, .string m.gd, .string m.gs, .slice m.stP m.stN m.stC, .slice m.enP m.enN m.enC, .int .i64 m.sl, .string m.rt, .slice m.ckP m.ckN m.ckC, .slice m.pfP m.pfN m.pfC, .slice m.hnP m.hnN m.hnC, .slice m.txP m.txN m.txC] 37)) m.cells := by unfold Msg.cells; rw [hk]; exact Box.first w _ 37
  have HM1 := Lib.hid (hm.below hB0.1.1)
  have HK := Lib.hid hk
  have HN := Lib.hid hno
  clear hm hk hno
  go_enter Tryz.func23, Tryz.ntmps23
  go_wp2_with (first
    | (refine wpList_load_row rfl 37 (.tmp 1) rfl w.heap.size rfl 37 #[.int .i64 9, .int .i64 m.frm, .int .i64 m.dst, .int .i64 m.view, .int .i64 m.slot, .string m.value, .int .i64 m.untl, .int .i64 m.g0, .int .i64 m.g1, .int .i64 m.g2, .int .i64 m.g3, .string m.gd, .string m.gs, .slice m.stP m.stN m.stC, .slice m.enP m.enN m.enC, .int .i64 m.sl, .string m.rt, .slice m.ckP m.ckN m.ckC, .slice m.pfP m.pfN m.pfC, .slice m.hnP m.hnN m.hnC, .slice m.txP m.txN m.txC] (0, 0) _ (heap_alloc_new w _) Tryz.underlying37 rfl Tryz.size37 ?_)
    | (go_at_call 51; refine (kind_grant _).mono ?_; rintro e w1 ⟨rfl, rfl⟩)
    | (go_at_call 52; refine (number_any _ _).mono ?_; rintro e w1 ⟨rfl, rfl⟩)
    | (go_at_call 53; refine (by have h := present_any m _ HM1.out; rw [HK.out] at h; exact h : Calls Tryz.prog 53 _ _ (PresRet m _)).mono ?_; rintro e w2 ⟨o, rfl, hPB, hb2⟩; have HPB := Lib.hid (and5_iff hPB); clear hPB; have hB2 := hB0.below hb2; have hc0 : w2.cell? ⟨w.heap.size, 0, none⟩ = some (.int .i64 9) := (by rw [← HK.out]; exact hB2.2 0 _ rfl)))
  all_goals first
    | (go_ret; exact ⟨_, rfl, ⟨fun h => absurd h (by decide), fun h => absurd h HN.out⟩, hB0.1.1⟩)
    | (go_ret; exact ⟨_, rfl, ⟨fun h => absurd h (by decide), fun h => absurd h HN.out⟩, hB2.1.1⟩)
    | skip
  all_goals
    exact absurd ⟨by assumption, by assumption, by assumption, by assumption, by assumption, by assumption, by omega, HPB.out.mp (by assumption)⟩ HN.out

theorem valid_grant (m : Msg) (w : World) (hm : m.Ok w) (hk : m.kind = 9) : Calls Tryz.prog 23 #[.agg #[.int .i64 m.kind, .int .i64 m.frm, .int .i64 m.dst, .int .i64 m.view, .int .i64 m.slot, .string m.value, .int .i64 m.untl, .int .i64 m.g0, .int .i64 m.g1, .int .i64 m.g2, .int .i64 m.g3, .string m.gd, .string m.gs, .slice m.stP m.stN m.stC, .slice m.enP m.enN m.enC, .int .i64 m.sl, .string m.rt, .slice m.ckP m.ckN m.ckC, .slice m.pfP m.pfN m.pfC, .slice m.hnP m.hnN m.hnC, .slice m.txP m.txN m.txC]] w (VRet m w) := by
  by_cases h : GOk m
  · have hz := zMsg_of hk h.2.2.2.2.2.2.2
    obtain ⟨h0, h1, h2, h3, h4, h5, h6, h7⟩ := h
    have hv : 0 ≤ m.view ∧ m.view ≤ 2147483647 := by unfold numB at h4; simpa using h4
    have hh := valid_yes m.frm m.dst m.view m.untl m.stP m.enP m.ckP m.pfP m.hnP m.txP m.stC m.enC m.ckC m.pfC m.hnC m.txC w h0 h1 h2 h3 hv.1 hv.2 h6 hm.untlH.2
    have hr : Calls Tryz.prog 23 #[.agg (zMsg m.frm m.dst m.view m.untl m.stP m.enP m.ckP m.pfP m.hnP m.txP m.stC m.enC m.ckC m.pfC m.hnC m.txC).cells.toArray] w (OkRet w) := hh
    rw [← hz] at hr
    exact Calls.mono hr fun e w' ⟨q1, q2⟩ => ⟨0, q1, ⟨fun _ => ⟨h0, h1, h2, h3, h4, h5, h6, h7⟩, fun _ => rfl⟩, q2⟩
  · have hh := valid_no m w hm hk h
    rw [← hk] at hh
    exact hh
end Go.Proofs.YtoigjpkdcadlnaaGreatDoor
