/-
  LeaseTake: lease.Take hands back what it was given.
-/
import Derived.Test.YtoigjpkdcadlnaaGreatDoorLyG
import Derived.Test.YtoigjpkdcadlnaaGreatDoorLyF
import Derived.Test.YtoigjpkdcadlnaaGreatDoorLxFG
namespace Go.Proofs.YtoigjpkdcadlnaaGreatDoor
open Go Go.RowKit

theorem cellOf {W : World} {b j : Nat} {cs : Array Value} {t : TypeId} {fr : Nat × Nat} {v : Value} (h : W.heap[b]? = some (.cells cs t fr)) (hj : cs[j]? = some v) : W.cell? ⟨b, j, none⟩ = some v := by
  unfold World.cell?
  rw [h]
  exact hj
theorem frozenOf {W : World} {b j : Nat} {cs : Array Value} {t : TypeId} (h : W.heap[b]? = some (.cells cs t (0, 0))) : W.frozen? ⟨b, j, none⟩ = false := by
  unfold World.frozen?
  rw [h]
  simp

/-- a message is taken up -/
def Acc (m : Msg) (hv : Int) : Prop := m.kind = 9 ∧ GOk m ∧ 1 ≤ m.view ∧ hv ≤ m.view

/-- the three blocks that Take makes: what a leader knows, the message, the answer -/
structure TB (m : Msg) (hv : Int) (p : Option Addr) (n cap : Nat) (w W : World) : Prop where
  b0 : W.heap[w.heap.size]? = some (.cells #[.int .i64 hv, .slice p n cap] 26 (0, 0))
  b1 : W.heap[w.heap.size + 1]? = some (.cells #[.int .i64 m.kind, .int .i64 m.frm, .int .i64 m.dst, .int .i64 m.view, .int .i64 m.slot, .string m.value, .int .i64 m.untl, .int .i64 m.g0, .int .i64 m.g1, .int .i64 m.g2, .int .i64 m.g3, .string m.gd, .string m.gs, .slice m.stP m.stN m.stC, .slice m.enP m.enN m.enC, .int .i64 m.sl, .string m.rt, .slice m.ckP m.ckN m.ckC, .slice m.pfP m.pfN m.pfC, .slice m.hnP m.hnN m.hnC, .slice m.txP m.txN m.txC] 37 (0, 0))
  b2 : W.heap[w.heap.size + 2]? = some (.cells #[.int .i64 0, .slice none 0 0] 26 (0, 0))
  bl : Below w.heap.size w W
  lt : w.heap.size + 2 < W.heap.size
theorem TB.below {m : Msg} {hv : Int} {p : Option Addr} {n cap : Nat} {w W W' : World} (h : TB m hv p n cap w W) (hb : Below W.heap.size W W') : TB m hv p n cap w W' :=
  ⟨(hb.block _ (by have := h.lt; omega)).trans h.b0, (hb.block _ (by have := h.lt; omega)).trans h.b1, (hb.block _ (by have := h.lt; omega)).trans h.b2, h.bl.trans (hb.mono (by have := h.lt; omega)), Nat.lt_of_lt_of_le h.lt hb.size⟩
theorem TB.first (m : Msg) (hv : Int) (p : Option Addr) (n cap : Nat) (w : World) : TB m hv p n cap w (((w.alloc (.cells #[.int .i64 hv, .slice p n cap] 26)).alloc (.cells #[.int .i64 m.kind, .int .i64 m.frm, .int .i64 m.dst, .int .i64 m.view, .int .i64 m.slot, .string m.value, .int .i64 m.untl, .int .i64 m.g0, .int .i64 m.g1, .int .i64 m.g2, .int .i64 m.g3, .string m.gd, .string m.gs, .slice m.stP m.stN m.stC, .slice m.enP m.enN m.enC, .int .i64 m.sl, .string m.rt, .slice m.ckP m.ckN m.ckC, .slice m.pfP m.pfN m.pfC, .slice m.hnP m.hnN m.hnC, .slice m.txP m.txN m.txC] 37)).alloc (.cells #[.int .i64 0, .slice none 0 0] 26)) := by
  have s1 := World.size_alloc w (.cells #[.int .i64 hv, .slice p n cap] 26)
  have s2 := World.size_alloc (w.alloc (.cells #[.int .i64 hv, .slice p n cap] 26)) (.cells #[.int .i64 m.kind, .int .i64 m.frm, .int .i64 m.dst, .int .i64 m.view, .int .i64 m.slot, .string m.value, .int .i64 m.untl, .int .i64 m.g0, .int .i64 m.g1, .int .i64 m.g2, .int .i64 m.g3, .string m.gd, .string m.gs, .slice m.stP m.stN m.stC, .slice m.enP m.enN m.enC, .int .i64 m.sl, .string m.rt, .slice m.ckP m.ckN m.ckC, .slice m.pfP m.pfN m.pfC, .slice m.hnP m.hnN m.hnC, .slice m.txP m.txN m.txC] 37)
  have s3 := World.size_alloc ((w.alloc (.cells #[.int .i64 hv, .slice p n cap] 26)).alloc (.cells #[.int .i64 m.kind, .int .i64 m.frm, .int .i64 m.dst, .int .i64 m.view, .int .i64 m.slot, .string m.value, .int .i64 m.untl, .int .i64 m.g0, .int .i64 m.g1, .int .i64 m.g2, .int .i64 m.g3, .string m.gd, .string m.gs, .slice m.stP m.stN m.stC, .slice m.enP m.enN m.enC, .int .i64 m.sl, .string m.rt, .slice m.ckP m.ckN m.ckC, .slice m.pfP m.pfN m.pfC, .slice m.hnP m.hnN m.hnC, .slice m.txP m.txN m.txC] 37)) (.cells #[.int .i64 0, .slice none 0 0] 26)
  refine ⟨?_, ?_, ?_, ?_, by omega⟩
  · rw [Below.heap_alloc _ _ _ (by omega), Below.heap_alloc _ _ _ (by omega)]; exact heap_alloc_new w _
  · rw [Below.heap_alloc _ _ _ (by omega), ← s1]; exact heap_alloc_new _ _
  · rw [show w.heap.size + 2 = ((w.alloc (.cells #[.int .i64 hv, .slice p n cap] 26)).alloc (.cells #[.int .i64 m.kind, .int .i64 m.frm, .int .i64 m.dst, .int .i64 m.view, .int .i64 m.slot, .string m.value, .int .i64 m.untl, .int .i64 m.g0, .int .i64 m.g1, .int .i64 m.g2, .int .i64 m.g3, .string m.gd, .string m.gs, .slice m.stP m.stN m.stC, .slice m.enP m.enN m.enC, .int .i64 m.sl, .string m.rt, .slice m.ckP m.ckN m.ckC, .slice m.pfP m.pfN m.pfC, .slice m.hnP m.hnN m.hnC, .slice m.txP m.txN m.txC] 37)).heap.size by omega]; exact heap_alloc_new _ _
  · exact (((Below.refl _ _).alloc (Nat.le_refl _) _).alloc (by omega) _).alloc (by omega) _

theorem below_set {B : Nat} {a w : World} (h : Below B a w) {p : Addr} (hp : B ≤ p.block) (u : Value) : Below B a (w.setCell p u) :=
  ⟨h.os, h.tape, h.output, by simpa [World.setCell] using h.size, fun i hi => (Below.heap_setCell w p u i (by rintro rfl; omega)).trans (h.block i hi)⟩
theorem row_set2 {W : World} {b : Nat} {a0 a1 : Value} {t : TypeId} (h : W.heap[b]? = some (.cells #[a0, a1] t (0, 0))) (v0 v1 : Value) : ((W.setCell ⟨b, 0, none⟩ v0).setCell ⟨b, 1, none⟩ v1).heap[b]? = some (.cells #[v0, v1] t (0, 0)) := by
  unfold World.setCell
  simp [Array.getElem?_modify, h]
theorem Tryz.size26 : (Tryz.prog.info? 26).map (·.size) = some 2 := by kernel_rfl

/-- it hands back what it was given -/
def BackRet (hv : Int) (p : Option Addr) (n cap : Nat) (w : World) (e : Ending) (w' : World) : Prop := e = .returned (.agg #[.int .i64 hv, .slice p n cap]) ∧ Below w.heap.size w w'

set_option maxHeartbeats 6400000 in
set_option maxRecDepth 1000000 in
theorem take_back (m : Msg) (hv : Int) (p : Option Addr) (n cap : Nat) (w : World) (hm : m.Ok w) (hno : ¬ Acc m hv) : Calls Tryz.prog 8 #[.agg #[.int .i64 hv, .slice p n cap], .agg #[.int .i64 m.kind, .int .i64 m.frm, .int .i64 m.dst, .int .i64 m.view, .int .i64 m.slot, .string m.value, .int .i64 m.untl, .int .i64 m.g0, .int .i64 m.g1, .int .i64 m.g2, .int .i64 m.g3, .string m.gd, .string m.gs, .slice m.stP m.stN m.stC, .slice m.enP m.enN m.enC, .int .i64 m.sl, .string m.rt, .slice m.ckP m.ckN m.ckC, .slice m.pfP m.pfN m.pfC, .slice m.hnP m.hnN m.hnC, .slice m.txP m.txN m.txC]] w (BackRet hv p n cap w) := by
  have hT := TB.first m hv p n cap w
  have HT := Lib.hid hT
  have HM := Lib.hid (hm.below hT.bl)
  have HN := Lib.hid hno
  clear hm hno hT
  go_enter Tryz.func8, Tryz.ntmps8
  go_upto_region 1 with fail
  revert HT HM
  generalize ((w.alloc (.cells #[.int .i64 hv, .slice p n cap] 26)).alloc (.cells #[.int .i64 m.kind, .int .i64 m.frm, .int .i64 m.dst, .int .i64 m.view, .int .i64 m.slot, .string m.value, .int .i64 m.untl, .int .i64 m.g0, .int .i64 m.g1, .int .i64 m.g2, .int .i64 m.g3, .string m.gd, .string m.gs, .slice m.stP m.stN m.stC, .slice m.enP m.enN m.enC, .int .i64 m.sl, .string m.rt, .slice m.ckP m.ckN m.ckC, .slice m.pfP m.pfN m.pfC, .slice m.hnP m.hnN m.hnC, .slice m.txP m.txN m.txC] 37)).alloc (.cells #[.int .i64 0, .slice none 0 0] 26) = W3
  intro HT HM
  go_step
  refine wpList_load_row rfl 37 (.tmp 3) rfl (w.heap.size + 1) rfl 37 #[.int .i64 m.kind, .int .i64 m.frm, .int .i64 m.dst, .int .i64 m.view, .int .i64 m.slot, .string m.value, .int .i64 m.untl, .int .i64 m.g0, .int .i64 m.g1, .int .i64 m.g2, .int .i64 m.g3, .string m.gd, .string m.gs, .slice m.stP m.stN m.stC, .slice m.enP m.enN m.enC, .int .i64 m.sl, .string m.rt, .slice m.ckP m.ckN m.ckC, .slice m.pfP m.pfN m.pfC, .slice m.hnP m.hnN m.hnC, .slice m.txP m.txN m.txC] (0, 0) _ HT.out.b1 Tryz.underlying37 rfl Tryz.size37 ?_
  generalize hMV : Value.agg #[.int .i64 m.kind, .int .i64 m.frm, .int .i64 m.dst, .int .i64 m.view, .int .i64 m.slot, .string m.value, .int .i64 m.untl, .int .i64 m.g0, .int .i64 m.g1, .int .i64 m.g2, .int .i64 m.g3, .string m.gd, .string m.gs, .slice m.stP m.stN m.stC, .slice m.enP m.enN m.enC, .int .i64 m.sl, .string m.rt, .slice m.ckP m.ckN m.ckC, .slice m.pfP m.pfN m.pfC, .slice m.hnP m.hnN m.hnC, .slice m.txP m.txN m.txC] = MV
  have HMV := Lib.hid hMV
  clear hMV
  go_wp2_with fail
  go_at_call 23
  obtain rfl := HMV.out
  have hV : Calls Tryz.prog 23 #[.agg #[.int .i64 m.kind, .int .i64 m.frm, .int .i64 m.dst, .int .i64 m.view, .int .i64 m.slot, .string m.value, .int .i64 m.untl, .int .i64 m.g0, .int .i64 m.g1, .int .i64 m.g2, .int .i64 m.g3, .string m.gd, .string m.gs, .slice m.stP m.stN m.stC, .slice m.enP m.enN m.enC, .int .i64 m.sl, .string m.rt, .slice m.ckP m.ckN m.ckC, .slice m.pfP m.pfN m.pfC, .slice m.hnP m.hnN m.hnC, .slice m.txP m.txN m.txC]] W3 (fun e w' => ∃ k : Int, e = .returned (.int .i64 k) ∧ (k = 0 → m.kind = 9 → GOk m) ∧ Below W3.heap.size W3 w') := by
    by_cases hk : m.kind = 9
    · exact Calls.mono (valid_grant m W3 HM.out hk) fun e w' ⟨k, h1, h2, h3⟩ => ⟨k, h1, fun hz _ => h2.mp hz, h3⟩
    · exact Calls.mono (valid_weak m W3 HM.out) fun e w' ⟨k, h1, h3⟩ => ⟨k, h1, fun _ hk' => absurd hk' hk, h3⟩
  refine hV.mono ?_
  rintro e w2 ⟨k, rfl, hk, hb2⟩
  have hT2 := HT.out.below hb2
  have HT2 := Lib.hid hT2
  have HKK := Lib.hid hk
  have m0 := cellOf hT2.b1 (j := 0) rfl
  have m3 := cellOf hT2.b1 (j := 3) rfl
  have c0 := cellOf hT2.b0 (j := 0) rfl
  have c1 := cellOf hT2.b0 (j := 1) rfl
  have r0 := cellOf hT2.b2 (j := 0) rfl
  have r1 := cellOf hT2.b2 (j := 1) rfl
  have f0 := frozenOf hT2.b2 (j := 0)
  have f1 := frozenOf hT2.b2 (j := 1)
  clear hT2 hk hV HT HM hb2
  go_upto_region 3 with fail
  all_goals first
    | (have hr := row_set2 HT2.out.b2 (.int .i64 hv) (.slice p n cap)
       have hb := below_set (below_set HT2.out.bl (p := ⟨w.heap.size + 2, 0, none⟩) (by show _ ≤ w.heap.size + 2; omega) (.int .i64 hv)) (p := ⟨w.heap.size + 2, 1, none⟩) (by show _ ≤ w.heap.size + 2; omega) (.slice p n cap)
       (try simp only [Exit.inBlock, Exit.then])
       refine bodyPost_ret (results_cell_row rfl _ _ (w.heap.size + 2) 26 #[.int .i64 hv, .slice p n cap] (0, 0) _ rfl hr Tryz.underlying26 rfl Tryz.size26) rfl ?_
       exact ⟨rfl, hb⟩)
    | (exact absurd ⟨by assumption, HKK.out (by assumption) (by assumption), by omega, by omega⟩ HN.out)

set_option maxHeartbeats 6400000 in
set_option maxRecDepth 1000000 in
theorem takeRef_back (m : Msg) (hv : Int) (p : Option Addr) (n cap : Nat) (w : World) (hm : m.Ok w) (hno : ¬ Acc m hv) : Calls Tryz.prog 10 #[.agg #[.int .i64 hv, .slice p n cap], .agg #[.int .i64 m.kind, .int .i64 m.frm, .int .i64 m.dst, .int .i64 m.view, .int .i64 m.slot, .string m.value, .int .i64 m.untl, .int .i64 m.g0, .int .i64 m.g1, .int .i64 m.g2, .int .i64 m.g3, .string m.gd, .string m.gs, .slice m.stP m.stN m.stC, .slice m.enP m.enN m.enC, .int .i64 m.sl, .string m.rt, .slice m.ckP m.ckN m.ckC, .slice m.pfP m.pfN m.pfC, .slice m.hnP m.hnN m.hnC, .slice m.txP m.txN m.txC]] w (BackRet hv p n cap w) := by
  have hT := TB.first m hv p n cap w
  have HT := Lib.hid hT
  have HM := Lib.hid (hm.below hT.bl)
  have HN := Lib.hid hno
  clear hm hno hT
  go_enter Tryz.func10, Tryz.ntmps10
  go_upto_region 1 with fail
  revert HT HM
  generalize ((w.alloc (.cells #[.int .i64 hv, .slice p n cap] 26)).alloc (.cells #[.int .i64 m.kind, .int .i64 m.frm, .int .i64 m.dst, .int .i64 m.view, .int .i64 m.slot, .string m.value, .int .i64 m.untl, .int .i64 m.g0, .int .i64 m.g1, .int .i64 m.g2, .int .i64 m.g3, .string m.gd, .string m.gs, .slice m.stP m.stN m.stC, .slice m.enP m.enN m.enC, .int .i64 m.sl, .string m.rt, .slice m.ckP m.ckN m.ckC, .slice m.pfP m.pfN m.pfC, .slice m.hnP m.hnN m.hnC, .slice m.txP m.txN m.txC] 37)).alloc (.cells #[.int .i64 0, .slice none 0 0] 26) = W3
  intro HT HM
  go_step
  refine wpList_load_row rfl 37 (.tmp 3) rfl (w.heap.size + 1) rfl 37 #[.int .i64 m.kind, .int .i64 m.frm, .int .i64 m.dst, .int .i64 m.view, .int .i64 m.slot, .string m.value, .int .i64 m.untl, .int .i64 m.g0, .int .i64 m.g1, .int .i64 m.g2, .int .i64 m.g3, .string m.gd, .string m.gs, .slice m.stP m.stN m.stC, .slice m.enP m.enN m.enC, .int .i64 m.sl, .string m.rt, .slice m.ckP m.ckN m.ckC, .slice m.pfP m.pfN m.pfC, .slice m.hnP m.hnN m.hnC, .slice m.txP m.txN m.txC] (0, 0) _ HT.out.b1 Tryz.underlying37 rfl Tryz.size37 ?_
  generalize hMV : Value.agg #[.int .i64 m.kind, .int .i64 m.frm, .int .i64 m.dst, .int .i64 m.view, .int .i64 m.slot, .string m.value, .int .i64 m.untl, .int .i64 m.g0, .int .i64 m.g1, .int .i64 m.g2, .int .i64 m.g3, .string m.gd, .string m.gs, .slice m.stP m.stN m.stC, .slice m.enP m.enN m.enC, .int .i64 m.sl, .string m.rt, .slice m.ckP m.ckN m.ckC, .slice m.pfP m.pfN m.pfC, .slice m.hnP m.hnN m.hnC, .slice m.txP m.txN m.txC] = MV
  have HMV := Lib.hid hMV
  clear hMV
  go_wp2_with fail
  go_at_call 27
  obtain rfl := HMV.out
  have hV : Calls Tryz.prog 27 #[.agg #[.int .i64 m.kind, .int .i64 m.frm, .int .i64 m.dst, .int .i64 m.view, .int .i64 m.slot, .string m.value, .int .i64 m.untl, .int .i64 m.g0, .int .i64 m.g1, .int .i64 m.g2, .int .i64 m.g3, .string m.gd, .string m.gs, .slice m.stP m.stN m.stC, .slice m.enP m.enN m.enC, .int .i64 m.sl, .string m.rt, .slice m.ckP m.ckN m.ckC, .slice m.pfP m.pfN m.pfC, .slice m.hnP m.hnN m.hnC, .slice m.txP m.txN m.txC]] W3 (fun e w' => ∃ k : Int, e = .returned (.int .i64 k) ∧ (k = 0 → m.kind = 9 → GOk m) ∧ Below W3.heap.size W3 w') := by
    by_cases hk : m.kind = 9
    · exact Calls.mono (validRef_grant m W3 HM.out hk) fun e w' ⟨k, h1, h2, h3⟩ => ⟨k, h1, fun hz _ => h2.mp hz, h3⟩
    · exact Calls.mono (validRef_weak m W3 HM.out) fun e w' ⟨k, h1, h3⟩ => ⟨k, h1, fun _ hk' => absurd hk' hk, h3⟩
  refine hV.mono ?_
  rintro e w2 ⟨k, rfl, hk, hb2⟩
  have hT2 := HT.out.below hb2
  have HT2 := Lib.hid hT2
  have HKK := Lib.hid hk
  have m0 := cellOf hT2.b1 (j := 0) rfl
  have m3 := cellOf hT2.b1 (j := 3) rfl
  have c0 := cellOf hT2.b0 (j := 0) rfl
  have c1 := cellOf hT2.b0 (j := 1) rfl
  have r0 := cellOf hT2.b2 (j := 0) rfl
  have r1 := cellOf hT2.b2 (j := 1) rfl
  have f0 := frozenOf hT2.b2 (j := 0)
  have f1 := frozenOf hT2.b2 (j := 1)
  clear hT2 hk hV HT HM hb2
  go_upto_region 3 with fail
  all_goals first
    | (have hr := row_set2 HT2.out.b2 (.int .i64 hv) (.slice p n cap)
       have hb := below_set (below_set HT2.out.bl (p := ⟨w.heap.size + 2, 0, none⟩) (by show _ ≤ w.heap.size + 2; omega) (.int .i64 hv)) (p := ⟨w.heap.size + 2, 1, none⟩) (by show _ ≤ w.heap.size + 2; omega) (.slice p n cap)
       (try simp only [Exit.inBlock, Exit.then])
       refine bodyPost_ret (results_cell_row rfl _ _ (w.heap.size + 2) 26 #[.int .i64 hv, .slice p n cap] (0, 0) _ rfl hr Tryz.underlying26 rfl Tryz.size26) rfl ?_
       exact ⟨rfl, hb⟩)
    | (exact absurd ⟨by assumption, HKK.out (by assumption) (by assumption), by omega, by omega⟩ HN.out)
end Go.Proofs.YtoigjpkdcadlnaaGreatDoor
