/-
  EpochNext: sederuntref19.Valid, exactly.
-/
import Derived.Test.YtmcnpaehmnadeaaGreatDoorFbCD
set_option maxHeartbeats 6400000
set_option maxRecDepth 1000000
namespace Go.Proofs.YtmcnpaehmnadeaaGreatDoor
open Go Go.RowKit
theorem fwS {w W : World} {b o1 o2 x y u v : Nat} (h : Below w.heap.size w W) (hb : b < w.heap.size) (h1 : w.cell? ⟨b, o1, none⟩ = some (.int .u16 (x : Int)) ∧ w.cell? ⟨b, o1 + 1, none⟩ = some (.int .u16 (y : Int))) (h2 : w.cell? ⟨b, o2, none⟩ = some (.int .u16 (u : Int)) ∧ w.cell? ⟨b, o2 + 1, none⟩ = some (.int .u16 (v : Int))) :
  W.cell? ⟨b, o1, none⟩ = some (.int .u16 (x : Int)) ∧ W.cell? ⟨b, o1 + 1, none⟩ = some (.int .u16 (y : Int)) ∧ W.cell? ⟨b, o2, none⟩ = some (.int .u16 (u : Int)) ∧ W.cell? ⟨b, o2 + 1, none⟩ = some (.int .u16 (v : Int)) ∧ Below w.heap.size w W :=
 ⟨(h.cell (p := ⟨b, o1, none⟩) hb).trans h1.1, (h.cell (p := ⟨b, o1 + 1, none⟩) hb).trans h1.2, (h.cell (p := ⟨b, o2, none⟩) hb).trans h2.1, (h.cell (p := ⟨b, o2 + 1, none⟩) hb).trans h2.2, h⟩
theorem faultValidR_ex (p : Option Addr) (m cap : Nat) (l : List (Nat × Nat)) (w : World) (hm : l.length = m) (hr : InF l) (h : FltL w p l) : Calls Tryz.prog 102 #[.slice p m cap] w (IsI (fltE l) w) := by
 have H := Lib.hid h
 have HM := Lib.hid hm
 have HR := Lib.hid hr
 have HE := Lib.hid (show fltE l = if l.length = 0 then 9 else if 100 < l.length then 3 else fscan l l.length from rfl)
 clear h hm hr
 by_cases h0 : m = 0
 ·subst h0
  go_enter Tryz.func102, Tryz.ntmps102
  go_wp2_with fail
  go_ret
  exact ⟨by rw [HE.out, HM.out]; rfl, Below.refl _ _⟩
 ·have e00 : ((m : Int) == 0) = false := by rw [beq_eq_false_iff_ne]; omega
  have e01 : ¬ (m : Int) = 0 := by omega
  by_cases h4 : 100 < m
  ·have e0 : (100 : Int) < (m : Int) := by omega
   go_enter Tryz.func102, Tryz.ntmps102
   go_wp2_with fail
   go_ret
   exact ⟨by rw [HE.out, HM.out, if_neg h0, if_pos h4]; rfl, Below.refl _ _⟩
  ·have e0 : ¬ (100 : Int) < (m : Int) := by omega
   have hm4 : m ≤ 100 := by omega
   have hE : fltE l = fscan l l.length := by rw [HE.out, HM.out, if_neg h0, if_neg h4]
   have HE2 := Lib.hid hE
   clear hE HE
   go_enter Tryz.func102, Tryz.ntmps102
   go_upto_block 0 with fail
   clear e00 e01 e0 h4
   go_wp2_with fail
   go_loopw [3] (fun i wr => ∃ k : Nat, k ≤ m ∧ i = .int .i64 k ∧ fscan l k = 0 ∧ Below w.heap.size w wr) (fun i _ => m - (intOf i).toNat)
   case atStart => exact ⟨0, Nat.zero_le _, rfl, rfl, Below.refl _ _⟩
   case round =>
    obtain ⟨k, hk, rfl, hs, hb⟩ := hrel
    have HS := Lib.hid hs
    have HB := Lib.hid hb
    clear hs hb
    by_cases hkm : k < m
    ·have hkl : k < l.length := by have := HM.out; omega
     obtain ⟨b, off, rfl, hbb, hx0, hy0⟩ := H.out.at hkl
     have hx1 := (HB.out.cell (p := ⟨b, off + k * 2, none⟩) hbb).trans hx0
     have hy1 := (HB.out.cell (p := ⟨b, off + k * 2 + 1, none⟩) hbb).trans hy0
     have hgd : l.getD k (0, 0) = l[k] := by simp [hkl]
     have hst : fscan l (k + 1) = fstep l k l[k] := by rw [fscan, if_neg (by simpa using HS.out), hgd]
     have HST := Lib.hid hst
     have HIN := Lib.hid (HR.out _ (List.getElem_mem hkl))
     have HMO := Lib.hid (fun e he h => @fscan_mono l (k + 1) l.length e h he hkl)
     clear hgd hst
     generalize l[k] = a at hx0 hy0 hx1 hy1 HST HIN
     obtain ⟨x, y⟩ := a
     simp only at hx0 hy0 hx1 hy1
     have HXY := Lib.hid (And.intro hx0 hy0)
     clear hx0 hy0
     have HSG := Lib.hid (fun W => single_ex x y HIN.out.1 HIN.out.2 W)
     have ek : (k : Int) < (m : Int) := by omega
     have ek0 : (0 : Int) ≤ (k : Int) := by omega
     go_upto_if 24 with (go_at_call 106; refine (HSG.out _).mono ?_; rintro e w1 ⟨rfl, hb1⟩)
     have HV := Lib.hid (HB.out.trans (hb1.mono HB.out.size))
     clear hx1 hy1 hb1
     by_cases hch : chkE x y = 0
     ·have HCH := Lib.hid hch
      have e0 : ((chkE x y : Nat) : Int) = 0 := by rw [hch]; rfl
      have e0b : (((chkE x y : Nat) : Int) != 0) = false := by rw [hch]; rfl
      clear hch
      simp only [e0b]
      go_upto_region 11 with fail
      clear e0 e0b
      go_upto_block 2 with fail
      go_cut [] (fun wx => covV l (x, y) k = false ∧ Below w.heap.size w wx)
      case first =>
       go_wp2_with fail
       go_loopw [5] (fun i wx => ∃ j : Nat, j ≤ k ∧ i = .int .i64 j ∧ covV l (x, y) j = false ∧ Below w.heap.size w wx) (fun i _ => k - (intOf i).toNat)
       case atStart => exact ⟨0, Nat.zero_le _, rfl, rfl, HV.out⟩
       case round =>
        obtain ⟨j, hj, rfl, hcv, hv⟩ := hrel
        have HCV := Lib.hid hcv
        have HV2 := Lib.hid hv
        clear hcv hv
        by_cases hjk : j < k
        ·have hjl : j < l.length := by omega
         obtain ⟨b2, off2, hpe, _, hu0, hv0⟩ := H.out.at hjl
         obtain ⟨rfl, rfl⟩ : b2 = b ∧ off2 = off := by
          injection hpe with hpe
          injection hpe with h1 h2
          exact ⟨h1.symm, h2.symm⟩
         have hgd : l.getD j (0, 0) = l[j] := by simp [hjl]
         have HSJ := Lib.hid (show covV l (x, y) (j + 1) = covP (x, y) l[j] by rw [covV, HCV.out, hgd]; rfl)
         clear hpe hgd
         generalize l[j] = c at hu0 hv0 HSJ
         obtain ⟨u, v⟩ := c
         simp only at hu0 hv0
         have HUV := Lib.hid (And.intro hu0 hv0)
         clear hu0 hv0
         have e3 : (j : Int) < (k : Int) := by omega
         have e4 : (j : Int) < (m : Int) := by omega
         have e5 : (0 : Int) ≤ (j : Int) := by omega
         go_upto_region 14 with fail
         have HK1 := Lib.hid (show j + 1 ≤ k from hjk)
         have HC1 := Lib.hid (fun W => covers_ex (x : Int) (y : Int) (u : Int) (v : Int) W)
         have HC2 := Lib.hid (fun W => covers_ex (u : Int) (v : Int) (x : Int) (y : Int) W)
         have hV2d := HV2.out.trans ((below_drew wr).mono HV2.out.size)
         cases h1 : cB (x : Int) (y : Int) (u : Int) (v : Int)
         ·have H1 := Lib.hid h1
          rw [h1] at HC1
          clear h1
          cases h2 : cB (u : Int) (v : Int) (x : Int) (y : Int)
          ·have H2 := Lib.hid h2
           rw [h2] at HC2
           clear h2
           refine wp_region_noPanic ?_
           refine wp_region_held_drew (S := fun W => W.cell? ⟨b2, off2 + k * 2, none⟩ = some (.int .u16 (x : Int)) ∧ W.cell? ⟨b2, off2 + k * 2 + 1, none⟩ = some (.int .u16 (y : Int)) ∧ W.cell? ⟨b2, off2 + j * 2, none⟩ = some (.int .u16 (u : Int)) ∧ W.cell? ⟨b2, off2 + j * 2 + 1, none⟩ = some (.int .u16 (v : Int)) ∧ Below w.heap.size w W) (by kernel_rfl) ?_ (fun hHeld => ?_)
           ·exact fwS hV2d hbb HXY.out HUV.out
           refine tkH 0 31 ?_ rfl ?_ ?_
           rotate_left
           ·intro w hSw; (try dsimp only at hSw); go_simp; try with_reducible rfl
           try simp only [Act.put, sA, sZ, sS]
           refine tkH 1 32 ?_ rfl ?_ ?_
           rotate_left
           ·intro w hSw; (try dsimp only at hSw); go_simp; try with_reducible rfl
           try simp only [Act.put, sA, sZ, sS]
           refine tkH 2 33 ?_ rfl ?_ ?_
           rotate_left
           ·intro w hSw; (try dsimp only at hSw); go_simp; try with_reducible rfl
           try simp only [Act.put, sA, sZ, sS]
           refine tkH 3 34 ?_ rfl ?_ ?_
           rotate_left
           ·intro w hSw; (try dsimp only at hSw); go_simp; try with_reducible rfl
           try simp only [Act.put, sA, sZ, sS]
           refine tkH 4 35 ?_ rfl ?_ ?_
           rotate_left
           ·intro w hSw; (try dsimp only at hSw); go_simp; try with_reducible rfl
           try simp only [Act.put, sA, sZ, sS]
           refine tkH 5 36 ?_ rfl ?_ ?_
           rotate_left
           ·intro w hSw; (try dsimp only at hSw); go_simp; try with_reducible rfl
           try simp only [Act.put, sA, sZ, sS]
           refine tkH 6 37 ?_ rfl ?_ ?_
           rotate_left
           ·intro w hSw; (try dsimp only at hSw); go_simp; try with_reducible rfl
           try simp only [Act.put, sA, sZ, sS]
           refine tkH 7 38 ?_ rfl ?_ ?_
           rotate_left
           ·intro w hSw; (try dsimp only at hSw); go_simp; try with_reducible rfl
           try simp only [Act.put, sA, sZ, sS]
           refine wpAnyH_ready (rs := [8]) (by kernel_rfl) (by simp) ?_
           refine AllReadyH.cons (o := ⟨some 39, _, _, _, _, _⟩) rfl (fun K hK => ?_) ?_
           ·go_simp
            go_at_call 79
            refine (HC1.out _).mono ?_
            rintro e w4 ⟨rfl, hb4⟩
            have hV4 := hV2d.trans (hb4.mono hV2d.size)
            go_simp
            refine hK.out _ _ ?_ (fun hHeld => ?_)
            ·exact fwS hV4 hbb HXY.out HUV.out
            clear hK K
            try simp only [Act.put, sA, sZ, sS]
            refine tkH 9 40 ?_ rfl ?_ ?_
            rotate_left
            ·intro w hSw; (try dsimp only at hSw); go_simp; try with_reducible rfl
            try simp only [Act.put, sA, sZ, sS]
            refine tkH 10 41 ?_ rfl ?_ ?_
            rotate_left
            ·intro w hSw; (try dsimp only at hSw); go_simp; try with_reducible rfl
            try simp only [Act.put, sA, sZ, sS]
            refine tkH 11 42 ?_ rfl ?_ ?_
            rotate_left
            ·intro w hSw; (try dsimp only at hSw); go_simp; try with_reducible rfl
            try simp only [Act.put, sA, sZ, sS]
            refine tkH 12 43 ?_ rfl ?_ ?_
            rotate_left
            ·intro w hSw; (try dsimp only at hSw); go_simp; try with_reducible rfl
            try simp only [Act.put, sA, sZ, sS]
            refine tkH 13 44 ?_ rfl ?_ ?_
            rotate_left
            ·intro w hSw; (try dsimp only at hSw); go_simp; try with_reducible rfl
            try simp only [Act.put, sA, sZ, sS]
            refine tkH 14 45 ?_ rfl ?_ ?_
            rotate_left
            ·intro w hSw; (try dsimp only at hSw); go_simp; try with_reducible rfl
            try simp only [Act.put, sA, sZ, sS]
            refine tkH 15 46 ?_ rfl ?_ ?_
            rotate_left
            ·intro w hSw; (try dsimp only at hSw); go_simp; try with_reducible rfl
            try simp only [Act.put, sA, sZ, sS]
            refine tkH 16 47 ?_ rfl ?_ ?_
            rotate_left
            ·intro w hSw; (try dsimp only at hSw); go_simp; try with_reducible rfl
            try simp only [Act.put, sA, sZ, sS]
            refine tkH 17 48 ?_ rfl ?_ ?_
            rotate_left
            ·intro w hSw; (try dsimp only at hSw); go_simp; try with_reducible rfl
            try simp only [Act.put, sA, sZ, sS]
            refine wpAnyH_ready (rs := [18]) (by kernel_rfl) (by simp) ?_
            refine AllReadyH.cons (o := ⟨some 49, _, _, _, _, _⟩) rfl (fun K hK => ?_) ?_
            ·go_simp
             go_at_call 79
             refine (HC2.out _).mono ?_
             rintro e w5 ⟨rfl, hb5⟩
             have hV5 := hV4.trans (hb5.mono hV4.size)
             go_simp
             refine hK.out _ _ ?_ (fun hHeld => ?_)
             ·exact fwS hV5 hbb HXY.out HUV.out
             clear hK K
             try simp only [Act.put, sA, sZ, sS]
             refine tkH 19 50 ?_ rfl ?_ ?_
             rotate_left
             ·intro w hSw; (try dsimp only at hSw); go_simp; try with_reducible rfl
             try simp only [Act.put, sA, sZ, sS]
             refine wpAnyH_done (by kernel_rfl) ?_ _
             refine NoPanic.normal ?_
             have HV5 := Lib.hid hV5
             clear hV5 hb5 hb4 hV4
             go_wp2_with fail
             go_roundw
             case rel => exact ⟨j + 1, by omega, by go_num, by rw [HSJ.out]; unfold covP; rw [H1.out, H2.out]; rfl, HV5.out⟩
             case measure => simp [intOf]; omega
            exact AllReadyH.nil
           exact AllReadyH.nil
          ·have H2 := Lib.hid h2
           rw [h2] at HC2
           clear h2
           refine wp_region_noPanic ?_
           refine wp_region_held_drew (S := fun W => W.cell? ⟨b2, off2 + k * 2, none⟩ = some (.int .u16 (x : Int)) ∧ W.cell? ⟨b2, off2 + k * 2 + 1, none⟩ = some (.int .u16 (y : Int)) ∧ W.cell? ⟨b2, off2 + j * 2, none⟩ = some (.int .u16 (u : Int)) ∧ W.cell? ⟨b2, off2 + j * 2 + 1, none⟩ = some (.int .u16 (v : Int)) ∧ Below w.heap.size w W) (by kernel_rfl) ?_ (fun hHeld => ?_)
           ·exact fwS hV2d hbb HXY.out HUV.out
           refine tkH 0 31 ?_ rfl ?_ ?_
           rotate_left
           ·intro w hSw; (try dsimp only at hSw); go_simp; try with_reducible rfl
           try simp only [Act.put, sA, sZ, sS]
           refine tkH 1 32 ?_ rfl ?_ ?_
           rotate_left
           ·intro w hSw; (try dsimp only at hSw); go_simp; try with_reducible rfl
           try simp only [Act.put, sA, sZ, sS]
           refine tkH 2 33 ?_ rfl ?_ ?_
           rotate_left
           ·intro w hSw; (try dsimp only at hSw); go_simp; try with_reducible rfl
           try simp only [Act.put, sA, sZ, sS]
           refine tkH 3 34 ?_ rfl ?_ ?_
           rotate_left
           ·intro w hSw; (try dsimp only at hSw); go_simp; try with_reducible rfl
           try simp only [Act.put, sA, sZ, sS]
           refine tkH 4 35 ?_ rfl ?_ ?_
           rotate_left
           ·intro w hSw; (try dsimp only at hSw); go_simp; try with_reducible rfl
           try simp only [Act.put, sA, sZ, sS]
           refine tkH 5 36 ?_ rfl ?_ ?_
           rotate_left
           ·intro w hSw; (try dsimp only at hSw); go_simp; try with_reducible rfl
           try simp only [Act.put, sA, sZ, sS]
           refine tkH 6 37 ?_ rfl ?_ ?_
           rotate_left
           ·intro w hSw; (try dsimp only at hSw); go_simp; try with_reducible rfl
           try simp only [Act.put, sA, sZ, sS]
           refine tkH 7 38 ?_ rfl ?_ ?_
           rotate_left
           ·intro w hSw; (try dsimp only at hSw); go_simp; try with_reducible rfl
           try simp only [Act.put, sA, sZ, sS]
           refine wpAnyH_ready (rs := [8]) (by kernel_rfl) (by simp) ?_
           refine AllReadyH.cons (o := ⟨some 39, _, _, _, _, _⟩) rfl (fun K hK => ?_) ?_
           ·go_simp
            go_at_call 79
            refine (HC1.out _).mono ?_
            rintro e w4 ⟨rfl, hb4⟩
            have hV4 := hV2d.trans (hb4.mono hV2d.size)
            go_simp
            refine hK.out _ _ ?_ (fun hHeld => ?_)
            ·exact fwS hV4 hbb HXY.out HUV.out
            clear hK K
            try simp only [Act.put, sA, sZ, sS]
            refine tkH 9 40 ?_ rfl ?_ ?_
            rotate_left
            ·intro w hSw; (try dsimp only at hSw); go_simp; try with_reducible rfl
            try simp only [Act.put, sA, sZ, sS]
            refine tkH 10 41 ?_ rfl ?_ ?_
            rotate_left
            ·intro w hSw; (try dsimp only at hSw); go_simp; try with_reducible rfl
            try simp only [Act.put, sA, sZ, sS]
            refine tkH 11 42 ?_ rfl ?_ ?_
            rotate_left
            ·intro w hSw; (try dsimp only at hSw); go_simp; try with_reducible rfl
            try simp only [Act.put, sA, sZ, sS]
            refine tkH 12 43 ?_ rfl ?_ ?_
            rotate_left
            ·intro w hSw; (try dsimp only at hSw); go_simp; try with_reducible rfl
            try simp only [Act.put, sA, sZ, sS]
            refine tkH 13 44 ?_ rfl ?_ ?_
            rotate_left
            ·intro w hSw; (try dsimp only at hSw); go_simp; try with_reducible rfl
            try simp only [Act.put, sA, sZ, sS]
            refine tkH 14 45 ?_ rfl ?_ ?_
            rotate_left
            ·intro w hSw; (try dsimp only at hSw); go_simp; try with_reducible rfl
            try simp only [Act.put, sA, sZ, sS]
            refine tkH 15 46 ?_ rfl ?_ ?_
            rotate_left
            ·intro w hSw; (try dsimp only at hSw); go_simp; try with_reducible rfl
            try simp only [Act.put, sA, sZ, sS]
            refine tkH 16 47 ?_ rfl ?_ ?_
            rotate_left
            ·intro w hSw; (try dsimp only at hSw); go_simp; try with_reducible rfl
            try simp only [Act.put, sA, sZ, sS]
            refine tkH 17 48 ?_ rfl ?_ ?_
            rotate_left
            ·intro w hSw; (try dsimp only at hSw); go_simp; try with_reducible rfl
            try simp only [Act.put, sA, sZ, sS]
            refine wpAnyH_ready (rs := [18]) (by kernel_rfl) (by simp) ?_
            refine AllReadyH.cons (o := ⟨some 49, _, _, _, _, _⟩) rfl (fun K hK => ?_) ?_
            ·go_simp
             go_at_call 79
             refine (HC2.out _).mono ?_
             rintro e w5 ⟨rfl, hb5⟩
             have hV5 := hV4.trans (hb5.mono hV4.size)
             go_simp
             refine hK.out _ _ ?_ (fun hHeld => ?_)
             ·exact fwS hV5 hbb HXY.out HUV.out
             clear hK K
             try simp only [Act.put, sA, sZ, sS]
             refine tkH 19 50 ?_ rfl ?_ ?_
             rotate_left
             ·intro w hSw; (try dsimp only at hSw); go_simp; try with_reducible rfl
             try simp only [Act.put, sA, sZ, sS]
             refine wpAnyH_done (by kernel_rfl) ?_ _
             refine NoPanic.normal ?_
             have HV5 := Lib.hid hV5
             clear hV5 hb5 hb4 hV4
             go_wp2_with fail
             go_ret
             refine ⟨?_, HV5.out⟩
             rw [HE2.out, HMO.out 5 (by omega) (by rw [HST.out]; unfold fstep; rw [if_neg (fun h => h HCH.out), if_pos (covV_mono (by rw [HSJ.out]; unfold covP; rw [H1.out, H2.out]; rfl) HK1.out)])]
             rfl
            exact AllReadyH.nil
           exact AllReadyH.nil
         ·have H1 := Lib.hid h1
          rw [h1] at HC1
          clear h1
          refine wp_region_noPanic ?_
          refine wp_region_held_drew (S := fun W => W.cell? ⟨b2, off2 + k * 2, none⟩ = some (.int .u16 (x : Int)) ∧ W.cell? ⟨b2, off2 + k * 2 + 1, none⟩ = some (.int .u16 (y : Int)) ∧ W.cell? ⟨b2, off2 + j * 2, none⟩ = some (.int .u16 (u : Int)) ∧ W.cell? ⟨b2, off2 + j * 2 + 1, none⟩ = some (.int .u16 (v : Int)) ∧ Below w.heap.size w W) (by kernel_rfl) ?_ (fun hHeld => ?_)
          ·exact fwS hV2d hbb HXY.out HUV.out
          refine tkH 0 31 ?_ rfl ?_ ?_
          rotate_left
          ·intro w hSw; (try dsimp only at hSw); go_simp; try with_reducible rfl
          try simp only [Act.put, sA, sZ, sS]
          refine tkH 1 32 ?_ rfl ?_ ?_
          rotate_left
          ·intro w hSw; (try dsimp only at hSw); go_simp; try with_reducible rfl
          try simp only [Act.put, sA, sZ, sS]
          refine tkH 2 33 ?_ rfl ?_ ?_
          rotate_left
          ·intro w hSw; (try dsimp only at hSw); go_simp; try with_reducible rfl
          try simp only [Act.put, sA, sZ, sS]
          refine tkH 3 34 ?_ rfl ?_ ?_
          rotate_left
          ·intro w hSw; (try dsimp only at hSw); go_simp; try with_reducible rfl
          try simp only [Act.put, sA, sZ, sS]
          refine tkH 4 35 ?_ rfl ?_ ?_
          rotate_left
          ·intro w hSw; (try dsimp only at hSw); go_simp; try with_reducible rfl
          try simp only [Act.put, sA, sZ, sS]
          refine tkH 5 36 ?_ rfl ?_ ?_
          rotate_left
          ·intro w hSw; (try dsimp only at hSw); go_simp; try with_reducible rfl
          try simp only [Act.put, sA, sZ, sS]
          refine tkH 6 37 ?_ rfl ?_ ?_
          rotate_left
          ·intro w hSw; (try dsimp only at hSw); go_simp; try with_reducible rfl
          try simp only [Act.put, sA, sZ, sS]
          refine tkH 7 38 ?_ rfl ?_ ?_
          rotate_left
          ·intro w hSw; (try dsimp only at hSw); go_simp; try with_reducible rfl
          try simp only [Act.put, sA, sZ, sS]
          refine wpAnyH_ready (rs := [8]) (by kernel_rfl) (by simp) ?_
          refine AllReadyH.cons (o := ⟨some 39, _, _, _, _, _⟩) rfl (fun K hK => ?_) ?_
          ·go_simp
           go_at_call 79
           refine (HC1.out _).mono ?_
           rintro e w4 ⟨rfl, hb4⟩
           have hV4 := hV2d.trans (hb4.mono hV2d.size)
           go_simp
           refine hK.out _ _ ?_ (fun hHeld => ?_)
           ·exact fwS hV4 hbb HXY.out HUV.out
           clear hK K
           try simp only [Act.put, sA, sZ, sS]
           refine tkH 9 40 ?_ rfl ?_ ?_
           rotate_left
           ·intro w hSw; (try dsimp only at hSw); go_simp; try with_reducible rfl
           try simp only [Act.put, sA, sZ, sS]
           refine tuH 10 41 rfl ?_
           try simp only [Act.put, sA, sZ, sS]
           refine tuH 11 42 rfl ?_
           try simp only [Act.put, sA, sZ, sS]
           refine tuH 12 43 rfl ?_
           try simp only [Act.put, sA, sZ, sS]
           refine tuH 13 44 rfl ?_
           try simp only [Act.put, sA, sZ, sS]
           refine tuH 14 45 rfl ?_
           try simp only [Act.put, sA, sZ, sS]
           refine tuH 15 46 rfl ?_
           try simp only [Act.put, sA, sZ, sS]
           refine tuH 16 47 rfl ?_
           try simp only [Act.put, sA, sZ, sS]
           refine tuH 17 48 rfl ?_
           try simp only [Act.put, sA, sZ, sS]
           refine tuH 18 49 rfl ?_
           try simp only [Act.put, sA, sZ, sS]
           refine tkH 19 50 ?_ rfl ?_ ?_
           rotate_left
           ·intro w hSw; (try dsimp only at hSw); go_simp; try with_reducible rfl
           try simp only [Act.put, sA, sZ, sS]
           refine wpAnyH_done (by kernel_rfl) ?_ _
           refine NoPanic.normal ?_
           have HV4 := Lib.hid hV4
           clear hV4 hb4
           go_wp2_with fail
           go_ret
           refine ⟨?_, HV4.out⟩
           rw [HE2.out, HMO.out 5 (by omega) (by rw [HST.out]; unfold fstep; rw [if_neg (fun h => h HCH.out), if_pos (covV_mono (by rw [HSJ.out]; unfold covP; rw [H1.out]; rfl) HK1.out)])]
           rfl
          exact AllReadyH.nil
        ·obtain rfl : j = k := by omega
         go_wp2_with fail
         go_meet
         exact ⟨HCV.out, HV2.out⟩
      case rest =>
       obtain ⟨hcv, hv⟩ := hcut
       have HCV := Lib.hid hcv
       have HV2 := Lib.hid hv
       clear hcv hv
       go_upto_region 16 with fail
       rcases Nat.eq_zero_or_pos k with hk0 | hk0
       ·have HF := Lib.hid (show fstep l k (x, y) = 0 by unfold fstep; rw [if_neg (fun h => h HCH.out), HCV.out, if_neg (by simp), if_neg (by rw [hk0]; simp)])
        have e3 : decide ((0 : Int) < (k : Int)) = false := by simp; omega
        go_quiet (fail)
        go_wp2_with fail
        go_roundw
        case rel => exact ⟨k + 1, by omega, by go_num, by rw [HST.out]; exact HF.out, below_drewN HV2.out _⟩
        case measure => simp [intOf]; omega
       ·obtain ⟨j, hj⟩ : ∃ j, k = j + 1 := ⟨k - 1, by omega⟩
        have hjl : j < l.length := by omega
        obtain ⟨b2, off2, hpe, _, hu0, hv0⟩ := H.out.at hjl
        obtain ⟨rfl, rfl⟩ : b2 = b ∧ off2 = off := by
         injection hpe with hpe
         injection hpe with h1 h2
         exact ⟨h1.symm, h2.symm⟩
        have hgd : l.getD (k - 1) (0, 0) = l[j] := by rw [hj]; simp [hjl]
        have hlt := HR.out _ (List.getElem_mem hjl)
        have HF := Lib.hid (show fstep l k (x, y) = if 0 ≤ cmpF l[j].1 l[j].2 x y then 1 else 0 by
         unfold fstep
         rw [if_neg (fun h => h HCH.out), HCV.out, if_neg (by simp), hgd]
         by_cases h : 0 ≤ cmpF l[j].1 l[j].2 x y
         ·rw [if_pos ⟨hk0, h⟩, if_pos h]
         ·rw [if_neg (fun h2 => h h2.2), if_neg h])
        clear hpe hgd
        generalize l[j] = c at hu0 hv0 hlt HF
        obtain ⟨u, v⟩ := c
        simp only at hu0 hv0 hlt
        have e3 : (0 : Int) < (k : Int) := by omega
        have e3b : decide ((0 : Int) < (k : Int)) = true := by simp; omega
        have ew : IntKind.i64.wrap ((k : Int) - 1) = (k : Int) - 1 := by rw [IntKind.wrap_i64]; omega
        have e4 : (0 : Int) ≤ (k : Int) - 1 := by omega
        have e5 : (k : Int) - 1 < (m : Int) := by omega
        have e6 : ((k : Int) - 1).toNat = j := by omega
        have e7 : (1 : Int) ≤ (k : Int) := by omega
        have HUV := Lib.hid (And.intro hu0 hv0)
        have HCF := Lib.hid (fun W => compareFR_ex u v x y hlt.1 hlt.2 HIN.out.1 HIN.out.2 W)
        clear hj hu0 hv0 hlt
        go_region_held3 (fun W => W.cell? ⟨b2, off2 + k * 2, none⟩ = some (.int .u16 (x : Int)) ∧ W.cell? ⟨b2, off2 + k * 2 + 1, none⟩ = some (.int .u16 (y : Int)) ∧ W.cell? ⟨b2, off2 + j * 2, none⟩ = some (.int .u16 (u : Int)) ∧ W.cell? ⟨b2, off2 + j * 2 + 1, none⟩ = some (.int .u16 (v : Int)) ∧ Below w.heap.size w W)
         (first | exact fwS HV2.out hbb HXY.out HUV.out | exact fwS (HV2.out.trans ((below_drew _).mono HV2.out.size)) hbb HXY.out HUV.out | exact fwS hV3 hbb HXY.out HUV.out)
         ((go_at_call 80; refine (HCF.out _).mono ?_; rintro e w3 ⟨rfl, hb3⟩; have hV3 := HV2.out.trans (((below_drew _).trans (hb3.mono (below_drew _).size)).mono HV2.out.size)))
        have HV3 := Lib.hid hV3
        clear hV3 hb3
        by_cases hcp : 0 ≤ cmpF u v x y
        ·have HCP := Lib.hid hcp
         go_wp2_with fail
         go_ret
         exact ⟨by rw [HE2.out, HMO.out 1 (by omega) (by rw [HST.out, HF.out, if_pos HCP.out])]; rfl, HV3.out⟩
        ·have HCP := Lib.hid hcp
         go_wp2_with fail
         go_roundw
         case rel => exact ⟨k + 1, by omega, by go_num, by rw [HST.out, HF.out, if_neg HCP.out], HV3.out⟩
         case measure => simp [intOf]; omega
     ·have HCH := Lib.hid hch
      have e0 : ¬ ((chkE x y : Nat) : Int) = 0 := by omega
      clear hch
      go_wp2_with fail
      go_ret
      exact ⟨by rw [HE2.out, HMO.out _ HCH.out (by rw [HST.out]; unfold fstep; rw [if_pos HCH.out])]; rfl, HV.out⟩
    ·obtain rfl : k = m := by omega
     rw [← HM.out] at HS
     go_wp2_with fail
     go_ret
     exact ⟨by rw [HE2.out, HS.out]; rfl, HB.out⟩
end Go.Proofs.YtmcnpaehmnadeaaGreatDoor
