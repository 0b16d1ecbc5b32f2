/-
  EpochNext: joint.Faults, exactly, over what fault.Normalize answers.
-/
import Derived.Test.YtmcnpaehmnadeaaGreatDoorFdCD
set_option maxHeartbeats 6400000
set_option maxRecDepth 1000000
namespace Go.Proofs.YtmcnpaehmnadeaaGreatDoor
open Go Go.RowKit
def NormOk : Prop := ∀ (p : Option Addr) (n cap : Nat) (L : List (Nat × Nat)) (w : World), PlainP p → n ≤ 10000 → n ≤ cap → L.length = n → InF L → FltL w p L → Calls Tryz.prog 66 #[.slice p n cap] w (MR (nzE L) (nzL L) w)
theorem faultsI_of (hN : NormOk) (nma : ByteArray) (kda : Int) (mba : Nat) (p3a : Option Addr) (n3a c3a : Nat) (p4a : Option Addr) (n4a c4a : Nat) (p5a : Option Addr) (n5a c5a : Nat) (rda wra : List Nat) (fsa : List (Nat × Nat)) (nmb : ByteArray) (kdb : Int) (mbb : Nat) (p3b : Option Addr) (n3b c3b : Nat) (p4b : Option Addr) (n4b c4b : Nat) (p5b : Option Addr) (n5b c5b : Nat) (rdb wrb : List Nat) (fsb : List (Nat × Nat)) (w : World) (ha : CfgL w nma mba p3a n3a c3a p4a n4a c4a p5a n5a c5a rda wra fsa) (hb : CfgL w nmb mbb p3b n3b c3b p4b n4b c4b p5b n5b c5b rdb wrb fsb) :
  Calls Tryz.prog 42 #[.agg #[.string nma, .int .i64 kda, .int .u16 (mba : Int), .slice p3a n3a c3a, .slice p4a n4a c4a, .slice p5a n5a c5a], .agg #[.string nmb, .int .i64 kdb, .int .u16 (mbb : Int), .slice p3b n3b c3b, .slice p4b n4b c4b, .slice p5b n5b c5b]] w (MR (fjE kda mba rda wra fsa kdb mbb rdb wrb fsb) (fjL kda mba rda wra fsa kdb mbb rdb wrb fsb) w) := by
 obtain ⟨i0, hi, hz0, hz1, hz2⟩ := info_parts Tryz.info69
 have HNO := Lib.hid hN
 have HA := Lib.hid ha
 have HBB := Lib.hid hb
 have HO := Lib.hid (And.intro (heap_alloc2_old w (.cells #[.string nma, .int .i64 kda, .int .u16 (mba : Int), .slice p3a n3a c3a, .slice p4a n4a c4a, .slice p5a n5a c5a] 49) (.cells #[.string nmb, .int .i64 kdb, .int .u16 (mbb : Int), .slice p3b n3b c3b, .slice p4b n4b c4b, .slice p5b n5b c5b] 49)) (And.intro (heap_alloc2_new w (.cells #[.string nma, .int .i64 kda, .int .u16 (mba : Int), .slice p3a n3a c3a, .slice p4a n4a c4a, .slice p5a n5a c5a] 49) (.cells #[.string nmb, .int .i64 kdb, .int .u16 (mbb : Int), .slice p3b n3b c3b, .slice p4b n4b c4b, .slice p5b n5b c5b] 49)) (show Below w.heap.size w ((w.alloc (.cells #[.string nma, .int .i64 kda, .int .u16 (mba : Int), .slice p3a n3a c3a, .slice p4a n4a c4a, .slice p5a n5a c5a] 49)).alloc (.cells #[.string nmb, .int .i64 kdb, .int .u16 (mbb : Int), .slice p3b n3b c3b, .slice p4b n4b c4b, .slice p5b n5b c5b] 49)) from ((Below.refl _ _).alloc (Nat.le_refl _) _).alloc (by simp) _)))
 have HE := Lib.hid (show fjE kda mba rda wra fsa kdb mbb rdb wrb fsb = if bothE (valE kda mba rda wra fsa) (valE kdb mbb rdb wrb fsb) ≠ 0 then bothE (valE kda mba rda wra fsa) (valE kdb mbb rdb wrb fsb) else nzE (jfs kda mba kdb mbb fsa fsb) from rfl)
 have HL := Lib.hid (show fjL kda mba rda wra fsa kdb mbb rdb wrb fsb = if bothE (valE kda mba rda wra fsa) (valE kdb mbb rdb wrb fsb) ≠ 0 then [] else nzL (jfs kda mba kdb mbb fsa fsb) from rfl)
 have HZ := Lib.hid (show bothE (valE kda mba rda wra fsa) (valE kdb mbb rdb wrb fsb) = 0 → fsa.length ≤ 100 ∧ fsb.length ≤ 100 from fun h => ⟨fltE_len (valE_flt (bothE_zero h).1), fltE_len (valE_flt (bothE_zero h).2)⟩)
 have HV := Lib.hid (fun (g cap : Nat) (W : World) (hW : Below w.heap.size w W) (hg : W.heap[g]? = some (.cells #[.string nma, .int .i64 kda, .int .u16 (mba : Int), .slice p3a n3a c3a, .slice p4a n4a c4a, .slice p5a n5a c5a, .string nmb, .int .i64 kdb, .int .u16 (mbb : Int), .slice p3b n3b c3b, .slice p4b n4b c4b, .slice p5b n5b c5b] 49 (0, 0))) => jointValid_ex nma kda mba p3a n3a c3a p4a n4a c4a p5a n5a c5a rda wra fsa nmb kdb mbb p3b n3b c3b p4b n4b c4b p5b n5b c5b rdb wrb fsb g cap W (ha.below hW) (hb.below hW) hg)
 clear ha hb hN
 generalize bothE (valE kda mba rda wra fsa) (valE kdb mbb rdb wrb fsb) = E at HV HE HL HZ
 go_enter Tryz.func42, Tryz.ntmps42
 go_upto_region 1 with fail
 revert HO
 generalize (w.alloc (.cells #[.string nma, .int .i64 kda, .int .u16 (mba : Int), .slice p3a n3a c3a, .slice p4a n4a c4a, .slice p5a n5a c5a] 49)).alloc (.cells #[.string nmb, .int .i64 kdb, .int .u16 (mbb : Int), .slice p3b n3b c3b, .slice p4b n4b c4b, .slice p5b n5b c5b] 49) = W0
 intro HO
 obtain ⟨z0, z1, z2, z3, z4, z5⟩ := cs6 HO.out.1
 obtain ⟨y0, y1, y2, y3, y4, y5⟩ := cs6 HO.out.2.1
 by_cases hE : E = 0
 ·have HZ0 := Lib.hid (HZ.out hE)
  subst hE
  go_upto_region 4 with (go_at_call 40; (refine (HV.out _ _ _ (HO.out.2.2.trans (((Below.refl _ _).alloc (Nat.le_refl _) _).mono HO.out.2.2.size)) (heap_alloc_new _ _)).mono ?_); rintro e w1 ⟨rfl, hb1⟩; have HB0 := Lib.hid ((Below.refl W0.heap.size W0).alloc (Nat.le_refl _) (.cells #[.string nma, .int .i64 kda, .int .u16 (mba : Int), .slice p3a n3a c3a, .slice p4a n4a c4a, .slice p5a n5a c5a, .string nmb, .int .i64 kdb, .int .u16 (mbb : Int), .slice p3b n3b c3b, .slice p4b n4b c4b, .slice p5b n5b c5b] 49) |>.trans (hb1.mono (by simp))); clear hb1)
  have HB1 := Lib.hid (HO.out.2.2.trans (HB0.out.mono HO.out.2.2.size))
  have HRA := Lib.hid ((HB0.out.block _ (gLt HO.out.1)).trans HO.out.1)
  have HRB := Lib.hid ((HB0.out.block _ (gLt HO.out.2.1)).trans HO.out.2.1)
  clear z0 z1 z2 z3 z4 z5 y0 y1 y2 y3 y4 y5 HO HV HB0
  have HFA := Lib.hid (HA.out.s5.below HB1.out)
  have HFB := Lib.hid (HBB.out.s5.below HB1.out)
  have hna : n5a ≤ 100 := by rw [← HA.out.l5]; exact HZ0.out.1
  have hnb : n5b ≤ 100 := by rw [← HBB.out.l5]; exact HZ0.out.2
  have z2 := cellOf HRA.out (j := 2) rfl
  have y2 := cellOf HRB.out (j := 2) rfl
  have z5 := cellOf HRA.out (j := 5) rfl
  go_upto_block 0 with fail
  clear z2 y2 z5
  go_wp2_with fail
  go_loopw [8, 32] (fun v i wr => ∃ (k : Nat) (L : List (Nat × Nat)), k ≤ n5a ∧ i = .int .i64 k ∧ jfs kda mba kdb mbb (fsa.take k) fsb = L ∧ wr.ownsRow w1.heap.size 69 2 v L.length (ftV (zF L)) ∧ Below w1.heap.size w1 wr) (fun _ i _ => n5a - (intOf i).toNat)
  case atStart => exact ⟨0, [], Nat.zero_le _, rfl, rfl, World.ownsRow_nil _ _ _ _, Below.refl _ _⟩
  case round =>
   obtain ⟨k, L0, hk, rfl, hL0, hown, hb⟩ := hrel
   have HL0 := Lib.hid hL0
   have HW := Lib.hid hown
   have HB := Lib.hid hb
   clear hL0 hown hb
   by_cases hkm : k < n5a
   ·have hkl : k < fsa.length := by have := HA.out.l5; omega
    obtain ⟨b, off, rfl, hbb, hx, hy⟩ := HFA.out.at hkl
    have HPS := Lib.hid (jfs_succ (kda := kda) (mba := mba) (kdb := kdb) (mbb := mbb) (g := fsb) hkl)
    obtain ⟨x, y, hg1⟩ : ∃ x y, fsa[k] = (x, y) := ⟨_, _, rfl⟩
    rw [hg1] at hx hy HPS
    simp only at hx hy
    have hx1 := (HB.out.cell (p := ⟨b, off + k * 2, none⟩) hbb).trans hx
    have hy1 := (HB.out.cell (p := ⟨b, off + k * 2 + 1, none⟩) hbb).trans hy
    have hLn : L0.length = k * n5b := by rw [← HL0.out, jfs_len, List.length_take, HBB.out.l5, HA.out.l5, Nat.min_eq_left hk]
    have hLn2 : k * n5b ≤ 10000 := by
     have h1 : k * n5b ≤ 100 * 100 := Nat.mul_le_mul (by omega) hnb
     omega
    have hLb : L0.length ≤ 10000 := by omega
    clear hx hy hg1 hLn hLn2
    have e1 : (k : Int) < (n5a : Int) := by omega
    have e2 : (0 : Int) ≤ (k : Int) := by omega
    generalize hgv : u8 = v8 at HW ⊢
    clear hgv
    go_upto_region 9 with fail
    have HFV := Lib.hid (show FV w1 wr.heap.size x y (wr.alloc (.cells #[.int .u16 (x : Int), .int .u16 (y : Int)] 69)) from ⟨heap_alloc_new wr _, HB.out.trans ((Below.refl _ _).alloc HB.out.size _)⟩)
    have HW' := Lib.hid (HW.out.alloc (.cells #[.int .u16 (x : Int), .int .u16 (y : Int)] 69))
    clear hx1 hy1 HW HB
    revert HFV HW'
    generalize wr.alloc (.cells #[.int .u16 (x : Int), .int .u16 (y : Int)] 69) = W2
    generalize wr.heap.size = A2
    intro HFV HW'
    have z0 := cell_at HFV.out.bl HRA.out (j := 0) rfl; have z1 := cell_at HFV.out.bl HRA.out (j := 1) rfl; have z2 := cell_at HFV.out.bl HRA.out (j := 2) rfl; have z3 := cell_at HFV.out.bl HRA.out (j := 3) rfl; have z4 := cell_at HFV.out.bl HRA.out (j := 4) rfl; have z5 := cell_at HFV.out.bl HRA.out (j := 5) rfl
    obtain ⟨f0, f1⟩ := cs2 HFV.out.ra
    have HQA := Lib.hid (fun W => allowed_ex nma kda mba p3a n3a c3a p4a n4a c4a (some ⟨b, off, none⟩) n5a c5a x y (bits .or .u16 (mba : Int) (mbb : Int)) W)
    obtain ⟨ab, hab⟩ : ∃ ab, alB kda mba x (bits .or .u16 (mba : Int) (mbb : Int)) = ab := ⟨_, rfl⟩
    obtain ⟨af, haf⟩ : ∃ af, alF mba x y (bits .or .u16 (mba : Int) (mbb : Int)) = af := ⟨_, rfl⟩
    rw [hab, haf] at HQA
    have HAB := Lib.hid (And.intro hab haf)
    clear hab haf
    go_upto_region 10 with (go_at_call 65; (with_reducible refine (HQA.out _).mono ?_); rintro e w2 ⟨rfl, hb2⟩; have HW := Lib.hid (own_below HW'.out hb2); have HB := Lib.hid (HFV.out.bl.trans (hb2.mono HFV.out.bl.size)); clear hb2)
    clear z0 z1 z2 z3 z4 z5 f0 f1 HFV HW'
    have y5 := cell_at HB.out HRB.out (j := 5) rfl
    go_wp2_with fail
    clear y5
    go_loopw [8, 46] (fun v i wr => ∃ (j : Nat) (L : List (Nat × Nat)), j ≤ n5b ∧ i = .int .i64 j ∧ L0 ++ (fsb.take j).map (fun t => jfN kda mba kdb mbb (x, y) t) = L ∧ wr.ownsRow w1.heap.size 69 2 v L.length (ftV (zF L)) ∧ Below w1.heap.size w1 wr) (fun _ i _ => n5b - (intOf i).toNat)
    case atStart => exact ⟨0, L0, Nat.zero_le _, rfl, by simp, HW.out, HB.out⟩
    case round =>
     obtain ⟨j, L, hj, rfl, hL, hown, hb⟩ := hrel
     have HLE := Lib.hid hL
     have HW2 := Lib.hid hown
     have HB2 := Lib.hid hb
     have hLl : L.length = L0.length + j := by rw [← hL, List.length_append, List.length_map, List.length_take, HBB.out.l5, Nat.min_eq_left hj]
     have hLl2 : L.length ≤ 10100 := by omega
     clear hL hown hb hLl
     by_cases hjn : j < n5b
     ·have hjl : j < fsb.length := by have := HBB.out.l5; omega
      obtain ⟨b', off', rfl, hbb', hu, hv⟩ := HFB.out.at hjl
      have HSJ := Lib.hid (show L0 ++ (fsb.take (j + 1)).map (fun t => jfN kda mba kdb mbb (x, y) t) = (L0 ++ (fsb.take j).map (fun t => jfN kda mba kdb mbb (x, y) t)) ++ [jfN kda mba kdb mbb (x, y) fsb[j]] by rw [take_snoc hjl, List.map_append, ← List.append_assoc]; rfl)
      obtain ⟨u, q, hg2⟩ : ∃ u q, fsb[j] = (u, q) := ⟨_, _, rfl⟩
      rw [hg2] at hu hv HSJ
      simp only at hu hv
      have hu1 := (HB2.out.cell (p := ⟨b', off' + j * 2, none⟩) hbb').trans hu
      have hv1 := (HB2.out.cell (p := ⟨b', off' + j * 2 + 1, none⟩) hbb').trans hv
      have HJN := Lib.hid (jfN_cast kda mba kdb mbb (x, y) (u, q))
      rw [← jf_one] at HJN
      unfold jfI at HJN
      simp only [HAB.out.1, HAB.out.2] at HJN
      clear hu hv hg2
      have HQB := Lib.hid (fun W => allowed_ex nmb kdb mbb p3b n3b c3b p4b n4b c4b (some ⟨b', off', none⟩) n5b c5b u q (bits .or .u16 (mba : Int) (mbb : Int)) W)
      generalize jfN kda mba kdb mbb (x, y) (u, q) = F at HJN HSJ
      generalize alB kdb mbb u (bits .or .u16 (mba : Int) (mbb : Int)) = bb at HQB HJN
      generalize alF mbb u q (bits .or .u16 (mba : Int) (mbb : Int)) = bf at HQB HJN
      have e3 : (j : Int) < (n5b : Int) := by omega
      have e4 : (0 : Int) ≤ (j : Int) := by omega
      generalize hgv : u8 = v at HW2 ⊢
      clear hgv
      clear HW HB
      go_upto_region 13 with fail
      have HFV := Lib.hid (show FV w1 wr.heap.size u q (wr.alloc (.cells #[.int .u16 (u : Int), .int .u16 (q : Int)] 69)) from ⟨heap_alloc_new wr _, HB2.out.trans ((Below.refl _ _).alloc HB2.out.size _)⟩)
      have HW' := Lib.hid (HW2.out.alloc (.cells #[.int .u16 (u : Int), .int .u16 (q : Int)] 69))
      clear hu1 hv1 HW2 HB2
      revert HFV HW'
      generalize wr.alloc (.cells #[.int .u16 (u : Int), .int .u16 (q : Int)] 69) = W3
      generalize wr.heap.size = A3
      intro HFV HW'
      have y0 := cell_at HFV.out.bl HRB.out (j := 0) rfl; have y1 := cell_at HFV.out.bl HRB.out (j := 1) rfl; have y2 := cell_at HFV.out.bl HRB.out (j := 2) rfl; have y3 := cell_at HFV.out.bl HRB.out (j := 3) rfl; have y4 := cell_at HFV.out.bl HRB.out (j := 4) rfl; have y5 := cell_at HFV.out.bl HRB.out (j := 5) rfl
      obtain ⟨f0, f1⟩ := cs2 HFV.out.ra
      go_upto_region 14 with (go_at_call 65; (with_reducible refine (HQB.out _).mono ?_); rintro e w3 ⟨rfl, hb3⟩; have HJ2 := Lib.hid (And.intro (own_below HW'.out hb3) (HFV.out.bl.trans (hb3.mono HFV.out.bl.size))); clear hb3)
      clear y0 y1 y2 y3 y4 y5 f0 f1 HFV HW'
      have hsz3 := HJ2.out.2.size
      go_wp2_with (at_builtin; refine wpList_append_own _ rfl _ _ 47 rfl w1.heap.size 69 i0 (.agg #[.int .u16 0, .int .u16 0]) 2 4 Tryz.underlying47 hi hz0 hz1 hz2 rfl (by decide) _ _ _ rfl (HJ2.out.1.alloc _) ⟨w3.heap.size, 0, none⟩ 1 1 [.int .u16 (bits .and .u16 bb ab), .int .u16 (bits .andNot .u16 (bits .and .u16 bf af) (bits .and .u16 bb ab))] rfl rfl ?n1 ?n2 ?n3 ?n4 ?n5 ?_)
      try (case n1 => (intro j u hj; rcases j with _ | _ | j <;> simp at hj <;> (subst hj; simp [Addr.add])))
      try (case n2 => (first | exact ⟨rfl, rfl⟩ | (intro u hu; simp at hu; rcases hu with rfl | rfl <;> rfl)))
      try (case n3 => (have := zF_len L; unfold maxLen; omega))
      try (case n4 => (have := zF_len L; omega))
      try (case n5 => (have := zF_len L; first | omega | (simp; omega)))
      intro v5 w5 hown5 hgrow _
      have hb5 : Below w1.heap.size w1 w5 := below_grown HJ2.out.2 hsz3 HJ2.out.1 hgrow
      have HW5 := Lib.hid (show w5.ownsRow w1.heap.size 69 2 v5 (L ++ [F]).length (ftV (zF (L ++ [F]))) by
       rw [zF_app, ftV_app, List.length_append]
       have h1 := HJN.out.1
       have h2 := HJN.out.2.1
       show w5.ownsRow w1.heap.size 69 2 v5 (L.length + 1) (ftV (zF L) ++ [.int .u16 (F.1 : Int), .int .u16 (F.2 : Int)])
       rw [h1, h2]
       exact hown5)
      have HB5 := Lib.hid hb5
      clear hown5 hgrow hb5
      go_wp2_with fail
      go_roundw
      case rel => exact ⟨j + 1, L ++ [F], by omega, by go_num, by rw [HSJ.out, HLE.out], HW5.out, HB5.out⟩
      case measure => simp [intOf]; omega
     ·obtain rfl : j = n5b := by omega
      have hta : fsb.take j = fsb := List.take_of_length_le (by have := HBB.out.l5; omega)
      rw [hta] at HLE
      go_wp2_with fail
      go_roundw
      case rel => exact ⟨k + 1, L, by omega, by go_num, by rw [HPS.out, HL0.out]; exact HLE.out, HW2.out, HB2.out⟩
      case measure => simp [intOf]; omega
   ·obtain rfl : k = n5a := by omega
    have hta : fsa.take k = fsa := List.take_of_length_le (by have := HA.out.l5; omega)
    rw [hta] at HL0
    have hJl : L0.length ≤ 10000 := by
     rw [← HL0.out, jfs_len, HBB.out.l5, HA.out.l5]
     have h1 : k * n5b ≤ 100 * 100 := Nat.mul_le_mul hna hnb
     omega
    have HE1 := Lib.hid (show fjE kda mba rda wra fsa kdb mbb rdb wrb fsb = nzE L0 by rw [HE.out, if_neg (by simp), HL0.out])
    have HL1 := Lib.hid (show fjL kda mba rda wra fsa kdb mbb rdb wrb fsb = nzL L0 by rw [HL.out, if_neg (by simp), HL0.out])
    have HIN := Lib.hid (show InF L0 by rw [← HL0.out]; exact jfs_inF _ _ _ _ _ _)
    obtain ⟨p5, c5, hv5, hs5, hc5, _⟩ := fltL_of_own HW.out
    have hpl : PlainP p5 := by have h := HW.out; rw [hv5] at h; exact plain_of_own h
    subst hv5
    have HS5 := Lib.hid hs5
    clear hs5 hta HE HL
    obtain ⟨m, hm⟩ : ∃ m, L0.length = m := ⟨_, rfl⟩
    rw [hm] at hJl hc5
    have HM := Lib.hid hm
    have HQ := Lib.hid (HNO.out p5 m c5 L0 wr hpl hJl hc5 hm HIN.out HS5.out)
    clear hm HW hpl
    obtain ⟨NE, hNE⟩ : ∃ E, nzE L0 = E := ⟨_, rfl⟩
    obtain ⟨NL, hNL⟩ : ∃ E, nzL L0 = E := ⟨_, rfl⟩
    have HNE := Lib.hid (And.intro hNE hNL)
    rw [hNE, hNL] at HQ
    clear hNE hNL
    go_wp2_with (go_at_call 66; rw [HM.out]; (refine HQ.out.mono ?_); rintro e w2 ⟨p2, n2, c2, rfl, hn2, hc2, hs2, hf2, hb2⟩; have HP2 := Lib.hid (And.intro hn2 (And.intro hc2 (And.intro hs2 (And.intro (hf2.mono (Nat.le_trans HB1.out.size HB.out.size)) (HB1.out.trans ((HB.out.trans (hb2.mono HB.out.size)).mono HB1.out.size)))))); clear hn2 hc2 hs2 hf2 hb2)
    go_ret2
    refine (show MR (fjE kda mba rda wra fsa kdb mbb rdb wrb fsb) (fjL kda mba rda wra fsa kdb mbb rdb wrb fsb) w _ _ from ?_)
    rw [HE1.out, HL1.out, HNE.out.1, HNE.out.2]
    exact ⟨p2, n2, c2, rfl, HP2.out⟩
 ·have e1 : ¬ (E : Int) = 0 := by omega
  have e2 : ((E : Int) != 0) = true := by simp; omega
  have HEE := Lib.hid hE
  clear hE
  go_wp2_with (go_at_call 40; (refine (HV.out _ _ _ (HO.out.2.2.trans (((Below.refl _ _).alloc (Nat.le_refl _) _).mono HO.out.2.2.size)) (heap_alloc_new _ _)).mono ?_); rintro e w1 ⟨rfl, hb1⟩; have HB1 := Lib.hid (HO.out.2.2.trans (((Below.refl W0.heap.size W0).alloc (Nat.le_refl _) _ |>.trans (hb1.mono (by simp))).mono HO.out.2.2.size)); clear hb1)
  go_ret2
  refine (show MR (fjE kda mba rda wra fsa kdb mbb rdb wrb fsb) (fjL kda mba rda wra fsa kdb mbb rdb wrb fsb) w _ _ from ?_)
  rw [HE.out, HL.out, if_pos HEE.out, if_pos HEE.out]
  exact ⟨none, 0, 0, rfl, rfl, Nat.le_refl _, .inl rfl, fresh_none _, HB1.out⟩
end Go.Proofs.YtmcnpaehmnadeaaGreatDoor
/-
  EpochNext: slices.ContainsFunc at faults, over fault.normal's function, exactly.
-/
namespace Go.Proofs.YtmcnpaehmnadeaaGreatDoor
open Go Go.RowKit
def Bl (w W : World) : Prop := Below w.heap.size w W
def othF (a b : Nat × Nat) : Bool := decide (a ≠ b) && covF b a
def barF (l : List (Nat × Nat)) (a : Nat × Nat) : Bool := l.any fun b => othF a b
theorem othF_eq (x y : Nat) : othF (x, y) (x, y) = false := by simp [othF]
theorem othF_ne {x y u v : Nat} (h : x ≠ u ∨ y ≠ v) : othF (x, y) (u, v) = cB u v x y := by
 unfold othF covF
 have : decide ((x, y) ≠ (u, v)) = true := by
  have h1 : (x, y) ≠ (u, v) := fun h1 => by
   injection h1 with h1 h2
   rcases h with h | h
   ·exact h h1
   ·exact h h2
  simp only [h1, ne_eq, not_false_eq_true, decide_true]
 rw [this]; rfl
theorem oth1_ex (x y u v q : Nat) (w : World) (hq : q < w.heap.size) (h0 : w.cell? ⟨q, 0, none⟩ = some (.int .u16 (x : Int))) (h1 : w.cell? ⟨q, 1, none⟩ = some (.int .u16 (y : Int))) : Calls Tryz.prog 141 #[.agg #[.int .u16 (u : Int), .int .u16 (v : Int)], .pointer (some ⟨q, 0, none⟩)] w (IsB (othF (x, y) (u, v)) w) := by
 have hb : Below w.heap.size w (w.alloc (.cells #[.int .u16 (u : Int), .int .u16 (v : Int)] 69)) := (Below.refl _ _).alloc (Nat.le_refl _) _
 have HB := Lib.hid (show Bl w _ from hb)
 have HN := Lib.hid (heap_alloc_new w (.cells #[.int .u16 (u : Int), .int .u16 (v : Int)] 69))
 have HC := Lib.hid (And.intro ((hb.cell (p := ⟨q, 0, none⟩) hq).trans h0) ((hb.cell (p := ⟨q, 1, none⟩) hq).trans h1))
 clear hb h0 h1
 go_enter Tryz.func141, Tryz.ntmps141
 go_upto_region 1 with fail
 revert HB HN HC
 generalize w.alloc (.cells #[.int .u16 (u : Int), .int .u16 (v : Int)] 69) = W0
 generalize w.heap.size = A
 intro HB HN HC
 have c0 := HC.out.1
 have c1 := HC.out.2
 have d0 := cellOf HN.out (j := 0) rfl
 have d1 := cellOf HN.out (j := 1) rfl
 by_cases hx : x = u
 ·by_cases hy : y = v
  ·subst hx
   subst hy
   go_wp2_with fail
   go_ret
   exact ⟨by rw [othF_eq]; rfl, HB.out⟩
  ·subst hx
   have HO := Lib.hid (othF_ne (x := x) (y := y) (u := x) (v := v) (.inr hy))
   have dyy : ¬ (y : Int) = (v : Int) := by omega
   go_wp2_with (go_at_call 129; (with_reducible refine (coversI_ex x v x y _).mono ?_); rintro e w1 ⟨rfl, hb1⟩; have HB1 := Lib.hid (show Bl w w1 from Below.trans HB.out (hb1.mono (Below.size HB.out))))
   go_ret
   exact ⟨by rw [HO.out]; rfl, HB1.out⟩
 ·have HO := Lib.hid (othF_ne (x := x) (y := y) (u := u) (v := v) (.inl hx))
  have dxx : ¬ (x : Int) = (u : Int) := by omega
  go_wp2_with (go_at_call 129; (with_reducible refine (coversI_ex u v x y _).mono ?_); rintro e w1 ⟨rfl, hb1⟩; have HB1 := Lib.hid (show Bl w w1 from Below.trans HB.out (hb1.mono (Below.size HB.out))))
  go_ret
  exact ⟨by rw [HO.out]; rfl, HB1.out⟩
theorem bar_take_succ {l : List (Nat × Nat)} {a : Nat × Nat} {k : Nat} (h : k < l.length) : barF (l.take (k + 1)) a = (barF (l.take k) a || othF a l[k]) := by
 unfold barF
 rw [take_snoc h, List.any_append]
 simp
theorem barIdx_ex (p : Option Addr) (m cap : Nat) (l : List (Nat × Nat)) (x y q : Nat) (w : World) (hm : l.length = m) (hl : m ≤ 9223372036854775807) (h : FltL w p l) (hq : q < w.heap.size) (h0 : w.cell? ⟨q, 0, none⟩ = some (.int .u16 (x : Int))) (h1 : w.cell? ⟨q, 1, none⟩ = some (.int .u16 (y : Int))) :
  Calls Tryz.prog 167 #[.slice p m cap, .func (.func 141) #[] #[.pointer (some ⟨q, 0, none⟩)]] w fun e w' => ∃ r : Int, e = .returned (.int .i64 r) ∧ (decide (0 ≤ r) = barF l (x, y)) ∧ Below w.heap.size w w' := by
 have H := Lib.hid h
 have HM := Lib.hid hm
 have HQ := Lib.hid (And.intro h0 h1)
 clear h hm h0 h1
 go_enter Tryz.func167, Tryz.ntmps167
 go_wp2_with fail
 go_loopw [8] (fun i wr => ∃ k : Nat, k ≤ m ∧ i = .int .i64 k ∧ barF (l.take k) (x, y) = false ∧ Below w.heap.size w wr) (fun i _ => m - (intOf i).toNat)
 case atStart => exact ⟨0, Nat.zero_le _, rfl, rfl, Below.refl _ _⟩
 case round =>
  obtain ⟨k, hk, rfl, hacc, hb⟩ := hrel
  have HA := Lib.hid hacc
  have HB := Lib.hid hb
  clear hacc hb
  by_cases hkm : k < m
  ·have hkl : k < l.length := by have := HM.out; omega
   obtain ⟨b, off, rfl, hbb, hcx, hcy⟩ := H.out.at hkl
   have HS := Lib.hid (bar_take_succ (a := (x, y)) hkl)
   have HLL := Lib.hid (show barF (l.take (k + 1)) (x, y) = true → barF l (x, y) = true from fun h => by
    unfold barF at h ⊢
    rw [List.any_eq_true] at h ⊢
    obtain ⟨x, hx, h⟩ := h
    exact ⟨x, List.mem_of_mem_take hx, h⟩)
   obtain ⟨u, v, hg⟩ : ∃ u v, l[k] = (u, v) := ⟨_, _, rfl⟩
   rw [hg] at hcx hcy HS
   simp only at hcx hcy
   have hc1 := (HB.out.cell (p := ⟨b, off + k * 2, none⟩) hbb).trans hcx
   have hc2 := (HB.out.cell (p := ⟨b, off + k * 2 + 1, none⟩) hbb).trans hcy
   clear hg hcx hcy
   have HC := Lib.hid (oth1_ex x y u v q wr (Nat.lt_of_lt_of_le hq HB.out.size) ((HB.out.cell (p := ⟨q, 0, none⟩) hq).trans HQ.out.1) ((HB.out.cell (p := ⟨q, 1, none⟩) hq).trans HQ.out.2))
   cases hsx : othF (x, y) (u, v)
   ·rw [hsx] at HC
    have HX := Lib.hid hsx
    clear hsx
    go_wp2_with (go_at_call 141; refine HC.out.mono ?_; rintro e w1 ⟨rfl, hb1⟩; have HB1 := Lib.hid (HB.out.trans (hb1.mono HB.out.size)); clear hb1)
    go_roundw
    case rel => exact ⟨k + 1, by omega, by go_num, by rw [HS.out, HA.out, HX.out]; rfl, HB1.out⟩
    case measure => simp [intOf]; omega
   ·rw [hsx] at HC
    have HX := Lib.hid hsx
    clear hsx
    go_wp2_with (go_at_call 141; refine HC.out.mono ?_; rintro e w1 ⟨rfl, hb1⟩; have HB1 := Lib.hid (HB.out.trans (hb1.mono HB.out.size)); clear hb1)
    go_ret
    refine ⟨_, rfl, ?_, HB1.out⟩
    rw [HLL.out (by rw [HS.out, HX.out]; simp)]
    simp
  ·have hkl : l.take k = l := List.take_of_length_le (by have := HM.out; omega)
   rw [hkl] at HA
   go_wp2_with fail
   go_ret
   exact ⟨_, rfl, by rw [HA.out]; rfl, HB.out⟩
theorem barFn_ex (p : Option Addr) (m cap : Nat) (l : List (Nat × Nat)) (x y q : Nat) (w : World) (hm : l.length = m) (hl : m ≤ 9223372036854775807) (h : FltL w p l) (hq : q < w.heap.size) (h0 : w.cell? ⟨q, 0, none⟩ = some (.int .u16 (x : Int))) (h1 : w.cell? ⟨q, 1, none⟩ = some (.int .u16 (y : Int))) :
  Calls Tryz.prog 140 #[.slice p m cap, .func (.func 141) #[] #[.pointer (some ⟨q, 0, none⟩)]] w (IsB (barF l (x, y)) w) := by
 have H := Lib.hid (barIdx_ex p m cap l x y q w hm hl h hq h0 h1)
 clear h hm
 go_enter Tryz.func140, Tryz.ntmps140
 go_wp2_with (go_at_call 167; refine H.out.mono ?_; rintro e w1 ⟨r, rfl, hr, hb⟩; have HR := Lib.hid (And.intro hr hb); clear hr hb)
 go_ret
 refine ⟨?_, HR.out.2⟩
 rw [← HR.out.1]
 rfl
end Go.Proofs.YtmcnpaehmnadeaaGreatDoor
