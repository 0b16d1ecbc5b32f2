/-
  EpochNext: sederuntref29.Of, exactly.
-/
import Derived.Test.YtmcnpaehmnadeaaGreatDoorFeAB
set_option maxHeartbeats 6400000
set_option maxRecDepth 1000000
namespace Go.Proofs.YtmcnpaehmnadeaaGreatDoor
open Go Go.RowKit
theorem jointOfR_ex (nma : ByteArray) (kda : Int) (mba : Nat) (p3a : Option Addr) (n3a c3a : Nat) (p4a : Option Addr) (n4a c4a : Nat) (p5a : Option Addr) (n5a c5a : Nat) (rda wra : List Nat) (fsa : List (Nat × Nat)) (nmb : ByteArray) (kdb : Int) (mbb : Nat) (p3b : Option Addr) (n3b c3b : Nat) (p4b : Option Addr) (n4b c4b : Nat) (p5b : Option Addr) (n5b c5b : Nat) (rdb wrb : List Nat) (fsb : List (Nat × Nat)) (w : World) (ha : CfgL w nma mba p3a n3a c3a p4a n4a c4a p5a n5a c5a rda wra fsa) (hb : CfgL w nmb mbb p3b n3b c3b p4b n4b c4b p5b n5b c5b rdb wrb fsb) :
  Calls Tryz.prog 30 #[.agg #[.string nma, .int .i64 kda, .int .u16 (mba : Int), .slice p3a n3a c3a, .slice p4a n4a c4a, .slice p5a n5a c5a], .agg #[.string nmb, .int .i64 kdb, .int .u16 (mbb : Int), .slice p3b n3b c3b, .slice p4b n4b c4b, .slice p5b n5b c5b]] w (JoRet (four (bothE (valE kda mba rda wra fsa) (valE kdb mbb rdb wrb fsb)) (andE rda rdb) (andE wra wrb) (fjE kda mba rda wra fsa kdb mbb rdb wrb fsb)) (jkd kda kdb) (bits .or .u16 (mba : Int) (mbb : Int)) (andL rda rdb) (andL wra wrb) (fjL kda mba rda wra fsa kdb mbb rdb wrb fsb) w) := by
 have HO := Lib.hid (heap_alloc3 w (.cells #[.string nma, .int .i64 kda, .int .u16 (mba : Int), .slice p3a n3a c3a, .slice p4a n4a c4a, .slice p5a n5a c5a] 49) (.cells #[.string nmb, .int .i64 kdb, .int .u16 (mbb : Int), .slice p3b n3b c3b, .slice p4b n4b c4b, .slice p5b n5b c5b] 49) (.cells z6 49))
 have HV := Lib.hid (fun W (hW : Below w.heap.size w W) => bothR_ex nma kda mba p3a n3a c3a p4a n4a c4a p5a n5a c5a rda wra fsa nmb kdb mbb p3b n3b c3b p4b n4b c4b p5b n5b c5b rdb wrb fsb W (ha.below hW) (hb.below hW))
 have HR := Lib.hid (fun W (hW : Below w.heap.size w W) => andR_ex p3a n3a c3a rda p3b n3b c3b rdb W ha.l3 ha.r3 (ha.s3.below hW) hb.l3 hb.r3 (hb.s3.below hW))
 have HWr := Lib.hid (fun W (hW : Below w.heap.size w W) => andR_ex p4a n4a c4a wra p4b n4b c4b wrb W ha.l4 ha.r4 (ha.s4.below hW) hb.l4 hb.r4 (hb.s4.below hW))
 have HJ := Lib.hid (fun W (hW : Below w.heap.size w W) => faultsR_ex nma kda mba p3a n3a c3a p4a n4a c4a p5a n5a c5a rda wra fsa nmb kdb mbb p3b n3b c3b p4b n4b c4b p5b n5b c5b rdb wrb fsb W (ha.below hW) (hb.below hW))
 clear ha hb
 have HL3 := Lib.hid (andL_len rda rdb)
 have HL4 := Lib.hid (andL_len wra wrb)
 have HL5 := Lib.hid (fjL_len kda mba rda wra fsa kdb mbb rdb wrb fsb)
 generalize (fjE kda mba rda wra fsa kdb mbb rdb wrb fsb) = E4 at HJ ⊢
 generalize (fjL kda mba rda wra fsa kdb mbb rdb wrb fsb) = L4 at HJ HL5 ⊢
 generalize (bothE (valE kda mba rda wra fsa) (valE kdb mbb rdb wrb fsb)) = E1 at HV ⊢
 generalize andE rda rdb = E2 at HR ⊢
 generalize andL rda rdb = L2 at HR HL3 ⊢
 generalize andE wra wrb = E3 at HWr ⊢
 generalize andL wra wrb = L3 at HWr HL4 ⊢
 go_enter Tryz.func30, Tryz.ntmps30
 go_upto_region 1 with fail
 revert HO
 unfold z6
 generalize ((w.alloc (.cells #[.string nma, .int .i64 kda, .int .u16 (mba : Int), .slice p3a n3a c3a, .slice p4a n4a c4a, .slice p5a n5a c5a] 49)).alloc (.cells #[.string nmb, .int .i64 kdb, .int .u16 (mbb : Int), .slice p3b n3b c3b, .slice p4b n4b c4b, .slice p5b n5b c5b] 49)).alloc _ = W0
 intro HO
 obtain ⟨z0, z1, z2, z3, z4, z5⟩ := cs6 HO.out.1
 obtain ⟨y0, y1, y2, y3, y4, y5⟩ := cs6 HO.out.2.1
 go_upto_region 2 with (go_at_call 44; (with_reducible refine (HV.out _ HO.out.2.2.2.2).mono ?_); rintro e w1 ⟨rfl, hb1⟩)
 clear z0 z1 z2 z3 z4 z5 y0 y1 y2 y3 y4 y5
 have HB1 := Lib.hid (HO.out.2.2.2.2.trans (hb1.mono HO.out.2.2.2.2.size))
 have HRA := Lib.hid ((hb1.block _ (gLt HO.out.1)).trans HO.out.1)
 have HRB := Lib.hid ((hb1.block _ (gLt HO.out.2.1)).trans HO.out.2.1)
 have HRR := Lib.hid ((hb1.block _ (gLt HO.out.2.2.1)).trans HO.out.2.2.1)
 have hsz : w.heap.size + 3 ≤ w1.heap.size := by have := hb1.size; rw [HO.out.2.2.2.1] at this; exact this
 clear HO HV hb1
 by_cases hE1 : E1 = 0
 ·subst hE1
  have z1 := cellOf HRA.out (j := 1) rfl; have z2 := cellOf HRA.out (j := 2) rfl
  have y1 := cellOf HRB.out (j := 1) rfl; have y2 := cellOf HRB.out (j := 2) rfl
  go_upto_region 5 with fail
  have HX := Lib.hid (show JO w #[.string nma, .int .i64 kda, .int .u16 (mba : Int), .slice p3a n3a c3a, .slice p4a n4a c4a, .slice p5a n5a c5a] #[.string nmb, .int .i64 kdb, .int .u16 (mbb : Int), .slice p3b n3b c3b, .slice p4b n4b c4b, .slice p5b n5b c5b] w1.heap.size #[.string ⟨#[106, 111, 105, 110, 116]⟩, .int .i64 1, .int .u16 (bits .or .u16 (mba : Int) (mbb : Int)), .slice none 0 0, .slice none 0 0, .slice none 0 0] (w1.alloc (.cells #[.string ⟨#[106, 111, 105, 110, 116]⟩, .int .i64 1, .int .u16 (bits .or .u16 (mba : Int) (mbb : Int)), .slice none 0 0, .slice none 0 0, .slice none 0 0] 49)) from ⟨(Below.heap_alloc _ _ _ (by omega)).trans HRA.out, (Below.heap_alloc _ _ _ (by omega)).trans HRB.out, (Below.heap_alloc _ _ _ (by omega)).trans HRR.out, heap_alloc_new _ _, by omega, HB1.out.trans ((Below.refl _ _).alloc HB1.out.size _)⟩)
  clear z1 z2 y1 y2 HRA HRB HRR
  revert HX
  generalize w1.alloc (.cells #[.string ⟨#[106, 111, 105, 110, 116]⟩, .int .i64 1, .int .u16 (bits .or .u16 (mba : Int) (mbb : Int)), .slice none 0 0, .slice none 0 0, .slice none 0 0] 49) = WX
  generalize w1.heap.size = D at hsz ⊢
  intro HX
  clear HB1 hsz
  by_cases hk1 : kda = 2
  ·have HKD := Lib.hid (show (2 : Int) = jkd kda kdb by unfold jkd; rw [if_pos (.inl hk1)])
   subst hk1
   have z1 := cellOf HX.out.ra (j := 1) rfl
   have y1 := cellOf HX.out.rb (j := 1) rfl
   have d1 := cellOf HX.out.rd (j := 1) rfl
   have g1 := frozenOf HX.out.rd (j := 1)
   go_upto_region 7 with fail
   clear z1 y1 d1 g1
   have HX1 := Lib.hid (show JO w #[.string nma, .int .i64 2, .int .u16 (mba : Int), .slice p3a n3a c3a, .slice p4a n4a c4a, .slice p5a n5a c5a] #[.string nmb, .int .i64 kdb, .int .u16 (mbb : Int), .slice p3b n3b c3b, .slice p4b n4b c4b, .slice p5b n5b c5b] D #[.string ⟨#[106, 111, 105, 110, 116]⟩, .int .i64 2, .int .u16 (bits .or .u16 (mba : Int) (mbb : Int)), .slice none 0 0, .slice none 0 0, .slice none 0 0] (WX.setCell ⟨D, 1, none⟩ (.int .i64 2)) from HX.out.put 1 _)
   clear HX
   revert HX1
   generalize WX.setCell ⟨D, 1, none⟩ (.int .i64 2) = WX
   intro HX
   have z3 := cellOf HX.out.ra (j := 3) rfl
   have y3 := cellOf HX.out.rb (j := 3) rfl
   go_upto_region 8 with (go_at_call 45; (refine (HR.out _ HX.out.bl).mono ?_); rintro e w3 ⟨q3, m3, k3, rfl, rfl, hk3, hs3, hf3, hb3⟩; have HY := Lib.hid (HX.out.below hb3))
   have hDs : D < WX.heap.size := (gLt HX.out.rd)
   have hRs : w.heap.size + 1 + 1 < WX.heap.size := (gLt HX.out.rr)
   have HS3' := Lib.hid (show SetL w3 q3 L2 ∧ (∀ q, q3 = some q → q.block ≠ w.heap.size + 1 + 1) ∧ (∀ q, q3 = some q → q.block ≠ D) ∧ FreshP w.heap.size q3 from ⟨hs3, off_ne hf3 hRs, off_ne hf3 hDs, hf3.mono HX.out.bl.size⟩)
   clear z3 y3 hs3 hf3 hk3 hb3 HX hDs hRs 
   revert HY HS3' 
   generalize w3 = WX
   intro HX HS3 
   by_cases hE2 : E2 = 0
   ·subst hE2
    have z4 := cellOf HX.out.ra (j := 4) rfl
    have y4 := cellOf HX.out.rb (j := 4) rfl
    go_upto_region 11 with (go_at_call 45; (refine (HWr.out _ HX.out.bl).mono ?_); rintro e w4 ⟨q4, m4, k4, rfl, rfl, hk4, hs4, hf4, hb4⟩; have HY := Lib.hid (HX.out.below hb4))
    have hDs : D < WX.heap.size := (gLt HX.out.rd)
    have hRs : w.heap.size + 1 + 1 < WX.heap.size := (gLt HX.out.rr)
    have HS4' := Lib.hid (show SetL w4 q4 L3 ∧ (∀ q, q4 = some q → q.block ≠ w.heap.size + 1 + 1) ∧ (∀ q, q4 = some q → q.block ≠ D) ∧ FreshP w.heap.size q4 from ⟨hs4, off_ne hf4 hRs, off_ne hf4 hDs, hf4.mono HX.out.bl.size⟩)
    have HS3' := Lib.hid (And.intro (HS3.out.1.below hb4) HS3.out.2)
    clear z4 y4 hs4 hf4 hk4 hb4 HX hDs hRs HS3
    revert HY HS4' HS3'
    generalize w4 = WX
    intro HX HS4 HS3
    by_cases hE3 : E3 = 0
    ·subst hE3
     obtain ⟨z0, z1, z2, z3, z4, z5⟩ := cs6 HX.out.ra
     obtain ⟨y0, y1, y2, y3, y4, y5⟩ := cs6 HX.out.rb
     go_upto_region 14 with (go_at_call 46; (refine (HJ.out _ HX.out.bl).mono ?_); rintro e w5 ⟨q5, m5, k5, rfl, rfl, hk5, hs5, hf5, hb5⟩; have HY := Lib.hid (HX.out.below hb5))
     have hDs : D < WX.heap.size := (gLt HX.out.rd)
     have hRs : w.heap.size + 1 + 1 < WX.heap.size := (gLt HX.out.rr)
     have HS5' := Lib.hid (show FltL w5 q5 L4 ∧ (∀ q, q5 = some q → q.block ≠ w.heap.size + 1 + 1) ∧ (∀ q, q5 = some q → q.block ≠ D) ∧ FreshP w.heap.size q5 from ⟨hs5, off_ne hf5 hRs, off_ne hf5 hDs, hf5.mono HX.out.bl.size⟩)
     have HS3' := Lib.hid (And.intro (HS3.out.1.below hb5) HS3.out.2)
     have HS4' := Lib.hid (And.intro (HS4.out.1.below hb5) HS4.out.2)
     clear z0 y0 z1 y1 z2 y2 z3 y3 z4 y4 z5 y5 hs5 hf5 hk5 hb5 HX hDs hRs HS3 HS4
     revert HY HS5' HS3' HS4'
     generalize w5 = WX
     intro HX HS5 HS3 HS4
     by_cases hE4 : E4 = 0
     ·subst hE4
      have d3 := cellOf HX.out.rd (j := 3) rfl; have d4 := cellOf HX.out.rd (j := 4) rfl; have d5 := cellOf HX.out.rd (j := 5) rfl
      have g3 := frozenOf HX.out.rd (j := 3); have g4 := frozenOf HX.out.rd (j := 4); have g5 := frozenOf HX.out.rd (j := 5)
      go_upto_region 17 with fail
      have HZ := Lib.hid (show JO w #[.string nma, .int .i64 2, .int .u16 (mba : Int), .slice p3a n3a c3a, .slice p4a n4a c4a, .slice p5a n5a c5a] #[.string nmb, .int .i64 kdb, .int .u16 (mbb : Int), .slice p3b n3b c3b, .slice p4b n4b c4b, .slice p5b n5b c5b] D #[.string ⟨#[106, 111, 105, 110, 116]⟩, .int .i64 2, .int .u16 (bits .or .u16 (mba : Int) (mbb : Int)), .slice q3 L2.length k3, .slice q4 L3.length k4, .slice q5 L4.length k5] (((WX.setCell ⟨D, 3, none⟩ (.slice q3 L2.length k3)).setCell ⟨D, 4, none⟩ (.slice q4 L3.length k4)).setCell ⟨D, 5, none⟩ (.slice q5 L4.length k5)) from ((HX.out.put 3 _).put 4 _).put 5 _)
      have HS3' := Lib.hid (show SetL (((WX.setCell ⟨D, 3, none⟩ (.slice q3 L2.length k3)).setCell ⟨D, 4, none⟩ (.slice q4 L3.length k4)).setCell ⟨D, 5, none⟩ (.slice q5 L4.length k5)) q3 L2 from ((HS3.out.1.set1 HS3.out.2.2.1 _ _).set1 HS3.out.2.2.1 _ _).set1 HS3.out.2.2.1 _ _)
      have HS4' := Lib.hid (show SetL (((WX.setCell ⟨D, 3, none⟩ (.slice q3 L2.length k3)).setCell ⟨D, 4, none⟩ (.slice q4 L3.length k4)).setCell ⟨D, 5, none⟩ (.slice q5 L4.length k5)) q4 L3 from ((HS4.out.1.set1 HS4.out.2.2.1 _ _).set1 HS4.out.2.2.1 _ _).set1 HS4.out.2.2.1 _ _)
      have HS5' := Lib.hid (show FltL (((WX.setCell ⟨D, 3, none⟩ (.slice q3 L2.length k3)).setCell ⟨D, 4, none⟩ (.slice q4 L3.length k4)).setCell ⟨D, 5, none⟩ (.slice q5 L4.length k5)) q5 L4 from ((HS5.out.1.set1 HS5.out.2.2.1 _ _).set1 HS5.out.2.2.1 _ _).set1 HS5.out.2.2.1 _ _)
      clear d3 d4 d5 g3 g4 g5 HX
      revert HZ HS3' HS4' HS5'
      generalize ((WX.setCell ⟨D, 3, none⟩ (.slice q3 L2.length k3)).setCell ⟨D, 4, none⟩ (.slice q4 L3.length k4)).setCell ⟨D, 5, none⟩ (.slice q5 L4.length k5) = WX
      intro HX HT3 HT4 HT5
      obtain ⟨d0, d1, d2, d3, d4, d5⟩ := cs6 HX.out.rd
      obtain ⟨r0, r1, r2, r3, r4, r5⟩ := cs6 HX.out.rr
      have f0 := frozenOf HX.out.rr (j := 0); have f1 := frozenOf HX.out.rr (j := 1); have f2 := frozenOf HX.out.rr (j := 2); have f3 := frozenOf HX.out.rr (j := 3); have f4 := frozenOf HX.out.rr (j := 4); have f5 := frozenOf HX.out.rr (j := 5)
      go_wp2_with fail
      exact cfe_end 4 5 rfl HX.out.rr HX.out.bl (by omega) jointB 2 (bits .or .u16 (mba : Int) (mbb : Int)) q3 L2.length k3 q4 L3.length k4 q5 L4.length k5 L2 L3 L4 0 _ rfl rfl ⟨rfl, HT3.out, rfl, HT4.out, rfl, HT5.out, HL3.out, HL4.out, HL5.out⟩ HS3.out.2.1 HS4.out.2.1 HS5.out.2.1 HS3.out.2.2.2 HS4.out.2.2.2 HS5.out.2.2.2 _ (fun _ _ h => JoRet.ok rfl (HKD.out ▸ h))
     ·have e1 : ¬ (E4 : Int) = 0 := by omega
      have e2 : ((E4 : Int) != 0) = true := by simp; omega
      obtain ⟨r0, r1, r2, r3, r4, r5⟩ := cs6 HX.out.rr
      have f0 := frozenOf HX.out.rr (j := 0); have f1 := frozenOf HX.out.rr (j := 1); have f2 := frozenOf HX.out.rr (j := 2); have f3 := frozenOf HX.out.rr (j := 3); have f4 := frozenOf HX.out.rr (j := 4); have f5 := frozenOf HX.out.rr (j := 5)
      go_wp2_with fail
      exact cfe_end 4 5 rfl HX.out.rr HX.out.bl (by omega) emptyB 0 0 none 0 0 none 0 0 none 0 0 [] [] [] E4 _ rfl rfl (cfh_nil _) none_ne none_ne none_ne (fresh_none _) (fresh_none _) (fresh_none _) _ (fun _ _ h => JoRet.err four_4 hE4 h)
    ·have e1 : ¬ (E3 : Int) = 0 := by omega
     have e2 : ((E3 : Int) != 0) = true := by simp; omega
     obtain ⟨r0, r1, r2, r3, r4, r5⟩ := cs6 HX.out.rr
     have f0 := frozenOf HX.out.rr (j := 0); have f1 := frozenOf HX.out.rr (j := 1); have f2 := frozenOf HX.out.rr (j := 2); have f3 := frozenOf HX.out.rr (j := 3); have f4 := frozenOf HX.out.rr (j := 4); have f5 := frozenOf HX.out.rr (j := 5)
     go_wp2_with fail
     exact cfe_end 4 5 rfl HX.out.rr HX.out.bl (by omega) emptyB 0 0 none 0 0 none 0 0 none 0 0 [] [] [] E3 _ rfl rfl (cfh_nil _) none_ne none_ne none_ne (fresh_none _) (fresh_none _) (fresh_none _) _ (fun _ _ h => JoRet.err (four_3 hE3) hE3 h)
   ·have e1 : ¬ (E2 : Int) = 0 := by omega
    have e2 : ((E2 : Int) != 0) = true := by simp; omega
    obtain ⟨r0, r1, r2, r3, r4, r5⟩ := cs6 HX.out.rr
    have f0 := frozenOf HX.out.rr (j := 0); have f1 := frozenOf HX.out.rr (j := 1); have f2 := frozenOf HX.out.rr (j := 2); have f3 := frozenOf HX.out.rr (j := 3); have f4 := frozenOf HX.out.rr (j := 4); have f5 := frozenOf HX.out.rr (j := 5)
    go_wp2_with fail
    exact cfe_end 4 5 rfl HX.out.rr HX.out.bl (by omega) emptyB 0 0 none 0 0 none 0 0 none 0 0 [] [] [] E2 _ rfl rfl (cfh_nil _) none_ne none_ne none_ne (fresh_none _) (fresh_none _) (fresh_none _) _ (fun _ _ h => JoRet.err (four_2 hE2) hE2 h)
  ·have e1 : ¬ kda = 2 := hk1
   by_cases hk2 : kdb = 2
   ·have HKD := Lib.hid (show (2 : Int) = jkd kda kdb by unfold jkd; rw [if_pos (.inr hk2)])
    subst hk2
    have z1 := cellOf HX.out.ra (j := 1) rfl
    have y1 := cellOf HX.out.rb (j := 1) rfl
    have d1 := cellOf HX.out.rd (j := 1) rfl
    have g1 := frozenOf HX.out.rd (j := 1)
    go_upto_region 7 with fail
    clear z1 y1 d1 g1
    have HX1 := Lib.hid (show JO w #[.string nma, .int .i64 kda, .int .u16 (mba : Int), .slice p3a n3a c3a, .slice p4a n4a c4a, .slice p5a n5a c5a] #[.string nmb, .int .i64 2, .int .u16 (mbb : Int), .slice p3b n3b c3b, .slice p4b n4b c4b, .slice p5b n5b c5b] D #[.string ⟨#[106, 111, 105, 110, 116]⟩, .int .i64 2, .int .u16 (bits .or .u16 (mba : Int) (mbb : Int)), .slice none 0 0, .slice none 0 0, .slice none 0 0] (WX.setCell ⟨D, 1, none⟩ (.int .i64 2)) from HX.out.put 1 _)
    clear HX
    revert HX1
    generalize WX.setCell ⟨D, 1, none⟩ (.int .i64 2) = WX
    intro HX
    have z3 := cellOf HX.out.ra (j := 3) rfl
    have y3 := cellOf HX.out.rb (j := 3) rfl
    go_upto_region 8 with (go_at_call 45; (refine (HR.out _ HX.out.bl).mono ?_); rintro e w3 ⟨q3, m3, k3, rfl, rfl, hk3, hs3, hf3, hb3⟩; have HY := Lib.hid (HX.out.below hb3))
    have hDs : D < WX.heap.size := (gLt HX.out.rd)
    have hRs : w.heap.size + 1 + 1 < WX.heap.size := (gLt HX.out.rr)
    have HS3' := Lib.hid (show SetL w3 q3 L2 ∧ (∀ q, q3 = some q → q.block ≠ w.heap.size + 1 + 1) ∧ (∀ q, q3 = some q → q.block ≠ D) ∧ FreshP w.heap.size q3 from ⟨hs3, off_ne hf3 hRs, off_ne hf3 hDs, hf3.mono HX.out.bl.size⟩)
    clear z3 y3 hs3 hf3 hk3 hb3 HX hDs hRs 
    revert HY HS3' 
    generalize w3 = WX
    intro HX HS3 
    by_cases hE2 : E2 = 0
    ·subst hE2
     have z4 := cellOf HX.out.ra (j := 4) rfl
     have y4 := cellOf HX.out.rb (j := 4) rfl
     go_upto_region 11 with (go_at_call 45; (refine (HWr.out _ HX.out.bl).mono ?_); rintro e w4 ⟨q4, m4, k4, rfl, rfl, hk4, hs4, hf4, hb4⟩; have HY := Lib.hid (HX.out.below hb4))
     have hDs : D < WX.heap.size := (gLt HX.out.rd)
     have hRs : w.heap.size + 1 + 1 < WX.heap.size := (gLt HX.out.rr)
     have HS4' := Lib.hid (show SetL w4 q4 L3 ∧ (∀ q, q4 = some q → q.block ≠ w.heap.size + 1 + 1) ∧ (∀ q, q4 = some q → q.block ≠ D) ∧ FreshP w.heap.size q4 from ⟨hs4, off_ne hf4 hRs, off_ne hf4 hDs, hf4.mono HX.out.bl.size⟩)
     have HS3' := Lib.hid (And.intro (HS3.out.1.below hb4) HS3.out.2)
     clear z4 y4 hs4 hf4 hk4 hb4 HX hDs hRs HS3
     revert HY HS4' HS3'
     generalize w4 = WX
     intro HX HS4 HS3
     by_cases hE3 : E3 = 0
     ·subst hE3
      obtain ⟨z0, z1, z2, z3, z4, z5⟩ := cs6 HX.out.ra
      obtain ⟨y0, y1, y2, y3, y4, y5⟩ := cs6 HX.out.rb
      go_upto_region 14 with (go_at_call 46; (refine (HJ.out _ HX.out.bl).mono ?_); rintro e w5 ⟨q5, m5, k5, rfl, rfl, hk5, hs5, hf5, hb5⟩; have HY := Lib.hid (HX.out.below hb5))
      have hDs : D < WX.heap.size := (gLt HX.out.rd)
      have hRs : w.heap.size + 1 + 1 < WX.heap.size := (gLt HX.out.rr)
      have HS5' := Lib.hid (show FltL w5 q5 L4 ∧ (∀ q, q5 = some q → q.block ≠ w.heap.size + 1 + 1) ∧ (∀ q, q5 = some q → q.block ≠ D) ∧ FreshP w.heap.size q5 from ⟨hs5, off_ne hf5 hRs, off_ne hf5 hDs, hf5.mono HX.out.bl.size⟩)
      have HS3' := Lib.hid (And.intro (HS3.out.1.below hb5) HS3.out.2)
      have HS4' := Lib.hid (And.intro (HS4.out.1.below hb5) HS4.out.2)
      clear z0 y0 z1 y1 z2 y2 z3 y3 z4 y4 z5 y5 hs5 hf5 hk5 hb5 HX hDs hRs HS3 HS4
      revert HY HS5' HS3' HS4'
      generalize w5 = WX
      intro HX HS5 HS3 HS4
      by_cases hE4 : E4 = 0
      ·subst hE4
       have d3 := cellOf HX.out.rd (j := 3) rfl; have d4 := cellOf HX.out.rd (j := 4) rfl; have d5 := cellOf HX.out.rd (j := 5) rfl
       have g3 := frozenOf HX.out.rd (j := 3); have g4 := frozenOf HX.out.rd (j := 4); have g5 := frozenOf HX.out.rd (j := 5)
       go_upto_region 17 with fail
       have HZ := Lib.hid (show JO w #[.string nma, .int .i64 kda, .int .u16 (mba : Int), .slice p3a n3a c3a, .slice p4a n4a c4a, .slice p5a n5a c5a] #[.string nmb, .int .i64 2, .int .u16 (mbb : Int), .slice p3b n3b c3b, .slice p4b n4b c4b, .slice p5b n5b c5b] D #[.string ⟨#[106, 111, 105, 110, 116]⟩, .int .i64 2, .int .u16 (bits .or .u16 (mba : Int) (mbb : Int)), .slice q3 L2.length k3, .slice q4 L3.length k4, .slice q5 L4.length k5] (((WX.setCell ⟨D, 3, none⟩ (.slice q3 L2.length k3)).setCell ⟨D, 4, none⟩ (.slice q4 L3.length k4)).setCell ⟨D, 5, none⟩ (.slice q5 L4.length k5)) from ((HX.out.put 3 _).put 4 _).put 5 _)
       have HS3' := Lib.hid (show SetL (((WX.setCell ⟨D, 3, none⟩ (.slice q3 L2.length k3)).setCell ⟨D, 4, none⟩ (.slice q4 L3.length k4)).setCell ⟨D, 5, none⟩ (.slice q5 L4.length k5)) q3 L2 from ((HS3.out.1.set1 HS3.out.2.2.1 _ _).set1 HS3.out.2.2.1 _ _).set1 HS3.out.2.2.1 _ _)
       have HS4' := Lib.hid (show SetL (((WX.setCell ⟨D, 3, none⟩ (.slice q3 L2.length k3)).setCell ⟨D, 4, none⟩ (.slice q4 L3.length k4)).setCell ⟨D, 5, none⟩ (.slice q5 L4.length k5)) q4 L3 from ((HS4.out.1.set1 HS4.out.2.2.1 _ _).set1 HS4.out.2.2.1 _ _).set1 HS4.out.2.2.1 _ _)
       have HS5' := Lib.hid (show FltL (((WX.setCell ⟨D, 3, none⟩ (.slice q3 L2.length k3)).setCell ⟨D, 4, none⟩ (.slice q4 L3.length k4)).setCell ⟨D, 5, none⟩ (.slice q5 L4.length k5)) q5 L4 from ((HS5.out.1.set1 HS5.out.2.2.1 _ _).set1 HS5.out.2.2.1 _ _).set1 HS5.out.2.2.1 _ _)
       clear d3 d4 d5 g3 g4 g5 HX
       revert HZ HS3' HS4' HS5'
       generalize ((WX.setCell ⟨D, 3, none⟩ (.slice q3 L2.length k3)).setCell ⟨D, 4, none⟩ (.slice q4 L3.length k4)).setCell ⟨D, 5, none⟩ (.slice q5 L4.length k5) = WX
       intro HX HT3 HT4 HT5
       obtain ⟨d0, d1, d2, d3, d4, d5⟩ := cs6 HX.out.rd
       obtain ⟨r0, r1, r2, r3, r4, r5⟩ := cs6 HX.out.rr
       have f0 := frozenOf HX.out.rr (j := 0); have f1 := frozenOf HX.out.rr (j := 1); have f2 := frozenOf HX.out.rr (j := 2); have f3 := frozenOf HX.out.rr (j := 3); have f4 := frozenOf HX.out.rr (j := 4); have f5 := frozenOf HX.out.rr (j := 5)
       go_wp2_with fail
       exact cfe_end 4 5 rfl HX.out.rr HX.out.bl (by omega) jointB 2 (bits .or .u16 (mba : Int) (mbb : Int)) q3 L2.length k3 q4 L3.length k4 q5 L4.length k5 L2 L3 L4 0 _ rfl rfl ⟨rfl, HT3.out, rfl, HT4.out, rfl, HT5.out, HL3.out, HL4.out, HL5.out⟩ HS3.out.2.1 HS4.out.2.1 HS5.out.2.1 HS3.out.2.2.2 HS4.out.2.2.2 HS5.out.2.2.2 _ (fun _ _ h => JoRet.ok rfl (HKD.out ▸ h))
      ·have e1 : ¬ (E4 : Int) = 0 := by omega
       have e2 : ((E4 : Int) != 0) = true := by simp; omega
       obtain ⟨r0, r1, r2, r3, r4, r5⟩ := cs6 HX.out.rr
       have f0 := frozenOf HX.out.rr (j := 0); have f1 := frozenOf HX.out.rr (j := 1); have f2 := frozenOf HX.out.rr (j := 2); have f3 := frozenOf HX.out.rr (j := 3); have f4 := frozenOf HX.out.rr (j := 4); have f5 := frozenOf HX.out.rr (j := 5)
       go_wp2_with fail
       exact cfe_end 4 5 rfl HX.out.rr HX.out.bl (by omega) emptyB 0 0 none 0 0 none 0 0 none 0 0 [] [] [] E4 _ rfl rfl (cfh_nil _) none_ne none_ne none_ne (fresh_none _) (fresh_none _) (fresh_none _) _ (fun _ _ h => JoRet.err four_4 hE4 h)
     ·have e1 : ¬ (E3 : Int) = 0 := by omega
      have e2 : ((E3 : Int) != 0) = true := by simp; omega
      obtain ⟨r0, r1, r2, r3, r4, r5⟩ := cs6 HX.out.rr
      have f0 := frozenOf HX.out.rr (j := 0); have f1 := frozenOf HX.out.rr (j := 1); have f2 := frozenOf HX.out.rr (j := 2); have f3 := frozenOf HX.out.rr (j := 3); have f4 := frozenOf HX.out.rr (j := 4); have f5 := frozenOf HX.out.rr (j := 5)
      go_wp2_with fail
      exact cfe_end 4 5 rfl HX.out.rr HX.out.bl (by omega) emptyB 0 0 none 0 0 none 0 0 none 0 0 [] [] [] E3 _ rfl rfl (cfh_nil _) none_ne none_ne none_ne (fresh_none _) (fresh_none _) (fresh_none _) _ (fun _ _ h => JoRet.err (four_3 hE3) hE3 h)
    ·have e1 : ¬ (E2 : Int) = 0 := by omega
     have e2 : ((E2 : Int) != 0) = true := by simp; omega
     obtain ⟨r0, r1, r2, r3, r4, r5⟩ := cs6 HX.out.rr
     have f0 := frozenOf HX.out.rr (j := 0); have f1 := frozenOf HX.out.rr (j := 1); have f2 := frozenOf HX.out.rr (j := 2); have f3 := frozenOf HX.out.rr (j := 3); have f4 := frozenOf HX.out.rr (j := 4); have f5 := frozenOf HX.out.rr (j := 5)
     go_wp2_with fail
     exact cfe_end 4 5 rfl HX.out.rr HX.out.bl (by omega) emptyB 0 0 none 0 0 none 0 0 none 0 0 [] [] [] E2 _ rfl rfl (cfh_nil _) none_ne none_ne none_ne (fresh_none _) (fresh_none _) (fresh_none _) _ (fun _ _ h => JoRet.err (four_2 hE2) hE2 h)
   ·have e2 : ¬ kdb = 2 := hk2
    have e3 : (kdb == 2) = false := by simpa using hk2
    have e4 : decide (kdb = 2) = false := by simpa using hk2
    have HKD := Lib.hid (show (1 : Int) = jkd kda kdb by unfold jkd; rw [if_neg (by omega)])
    have z1 := cellOf HX.out.ra (j := 1) rfl
    have y1 := cellOf HX.out.rb (j := 1) rfl
    have d1 := cellOf HX.out.rd (j := 1) rfl
    have g1 := frozenOf HX.out.rd (j := 1)
    go_upto_region 7 with fail
    clear z1 y1 d1 g1
    have z3 := cellOf HX.out.ra (j := 3) rfl
    have y3 := cellOf HX.out.rb (j := 3) rfl
    go_upto_region 8 with (go_at_call 45; (refine (HR.out _ HX.out.bl).mono ?_); rintro e w3 ⟨q3, m3, k3, rfl, rfl, hk3, hs3, hf3, hb3⟩; have HY := Lib.hid (HX.out.below hb3))
    have hDs : D < WX.heap.size := (gLt HX.out.rd)
    have hRs : w.heap.size + 1 + 1 < WX.heap.size := (gLt HX.out.rr)
    have HS3' := Lib.hid (show SetL w3 q3 L2 ∧ (∀ q, q3 = some q → q.block ≠ w.heap.size + 1 + 1) ∧ (∀ q, q3 = some q → q.block ≠ D) ∧ FreshP w.heap.size q3 from ⟨hs3, off_ne hf3 hRs, off_ne hf3 hDs, hf3.mono HX.out.bl.size⟩)
    clear z3 y3 hs3 hf3 hk3 hb3 HX hDs hRs 
    revert HY HS3' 
    generalize w3 = WX
    intro HX HS3 
    by_cases hE2 : E2 = 0
    ·subst hE2
     have z4 := cellOf HX.out.ra (j := 4) rfl
     have y4 := cellOf HX.out.rb (j := 4) rfl
     go_upto_region 11 with (go_at_call 45; (refine (HWr.out _ HX.out.bl).mono ?_); rintro e w4 ⟨q4, m4, k4, rfl, rfl, hk4, hs4, hf4, hb4⟩; have HY := Lib.hid (HX.out.below hb4))
     have hDs : D < WX.heap.size := (gLt HX.out.rd)
     have hRs : w.heap.size + 1 + 1 < WX.heap.size := (gLt HX.out.rr)
     have HS4' := Lib.hid (show SetL w4 q4 L3 ∧ (∀ q, q4 = some q → q.block ≠ w.heap.size + 1 + 1) ∧ (∀ q, q4 = some q → q.block ≠ D) ∧ FreshP w.heap.size q4 from ⟨hs4, off_ne hf4 hRs, off_ne hf4 hDs, hf4.mono HX.out.bl.size⟩)
     have HS3' := Lib.hid (And.intro (HS3.out.1.below hb4) HS3.out.2)
     clear z4 y4 hs4 hf4 hk4 hb4 HX hDs hRs HS3
     revert HY HS4' HS3'
     generalize w4 = WX
     intro HX HS4 HS3
     by_cases hE3 : E3 = 0
     ·subst hE3
      obtain ⟨z0, z1, z2, z3, z4, z5⟩ := cs6 HX.out.ra
      obtain ⟨y0, y1, y2, y3, y4, y5⟩ := cs6 HX.out.rb
      go_upto_region 14 with (go_at_call 46; (refine (HJ.out _ HX.out.bl).mono ?_); rintro e w5 ⟨q5, m5, k5, rfl, rfl, hk5, hs5, hf5, hb5⟩; have HY := Lib.hid (HX.out.below hb5))
      have hDs : D < WX.heap.size := (gLt HX.out.rd)
      have hRs : w.heap.size + 1 + 1 < WX.heap.size := (gLt HX.out.rr)
      have HS5' := Lib.hid (show FltL w5 q5 L4 ∧ (∀ q, q5 = some q → q.block ≠ w.heap.size + 1 + 1) ∧ (∀ q, q5 = some q → q.block ≠ D) ∧ FreshP w.heap.size q5 from ⟨hs5, off_ne hf5 hRs, off_ne hf5 hDs, hf5.mono HX.out.bl.size⟩)
      have HS3' := Lib.hid (And.intro (HS3.out.1.below hb5) HS3.out.2)
      have HS4' := Lib.hid (And.intro (HS4.out.1.below hb5) HS4.out.2)
      clear z0 y0 z1 y1 z2 y2 z3 y3 z4 y4 z5 y5 hs5 hf5 hk5 hb5 HX hDs hRs HS3 HS4
      revert HY HS5' HS3' HS4'
      generalize w5 = WX
      intro HX HS5 HS3 HS4
      by_cases hE4 : E4 = 0
      ·subst hE4
       have d3 := cellOf HX.out.rd (j := 3) rfl; have d4 := cellOf HX.out.rd (j := 4) rfl; have d5 := cellOf HX.out.rd (j := 5) rfl
       have g3 := frozenOf HX.out.rd (j := 3); have g4 := frozenOf HX.out.rd (j := 4); have g5 := frozenOf HX.out.rd (j := 5)
       go_upto_region 17 with fail
       have HZ := Lib.hid (show JO w #[.string nma, .int .i64 kda, .int .u16 (mba : Int), .slice p3a n3a c3a, .slice p4a n4a c4a, .slice p5a n5a c5a] #[.string nmb, .int .i64 kdb, .int .u16 (mbb : Int), .slice p3b n3b c3b, .slice p4b n4b c4b, .slice p5b n5b c5b] D #[.string ⟨#[106, 111, 105, 110, 116]⟩, .int .i64 1, .int .u16 (bits .or .u16 (mba : Int) (mbb : Int)), .slice q3 L2.length k3, .slice q4 L3.length k4, .slice q5 L4.length k5] (((WX.setCell ⟨D, 3, none⟩ (.slice q3 L2.length k3)).setCell ⟨D, 4, none⟩ (.slice q4 L3.length k4)).setCell ⟨D, 5, none⟩ (.slice q5 L4.length k5)) from ((HX.out.put 3 _).put 4 _).put 5 _)
       have HS3' := Lib.hid (show SetL (((WX.setCell ⟨D, 3, none⟩ (.slice q3 L2.length k3)).setCell ⟨D, 4, none⟩ (.slice q4 L3.length k4)).setCell ⟨D, 5, none⟩ (.slice q5 L4.length k5)) q3 L2 from ((HS3.out.1.set1 HS3.out.2.2.1 _ _).set1 HS3.out.2.2.1 _ _).set1 HS3.out.2.2.1 _ _)
       have HS4' := Lib.hid (show SetL (((WX.setCell ⟨D, 3, none⟩ (.slice q3 L2.length k3)).setCell ⟨D, 4, none⟩ (.slice q4 L3.length k4)).setCell ⟨D, 5, none⟩ (.slice q5 L4.length k5)) q4 L3 from ((HS4.out.1.set1 HS4.out.2.2.1 _ _).set1 HS4.out.2.2.1 _ _).set1 HS4.out.2.2.1 _ _)
       have HS5' := Lib.hid (show FltL (((WX.setCell ⟨D, 3, none⟩ (.slice q3 L2.length k3)).setCell ⟨D, 4, none⟩ (.slice q4 L3.length k4)).setCell ⟨D, 5, none⟩ (.slice q5 L4.length k5)) q5 L4 from ((HS5.out.1.set1 HS5.out.2.2.1 _ _).set1 HS5.out.2.2.1 _ _).set1 HS5.out.2.2.1 _ _)
       clear d3 d4 d5 g3 g4 g5 HX
       revert HZ HS3' HS4' HS5'
       generalize ((WX.setCell ⟨D, 3, none⟩ (.slice q3 L2.length k3)).setCell ⟨D, 4, none⟩ (.slice q4 L3.length k4)).setCell ⟨D, 5, none⟩ (.slice q5 L4.length k5) = WX
       intro HX HT3 HT4 HT5
       obtain ⟨d0, d1, d2, d3, d4, d5⟩ := cs6 HX.out.rd
       obtain ⟨r0, r1, r2, r3, r4, r5⟩ := cs6 HX.out.rr
       have f0 := frozenOf HX.out.rr (j := 0); have f1 := frozenOf HX.out.rr (j := 1); have f2 := frozenOf HX.out.rr (j := 2); have f3 := frozenOf HX.out.rr (j := 3); have f4 := frozenOf HX.out.rr (j := 4); have f5 := frozenOf HX.out.rr (j := 5)
       go_wp2_with fail
       exact cfe_end 4 5 rfl HX.out.rr HX.out.bl (by omega) jointB 1 (bits .or .u16 (mba : Int) (mbb : Int)) q3 L2.length k3 q4 L3.length k4 q5 L4.length k5 L2 L3 L4 0 _ rfl rfl ⟨rfl, HT3.out, rfl, HT4.out, rfl, HT5.out, HL3.out, HL4.out, HL5.out⟩ HS3.out.2.1 HS4.out.2.1 HS5.out.2.1 HS3.out.2.2.2 HS4.out.2.2.2 HS5.out.2.2.2 _ (fun _ _ h => JoRet.ok rfl (HKD.out ▸ h))
      ·have e1 : ¬ (E4 : Int) = 0 := by omega
       have e2 : ((E4 : Int) != 0) = true := by simp; omega
       obtain ⟨r0, r1, r2, r3, r4, r5⟩ := cs6 HX.out.rr
       have f0 := frozenOf HX.out.rr (j := 0); have f1 := frozenOf HX.out.rr (j := 1); have f2 := frozenOf HX.out.rr (j := 2); have f3 := frozenOf HX.out.rr (j := 3); have f4 := frozenOf HX.out.rr (j := 4); have f5 := frozenOf HX.out.rr (j := 5)
       go_wp2_with fail
       exact cfe_end 4 5 rfl HX.out.rr HX.out.bl (by omega) emptyB 0 0 none 0 0 none 0 0 none 0 0 [] [] [] E4 _ rfl rfl (cfh_nil _) none_ne none_ne none_ne (fresh_none _) (fresh_none _) (fresh_none _) _ (fun _ _ h => JoRet.err four_4 hE4 h)
     ·have e1 : ¬ (E3 : Int) = 0 := by omega
      have e2 : ((E3 : Int) != 0) = true := by simp; omega
      obtain ⟨r0, r1, r2, r3, r4, r5⟩ := cs6 HX.out.rr
      have f0 := frozenOf HX.out.rr (j := 0); have f1 := frozenOf HX.out.rr (j := 1); have f2 := frozenOf HX.out.rr (j := 2); have f3 := frozenOf HX.out.rr (j := 3); have f4 := frozenOf HX.out.rr (j := 4); have f5 := frozenOf HX.out.rr (j := 5)
      go_wp2_with fail
      exact cfe_end 4 5 rfl HX.out.rr HX.out.bl (by omega) emptyB 0 0 none 0 0 none 0 0 none 0 0 [] [] [] E3 _ rfl rfl (cfh_nil _) none_ne none_ne none_ne (fresh_none _) (fresh_none _) (fresh_none _) _ (fun _ _ h => JoRet.err (four_3 hE3) hE3 h)
    ·have e1 : ¬ (E2 : Int) = 0 := by omega
     have e2 : ((E2 : Int) != 0) = true := by simp; omega
     obtain ⟨r0, r1, r2, r3, r4, r5⟩ := cs6 HX.out.rr
     have f0 := frozenOf HX.out.rr (j := 0); have f1 := frozenOf HX.out.rr (j := 1); have f2 := frozenOf HX.out.rr (j := 2); have f3 := frozenOf HX.out.rr (j := 3); have f4 := frozenOf HX.out.rr (j := 4); have f5 := frozenOf HX.out.rr (j := 5)
     go_wp2_with fail
     exact cfe_end 4 5 rfl HX.out.rr HX.out.bl (by omega) emptyB 0 0 none 0 0 none 0 0 none 0 0 [] [] [] E2 _ rfl rfl (cfh_nil _) none_ne none_ne none_ne (fresh_none _) (fresh_none _) (fresh_none _) _ (fun _ _ h => JoRet.err (four_2 hE2) hE2 h)
 ·have e1 : ¬ (E1 : Int) = 0 := by omega
  have e2 : ((E1 : Int) != 0) = true := by simp; omega
  obtain ⟨r0, r1, r2, r3, r4, r5⟩ := cs6 HRR.out
  have f0 := frozenOf HRR.out (j := 0); have f1 := frozenOf HRR.out (j := 1); have f2 := frozenOf HRR.out (j := 2); have f3 := frozenOf HRR.out (j := 3); have f4 := frozenOf HRR.out (j := 4); have f5 := frozenOf HRR.out (j := 5)
  go_wp2_with fail
  exact cfe_end 4 5 rfl HRR.out HB1.out (by omega) emptyB 0 0 none 0 0 none 0 0 none 0 0 [] [] [] E1 _ rfl rfl (cfh_nil _) none_ne none_ne none_ne (fresh_none _) (fresh_none _) (fresh_none _) _ (fun _ _ h => JoRet.err (four_1 hE1) hE1 h)
end Go.Proofs.YtmcnpaehmnadeaaGreatDoor
