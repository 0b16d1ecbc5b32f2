/-
  EpochNext: sederuntref27.family, exactly.
-/
import Derived.Test.YtmcnpaehmnadeaaGreatDoorFbE
set_option maxHeartbeats 6400000
set_option maxRecDepth 1000000
namespace Go.Proofs.YtmcnpaehmnadeaaGreatDoor
open Go Go.RowKit
theorem andNot_iff {x s : Nat} : bits .andNot .u16 (x : Int) (s : Int) = 0 ↔ ∀ k, k < 16 → x.testBit k = true → s.testBit k = true := by
 refine ⟨andNot_zero, fun h => ?_⟩
 unfold bits
 simp only [BitVec.ofInt_natCast]
 have h3 : (BitVec.ofNat 16 x &&& ~~~BitVec.ofNat 16 s) = 0#16 := by
  refine BitVec.eq_of_getLsbD_eq fun k hk => ?_
  have h1 := h k hk
  simp only [BitVec.getLsbD_and, BitVec.getLsbD_not, BitVec.getLsbD_ofNat, hk, decide_true, Bool.true_and, Nat.zero_testBit]
  cases hx : x.testBit k
  ·rfl
  ·rw [h1 hx]; rfl
 show IntKind.u16.wrap (((BitVec.ofNat 16 x &&& ~~~BitVec.ofNat 16 s).toNat : Nat) : Int) = 0
 rw [h3]
 rfl
theorem subB_iff {x s : Nat} : subB x s = true ↔ ∀ k, k < 16 → x.testBit k = true → s.testBit k = true := by
 unfold subB
 rw [beq_iff_eq]
 exact andNot_iff
theorem subB_or {a b s : Nat} : subB (a ||| b) s = (subB a s && subB b s) := by
 rw [Bool.eq_iff_iff, Bool.and_eq_true, subB_iff, subB_iff, subB_iff]
 constructor
 ·intro h
  exact ⟨fun k hk hx => h k hk (by rw [Nat.testBit_or, hx]; rfl), fun k hk hx => h k hk (by rw [Nat.testBit_or, hx, Bool.or_true])⟩
 ·rintro ⟨h1, h2⟩ k hk hx
  rw [Nat.testBit_or, Bool.or_eq_true] at hx
  rcases hx with hx | hx
  ·exact h1 k hk hx
  ·exact h2 k hk hx
theorem or_nat {a b : Nat} (ha : a < 65536) (hb : b < 65536) : bits .or .u16 (a : Int) (b : Int) = ((a ||| b : Nat) : Int) := orS_nat ha hb
theorem uni_from (mb : Nat) : ∀ (l : List Nat) (a : Nat), InR l → a < 65536 → ∃ N : Nat, N < 65536 ∧ l.foldl (fun (a : Int) (x : Nat) => bits .or .u16 a (x : Int)) (a : Int) = N ∧ subB N mb = (subB a mb && l.all fun x => subB x mb)
 | [], a, _, ha => ⟨a, ha, rfl, by simp⟩
 | x :: t, a, hr, ha => by
  have hx := hr x (List.mem_cons_self ..)
  obtain ⟨N, h1, h2, h3⟩ := uni_from mb t (a ||| x) (fun y hy => hr y (List.mem_cons_of_mem _ hy)) (Nat.or_lt_two_pow (n := 16) ha hx)
  refine ⟨N, h1, ?_, ?_⟩
  ·rw [List.foldl_cons, or_nat ha hx]
   exact h2
  ·rw [h3, subB_or, List.all_cons, Bool.and_assoc]
theorem uni_zero {l : List Nat} (hr : InR l) (mb : Nat) : (bits .andNot .u16 (uni l) (mb : Int) = 0) ↔ (l.all fun x => subB x mb) = true := by
 obtain ⟨N, h1, h2, h3⟩ := uni_from mb l 0 hr (by decide)
 have h4 : uni l = (N : Int) := h2
 have h5 : subB 0 mb = true := by
  rw [subB_iff]
  intro k _ hx
  simp at hx
 rw [h4, show (bits .andNot .u16 (N : Int) (mb : Int) = 0) ↔ subB N mb = true by unfold subB; rw [beq_iff_eq], h3, h5]
 simp
theorem all_take_succ {l : List Nat} {mb k : Nat} (h : k < l.length) : ((l.take (k + 1)).all fun x => subB x mb) = (((l.take k).all fun x => subB x mb) && subB l[k] mb) := by
 rw [take_snoc h, List.all_append]
 simp
theorem familyR_ex (p : Option Addr) (m cap : Nat) (l : List Nat) (mb : Nat) (w : World) (hm : l.length = m) (hc63 : m ≤ 9223372036854775807) (hr : InR l) (h : SetL w p l) : Calls Tryz.prog 101 #[.slice p m cap, .int .u16 (mb : Int)] w (IsI (cfE l mb) w) := by
 have HV0 := famValidR_ex p m cap l w hm hr h
 rw [fam_one] at HV0
 have HV := Lib.hid HV0
 have H := Lib.hid h
 have HM := Lib.hid hm
 have HUZ := Lib.hid (uni_zero hr mb)
 have HE := Lib.hid (show cfE l mb = if famE l ≠ 0 then famE l else if l = [] ∨ l.getD 0 0 = 0 then 9 else if bits .andNot .u16 (uni l) (mb : Int) ≠ 0 then 7 else 0 from rfl)
 clear HV0 hr h
 go_enter Tryz.func101, Tryz.ntmps101
 go_upto_if 10 with (go_at_call 103; refine HV.out.mono ?_; rintro e w1 ⟨rfl, hb1⟩; have HB1 := Lib.hid hb1; clear hb1)
 by_cases hf : famE l = 0
 ·have HF := Lib.hid hf
  have e0 : (((famE l : Nat) : Int) != 0) = false := by rw [hf]; rfl
  clear hf
  simp only [e0]
  go_upto_region 4 with fail
  clear e0
  by_cases hm0 : m = 0
  ·have hln : l = [] := List.eq_nil_of_length_eq_zero (by have := HM.out; omega)
   have HLN := Lib.hid hln
   subst hm0
   clear hln
   go_wp2_with fail
   go_ret
   exact ⟨by rw [HE.out, HF.out, HLN.out]; rfl, HB1.out⟩
  ·have hp0 : 0 < l.length := by have := HM.out; omega
   obtain ⟨b, off, rfl, hbb, hc0⟩ := H.out.at hp0
   have hc1 := (HB1.out.cell (p := ⟨b, off + 0, none⟩) hbb).trans hc0
   simp only [Nat.add_zero] at hc1
   have HG := Lib.hid (show l.getD 0 0 = l[0] by simp [hp0])
   have HNE := Lib.hid (show ¬ l = [] from fun h => by rw [h] at hp0; simp at hp0)
   have e1 : ((m : Int) == 0) = false := by rw [beq_eq_false_iff_ne]; omega
   have e2 : ¬ (m : Int) = 0 := by omega
   have e3 : (0 : Int) < (m : Int) := by omega
   clear hc0
   generalize l[0] = x0 at hc1 HG
   by_cases hx : x0 = 0
   ·subst hx
    go_wp2_with fail
    go_ret
    exact ⟨by rw [HE.out, HF.out, HG.out]; simp, HB1.out⟩
   ·have e4 : ((x0 : Int) == 0) = false := by rw [beq_eq_false_iff_ne]; omega
    have HX0 := Lib.hid hx
    have HE2 := Lib.hid (show cfE l mb = if (l.all fun x => subB x mb) = true then 0 else 7 by
     rw [HE.out, if_neg (fun h => h HF.out), if_neg (by rw [HG.out]; simp [HNE.out, hx])]
     by_cases hu : bits .andNot .u16 (uni l) (mb : Int) = 0
     ·rw [if_neg (fun h => h hu), if_pos (HUZ.out.mp hu)]
     ·rw [if_pos hu, if_neg (fun h => hu (HUZ.out.mpr h))])
    clear hx
    go_upto_block 0 with fail
    clear e1 e2 e3 e4 hc1
    go_wp2_with fail
    go_loopw [6] (fun i wr => ∃ k : Nat, k ≤ m ∧ i = .int .i64 k ∧ ((l.take k).all fun x => subB x mb) = true ∧ Below w.heap.size w wr) (fun i _ => m - (intOf i).toNat)
    case atStart => exact ⟨0, Nat.zero_le _, rfl, rfl, HB1.out⟩
    case round =>
     obtain ⟨k, hk, rfl, hall, hb⟩ := hrel
     have HA := Lib.hid hall
     have HB := Lib.hid hb
     clear hall hb
     by_cases hkm : k < m
     ·have hkl : k < l.length := by have := HM.out; omega
      obtain ⟨b2, off2, hpe, _, hd0⟩ := H.out.at hkl
      obtain ⟨rfl, rfl⟩ : b2 = b ∧ off2 = off := by
       injection hpe with hpe
       injection hpe with h1 h2
       exact ⟨h1.symm, h2.symm⟩
      have hd := (HB.out.cell (p := ⟨b2, off2 + k, none⟩) hbb).trans hd0
      have HS := Lib.hid (all_take_succ (mb := mb) hkl)
      have HNO := Lib.hid (show subB l[k] mb = false → (l.all fun x => subB x mb) = false from fun h => by
       rw [Bool.eq_false_iff]
       intro h2
       have := List.all_eq_true.mp h2 _ (List.getElem_mem hkl)
       rw [h] at this
       cases this)
      clear hpe hd0
      generalize l[k] = x at hd HS HNO
      have e5 : (k : Int) < (m : Int) := by omega
      have HW := Lib.hid (fun W => within_ex (x : Int) (mb : Int) W)
      cases hsb : subB x mb
      ·have HSB := Lib.hid hsb
       have hw : wB (x : Int) (mb : Int) = false := hsb
       rw [hw] at HW
       clear hsb hw
       go_wp2_with (go_at_call 112; refine (HW.out _).mono ?_; rintro e w3 ⟨rfl, rfl⟩)
       go_ret
       exact ⟨by rw [HE2.out, HNO.out HSB.out]; rfl, HB.out⟩
      ·have HSB := Lib.hid hsb
       have hw : wB (x : Int) (mb : Int) = true := hsb
       rw [hw] at HW
       clear hsb hw
       go_wp2_with (go_at_call 112; refine (HW.out _).mono ?_; rintro e w3 ⟨rfl, rfl⟩)
       go_roundw
       case rel => exact ⟨k + 1, by omega, by go_num, by rw [HS.out, HA.out, HSB.out]; rfl, HB.out⟩
       case measure => simp [intOf]; omega
     ·have hkl : l.take k = l := List.take_of_length_le (by have := HM.out; omega)
      rw [hkl] at HA
      go_wp2_with fail
      go_ret
      exact ⟨by rw [HE2.out, if_pos HA.out]; rfl, HB.out⟩
 ·have HF := Lib.hid hf
  have e0 : (((famE l : Nat) : Int) != 0) = true := by simp; omega
  clear hf
  go_wp2_with fail
  go_ret
  exact ⟨by rw [HE.out, if_pos HF.out]; rfl, HB1.out⟩
end Go.Proofs.YtmcnpaehmnadeaaGreatDoor
/-
  EpochNext: sederuntref27.Valid, exactly.
-/
namespace Go.Proofs.YtmcnpaehmnadeaaGreatDoor
open Go Go.RowKit
theorem confValidR_ex (nm : ByteArray) (kd : Int) (mb : Nat) (p3 : Option Addr) (n3 c3 : Nat) (p4 : Option Addr) (n4 c4 : Nat) (p5 : Option Addr) (n5 c5 : Nat) (rd wr : List Nat) (fs : List (Nat × Nat)) (w : World) (h : CfgL w nm mb p3 n3 c3 p4 n4 c4 p5 n5 c5 rd wr fs) :
  Calls Tryz.prog 67 #[.agg #[.string nm, .int .i64 kd, .int .u16 (mb : Int), .slice p3 n3 c3, .slice p4 n4 c4, .slice p5 n5 c5]] w (IsI (valE kd mb rd wr fs) w) := by
 have H := Lib.hid h
 have hmb := h.mb
 have HC := Lib.hid (show CW w w.heap.size nm kd mb p3 n3 c3 p4 n4 c4 p5 n5 c5 (w.alloc (.cells #[.string nm, .int .i64 kd, .int .u16 (mb : Int), .slice p3 n3 c3, .slice p4 n4 c4, .slice p5 n5 c5] 49)) from ⟨heap_alloc_new w _, (Below.refl _ _).alloc (Nat.le_refl _) _⟩)
 have HE := Lib.hid (show valE kd mb rd wr fs = if kd ≠ 1 ∧ kd ≠ 2 then 1 else if 4096 ≤ mb then 7 else if mb = 0 then 9 else if cfE rd mb ≠ 0 then cfE rd mb else if cfE wr mb ≠ 0 then cfE wr mb else fltE fs from rfl)
 clear h
 go_enter Tryz.func67, Tryz.ntmps67
 go_upto_region 1 with fail
 revert HC
 generalize w.alloc (.cells #[.string nm, .int .i64 kd, .int .u16 (mb : Int), .slice p3 n3 c3, .slice p4 n4 c4, .slice p5 n5 c5] 49) = W0
 generalize w.heap.size = A
 intro HC
 have z0 := cellOf HC.out.ra (j := 0) rfl
 have HA := Lib.hid H.out.nm.2
 by_cases hk : kd ≠ 1 ∧ kd ≠ 2
 ·obtain ⟨hk1, hk2⟩ := hk
  have HK := Lib.hid (And.intro hk1 hk2)
  have e1 : (kd != 1) = true := by simpa using hk1
  have e2 : (kd != 2) = true := by simpa using hk2
  go_wp2_with (go_at_call 100; refine (HA.out _).mono ?_; rintro e w1 ⟨rfl, hb1⟩; have HC1 := Lib.hid (HC.out.below hb1); clear hb1; have z1 := cellOf HC1.out.ra (j := 1) rfl)
  go_ret
  exact ⟨by rw [HE.out, if_pos HK.out]; rfl, HC1.out.bl⟩
 ·have hk12 : kd = 1 ∨ kd = 2 := by omega
  have HK := Lib.hid hk
  clear hk
  have STEP := Lib.hid (fun (kd : Int) (W : World) (hW : CW w A nm kd mb p3 n3 c3 p4 n4 c4 p5 n5 c5 W) => (⟨cellOf hW.ra (j := 2) rfl, cellOf hW.ra (j := 3) rfl, cellOf hW.ra (j := 4) rfl, cellOf hW.ra (j := 5) rfl⟩ : W.cell? ⟨A, 2, none⟩ = some (.int .u16 (mb : Int)) ∧ W.cell? ⟨A, 3, none⟩ = some (.slice p3 n3 c3) ∧ W.cell? ⟨A, 4, none⟩ = some (.slice p4 n4 c4) ∧ W.cell? ⟨A, 5, none⟩ = some (.slice p5 n5 c5)))
  have H3 := Lib.hid (fun W (hW : Below w.heap.size w W) => familyR_ex p3 n3 c3 rd mb W H.out.l3 (by have := H.out.k3; have := H.out.i3; omega) H.out.r3 (H.out.s3.below hW))
  have H4 := Lib.hid (fun W (hW : Below w.heap.size w W) => familyR_ex p4 n4 c4 wr mb W H.out.l4 (by have := H.out.k4; have := H.out.i4; omega) H.out.r4 (H.out.s4.below hW))
  have H5 := Lib.hid (fun W (hW : Below w.heap.size w W) => faultValidR_ex p5 n5 c5 fs W H.out.l5 H.out.r5 (H.out.s5.below hW))
  rcases hk12 with rfl | rfl
  all_goals
   go_upto_region 3 with (go_at_call 100; refine (HA.out _).mono ?_; rintro e w1 ⟨rfl, hb1⟩; have HC2 := Lib.hid (HC.out.below hb1); clear hb1; have z1 := cellOf HC2.out.ra (j := 1) rfl)
   obtain ⟨y2, y3, y4, y5⟩ := STEP.out _ _ HC2.out
   clear z0 z1
   by_cases hm4 : 4096 ≤ mb
   ·have HM4 := Lib.hid hm4
    have e1 : (4096 : Int) ≤ (mb : Int) := by omega
    go_wp2_with fail
    go_ret
    exact ⟨by rw [HE.out, if_neg HK.out, if_pos HM4.out]; rfl, HC2.out.bl⟩
   ·have HM4 := Lib.hid hm4
    have e1 : ¬ (4096 : Int) ≤ (mb : Int) := by omega
    by_cases hm0 : mb = 0
    ·have HM0 := Lib.hid hm0
     have e2 : ((mb : Int) == 0) = true := by simp; omega
     clear hm0
     go_wp2_with fail
     go_ret
     exact ⟨by rw [HE.out, if_neg HK.out, if_neg HM4.out, if_pos HM0.out]; rfl, HC2.out.bl⟩
    ·have HM0 := Lib.hid hm0
     have e2 : ((mb : Int) == 0) = false := by simp; omega
     go_upto_if 31 with (go_at_call 101; refine (H3.out _ HC2.out.bl).mono ?_; rintro e w3 ⟨rfl, hb3⟩; have HC3 := Lib.hid (HC2.out.below hb3); clear hb3)
     obtain ⟨x2, x3, x4, x5⟩ := STEP.out _ _ HC3.out
     clear y2 y3 y4 y5 e1 e2
     by_cases h3 : cfE rd mb = 0
     ·have HE3 := Lib.hid h3
      have e3 : (((cfE rd mb : Nat) : Int) != 0) = false := by rw [h3]; rfl
      clear h3
      simp only [e3]
      go_upto_if 39 with (go_at_call 101; refine (H4.out _ HC3.out.bl).mono ?_; rintro e w4 ⟨rfl, hb4⟩; have HC4 := Lib.hid (HC3.out.below hb4); clear hb4)
      obtain ⟨y2, y3, y4, y5⟩ := STEP.out _ _ HC4.out
      clear x2 x3 x4 x5 e3
      by_cases h4 : cfE wr mb = 0
      ·have HE4 := Lib.hid h4
       have e4 : (((cfE wr mb : Nat) : Int) != 0) = false := by rw [h4]; rfl
       clear h4
       go_wp2_with (go_at_call 102; refine (H5.out _ HC4.out.bl).mono ?_; rintro e w5 ⟨rfl, hb5⟩; have HC5 := Lib.hid (HC4.out.below hb5); clear hb5)
       go_ret
       exact ⟨by rw [HE.out, if_neg HK.out, if_neg HM4.out, if_neg HM0.out, if_neg (fun h => h HE3.out), if_neg (fun h => h HE4.out)]; rfl, HC5.out.bl⟩
      ·have HE4 := Lib.hid h4
       have e4 : (((cfE wr mb : Nat) : Int) != 0) = true := by simp; omega
       clear h4
       go_wp2_with fail
       go_ret
       exact ⟨by rw [HE.out, if_neg HK.out, if_neg HM4.out, if_neg HM0.out, if_neg (fun h => h HE3.out), if_pos HE4.out]; rfl, HC4.out.bl⟩
     ·have HE3 := Lib.hid h3
      have e3 : (((cfE rd mb : Nat) : Int) != 0) = true := by simp; omega
      clear h3
      go_wp2_with fail
      go_ret
      exact ⟨by rw [HE.out, if_neg HK.out, if_neg HM4.out, if_neg HM0.out, if_pos HE3.out]; rfl, HC3.out.bl⟩
end Go.Proofs.YtmcnpaehmnadeaaGreatDoor
/-
  EpochNext: family.both, limited; sederuntref08.both; sederuntref29.both; joint.valid: exactly.
-/
namespace Go.Proofs.YtmcnpaehmnadeaaGreatDoor
open Go Go.RowKit
def bothE (a b : Nat) : Nat := if a ≠ 0 then a else b
theorem bothFam_ex (p : Option Addr) (m cap : Nat) (f : List Nat) (q : Option Addr) (n cq : Nat) (g : List Nat) (w : World) (hm : f.length = m) (hl : m ≤ cap) (hr : InR f) (h : SetL w p f) (hn : g.length = n) (hln : n ≤ cq) (hrg : InR g) (hg : SetL w q g) :
  Calls Tryz.prog 62 #[.slice p m cap, .slice q n cq] w (IsI (bothE (famE f) (famE g)) w) := by
 have HE := Lib.hid (show bothE (famE f) (famE g) = if famE f ≠ 0 then famE f else famE g from rfl)
 have H1 := Lib.hid (famValid_ex p m cap f w hm hl hr h)
 have H2 := Lib.hid (fun W (hW : Below w.heap.size w W) => famValid_ex q n cq g W hn hln hrg (hg.below hW))
 clear hm hl hr h hn hln hrg hg
 go_enter Tryz.func62, Tryz.ntmps62
 go_upto_if 9 with (go_at_call 95; refine H1.out.mono ?_; rintro e w1 ⟨rfl, hb1⟩; have HB1 := Lib.hid hb1; clear hb1)
 by_cases h : famE f = 0
 ·have HH := Lib.hid h
  have e0 : (((famE f : Nat) : Int) != 0) = false := by rw [h]; rfl
  clear h
  go_wp2_with (go_at_call 95; refine (H2.out _ HB1.out).mono ?_; rintro e w2 ⟨rfl, hb2⟩; have HB2 := Lib.hid (HB1.out.trans (hb2.mono HB1.out.size)); clear hb2)
  go_ret
  exact ⟨by rw [HE.out, if_neg (fun h => h HH.out)]; rfl, HB2.out⟩
 ·have HH := Lib.hid h
  have e0 : (((famE f : Nat) : Int) != 0) = true := by simp; omega
  clear h
  go_wp2_with fail
  go_ret
  exact ⟨by rw [HE.out, if_pos HH.out]; rfl, HB1.out⟩
theorem bothFamR_ex (p : Option Addr) (m cap : Nat) (f : List Nat) (q : Option Addr) (n cq : Nat) (g : List Nat) (w : World) (hm : f.length = m) (hr : InR f) (h : SetL w p f) (hn : g.length = n) (hrg : InR g) (hg : SetL w q g) :
  Calls Tryz.prog 68 #[.slice p m cap, .slice q n cq] w (IsI (bothE (famE f) (famE g)) w) := by
 have HE := Lib.hid (show bothE (famE f) (famE g) = if famE f ≠ 0 then famE f else famE g from rfl)
 have H1 := Lib.hid (show Calls Tryz.prog 103 #[.slice p m cap] w (IsI (famE f) w) by rw [← fam_one]; exact famValidR_ex p m cap f w hm hr h)
 have H2 := Lib.hid (fun W (hW : Below w.heap.size w W) => (show Calls Tryz.prog 103 #[.slice q n cq] W (IsI (famE g) W) by rw [← fam_one]; exact famValidR_ex q n cq g W hn hrg (hg.below hW)))
 clear hm hr h hn hrg hg
 go_enter Tryz.func68, Tryz.ntmps68
 go_upto_if 9 with (go_at_call 103; refine H1.out.mono ?_; rintro e w1 ⟨rfl, hb1⟩; have HB1 := Lib.hid hb1; clear hb1)
 by_cases h : famE f = 0
 ·have HH := Lib.hid h
  have e0 : (((famE f : Nat) : Int) != 0) = false := by rw [h]; rfl
  clear h
  go_wp2_with (go_at_call 103; refine (H2.out _ HB1.out).mono ?_; rintro e w2 ⟨rfl, hb2⟩; have HB2 := Lib.hid (HB1.out.trans (hb2.mono HB1.out.size)); clear hb2)
  go_ret
  exact ⟨by rw [HE.out, if_neg (fun h => h HH.out)]; rfl, HB2.out⟩
 ·have HH := Lib.hid h
  have e0 : (((famE f : Nat) : Int) != 0) = true := by simp; omega
  clear h
  go_wp2_with fail
  go_ret
  exact ⟨by rw [HE.out, if_pos HH.out]; rfl, HB1.out⟩
def LimRet (p : Option Addr) (n cap : Nat) (w : World) (e : Ending) (w' : World) : Prop := e = .returned (if 400 < n then .tuple #[.slice none 0 0, .int .i64 3] else .tuple #[.slice p n cap, .int .i64 0]) ∧ w' = w
theorem limited_ex (p : Option Addr) (n cap : Nat) (w : World) : Calls Tryz.prog 63 #[.slice p n cap] w (LimRet p n cap w) := by
 by_cases h : 400 < n
 ·have e0 : (400 : Int) < (n : Int) := by omega
  have HH := Lib.hid h
  clear h
  go_enter Tryz.func63, Tryz.ntmps63
  go_wp2_with fail
  go_ret2
  exact ⟨by rw [if_pos HH.out]; rfl, rfl⟩
 ·have e0 : ¬ (400 : Int) < (n : Int) := by omega
  have HH := Lib.hid h
  clear h
  go_enter Tryz.func63, Tryz.ntmps63
  go_wp2_with fail
  go_ret2
  exact ⟨by rw [if_neg HH.out]; rfl, rfl⟩
end Go.Proofs.YtmcnpaehmnadeaaGreatDoor
