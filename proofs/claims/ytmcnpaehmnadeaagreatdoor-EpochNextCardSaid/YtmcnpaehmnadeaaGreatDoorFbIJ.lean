/-
  EpochNext: joint.valid, sederuntref29.both: exactly.
-/
import Derived.Test.YtmcnpaehmnadeaaGreatDoorFbFH
set_option maxHeartbeats 6400000
set_option maxRecDepth 1000000
namespace Go.Proofs.YtmcnpaehmnadeaaGreatDoor
open Go Go.RowKit
theorem jointValid_ex (nma : ByteArray) (kda : Int) (mba : Nat) (p3a : Option Addr) (n3a c3a : Nat) (p4a : Option Addr) (n4a c4a : Nat) (p5a : Option Addr) (n5a c5a : Nat) (rda wra : List Nat) (fsa : List (Nat × Nat)) (nmb : ByteArray) (kdb : Int) (mbb : Nat) (p3b : Option Addr) (n3b c3b : Nat) (p4b : Option Addr) (n4b c4b : Nat) (p5b : Option Addr) (n5b c5b : Nat) (rdb wrb : List Nat) (fsb : List (Nat × Nat)) (g cap : Nat) (w : World) (ha : CfgL w nma mba p3a n3a c3a p4a n4a c4a p5a n5a c5a rda wra fsa) (hb : CfgL w nmb mbb p3b n3b c3b p4b n4b c4b p5b n5b c5b rdb wrb fsb) (hg : w.heap[g]? = some (.cells #[.string nma, .int .i64 kda, .int .u16 (mba : Int), .slice p3a n3a c3a, .slice p4a n4a c4a, .slice p5a n5a c5a, .string nmb, .int .i64 kdb, .int .u16 (mbb : Int), .slice p3b n3b c3b, .slice p4b n4b c4b, .slice p5b n5b c5b] 49 (0, 0))) :
  Calls Tryz.prog 40 #[.slice (some ⟨g, 0, none⟩) 2 cap] w (IsI (bothE (valE kda mba rda wra fsa) (valE kdb mbb rdb wrb fsb)) w) := by
 have HE := Lib.hid (show bothE (valE kda mba rda wra fsa) (valE kdb mbb rdb wrb fsb) = if valE kda mba rda wra fsa ≠ 0 then valE kda mba rda wra fsa else valE kdb mbb rdb wrb fsb from rfl)
 have Ha := Lib.hid (fun W (hW : Below w.heap.size w W) => confValid_ex nma kda mba p3a n3a c3a p4a n4a c4a p5a n5a c5a rda wra fsa W (ha.below hW))
 have Hb := Lib.hid (fun W (hW : Below w.heap.size w W) => confValid_ex nmb kdb mbb p3b n3b c3b p4b n4b c4b p5b n5b c5b rdb wrb fsb W (hb.below hW))
 have HR0 := Lib.hid hg
 clear ha hb hg
 go_enter Tryz.func40, Tryz.ntmps40
 go_wp2_with fail
 go_loopw [8] (fun i wr => (wr.heap[g]? = some (.cells #[.string nma, .int .i64 kda, .int .u16 (mba : Int), .slice p3a n3a c3a, .slice p4a n4a c4a, .slice p5a n5a c5a, .string nmb, .int .i64 kdb, .int .u16 (mbb : Int), .slice p3b n3b c3b, .slice p4b n4b c4b, .slice p5b n5b c5b] 49 (0, 0)) ∧ Below w.heap.size w wr) ∧ (i = .int .i64 0 ∨ (i = .int .i64 1 ∧ valE kda mba rda wra fsa = 0) ∨ (i = .int .i64 2 ∧ valE kda mba rda wra fsa = 0 ∧ valE kdb mbb rdb wrb fsb = 0))) (fun i _ => 2 - (intOf i).toNat)
 case atStart => exact ⟨⟨HR0.out, Below.refl _ _⟩, .inl rfl⟩
 case round =>
  obtain ⟨hR, rfl | ⟨rfl, hva⟩ | ⟨rfl, hva, hvb⟩⟩ := hrel
  ·have HR := Lib.hid hR
   clear hR
   have z0 := cellOf HR.out.1 (j := 0) rfl; have z1 := cellOf HR.out.1 (j := 1) rfl; have z2 := cellOf HR.out.1 (j := 2) rfl; have z3 := cellOf HR.out.1 (j := 3) rfl; have z4 := cellOf HR.out.1 (j := 4) rfl; have z5 := cellOf HR.out.1 (j := 5) rfl
   by_cases h : valE kda mba rda wra fsa = 0
   ·have HH := Lib.hid h
    have e0 : (((valE kda mba rda wra fsa : Nat) : Int) != 0) = false := by rw [h]; rfl
    clear h
    go_upto_region 4 with fail
    have HX := Lib.hid (heap_alloc_new wr (.cells #[.string nma, .int .i64 kda, .int .u16 (mba : Int), .slice p3a n3a c3a, .slice p4a n4a c4a, .slice p5a n5a c5a] 49))
    have HR2 := Lib.hid (And.intro ((((Below.refl wr.heap.size wr).alloc (Nat.le_refl _) (.cells #[.string nma, .int .i64 kda, .int .u16 (mba : Int), .slice p3a n3a c3a, .slice p4a n4a c4a, .slice p5a n5a c5a] 49)).block _ (gLt HR.out.1)).trans HR.out.1) (HR.out.2.trans ((Below.refl _ _).alloc HR.out.2.size (.cells #[.string nma, .int .i64 kda, .int .u16 (mba : Int), .slice p3a n3a c3a, .slice p4a n4a c4a, .slice p5a n5a c5a] 49))))
    clear z0 z1 z2 z3 z4 z5
    revert HX HR2
    generalize wr.alloc (.cells #[.string nma, .int .i64 kda, .int .u16 (mba : Int), .slice p3a n3a c3a, .slice p4a n4a c4a, .slice p5a n5a c5a] 49) = W3
    generalize wr.heap.size = X
    intro HX HR2
    have z0 := cellOf HX.out (j := 0) rfl; have z1 := cellOf HX.out (j := 1) rfl; have z2 := cellOf HX.out (j := 2) rfl; have z3 := cellOf HX.out (j := 3) rfl; have z4 := cellOf HX.out (j := 4) rfl; have z5 := cellOf HX.out (j := 5) rfl
    go_wp2_with (go_at_call 61; refine (Ha.out _ HR2.out.2).mono ?_; rintro e w4 ⟨rfl, hb4⟩; have HR4 := Lib.hid (And.intro ((hb4.block _ (gLt HR2.out.1)).trans HR2.out.1) (HR2.out.2.trans (hb4.mono HR2.out.2.size))); clear hb4)
    go_roundw
    case rel => exact ⟨HR4.out, by first | exact .inr (.inl ⟨by go_num, HH.out⟩) | exact .inr (.inr ⟨by go_num, HVA.out, HH.out⟩)⟩
    case measure => simp [intOf]
   ·have HH := Lib.hid h
    have e0 : (((valE kda mba rda wra fsa : Nat) : Int) != 0) = true := by simp; omega
    clear h
    go_upto_region 4 with fail
    have HX := Lib.hid (heap_alloc_new wr (.cells #[.string nma, .int .i64 kda, .int .u16 (mba : Int), .slice p3a n3a c3a, .slice p4a n4a c4a, .slice p5a n5a c5a] 49))
    have HR2 := Lib.hid (HR.out.2.trans ((Below.refl _ _).alloc HR.out.2.size (.cells #[.string nma, .int .i64 kda, .int .u16 (mba : Int), .slice p3a n3a c3a, .slice p4a n4a c4a, .slice p5a n5a c5a] 49)))
    clear z0 z1 z2 z3 z4 z5
    revert HX HR2
    generalize wr.alloc (.cells #[.string nma, .int .i64 kda, .int .u16 (mba : Int), .slice p3a n3a c3a, .slice p4a n4a c4a, .slice p5a n5a c5a] 49) = W3
    generalize wr.heap.size = X
    intro HX HR2
    have z0 := cellOf HX.out (j := 0) rfl; have z1 := cellOf HX.out (j := 1) rfl; have z2 := cellOf HX.out (j := 2) rfl; have z3 := cellOf HX.out (j := 3) rfl; have z4 := cellOf HX.out (j := 4) rfl; have z5 := cellOf HX.out (j := 5) rfl
    go_wp2_with (go_at_call 61; refine (Ha.out _ HR2.out).mono ?_; rintro e w4 ⟨rfl, hb4⟩; have HR4 := Lib.hid (HR2.out.trans (hb4.mono HR2.out.size)); clear hb4)
    go_ret
    exact ⟨by rw [HE.out, if_pos HH.out]; rfl, HR4.out⟩
  ·have HR := Lib.hid hR
   have HVA := Lib.hid hva
   clear hR hva
   have z0 := cellOf HR.out.1 (j := 6) rfl; have z1 := cellOf HR.out.1 (j := 7) rfl; have z2 := cellOf HR.out.1 (j := 8) rfl; have z3 := cellOf HR.out.1 (j := 9) rfl; have z4 := cellOf HR.out.1 (j := 10) rfl; have z5 := cellOf HR.out.1 (j := 11) rfl
   by_cases h : valE kdb mbb rdb wrb fsb = 0
   ·have HH := Lib.hid h
    have e0 : (((valE kdb mbb rdb wrb fsb : Nat) : Int) != 0) = false := by rw [h]; rfl
    clear h
    go_upto_region 4 with fail
    have HX := Lib.hid (heap_alloc_new wr (.cells #[.string nmb, .int .i64 kdb, .int .u16 (mbb : Int), .slice p3b n3b c3b, .slice p4b n4b c4b, .slice p5b n5b c5b] 49))
    have HR2 := Lib.hid (And.intro ((((Below.refl wr.heap.size wr).alloc (Nat.le_refl _) (.cells #[.string nmb, .int .i64 kdb, .int .u16 (mbb : Int), .slice p3b n3b c3b, .slice p4b n4b c4b, .slice p5b n5b c5b] 49)).block _ (gLt HR.out.1)).trans HR.out.1) (HR.out.2.trans ((Below.refl _ _).alloc HR.out.2.size (.cells #[.string nmb, .int .i64 kdb, .int .u16 (mbb : Int), .slice p3b n3b c3b, .slice p4b n4b c4b, .slice p5b n5b c5b] 49))))
    clear z0 z1 z2 z3 z4 z5
    revert HX HR2
    generalize wr.alloc (.cells #[.string nmb, .int .i64 kdb, .int .u16 (mbb : Int), .slice p3b n3b c3b, .slice p4b n4b c4b, .slice p5b n5b c5b] 49) = W3
    generalize wr.heap.size = X
    intro HX HR2
    have z0 := cellOf HX.out (j := 0) rfl; have z1 := cellOf HX.out (j := 1) rfl; have z2 := cellOf HX.out (j := 2) rfl; have z3 := cellOf HX.out (j := 3) rfl; have z4 := cellOf HX.out (j := 4) rfl; have z5 := cellOf HX.out (j := 5) rfl
    go_wp2_with (go_at_call 61; refine (Hb.out _ HR2.out.2).mono ?_; rintro e w4 ⟨rfl, hb4⟩; have HR4 := Lib.hid (And.intro ((hb4.block _ (gLt HR2.out.1)).trans HR2.out.1) (HR2.out.2.trans (hb4.mono HR2.out.2.size))); clear hb4)
    go_roundw
    case rel => exact ⟨HR4.out, by first | exact .inr (.inl ⟨by go_num, HH.out⟩) | exact .inr (.inr ⟨by go_num, HVA.out, HH.out⟩)⟩
    case measure => simp [intOf]
   ·have HH := Lib.hid h
    have e0 : (((valE kdb mbb rdb wrb fsb : Nat) : Int) != 0) = true := by simp; omega
    clear h
    go_upto_region 4 with fail
    have HX := Lib.hid (heap_alloc_new wr (.cells #[.string nmb, .int .i64 kdb, .int .u16 (mbb : Int), .slice p3b n3b c3b, .slice p4b n4b c4b, .slice p5b n5b c5b] 49))
    have HR2 := Lib.hid (HR.out.2.trans ((Below.refl _ _).alloc HR.out.2.size (.cells #[.string nmb, .int .i64 kdb, .int .u16 (mbb : Int), .slice p3b n3b c3b, .slice p4b n4b c4b, .slice p5b n5b c5b] 49)))
    clear z0 z1 z2 z3 z4 z5
    revert HX HR2
    generalize wr.alloc (.cells #[.string nmb, .int .i64 kdb, .int .u16 (mbb : Int), .slice p3b n3b c3b, .slice p4b n4b c4b, .slice p5b n5b c5b] 49) = W3
    generalize wr.heap.size = X
    intro HX HR2
    have z0 := cellOf HX.out (j := 0) rfl; have z1 := cellOf HX.out (j := 1) rfl; have z2 := cellOf HX.out (j := 2) rfl; have z3 := cellOf HX.out (j := 3) rfl; have z4 := cellOf HX.out (j := 4) rfl; have z5 := cellOf HX.out (j := 5) rfl
    go_wp2_with (go_at_call 61; refine (Hb.out _ HR2.out).mono ?_; rintro e w4 ⟨rfl, hb4⟩; have HR4 := Lib.hid (HR2.out.trans (hb4.mono HR2.out.size)); clear hb4)
    go_ret
    exact ⟨by rw [HE.out, if_neg (fun h => h HVA.out)]; rfl, HR4.out⟩
  ·have HR := Lib.hid hR
   have HVA := Lib.hid (And.intro hva hvb)
   clear hR hva hvb
   go_wp2_with fail
   go_ret
   exact ⟨by rw [HE.out, if_neg (fun h => h HVA.out.1), HVA.out.2]; rfl, HR.out.2⟩
theorem bothR_ex (nma : ByteArray) (kda : Int) (mba : Nat) (p3a : Option Addr) (n3a c3a : Nat) (p4a : Option Addr) (n4a c4a : Nat) (p5a : Option Addr) (n5a c5a : Nat) (rda wra : List Nat) (fsa : List (Nat × Nat)) (nmb : ByteArray) (kdb : Int) (mbb : Nat) (p3b : Option Addr) (n3b c3b : Nat) (p4b : Option Addr) (n4b c4b : Nat) (p5b : Option Addr) (n5b c5b : Nat) (rdb wrb : List Nat) (fsb : List (Nat × Nat)) (w : World) (ha : CfgL w nma mba p3a n3a c3a p4a n4a c4a p5a n5a c5a rda wra fsa) (hb : CfgL w nmb mbb p3b n3b c3b p4b n4b c4b p5b n5b c5b rdb wrb fsb) :
  Calls Tryz.prog 44 #[.agg #[.string nma, .int .i64 kda, .int .u16 (mba : Int), .slice p3a n3a c3a, .slice p4a n4a c4a, .slice p5a n5a c5a], .agg #[.string nmb, .int .i64 kdb, .int .u16 (mbb : Int), .slice p3b n3b c3b, .slice p4b n4b c4b, .slice p5b n5b c5b]] w (IsI (bothE (valE kda mba rda wra fsa) (valE kdb mbb rdb wrb fsb)) w) := by
 have HE := Lib.hid (show bothE (valE kda mba rda wra fsa) (valE kdb mbb rdb wrb fsb) = if valE kda mba rda wra fsa ≠ 0 then valE kda mba rda wra fsa else valE kdb mbb rdb wrb fsb from rfl)
 have Ha := Lib.hid (fun W (hW : Below w.heap.size w W) => confValidR_ex nma kda mba p3a n3a c3a p4a n4a c4a p5a n5a c5a rda wra fsa W (ha.below hW))
 have Hb := Lib.hid (fun W (hW : Below w.heap.size w W) => confValidR_ex nmb kdb mbb p3b n3b c3b p4b n4b c4b p5b n5b c5b rdb wrb fsb W (hb.below hW))
 have HO := Lib.hid (And.intro (heap_alloc2_old w (.cells #[.string nma, .int .i64 kda, .int .u16 (mba : Int), .slice p3a n3a c3a, .slice p4a n4a c4a, .slice p5a n5a c5a] 49) (.cells #[.string nmb, .int .i64 kdb, .int .u16 (mbb : Int), .slice p3b n3b c3b, .slice p4b n4b c4b, .slice p5b n5b c5b] 49)) (And.intro (heap_alloc2_new w (.cells #[.string nma, .int .i64 kda, .int .u16 (mba : Int), .slice p3a n3a c3a, .slice p4a n4a c4a, .slice p5a n5a c5a] 49) (.cells #[.string nmb, .int .i64 kdb, .int .u16 (mbb : Int), .slice p3b n3b c3b, .slice p4b n4b c4b, .slice p5b n5b c5b] 49)) (show Below w.heap.size w ((w.alloc (.cells #[.string nma, .int .i64 kda, .int .u16 (mba : Int), .slice p3a n3a c3a, .slice p4a n4a c4a, .slice p5a n5a c5a] 49)).alloc (.cells #[.string nmb, .int .i64 kdb, .int .u16 (mbb : Int), .slice p3b n3b c3b, .slice p4b n4b c4b, .slice p5b n5b c5b] 49)) from ((Below.refl _ _).alloc (Nat.le_refl _) _).alloc (by simp) _)))
 clear ha hb
 go_enter Tryz.func44, Tryz.ntmps44
 go_upto_region 1 with fail
 revert HO
 generalize (w.alloc (.cells #[.string nma, .int .i64 kda, .int .u16 (mba : Int), .slice p3a n3a c3a, .slice p4a n4a c4a, .slice p5a n5a c5a] 49)).alloc (.cells #[.string nmb, .int .i64 kdb, .int .u16 (mbb : Int), .slice p3b n3b c3b, .slice p4b n4b c4b, .slice p5b n5b c5b] 49) = W0
 intro HO
 have z0 := cellOf HO.out.1 (j := 0) rfl; have z1 := cellOf HO.out.1 (j := 1) rfl; have z2 := cellOf HO.out.1 (j := 2) rfl; have z3 := cellOf HO.out.1 (j := 3) rfl; have z4 := cellOf HO.out.1 (j := 4) rfl; have z5 := cellOf HO.out.1 (j := 5) rfl
 go_upto_if 9 with (go_at_call 67; refine (Ha.out _ HO.out.2.2).mono ?_; rintro e w1 ⟨rfl, hb1⟩; have HB1 := Lib.hid (HO.out.2.2.trans (hb1.mono HO.out.2.2.size)); have HR1 := Lib.hid ((hb1.block _ (gLt HO.out.2.1)).trans HO.out.2.1); clear hb1)
 clear z0 z1 z2 z3 z4 z5
 by_cases h : valE kda mba rda wra fsa = 0
 ·have HH := Lib.hid h
  have e0 : (((valE kda mba rda wra fsa : Nat) : Int) != 0) = false := by rw [h]; rfl
  clear h
  have z0 := cellOf HR1.out (j := 0) rfl; have z1 := cellOf HR1.out (j := 1) rfl; have z2 := cellOf HR1.out (j := 2) rfl; have z3 := cellOf HR1.out (j := 3) rfl; have z4 := cellOf HR1.out (j := 4) rfl; have z5 := cellOf HR1.out (j := 5) rfl
  go_wp2_with (go_at_call 67; refine (Hb.out _ HB1.out).mono ?_; rintro e w2 ⟨rfl, hb2⟩; have HB2 := Lib.hid (HB1.out.trans (hb2.mono HB1.out.size)); clear hb2)
  go_ret
  exact ⟨by rw [HE.out, if_neg (fun h => h HH.out)]; rfl, HB2.out⟩
 ·have HH := Lib.hid h
  have e0 : (((valE kda mba rda wra fsa : Nat) : Int) != 0) = true := by simp; omega
  clear h
  go_wp2_with fail
  go_ret
  exact ⟨by rw [HE.out, if_pos HH.out]; rfl, HB1.out⟩
end Go.Proofs.YtmcnpaehmnadeaaGreatDoor
/-
  EpochNext: joint.allowed, sederuntref29.allowed: exactly.
-/
namespace Go.Proofs.YtmcnpaehmnadeaaGreatDoor
open Go Go.RowKit
def alB (kd mb fb all : Int) : Int := bits .or .u16 (bits .and .u16 (if kd = 2 then fb else 0) all) (bits .andNot .u16 all mb)
def alF (mb fb fc all : Int) : Int := bits .or .u16 (bits .and .u16 (bits .or .u16 fb fc) all) (bits .andNot .u16 all mb)
def SetsRet (a b : Int) (w : World) (e : Ending) (w' : World) : Prop := e = .returned (.tuple #[.int .u16 a, .int .u16 b]) ∧ Below w.heap.size w w'
structure AK (w : World) (nm : ByteArray) (kd mb : Int) (s3 s4 s5 : Value) (x y : Int) (W : World) : Prop where
 ca : W.heap[w.heap.size]? = some (.cells #[.string nm, .int .i64 kd, .int .u16 mb, s3, s4, s5] 49 (0, 0))
 fa : W.heap[w.heap.size + 1]? = some (.cells #[.int .u16 x, .int .u16 y] 69 (0, 0))
 bl : Below w.heap.size w W
theorem AK.first {w : World} {nm : ByteArray} {kd mb : Int} {s3 s4 s5 : Value} {x y : Int} : AK w nm kd mb s3 s4 s5 x y ((w.alloc (.cells #[.string nm, .int .i64 kd, .int .u16 mb, s3, s4, s5] 49)).alloc (.cells #[.int .u16 x, .int .u16 y] 69)) :=
 ⟨heap_alloc2_old w _ _, heap_alloc2_new w _ _, ((Below.refl _ _).alloc (Nat.le_refl _) _).alloc (by simp) _⟩
theorem AK.put {w W : World} {nm : ByteArray} {kd mb : Int} {s3 s4 s5 : Value} {x y : Int} (h : AK w nm kd mb s3 s4 s5 x y W) (u : Int) : AK w nm kd mb s3 s4 s5 u y (W.setCell ⟨w.heap.size + 1, 0, none⟩ (.int .u16 u)) :=
 ⟨(set1_other (by omega) _).trans h.ca, by
  have := h.fa
  unfold World.setCell
  simp [Array.getElem?_modify, this], below_set h.bl (p := ⟨w.heap.size + 1, 0, none⟩) (Nat.le_succ _) _⟩
theorem allowed_ex (nm : ByteArray) (kd mb : Int) (p3 : Option Addr) (n3 c3 : Nat) (p4 : Option Addr) (n4 c4 : Nat) (p5 : Option Addr) (n5 c5 : Nat) (x y all : Int) (w : World) :
  Calls Tryz.prog 65 #[.agg #[.string nm, .int .i64 kd, .int .u16 mb, .slice p3 n3 c3, .slice p4 n4 c4, .slice p5 n5 c5], .agg #[.int .u16 x, .int .u16 y], .int .u16 all] w (SetsRet (alB kd mb x all) (alF mb x y all) w) := by
 have HK := Lib.hid (@AK.first w nm kd mb (.slice p3 n3 c3) (.slice p4 n4 c4) (.slice p5 n5 c5) x y)
 go_enter Tryz.func65, Tryz.ntmps65
 go_upto_region 1 with fail
 revert HK
 generalize (w.alloc (.cells #[.string nm, .int .i64 kd, .int .u16 mb, .slice p3 n3 c3, .slice p4 n4 c4, .slice p5 n5 c5] 49)).alloc (.cells #[.int .u16 x, .int .u16 y] 69) = W0
 intro HK
 have z1 := cellOf HK.out.ca (j := 1) rfl; have z2 := cellOf HK.out.ca (j := 2) rfl
 obtain ⟨y0, y1⟩ := cs2 HK.out.fa; have x0 := frozenOf HK.out.fa (j := 0)
 by_cases hk : kd = 2
 ·have HKD := Lib.hid (show alB kd mb x all = bits .or .u16 (bits .and .u16 x all) (bits .andNot .u16 all mb) by unfold alB; rw [if_pos hk])
  have e0 : (kd != 2) = false := by simpa using hk
  clear hk
  go_wp2_with fail
  go_ret2
  exact ⟨by rw [HKD.out]; rfl, HK.out.bl⟩
 ·have HKD := Lib.hid (show alB kd mb x all = bits .or .u16 (bits .and .u16 0 all) (bits .andNot .u16 all mb) by unfold alB; rw [if_neg hk])
  have e0 : (kd != 2) = true := by simpa using hk
  clear hk
  go_upto_region 5 with fail
  have HK2 := Lib.hid (HK.out.put 0)
  clear z1 z2 y0 y1 x0 e0
  revert HK2
  generalize W0.setCell ⟨w.heap.size + 1, 0, none⟩ (.int .u16 0) = W1
  intro HK2
  have z1 := cellOf HK2.out.ca (j := 1) rfl; have z2 := cellOf HK2.out.ca (j := 2) rfl
  obtain ⟨y0, y1⟩ := cs2 HK2.out.fa
  go_wp2_with fail
  go_ret2
  exact ⟨by rw [HKD.out]; rfl, HK2.out.bl⟩
def raB (kd mb fb : Int) : Int := bits .or .u16 (if kd = 2 then fb else 0) (bits .xor .u16 IntKind.u16.max mb)
def raF (mb fb fc : Int) : Int := bits .or .u16 (bits .or .u16 fb fc) (bits .xor .u16 IntKind.u16.max mb)
theorem allowedR_ex (nm : ByteArray) (kd mb : Int) (p3 : Option Addr) (n3 c3 : Nat) (p4 : Option Addr) (n4 c4 : Nat) (p5 : Option Addr) (n5 c5 : Nat) (x y : Int) (w : World) :
  Calls Tryz.prog 71 #[.agg #[.string nm, .int .i64 kd, .int .u16 mb, .slice p3 n3 c3, .slice p4 n4 c4, .slice p5 n5 c5], .agg #[.int .u16 x, .int .u16 y]] w (SetsRet (raB kd mb x) (raF mb x y) w) := by
 have HK := Lib.hid (@AK.first w nm kd mb (.slice p3 n3 c3) (.slice p4 n4 c4) (.slice p5 n5 c5) x y)
 go_enter Tryz.func71, Tryz.ntmps71
 go_upto_region 1 with fail
 revert HK
 generalize (w.alloc (.cells #[.string nm, .int .i64 kd, .int .u16 mb, .slice p3 n3 c3, .slice p4 n4 c4, .slice p5 n5 c5] 49)).alloc (.cells #[.int .u16 x, .int .u16 y] 69) = W0
 intro HK
 have z1 := cellOf HK.out.ca (j := 1) rfl; have z2 := cellOf HK.out.ca (j := 2) rfl
 obtain ⟨y0, y1⟩ := cs2 HK.out.fa
 by_cases hk : kd = 2
 ·have HKD := Lib.hid (show raB kd mb x = bits .or .u16 x (bits .xor .u16 IntKind.u16.max mb) by unfold raB; rw [if_pos hk])
  have e0 : (kd == 2) = true := by simpa using hk
  clear hk
  go_upto_region 4 with fail
  go_quiet (fail)
  go_wp2_with fail
  go_ret2
  exact ⟨by rw [HKD.out]; rfl, below_drewN HK.out.bl _⟩
 ·have HKD := Lib.hid (show raB kd mb x = bits .or .u16 0 (bits .xor .u16 IntKind.u16.max mb) by unfold raB; rw [if_neg hk])
  have e0 : (kd == 2) = false := by simpa using hk
  clear hk
  go_upto_region 4 with fail
  go_quiet (fail)
  go_wp2_with fail
  go_ret2
  exact ⟨by rw [HKD.out]; rfl, below_drewN HK.out.bl _⟩
end Go.Proofs.YtmcnpaehmnadeaaGreatDoor
/-
  EpochNext, plain law: both joint faults are one.
-/
namespace Go.Proofs.YtmcnpaehmnadeaaGreatDoor
open Go Go.RowKit
def bv (a : Int) : BitVec 16 := BitVec.ofInt 16 a
theorem wrap_nat (v : BitVec 16) : IntKind.u16.wrap ((v.toNat : Nat) : Int) = ((v.toNat : Nat) : Int) := by
 have := v.isLt
 rw [show IntKind.u16.wrap ((v.toNat : Nat) : Int) = ((v.toNat : Nat) : Int) % 65536 by simp [IntKind.wrap, IntKind.bits, IntKind.signed]]
 omega
theorem bv_and (a b : Int) : bits .and .u16 a b = (((bv a &&& bv b).toNat : Nat) : Int) := wrap_nat (bv a &&& bv b)
theorem bv_or (a b : Int) : bits .or .u16 a b = (((bv a ||| bv b).toNat : Nat) : Int) := wrap_nat (bv a ||| bv b)
theorem bv_xor (a b : Int) : bits .xor .u16 a b = (((bv a ^^^ bv b).toNat : Nat) : Int) := wrap_nat (bv a ^^^ bv b)
theorem bv_andNot (a b : Int) : bits .andNot .u16 a b = (((bv a &&& ~~~bv b).toNat : Nat) : Int) := wrap_nat (bv a &&& ~~~bv b)
theorem bv_nat (v : BitVec 16) : bv ((v.toNat : Nat) : Int) = v := by simp [bv]
theorem bv_max : bv IntKind.u16.max = BitVec.allOnes 16 := by decide
def jfI (kda mba kdb mbb x y u v : Int) : Int × Int :=
 let all := bits .or .u16 mba mbb
 let bx := bits .and .u16 (alB kdb mbb u all) (alB kda mba x all)
 (bx, bits .andNot .u16 (bits .and .u16 (alF mbb u v all) (alF mba x y all)) bx)
def jfR (kda mba kdb mbb x y u v : Int) : Int × Int :=
 let m := bits .or .u16 mba mbb
 let xz := bits .and .u16 (raB kda mba x) (raB kdb mbb u)
 (bits .and .u16 xz m, bits .andNot .u16 (bits .and .u16 (bits .and .u16 (raF mba x y) (raF mbb u v)) m) xz)
theorem jf_one (kda mba kdb mbb x y u v : Int) : jfI kda mba kdb mbb x y u v = jfR kda mba kdb mbb x y u v := by
 unfold jfI jfR alB alF raB raF
 simp only [bv_and, bv_or, bv_xor, bv_andNot, bv_nat, bv_max]
 generalize (if kda = 2 then x else 0) = xa
 generalize (if kdb = 2 then u else 0) = ub
 generalize bv mba = A
 generalize bv mbb = B
 generalize bv xa = P
 generalize bv ub = Q
 generalize bv x = X
 generalize bv y = Y
 generalize bv u = U
 generalize bv v = V
 refine Prod.ext ?_ ?_
 ·refine congrArg (fun z : BitVec 16 => ((z.toNat : Nat) : Int)) ?_
  refine BitVec.eq_of_getLsbD_eq fun k hk => ?_
  simp only [BitVec.getLsbD_and, BitVec.getLsbD_or, BitVec.getLsbD_xor, BitVec.getLsbD_not, BitVec.getLsbD_allOnes, hk, decide_true, Bool.true_and]
  cases A.getLsbD k <;> cases B.getLsbD k <;> cases P.getLsbD k <;> cases Q.getLsbD k <;> rfl
 ·refine congrArg (fun z : BitVec 16 => ((z.toNat : Nat) : Int)) ?_
  refine BitVec.eq_of_getLsbD_eq fun k hk => ?_
  simp only [BitVec.getLsbD_and, BitVec.getLsbD_or, BitVec.getLsbD_xor, BitVec.getLsbD_not, BitVec.getLsbD_allOnes, hk, decide_true, Bool.true_and]
  cases A.getLsbD k <;> cases B.getLsbD k <;> cases P.getLsbD k <;> cases Q.getLsbD k <;> cases X.getLsbD k <;> cases Y.getLsbD k <;> cases U.getLsbD k <;> cases V.getLsbD k <;> rfl
end Go.Proofs.YtmcnpaehmnadeaaGreatDoor
