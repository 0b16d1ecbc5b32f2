/-
  EpochNext: fault.check, Covers, compare, exactly; lists of faults.
-/
import Derived.Test.YtmcnpaehmnadeaaGreatDoorFaBE
import Derived.Test.YtmcnpaehmnadeaaGreatDoorEwAG
set_option maxHeartbeats 6400000
set_option maxRecDepth 1000000
namespace Go.Proofs.YtmcnpaehmnadeaaGreatDoor
open Go Go.RowKit
def FltL (W : World) (p : Option Addr) (l : List (Nat × Nat)) : Prop := l = [] ∨ ∃ b off, p = some ⟨b, off, none⟩ ∧ b < W.heap.size ∧ ∀ i (h : i < l.length), W.cell? ⟨b, off + i * 2, none⟩ = some (.int .u16 (l[i].1 : Nat)) ∧ W.cell? ⟨b, off + i * 2 + 1, none⟩ = some (.int .u16 (l[i].2 : Nat))
theorem FltL.below {W W' : World} {p : Option Addr} {l : List (Nat × Nat)} (h : FltL W p l) (hb : Below W.heap.size W W') : FltL W' p l := by
 rcases h with h | ⟨b, off, h1, h2, h3⟩
 ·exact .inl h
 ·exact .inr ⟨b, off, h1, Nat.lt_of_lt_of_le h2 hb.size, fun i hi => ⟨(hb.cell (p := ⟨b, off + i * 2, none⟩) h2).trans (h3 i hi).1, (hb.cell (p := ⟨b, off + i * 2 + 1, none⟩) h2).trans (h3 i hi).2⟩⟩
theorem FltL.at {W : World} {p : Option Addr} {l : List (Nat × Nat)} (h : FltL W p l) {k : Nat} (hk : k < l.length) : ∃ b off, p = some ⟨b, off, none⟩ ∧ b < W.heap.size ∧ W.cell? ⟨b, off + k * 2, none⟩ = some (.int .u16 (l[k].1 : Nat)) ∧ W.cell? ⟨b, off + k * 2 + 1, none⟩ = some (.int .u16 (l[k].2 : Nat)) := by
 rcases h with rfl | ⟨b, off, h1, h2, h3⟩
 ·simp at hk
 ·exact ⟨b, off, h1, h2, (h3 k hk).1, (h3 k hk).2⟩
def chkE (x y : Nat) : Nat := if bits .andNot .u16 (orS x y) 4095 ≠ 0 then 7 else if bits .and .u16 (x : Int) (y : Int) ≠ 0 then 1 else 0
def cmpF (a b c d : Nat) : Int := orI (cmpS a c) (cmpS b d)
def InF (l : List (Nat × Nat)) : Prop := ∀ f ∈ l, f.1 < 65536 ∧ f.2 < 65536
theorem faultyI_ex (a b : Int) (w : World) : Calls Tryz.prog 137 #[.agg #[.int .u16 a, .int .u16 b]] w fun e w' => e = .returned (.int .u16 (orS a b)) ∧ Below w.heap.size w w' := by
 go_enter Tryz.func137, Tryz.ntmps137
 go_wp2_with fail
 go_ret
 exact ⟨rfl, (Below.refl _ _).alloc (Nat.le_refl _) _⟩
theorem check_ex (x y : Nat) (w : World) : Calls Tryz.prog 98 #[.agg #[.int .u16 (x : Int), .int .u16 (y : Int)]] w (IsI (chkE x y) w) := by
 have hb : Below w.heap.size w (w.alloc (.cells #[.int .u16 (x : Int), .int .u16 (y : Int)] 69)) := (Below.refl _ _).alloc (Nat.le_refl _) _
 have HB := Lib.hid hb
 have HR := Lib.hid (heap_alloc_new w (.cells #[.int .u16 (x : Int), .int .u16 (y : Int)] 69))
 have HE := Lib.hid (show chkE x y = if bits .andNot .u16 (orS x y) 4095 ≠ 0 then 7 else if bits .and .u16 (x : Int) (y : Int) ≠ 0 then 1 else 0 from rfl)
 clear hb
 go_enter Tryz.func98, Tryz.ntmps98
 go_upto_region 1 with fail
 revert HB HR
 generalize w.alloc (.cells #[.int .u16 (x : Int), .int .u16 (y : Int)] 69) = W0
 intro HB HR
 have z0 := cellOf HR.out (j := 0) rfl
 have z1 := cellOf HR.out (j := 1) rfl
 go_upto_if 6 with (go_at_call 137; refine (faultyI_ex x y _).mono ?_; rintro e w1 ⟨rfl, hb1⟩; have HB1 := Lib.hid (HB.out.trans (hb1.mono HB.out.size)); have HR1 := Lib.hid ((hb1.block _ (gLt HR.out)).trans HR.out); clear hb1)
 have y0 := cellOf HR1.out (j := 0) rfl
 have y1 := cellOf HR1.out (j := 1) rfl
 by_cases h1 : bits .andNot .u16 (orS x y) 4095 = 0
 ·have H1 := Lib.hid h1
  by_cases h2 : bits .and .u16 (x : Int) (y : Int) = 0
  ·have H2 := Lib.hid h2
   go_wp2_with fail
   go_ret
   exact ⟨by rw [HE.out, H1.out, H2.out]; rfl, HB1.out⟩
  ·have H2 := Lib.hid h2
   go_wp2_with fail
   go_ret
   exact ⟨by rw [HE.out, H1.out, if_pos (show _ ≠ _ from H2.out)]; rfl, HB1.out⟩
 ·have H1 := Lib.hid h1
  go_wp2_with fail
  go_ret
  exact ⟨by rw [HE.out, if_pos (show _ ≠ _ from H1.out)]; rfl, HB1.out⟩
theorem coversI_ex (a b c d : Int) (w : World) : Calls Tryz.prog 129 #[.agg #[.int .u16 a, .int .u16 b], .agg #[.int .u16 c, .int .u16 d]] w (IsB (cB a b c d) w) := by
 have HT := Lib.hid (show TF w a b c d w.heap.size ((w.alloc (.cells #[.int .u16 a, .int .u16 b] 69)).alloc (.cells #[.int .u16 c, .int .u16 d] 69)) from ⟨heap_alloc2_old w _ _, heap_alloc2_new w _ _, ((Below.refl _ _).alloc (Nat.le_refl _) _).alloc (by simp) _⟩)
 go_enter Tryz.func129, Tryz.ntmps129
 go_upto_region 1 with fail
 revert HT
 generalize (w.alloc (.cells #[.int .u16 a, .int .u16 b] 69)).alloc (.cells #[.int .u16 c, .int .u16 d] 69) = W0
 generalize w.heap.size = A
 intro HT
 by_cases hw : bits .andNot .u16 c a = 0
 ·have HW := Lib.hid (show wB c a = true by simp [wB, hw])
  go_region_held3 (fun W => W.cell? ⟨A, 0, none⟩ = some (.int .u16 a) ∧ W.cell? ⟨A, 1, none⟩ = some (.int .u16 b) ∧ W.cell? ⟨A + 1, 0, none⟩ = some (.int .u16 c) ∧ W.cell? ⟨A + 1, 1, none⟩ = some (.int .u16 d) ∧ TF w a b c d A W)
   (first | exact tfS HT.out | exact tfS (HT.out.below (below_drew _)) | exact tfS hT2 | exact tfS hT3)
   (first
    | (go_at_call 137; (with_reducible refine (faultyI_ex c d _).mono ?_); rintro e w2 ⟨rfl, hb2⟩; have hT2 := (HT.out.below (below_drew _)).below hb2)
    | (go_at_call 137; (with_reducible refine (faultyI_ex a b _).mono ?_); rintro e w3 ⟨rfl, hb3⟩; have hT3 := hT2.below hb3))
  go_wp2_with fail
  go_ret
  exact ⟨by unfold cB; rw [HW.out]; rfl, hT3.bl⟩
 ·obtain ⟨q0, q1, q2, q3, _⟩ := tfS HT.out
  have HW := Lib.hid (show wB c a = false by simp [wB, hw])
  go_quiet (fail)
  go_wp2_with fail
  go_ret
  exact ⟨by unfold cB; rw [HW.out]; rfl, below_drewN HT.out.bl _⟩
theorem compareFI_ex (a b c d : Nat) (ha : a < 4096) (hb : b < 4096) (hc : c < 4096) (hd : d < 4096) (w : World) : Calls Tryz.prog 130 #[.agg #[.int .u16 (a : Int), .int .u16 (b : Int)], .agg #[.int .u16 (c : Int), .int .u16 (d : Int)]] w (IsI (cmpF a b c d) w) := by
 have HT := Lib.hid (show TF w (a : Int) (b : Int) (c : Int) (d : Int) w.heap.size ((w.alloc (.cells #[.int .u16 (a : Int), .int .u16 (b : Int)] 69)).alloc (.cells #[.int .u16 (c : Int), .int .u16 (d : Int)] 69)) from ⟨heap_alloc2_old w _ _, heap_alloc2_new w _ _, ((Below.refl _ _).alloc (Nat.le_refl _) _).alloc (by simp) _⟩)
 go_enter Tryz.func130, Tryz.ntmps130
 go_upto_region 1 with fail
 revert HT
 generalize (w.alloc (.cells #[.int .u16 (a : Int), .int .u16 (b : Int)] 69)).alloc (.cells #[.int .u16 (c : Int), .int .u16 (d : Int)] 69) = W0
 generalize w.heap.size = A
 intro HT
 go_region_held3 (fun W => W.cell? ⟨A, 0, none⟩ = some (.int .u16 (a : Int)) ∧ W.cell? ⟨A, 1, none⟩ = some (.int .u16 (b : Int)) ∧ W.cell? ⟨A + 1, 0, none⟩ = some (.int .u16 (c : Int)) ∧ W.cell? ⟨A + 1, 1, none⟩ = some (.int .u16 (d : Int)) ∧ TF w (a : Int) (b : Int) (c : Int) (d : Int) A W)
  (first | exact tfS HT.out | exact tfS (HT.out.below (below_drew _)) | exact tfS hT1 | exact tfS hT2 | exact tfS (hT2.below ((Below.refl _ _).alloc (Nat.le_refl _) _)))
  (first
   | (go_at_call 131; (with_reducible refine (compareSet_ex a c ha hc _).mono ?_); rintro e w1 ⟨rfl, hb1⟩; have hT1 := (HT.out.below (below_drew _)).below hb1)
   | (go_at_call 131; (with_reducible refine (compareSet_ex b d hb hd _).mono ?_); rintro e w2 ⟨rfl, hb2⟩; have hT2 := hT1.below hb2)
   | (go_at_call 159; refine (cmpOr_ex _ _ (cmpS a c) (cmpS b d) _ (cellOf (heap_alloc_new _ _) rfl) (cellOf (heap_alloc_new _ _) rfl)).mono ?_; rintro e w3 ⟨rfl, rfl⟩))
 go_wp2_with fail
 go_ret
 exact ⟨rfl, (hT2.below ((Below.refl _ _).alloc (Nat.le_refl _) _)).bl⟩
end Go.Proofs.YtmcnpaehmnadeaaGreatDoor
/-
  EpochNext: fault.Valid, exactly.
-/
namespace Go.Proofs.YtmcnpaehmnadeaaGreatDoor
open Go Go.RowKit
def covP (a b : Nat × Nat) : Bool := cB a.1 a.2 b.1 b.2 || cB b.1 b.2 a.1 a.2
def covV (l : List (Nat × Nat)) (a : Nat × Nat) : Nat → Bool
 | 0 => false
 | j + 1 => covV l a j || covP a (l.getD j (0, 0))
theorem covV_mono {l : List (Nat × Nat)} {a : Nat × Nat} {k n : Nat} (h : covV l a k = true) (hk : k ≤ n) : covV l a n = true := by
 induction hk with
 | refl => exact h
 | step _ ih => simp [covV, ih]
def fstep (l : List (Nat × Nat)) (i : Nat) (a : Nat × Nat) : Nat :=
 if chkE a.1 a.2 ≠ 0 then chkE a.1 a.2 else if covV l a i then 5 else if 0 < i ∧ 0 ≤ cmpF (l.getD (i - 1) (0, 0)).1 (l.getD (i - 1) (0, 0)).2 a.1 a.2 then 1 else 0
def fscan (l : List (Nat × Nat)) : Nat → Nat
 | 0 => 0
 | k + 1 => if fscan l k ≠ 0 then fscan l k else fstep l k (l.getD k (0, 0))
def fltE (l : List (Nat × Nat)) : Nat := if l.length = 0 then 9 else if 100 < l.length then 3 else fscan l l.length
theorem fscan_mono {l : List (Nat × Nat)} {k n e : Nat} (h : fscan l k = e) (he : e ≠ 0) (hk : k ≤ n) : fscan l n = e := by
 induction hk with
 | refl => exact h
 | step _ ih => rw [fscan, ih, if_pos he]
theorem fscan_zero {l : List (Nat × Nat)} : ∀ {k : Nat}, fscan l k = 0 → ∀ j, j < k → fstep l j (l.getD j (0, 0)) = 0
 | 0, _, _, h => absurd h (Nat.not_lt_zero _)
 | k + 1, h, j, hj => by
  rw [fscan] at h
  by_cases h0 : fscan l k = 0
  ·rw [if_neg (by simpa using h0)] at h
   by_cases hjk : j = k
   ·subst hjk; exact h
   ·exact fscan_zero h0 j (by omega)
  ·rw [if_pos h0] at h
   exact absurd h h0
theorem fstep_zero {l : List (Nat × Nat)} {i : Nat} {a : Nat × Nat} (h : fstep l i a = 0) : chkE a.1 a.2 = 0 := by
 unfold fstep at h
 by_cases h0 : chkE a.1 a.2 = 0
 ·exact h0
 ·rw [if_pos h0] at h
  exact h
theorem andNot4095 (s : Int) : bits .andNot .u16 s 4095 = bits .and .u16 s 61440 := by
 unfold bits
 rfl
theorem orS_nat {x y : Nat} (hx : x < 65536) (hy : y < 65536) : orS (x : Int) (y : Int) = ((x ||| y : Nat) : Int) :=
 (bits_nat .u16 16 (by decide) (fun n h0 h1 => by simp [IntKind.wrap, IntKind.bits, IntKind.signed]; omega) x y hx hy).2
theorem chk_zero {x y : Nat} (h : chkE x y = 0) (hx : x < 65536) (hy : y < 65536) : x < 4096 ∧ y < 4096 := by
 unfold chkE at h
 by_cases h1 : bits .andNot .u16 (orS x y) 4095 = 0
 ·rw [orS_nat hx hy, andNot4095] at h1
  rw [range_iff (Nat.or_lt_two_pow (n := 16) hx hy)] at h1
  exact ⟨Nat.lt_of_le_of_lt Nat.left_le_or h1, Nat.lt_of_le_of_lt Nat.right_le_or h1⟩
 ·rw [if_pos h1] at h
  cases h
structure FV (w : World) (A x y : Nat) (W : World) : Prop where
 ra : W.heap[A]? = some (.cells #[.int .u16 (x : Int), .int .u16 (y : Int)] 69 (0, 0))
 bl : Below w.heap.size w W
theorem FV.below {w W W' : World} {A x y : Nat} (h : FV w A x y W) (hb : Below W.heap.size W W') : FV w A x y W' := ⟨(hb.block _ (gLt h.ra)).trans h.ra, h.bl.trans (hb.mono h.bl.size)⟩
theorem fvS {w W : World} {A x y b o u v : Nat} (h : FV w A x y W) (hb : b < w.heap.size) (h0 : w.cell? ⟨b, o, none⟩ = some (.int .u16 (u : Int))) (h1 : w.cell? ⟨b, o + 1, none⟩ = some (.int .u16 (v : Int))) : W.cell? ⟨b, o, none⟩ = some (.int .u16 (u : Int)) ∧ W.cell? ⟨b, o + 1, none⟩ = some (.int .u16 (v : Int)) ∧ W.cell? ⟨A, 0, none⟩ = some (.int .u16 (x : Int)) ∧ W.cell? ⟨A, 1, none⟩ = some (.int .u16 (y : Int)) ∧ FV w A x y W :=
 ⟨(h.bl.cell (p := ⟨b, o, none⟩) hb).trans h0, (h.bl.cell (p := ⟨b, o + 1, none⟩) hb).trans h1, cellOf h.ra rfl, cellOf h.ra rfl, h⟩
theorem faultValid_ex (p : Option Addr) (m cap : Nat) (l : List (Nat × Nat)) (w : World) (hm : l.length = m) (hl : m ≤ cap) (hr : InF l) (h : FltL w p l) : Calls Tryz.prog 94 #[.slice p m cap] w (IsI (fltE l) w) := by
 have H := Lib.hid h
 have HM := Lib.hid hm
 have HR := Lib.hid hr
 have HC := Lib.hid hl
 have HE := Lib.hid (show fltE l = if l.length = 0 then 9 else if 100 < l.length then 3 else fscan l l.length from rfl)
 clear h hm hr hl
 by_cases h0 : m = 0
 ·subst h0
  go_enter Tryz.func94, Tryz.ntmps94
  go_wp2_with fail
  go_ret
  exact ⟨by rw [HE.out, HM.out]; rfl, Below.refl _ _⟩
 ·have e00 : ((m : Int) == 0) = false := by rw [beq_eq_false_iff_ne]; omega
  have e01 : ¬ (m : Int) = 0 := by omega
  by_cases h4 : 100 < m
  ·have e0 : (100 : Int) < (m : Int) := by omega
   go_enter Tryz.func94, Tryz.ntmps94
   go_wp2_with fail
   go_ret
   exact ⟨by rw [HE.out, HM.out, if_neg h0, if_pos h4]; rfl, Below.refl _ _⟩
  ·have e0 : ¬ (100 : Int) < (m : Int) := by omega
   have hm4 : m ≤ 100 := by omega
   have hE : fltE l = fscan l l.length := by rw [HE.out, HM.out, if_neg h0, if_neg h4]
   have HE2 := Lib.hid hE
   clear hE HE
   go_enter Tryz.func94, Tryz.ntmps94
   go_upto_block 0 with fail
   clear e00 e01 e0 h4
   go_wp2_with fail
   go_loopw [16] (fun i wr => ∃ k : Nat, k ≤ m ∧ i = .int .i64 k ∧ fscan l k = 0 ∧ Below w.heap.size w wr) (fun i _ => m - (intOf i).toNat)
   case atStart => exact ⟨0, Nat.zero_le _, rfl, rfl, Below.refl _ _⟩
   case round =>
    obtain ⟨k, hk, rfl, hs, hb⟩ := hrel
    have HS := Lib.hid hs
    have HB := Lib.hid hb
    clear hs hb
    by_cases hkm : k < m
    ·have hkl : k < l.length := by have := HM.out; omega
     obtain ⟨b, off, rfl, hbb, hx0, hy0⟩ := H.out.at hkl
     have hx1 := (HB.out.cell (p := ⟨b, off + k * 2, none⟩) hbb).trans hx0
     have hy1 := (HB.out.cell (p := ⟨b, off + k * 2 + 1, none⟩) hbb).trans hy0
     have hgd : l.getD k (0, 0) = l[k] := by simp [hkl]
     have hst : fscan l (k + 1) = fstep l k l[k] := by rw [fscan, if_neg (by simpa using HS.out), hgd]
     have HST := Lib.hid hst
     have HIN := Lib.hid (HR.out _ (List.getElem_mem hkl))
     have HMO := Lib.hid (fun e he h => @fscan_mono l (k + 1) l.length e h he hkl)
     clear hx0 hy0 hgd hst
     generalize l[k] = a at hx1 hy1 HST HIN
     obtain ⟨x, y⟩ := a
     simp only at hx1 hy1
     go_upto_if 24 with (go_at_call 98; refine (check_ex x y _).mono ?_; rintro e w1 ⟨rfl, hb1⟩)
     have HV := Lib.hid (show FV w wr.heap.size x y w1 from ⟨(hb1.block _ (by simp)).trans (heap_alloc_new wr (.cells #[.int .u16 (x : Int), .int .u16 (y : Int)] 69)), (HB.out.trans ((Below.refl _ _).alloc HB.out.size _)).trans (hb1.mono (by have := HB.out.size; simp; omega))⟩)
     clear hx1 hy1 hb1
     generalize wr.heap.size = A at HV ⊢
     by_cases hch : chkE x y = 0
     ·have HCH := Lib.hid hch
      have e0 : ((chkE x y : Nat) : Int) = 0 := by rw [hch]; rfl
      have e0b : (((chkE x y : Nat) : Int) != 0) = false := by rw [hch]; rfl
      clear hch
      have e1 : (k : Int) ≤ (cap : Int) := by have := HC.out; omega
      have e2 : k ≤ cap := by have := HC.out; omega
      simp only [e0b]
      go_upto_region 11 with fail
      clear e0 e0b
      go_upto_block 2 with fail
      clear e1 e2
      go_cut [] (fun wx => covV l (x, y) k = false ∧ FV w A x y wx)
      case first =>
       go_wp2_with fail
       go_loopw [30] (fun i wx => ∃ j : Nat, j ≤ k ∧ i = .int .i64 j ∧ covV l (x, y) j = false ∧ FV w A x y wx) (fun i _ => k - (intOf i).toNat)
       case atStart => exact ⟨0, Nat.zero_le _, rfl, rfl, HV.out⟩
       case round =>
        obtain ⟨j, hj, rfl, hcv, hv⟩ := hrel
        have HCV := Lib.hid hcv
        have HV2 := Lib.hid hv
        clear hcv hv
        by_cases hjk : j < k
        ·have hjl : j < l.length := by omega
         obtain ⟨b2, off2, hpe, _, hu0, hv0⟩ := H.out.at hjl
         obtain ⟨rfl, rfl⟩ : b2 = b ∧ off2 = off := by
          injection hpe with hpe
          injection hpe with h1 h2
          exact ⟨h1.symm, h2.symm⟩
         have hu1 := (HV2.out.bl.cell (p := ⟨b2, off2 + j * 2, none⟩) hbb).trans hu0
         have hv1 := (HV2.out.bl.cell (p := ⟨b2, off2 + j * 2 + 1, none⟩) hbb).trans hv0
         have hgd : l.getD j (0, 0) = l[j] := by simp [hjl]
         have HSJ := Lib.hid (show covV l (x, y) (j + 1) = covP (x, y) l[j] by rw [covV, HCV.out, hgd]; rfl)
         clear hpe hu0 hv0 hgd
         generalize l[j] = c at hu1 hv1 HSJ
         obtain ⟨u, v⟩ := c
         simp only at hu1 hv1
         have e3 : (j : Int) < (k : Int) := by omega
         have e4 : (j : Int) < (m : Int) := by omega
         go_upto_region 14 with fail
         have HX := Lib.hid (heap_alloc_new wr (.cells #[.int .u16 (u : Int), .int .u16 (v : Int)] 69))
         have HV3 := Lib.hid (HV2.out.below ((Below.refl _ _).alloc (Nat.le_refl _) (.cells #[.int .u16 (u : Int), .int .u16 (v : Int)] 69)))
         clear hu1 hv1
         revert HX HV3
         generalize wr.alloc (.cells #[.int .u16 (u : Int), .int .u16 (v : Int)] 69) = W3
         generalize wr.heap.size = X
         intro HX HV3
         have z0 := cellOf HV3.out.ra (j := 0) rfl
         have z1 := cellOf HV3.out.ra (j := 1) rfl
         have x0 := cellOf HX.out (j := 0) rfl
         have x1 := cellOf HX.out (j := 1) rfl
         have HC1 := Lib.hid (fun W => coversI_ex (x : Int) (y : Int) (u : Int) (v : Int) W)
         have HC2 := Lib.hid (fun W => coversI_ex (u : Int) (v : Int) (x : Int) (y : Int) W)
         cases h1 : cB (x : Int) (y : Int) (u : Int) (v : Int)
         ·have H1 := Lib.hid h1
          rw [h1] at HC1
          clear h1
          cases h2 : cB (u : Int) (v : Int) (x : Int) (y : Int)
          ·have H2 := Lib.hid h2
           rw [h2] at HC2
           clear h2
           go_wp2_with (first
            | (go_at_call 129; (with_reducible refine (HC1.out _).mono ?_); rintro e w4 ⟨rfl, hb4⟩; have HV4 := Lib.hid (HV3.out.below hb4); have hX4 := (hb4.block _ (gLt HX.out)).trans HX.out; obtain ⟨z0, z1⟩ := cs2 HV4.out.ra; obtain ⟨x0, x1⟩ := cs2 hX4; clear hb4)
            | (go_at_call 129; (with_reducible refine (HC2.out _).mono ?_); rintro e w5 ⟨rfl, hb5⟩; have HV5 := Lib.hid (HV4.out.below hb5); clear hb5))
           go_roundw
           case rel => exact ⟨j + 1, by omega, by go_num, by rw [HSJ.out]; unfold covP; rw [H1.out, H2.out]; rfl, HV5.out⟩
           case measure => simp [intOf]; omega
          ·have H2 := Lib.hid h2
           rw [h2] at HC2
           clear h2
           have HK1 := Lib.hid (show j + 1 ≤ k from hjk)
           go_wp2_with (first
            | (go_at_call 129; (with_reducible refine (HC1.out _).mono ?_); rintro e w4 ⟨rfl, hb4⟩; have HV4 := Lib.hid (HV3.out.below hb4); have hX4 := (hb4.block _ (gLt HX.out)).trans HX.out; obtain ⟨z0, z1⟩ := cs2 HV4.out.ra; obtain ⟨x0, x1⟩ := cs2 hX4; clear hb4)
            | (go_at_call 129; (with_reducible refine (HC2.out _).mono ?_); rintro e w5 ⟨rfl, hb5⟩; have HV5 := Lib.hid (HV4.out.below hb5); clear hb5))
           go_ret
           refine ⟨?_, HV5.out.bl⟩
           rw [HE2.out, HMO.out 5 (by omega) (by rw [HST.out]; unfold fstep; rw [if_neg (fun h => h HCH.out), if_pos (covV_mono (by rw [HSJ.out]; unfold covP; rw [H1.out, H2.out]; rfl) HK1.out)])]
           rfl
         ·have H1 := Lib.hid h1
          rw [h1] at HC1
          clear h1
          have HK1 := Lib.hid (show j + 1 ≤ k from hjk)
          go_wp2_with (go_at_call 129; (with_reducible refine (HC1.out _).mono ?_); rintro e w4 ⟨rfl, hb4⟩; have HV4 := Lib.hid (HV3.out.below hb4); clear hb4)
          go_ret
          refine ⟨?_, HV4.out.bl⟩
          rw [HE2.out, HMO.out 5 (by omega) (by rw [HST.out]; unfold fstep; rw [if_neg (fun h => h HCH.out), if_pos (covV_mono (by rw [HSJ.out]; unfold covP; rw [H1.out]; rfl) HK1.out)])]
          rfl
        ·obtain rfl : j = k := by omega
         go_wp2_with fail
         go_meet
         exact ⟨HCV.out, HV2.out⟩
      case rest =>
       obtain ⟨hcv, hv⟩ := hcut
       have HCV := Lib.hid hcv
       have HV2 := Lib.hid hv
       clear hcv hv
       go_upto_region 17 with fail
       rcases Nat.eq_zero_or_pos k with hk0 | hk0
       ·have HF := Lib.hid (show fstep l k (x, y) = 0 by unfold fstep; rw [if_neg (fun h => h HCH.out), HCV.out, if_neg (by simp), if_neg (by rw [hk0]; simp)])
        have e3 : decide ((0 : Int) < (k : Int)) = false := by simp; omega
        go_quiet (fail)
        go_wp2_with fail
        go_roundw
        case rel => exact ⟨k + 1, by omega, by go_num, by rw [HST.out]; exact HF.out, below_drewN HV2.out.bl _⟩
        case measure => simp [intOf]; omega
       ·obtain ⟨j, hj⟩ : ∃ j, k = j + 1 := ⟨k - 1, by omega⟩
        have hjl : j < l.length := by omega
        obtain ⟨b2, off2, hpe, _, hu0, hv0⟩ := H.out.at hjl
        obtain ⟨rfl, rfl⟩ : b2 = b ∧ off2 = off := by
         injection hpe with hpe
         injection hpe with h1 h2
         exact ⟨h1.symm, h2.symm⟩
        have hgd : l.getD (k - 1) (0, 0) = l[j] := by rw [hj]; simp [hjl]
        have hgj : l.getD j (0, 0) = l[j] := by simp [hjl]
        have hjj := fscan_zero HS.out j (by omega)
        rw [hgj] at hjj
        have hlt := chk_zero (fstep_zero hjj) (HR.out _ (List.getElem_mem hjl)).1 (HR.out _ (List.getElem_mem hjl)).2
        have hxy := chk_zero HCH.out HIN.out.1 HIN.out.2
        have HF := Lib.hid (show fstep l k (x, y) = if 0 ≤ cmpF l[j].1 l[j].2 x y then 1 else 0 by
         unfold fstep
         rw [if_neg (fun h => h HCH.out), HCV.out, if_neg (by simp), hgd]
         by_cases h : 0 ≤ cmpF l[j].1 l[j].2 x y
         ·rw [if_pos ⟨hk0, h⟩, if_pos h]
         ·rw [if_neg (fun h2 => h h2.2), if_neg h])
        clear hpe hgd hgj hjj
        generalize l[j] = c at hu0 hv0 hlt HF
        obtain ⟨u, v⟩ := c
        simp only at hu0 hv0 hlt
        have e3 : (0 : Int) < (k : Int) := by omega
        have e3b : decide ((0 : Int) < (k : Int)) = true := by simp; omega
        have ew : IntKind.i64.wrap ((k : Int) - 1) = (k : Int) - 1 := by rw [IntKind.wrap_i64]; omega
        have e4 : (0 : Int) ≤ (k : Int) - 1 := by omega
        have e5 : (k : Int) - 1 < (m : Int) := by omega
        have e6 : ((k : Int) - 1).toNat = j := by omega
        have e7 : (1 : Int) ≤ (k : Int) := by omega
        have HUV := Lib.hid (And.intro hu0 hv0)
        have HLT := Lib.hid (And.intro hlt hxy)
        clear hj hu0 hv0 hlt hxy
        go_region_held3 (fun W => W.cell? ⟨b2, off2 + j * 2, none⟩ = some (.int .u16 (u : Int)) ∧ W.cell? ⟨b2, off2 + j * 2 + 1, none⟩ = some (.int .u16 (v : Int)) ∧ W.cell? ⟨A, 0, none⟩ = some (.int .u16 (x : Int)) ∧ W.cell? ⟨A, 1, none⟩ = some (.int .u16 (y : Int)) ∧ FV w A x y W)
         (first | exact fvS HV2.out hbb HUV.out.1 HUV.out.2 | exact fvS (HV2.out.below (below_drew _)) hbb HUV.out.1 HUV.out.2 | exact fvS hV3 hbb HUV.out.1 HUV.out.2)
         ((go_at_call 130; refine (compareFI_ex u v x y HLT.out.1.1 HLT.out.1.2 HLT.out.2.1 HLT.out.2.2 _).mono ?_; rintro e w3 ⟨rfl, hb3⟩; have hV3 := (HV2.out.below (below_drew _)).below hb3))
        have HV3 := Lib.hid hV3
        clear hV3 hb3
        by_cases hcp : 0 ≤ cmpF u v x y
        ·have HCP := Lib.hid hcp
         go_wp2_with fail
         go_ret
         exact ⟨by rw [HE2.out, HMO.out 1 (by omega) (by rw [HST.out, HF.out, if_pos HCP.out])]; rfl, HV3.out.bl⟩
        ·have HCP := Lib.hid hcp
         go_wp2_with fail
         go_roundw
         case rel => exact ⟨k + 1, by omega, by go_num, by rw [HST.out, HF.out, if_neg HCP.out], HV3.out.bl⟩
         case measure => simp [intOf]; omega
     ·have HCH := Lib.hid hch
      have e0 : ¬ ((chkE x y : Nat) : Int) = 0 := by omega
      clear hch
      go_wp2_with fail
      go_ret
      exact ⟨by rw [HE2.out, HMO.out _ HCH.out (by rw [HST.out]; unfold fstep; rw [if_pos HCH.out])]; rfl, HV.out.bl⟩
    ·obtain rfl : k = m := by omega
     rw [← HM.out] at HS
     go_wp2_with fail
     go_ret
     exact ⟨by rw [HE2.out, HS.out]; rfl, HB.out⟩
end Go.Proofs.YtmcnpaehmnadeaaGreatDoor
/-
  EpochNext: config.Valid, exactly.
-/
namespace Go.Proofs.YtmcnpaehmnadeaaGreatDoor
open Go Go.RowKit
def valE (kd : Int) (mb : Nat) (rd wr : List Nat) (fs : List (Nat × Nat)) : Nat :=
 if kd ≠ 1 ∧ kd ≠ 2 then 1 else if 4096 ≤ mb then 7 else if mb = 0 then 9 else if cfE rd mb ≠ 0 then cfE rd mb else if cfE wr mb ≠ 0 then cfE wr mb else fltE fs
def NameOk (nm : ByteArray) : Prop := (∀ W, Calls Tryz.prog 92 #[.string nm] W (IsB true W)) ∧ (∀ W, Calls Tryz.prog 100 #[.string nm] W (IsB true W))
structure CfgL (W : World) (nm : ByteArray) (mb : Nat) (p3 : Option Addr) (n3 c3 : Nat) (p4 : Option Addr) (n4 c4 : Nat) (p5 : Option Addr) (n5 c5 : Nat) (rd wr : List Nat) (fs : List (Nat × Nat)) : Prop where
 nm : NameOk nm
 mb : mb < 65536
 l3 : rd.length = n3
 k3 : n3 ≤ c3
 i3 : c3 ≤ 9223372036854775807
 r3 : InR rd
 s3 : SetL W p3 rd
 l4 : wr.length = n4
 k4 : n4 ≤ c4
 i4 : c4 ≤ 9223372036854775807
 r4 : InR wr
 s4 : SetL W p4 wr
 l5 : fs.length = n5
 k5 : n5 ≤ c5
 i5 : c5 ≤ 9223372036854775807
 r5 : InF fs
 s5 : FltL W p5 fs
theorem CfgL.below {W W' : World} {nm : ByteArray} {mb : Nat} {p3 : Option Addr} {n3 c3 : Nat} {p4 : Option Addr} {n4 c4 : Nat} {p5 : Option Addr} {n5 c5 : Nat} {rd wr : List Nat} {fs : List (Nat × Nat)} (h : CfgL W nm mb p3 n3 c3 p4 n4 c4 p5 n5 c5 rd wr fs) (hb : Below W.heap.size W W') : CfgL W' nm mb p3 n3 c3 p4 n4 c4 p5 n5 c5 rd wr fs :=
 { h with s3 := h.s3.below hb, s4 := h.s4.below hb, s5 := h.s5.below hb }
structure CW (w : World) (A : Nat) (nm : ByteArray) (kd : Int) (mb : Nat) (p3 : Option Addr) (n3 c3 : Nat) (p4 : Option Addr) (n4 c4 : Nat) (p5 : Option Addr) (n5 c5 : Nat) (W : World) : Prop where
 ra : W.heap[A]? = some (.cells #[.string nm, .int .i64 kd, .int .u16 (mb : Int), .slice p3 n3 c3, .slice p4 n4 c4, .slice p5 n5 c5] 49 (0, 0))
 bl : Below w.heap.size w W
theorem CW.below {w W W' : World} {A : Nat} {nm : ByteArray} {kd : Int} {mb : Nat} {p3 : Option Addr} {n3 c3 : Nat} {p4 : Option Addr} {n4 c4 : Nat} {p5 : Option Addr} {n5 c5 : Nat} (h : CW w A nm kd mb p3 n3 c3 p4 n4 c4 p5 n5 c5 W) (hb : Below W.heap.size W W') : CW w A nm kd mb p3 n3 c3 p4 n4 c4 p5 n5 c5 W' := ⟨(hb.block _ (gLt h.ra)).trans h.ra, h.bl.trans (hb.mono h.bl.size)⟩
theorem confValid_ex (nm : ByteArray) (kd : Int) (mb : Nat) (p3 : Option Addr) (n3 c3 : Nat) (p4 : Option Addr) (n4 c4 : Nat) (p5 : Option Addr) (n5 c5 : Nat) (rd wr : List Nat) (fs : List (Nat × Nat)) (w : World) (h : CfgL w nm mb p3 n3 c3 p4 n4 c4 p5 n5 c5 rd wr fs) :
  Calls Tryz.prog 61 #[.agg #[.string nm, .int .i64 kd, .int .u16 (mb : Int), .slice p3 n3 c3, .slice p4 n4 c4, .slice p5 n5 c5]] w (IsI (valE kd mb rd wr fs) w) := by
 have H := Lib.hid h
 have hmb := h.mb
 have HC := Lib.hid (show CW w w.heap.size nm kd mb p3 n3 c3 p4 n4 c4 p5 n5 c5 (w.alloc (.cells #[.string nm, .int .i64 kd, .int .u16 (mb : Int), .slice p3 n3 c3, .slice p4 n4 c4, .slice p5 n5 c5] 49)) from ⟨heap_alloc_new w _, (Below.refl _ _).alloc (Nat.le_refl _) _⟩)
 have HE := Lib.hid (show valE kd mb rd wr fs = if kd ≠ 1 ∧ kd ≠ 2 then 1 else if 4096 ≤ mb then 7 else if mb = 0 then 9 else if cfE rd mb ≠ 0 then cfE rd mb else if cfE wr mb ≠ 0 then cfE wr mb else fltE fs from rfl)
 clear h
 go_enter Tryz.func61, Tryz.ntmps61
 go_upto_block 0 with fail
 revert HC
 generalize w.alloc (.cells #[.string nm, .int .i64 kd, .int .u16 (mb : Int), .slice p3 n3 c3, .slice p4 n4 c4, .slice p5 n5 c5] 49) = W0
 generalize w.heap.size = A
 intro HC
 have z0 := cellOf HC.out.ra (j := 0) rfl
 have HA := Lib.hid H.out.nm.1
 by_cases hk : kd ≠ 1 ∧ kd ≠ 2
 ·obtain ⟨hk1, hk2⟩ := hk
  have HK := Lib.hid (And.intro hk1 hk2)
  have e1 : (kd != 1) = true := by simpa using hk1
  have e2 : (kd != 2) = true := by simpa using hk2
  go_wp2_with (go_at_call 92; refine (HA.out _).mono ?_; rintro e w1 ⟨rfl, hb1⟩; have HC1 := Lib.hid (HC.out.below hb1); clear hb1; have z1 := cellOf HC1.out.ra (j := 1) rfl)
  go_ret
  exact ⟨by rw [HE.out, if_pos HK.out]; rfl, HC1.out.bl⟩
 ·have hk12 : kd = 1 ∨ kd = 2 := by omega
  have HK := Lib.hid hk
  clear hk
  have STEP := Lib.hid (fun (kd : Int) (W : World) (hW : CW w A nm kd mb p3 n3 c3 p4 n4 c4 p5 n5 c5 W) => (⟨cellOf hW.ra (j := 2) rfl, cellOf hW.ra (j := 3) rfl, cellOf hW.ra (j := 4) rfl, cellOf hW.ra (j := 5) rfl⟩ : W.cell? ⟨A, 2, none⟩ = some (.int .u16 (mb : Int)) ∧ W.cell? ⟨A, 3, none⟩ = some (.slice p3 n3 c3) ∧ W.cell? ⟨A, 4, none⟩ = some (.slice p4 n4 c4) ∧ W.cell? ⟨A, 5, none⟩ = some (.slice p5 n5 c5)))
  have H3 := Lib.hid (fun W (hW : Below w.heap.size w W) => checkFam_ex p3 n3 c3 rd mb W H.out.l3 H.out.k3 H.out.i3 H.out.r3 (H.out.s3.below hW))
  have H4 := Lib.hid (fun W (hW : Below w.heap.size w W) => checkFam_ex p4 n4 c4 wr mb W H.out.l4 H.out.k4 H.out.i4 H.out.r4 (H.out.s4.below hW))
  have H5 := Lib.hid (fun W (hW : Below w.heap.size w W) => faultValid_ex p5 n5 c5 fs W H.out.l5 H.out.k5 H.out.r5 (H.out.s5.below hW))
  rcases hk12 with rfl | rfl
  all_goals
   go_cut [] (fun wx => ∃ v : Int, mb < 4096 ∧ mb ≠ 0 ∧ (v = 1 ∨ v = 2) ∧ CW w A nm _ mb p3 n3 c3 p4 n4 c4 p5 n5 c5 wx)
   case first =>
    go_upto_if 20 with (go_at_call 92; refine (HA.out _).mono ?_; rintro e w1 ⟨rfl, hb1⟩; have HC1 := Lib.hid (HC.out.below hb1); clear hb1; have z1 := cellOf HC1.out.ra (j := 1) rfl; obtain ⟨z2, -, -, -⟩ := STEP.out _ _ HC1.out)
    by_cases hm4 : 4096 ≤ mb
    ·have HM4 := Lib.hid hm4
     have e1 : ((mb : Int) / 4096 != 0) = true := by rw [bne_iff_ne]; omega
     go_wp2_with fail
     go_ret
     exact ⟨by rw [HE.out, if_neg HK.out, if_pos HM4.out]; rfl, HC1.out.bl⟩
    ·have HM4 := Lib.hid hm4
     have e1 : ((mb : Int) / 4096 != 0) = false := by simp; omega
     by_cases hm0 : mb = 0
     ·have HM0 := Lib.hid hm0
      have e2 : ((mb : Int) == 0) = true := by simp; omega
      go_wp2_with fail
      go_ret
      exact ⟨by rw [HE.out, if_neg HK.out, if_neg HM4.out, if_pos HM0.out]; rfl, HC1.out.bl⟩
     ·have HM0 := Lib.hid hm0
      have e2 : ((mb : Int) == 0) = false := by simp; omega
      go_wp2_with fail
      go_meet
      exact ⟨1, by have := HM4.out; omega, HM0.out, .inl rfl, HC1.out⟩
   case rest =>
    obtain ⟨-, hm4, hm0, -, hc⟩ := hcut
    have HC2 := Lib.hid hc
    have HM4 := Lib.hid (show ¬ 4096 ≤ mb by omega)
    have HM0 := Lib.hid hm0
    clear hc hm4 hm0
    obtain ⟨y2, y3, y4, y5⟩ := STEP.out _ _ HC2.out
    go_upto_if 35 with (go_at_call 93; refine (H3.out _ HC2.out.bl).mono ?_; rintro e w3 ⟨rfl, hb3⟩; have HC3 := Lib.hid (HC2.out.below hb3); clear hb3)
    obtain ⟨x2, x3, x4, x5⟩ := STEP.out _ _ HC3.out
    clear y2 y3 y4 y5
    by_cases h3 : cfE rd mb = 0
    ·have HE3 := Lib.hid h3
     have e3 : (((cfE rd mb : Nat) : Int) != 0) = false := by rw [h3]; rfl
     clear h3
     simp only [e3]
     go_upto_if 43 with (go_at_call 93; refine (H4.out _ HC3.out.bl).mono ?_; rintro e w4 ⟨rfl, hb4⟩; have HC4 := Lib.hid (HC3.out.below hb4); clear hb4)
     obtain ⟨y2, y3, y4, y5⟩ := STEP.out _ _ HC4.out
     clear x2 x3 x4 x5 e3
     by_cases h4 : cfE wr mb = 0
     ·have HE4 := Lib.hid h4
      have e4 : (((cfE wr mb : Nat) : Int) != 0) = false := by rw [h4]; rfl
      clear h4
      go_wp2_with (go_at_call 94; refine (H5.out _ HC4.out.bl).mono ?_; rintro e w5 ⟨rfl, hb5⟩; have HC5 := Lib.hid (HC4.out.below hb5); clear hb5)
      go_ret
      exact ⟨by rw [HE.out, if_neg HK.out, if_neg HM4.out, if_neg HM0.out, if_neg (fun h => h HE3.out), if_neg (fun h => h HE4.out)]; rfl, HC5.out.bl⟩
     ·have HE4 := Lib.hid h4
      have e4 : (((cfE wr mb : Nat) : Int) != 0) = true := by simp; exact h4
      clear h4
      go_wp2_with fail
      go_ret
      exact ⟨by rw [HE.out, if_neg HK.out, if_neg HM4.out, if_neg HM0.out, if_neg (fun h => h HE3.out), if_pos HE4.out]; rfl, HC4.out.bl⟩
    ·have HE3 := Lib.hid h3
     have e3 : (((cfE rd mb : Nat) : Int) != 0) = true := by simp; exact h3
     clear h3
     go_wp2_with fail
     go_ret
     exact ⟨by rw [HE.out, if_neg HK.out, if_neg HM4.out, if_neg HM0.out, if_pos HE3.out]; rfl, HC3.out.bl⟩
end Go.Proofs.YtmcnpaehmnadeaaGreatDoor
