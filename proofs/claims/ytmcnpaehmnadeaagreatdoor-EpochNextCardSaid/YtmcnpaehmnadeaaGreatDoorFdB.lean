/-
  EpochNext: sederuntref19.Normal, exactly.
-/
import Derived.Test.YtmcnpaehmnadeaaGreatDoorFdA
set_option maxHeartbeats 6400000
set_option maxRecDepth 1000000
namespace Go.Proofs.YtmcnpaehmnadeaaGreatDoor
open Go Go.RowKit
def zF (l : List (Nat × Nat)) : List (Int × Int) := l.map fun x => ((x.1 : Int), (x.2 : Int))
theorem zF_len (l : List (Nat × Nat)) : (zF l).length = l.length := by simp [zF]
theorem fltL_of_own {w : World} {base n : Nat} {v : Value} {l : List (Nat × Nat)} (h : w.ownsRow base 69 2 v n (ftV (zF l))) : ∃ p cap, v = .slice p n cap ∧ FltL w p l ∧ n ≤ cap ∧ l.length = n := by
 obtain ⟨hl, ⟨rfl, rfl⟩ | ⟨g, cap, rfl, _, hlt, hcap, hc⟩⟩ := flt_own h
 ·rw [zF_len] at hl
  exact ⟨none, 0, rfl, .inl (List.eq_nil_of_length_eq_zero hl), Nat.le_refl _, hl⟩
 ·rw [zF_len] at hl
  refine ⟨_, cap, rfl, .inr ⟨g, 0, rfl, hlt, fun i hi => ?_⟩, hcap, hl⟩
  have hxi : (zF l)[i]? = some ((l[i].1 : Int), (l[i].2 : Int)) := by simp [zF, hi]
  obtain ⟨h1, h2⟩ := ftV_get hxi
  rw [Nat.zero_add]
  exact ⟨hc _ _ h1, hc _ _ h2⟩
def FltsL (l : List (Nat × Nat)) (w : World) (e : Ending) (w' : World) : Prop := ∃ p cap, e = .returned (.slice p l.length cap) ∧ l.length ≤ cap ∧ FltL w' p l ∧ FreshP w.heap.size p ∧ Below w.heap.size w w' ∧ PlainP p ∧ cap ≤ 9223372036854775807
def ScanF (s : List (Nat × Nat)) (x : Nat × Nat) (q : Nat) : Prop := ∀ i (h : i < s.length), i < q → cF s[i] x < 0
def StopF (s : List (Nat × Nat)) (x : Nat × Nat) (q : Nat) : Prop := ∀ h : q < s.length, ¬ cF s[q] x < 0
theorem ScanF.succ {s : List (Nat × Nat)} {x : Nat × Nat} {q : Nat} (h : ScanF s x q) (hq : q < s.length) (hc : cF s[q] x < 0) : ScanF s x (q + 1) := fun i hi hiq => by
 by_cases h1 : i < q
 ·exact h i hi h1
 ·have : i = q := by omega
  subst this; exact hc
theorem insF_of {s : List (Nat × Nat)} {x : Nat × Nat} {q : Nat} (hq : q ≤ s.length) (h1 : ScanF s x q) (h2 : StopF s x q) : zF (insF s x) = (zF s).take q ++ [((x.1 : Int), (x.2 : Int))] ++ (zF s).drop q := by
 rw [insF_at q hq h1 h2]
 simp [zF, List.map_take, List.map_drop]
theorem norR_mem' (L : List (Nat × Nat)) : ∀ k y, k ≤ L.length → y ∈ norR L k → y ∈ L := by
 intro k y hk hy
 obtain ⟨i, h1, _, rfl⟩ := norR_mem.mp hy
 have hi : i < L.length := by omega
 simp [hi]
theorem keep_no {L : List (Nat × Nat)} {i j : Nat} {fb : Bool} (h : keepV L i j = fb) {a b : Nat × Nat} (ha : L.getD j (0, 0) = a) (hb : L.getD i (0, 0) = b) (hc : cB a.1 a.2 b.1 b.2 = false) : keepV L i (j + 1) = fb := by
 rw [keepV, h, ha, hb, show covF a b = false from hc]; simp
theorem keep_ne {L : List (Nat × Nat)} {i j : Nat} {a b : Nat × Nat} (ha : L.getD j (0, 0) = a) (hb : L.getD i (0, 0) = b) (hc : cB a.1 a.2 b.1 b.2 = true) (hn : a ≠ b ∨ j < i) : keepV L i (j + 1) = false := by
 rw [keepV, ha, hb, show covF a b = true from hc]
 rcases hn with hn | hn <;> simp [hn]
theorem keep_eq {L : List (Nat × Nat)} {i j : Nat} {fb : Bool} (h : keepV L i j = fb) {a : Nat × Nat} (ha : L.getD j (0, 0) = a) (hb : L.getD i (0, 0) = a) (hn : ¬ j < i) : keepV L i (j + 1) = fb := by
 rw [keepV, h, ha, hb]; simp [hn]
set_option linter.unusedSimpArgs false in
theorem normalR_ex (p : Option Addr) (n cap : Nat) (L : List (Nat × Nat)) (w : World) (hn : n ≤ 200000) (hm : L.length = n) (hr : InF L) (hp : FltL w p L) : Calls Tryz.prog 53 #[.slice p n cap] w (FltsL (norR L n) w) := by
 obtain ⟨i0, hi, hz0, hz1, hz2⟩ := info_parts Tryz.info69
 have HP := Lib.hid hp
 have HM := Lib.hid hm
 have HR := Lib.hid hr
 clear hp hm hr
 go_enter Tryz.func53, Tryz.ntmps53
 go_wp2_with fail
 go_loopw [3, 4] (fun v i wr => ∃ (k : Nat) (l : List (Int × Int)), k ≤ n ∧ i = .int .i64 k ∧ zF (norR L k) = l ∧ wr.ownsRow w.heap.size 69 2 v l.length (ftV l) ∧ Below w.heap.size w wr) (fun _ i _ => n - (intOf i).toNat)
 case atStart => exact ⟨0, [], Nat.zero_le _, rfl, rfl, World.ownsRow_nil _ _ _ _, Below.refl _ _⟩
 case round =>
  obtain ⟨k, l, hk, rfl, hl0, hown, hb⟩ := hrel
  have HL := Lib.hid hl0
  have hl : l.length ≤ k := by rw [← hl0, zF_len]; exact norR_len L k
  have HW := Lib.hid hown
  have HB := Lib.hid hb
  clear hown hb hl0
  obtain ⟨p3, c3, hv3, hp3, hc3⟩ := fltP_of_own HW.out
  by_cases hkn : k < n
  ·have hkl : k < L.length := by have := HM.out; omega
   obtain ⟨b, off, rfl, hbb, hx2, hy2⟩ := HP.out.at hkl
   obtain ⟨a2, b2, hg2⟩ : ∃ a2 b2, L[k] = (a2, b2) := ⟨_, _, rfl⟩
   have HG2 := Lib.hid (show L.getD k (0, 0) = (a2, b2) by simp [hkl, hg2])
   have HR2 := Lib.hid (show a2 < 65536 ∧ b2 < 65536 by have := HR.out L[k] (List.getElem_mem _); rw [hg2] at this; exact this)
   rw [hg2] at hx2 hy2
   simp only at hx2 hy2
   clear hg2
   have HC2 := Lib.hid (And.intro hx2 hy2)
   clear hx2 hy2
   have e1 : (0 : Int) ≤ (k : Int) := by omega
   have e2 : (k : Int) < (n : Int) := by omega
   generalize hgv : u3 = v3 at HW hv3 ⊢
   clear hgv
   have HV3 := Lib.hid hv3
   have HP3 := Lib.hid hp3
   clear hv3 hp3
   go_wp2_with fail
   go_loopw [5, 6] (fun f a wx => ∃ (fb : Bool) (j : Nat), j ≤ n ∧ f = .bool fb ∧ keepV L k j = fb ∧ a = .int .i64 j ∧ wx.ownsRow w.heap.size 69 2 v3 l.length (ftV l) ∧ Below w.heap.size w wx) (fun _ a _ => n - (intOf a).toNat)
   case atStart => exact ⟨true, 0, Nat.zero_le _, rfl, rfl, rfl, HW.out, HB.out⟩
   case round =>
    obtain ⟨fb, j, hj, rfl, hkv, rfl, hown, hb⟩ := hrel
    have HKV := Lib.hid hkv
    clear hkv
    have HW2 := Lib.hid hown
    have HB2 := Lib.hid hb
    have hsz2 := hb.size
    clear hown hb
    by_cases hjn : j < n
    ·have hjl : j < L.length := by have := HM.out; omega
     obtain ⟨b', off', hpe, _, hx1, hy1⟩ := HP.out.at hjl
     obtain ⟨a1, b1, hg1⟩ : ∃ a1 b1, L[j] = (a1, b1) := ⟨_, _, rfl⟩
     have HG1 := Lib.hid (show L.getD j (0, 0) = (a1, b1) by simp [hjl, hg1])
     rw [hg1] at hx1 hy1
     simp only at hx1 hy1
     clear hg1
     obtain ⟨rfl, rfl⟩ : b' = b ∧ off' = off := by
      injection hpe with hpe
      injection hpe with h1 h2
      exact ⟨h1.symm, h2.symm⟩
     have e3 : (0 : Int) ≤ (j : Int) := by omega
     have e4 : (j : Int) < (n : Int) := by omega
     have HV := Lib.hid (show VN w v3 l b' (off' + j * 2) (off' + k * 2) (a1 : Int) (b1 : Int) (a2 : Int) (b2 : Int) _ from ⟨(HB2.out.cell (p := ⟨b', off' + j * 2, none⟩) hbb).trans hx1, (HB2.out.cell (p := ⟨b', off' + j * 2 + 1, none⟩) hbb).trans hy1, (HB2.out.cell (p := ⟨b', off' + k * 2, none⟩) hbb).trans HC2.out.1, (HB2.out.cell (p := ⟨b', off' + k * 2 + 1, none⟩) hbb).trans HC2.out.2, Nat.lt_of_lt_of_le hbb hsz2, HW2.out, HB2.out⟩)
     clear hx1 hy1 hpe
     cases hcb : cB (a1 : Int) (b1 : Int) (a2 : Int) (b2 : Int)
     ·have HK1 := Lib.hid (keep_no HKV.out HG1.out HG2.out hcb)
      go_upto_region 9 with fail
      refine wp_region_noPanic ?_
      refine wp_region_held_drew (S := (fun W => W.cell? ⟨b', off' + j * 2, none⟩ = some (.int .u16 (a1 : Int)) ∧ W.cell? ⟨b', off' + j * 2 + 1, none⟩ = some (.int .u16 (b1 : Int)) ∧ W.cell? ⟨b', off' + k * 2, none⟩ = some (.int .u16 (a2 : Int)) ∧ W.cell? ⟨b', off' + k * 2 + 1, none⟩ = some (.int .u16 (b2 : Int)) ∧ VN w v3 l b' (off' + j * 2) (off' + k * 2) (a1 : Int) (b1 : Int) (a2 : Int) (b2 : Int) W)) (by kernel_rfl) ?_ (fun hHeld => ?_)
      ·exact vnS (HV.out.below (below_drew _))
      refine tkH 0 21 ?_ rfl ?_ ?_
      rotate_left
      ·intro w hSw; (try dsimp only at hSw); go_simp; try with_reducible rfl
      try simp only [Act.put, sA, sZ, sS]
      refine tkH 1 22 ?_ rfl ?_ ?_
      rotate_left
      ·intro w hSw; (try dsimp only at hSw); go_simp; try with_reducible rfl
      try simp only [Act.put, sA, sZ, sS]
      refine tkH 2 23 ?_ rfl ?_ ?_
      rotate_left
      ·intro w hSw; (try dsimp only at hSw); go_simp; try with_reducible rfl
      try simp only [Act.put, sA, sZ, sS]
      refine tkH 3 24 ?_ rfl ?_ ?_
      rotate_left
      ·intro w hSw; (try dsimp only at hSw); go_simp; try with_reducible rfl
      try simp only [Act.put, sA, sZ, sS]
      refine tkH 4 25 ?_ rfl ?_ ?_
      rotate_left
      ·intro w hSw; (try dsimp only at hSw); go_simp; try with_reducible rfl
      try simp only [Act.put, sA, sZ, sS]
      refine tkH 5 26 ?_ rfl ?_ ?_
      rotate_left
      ·intro w hSw; (try dsimp only at hSw); go_simp; try with_reducible rfl
      try simp only [Act.put, sA, sZ, sS]
      refine tkH 6 27 ?_ rfl ?_ ?_
      rotate_left
      ·intro w hSw; (try dsimp only at hSw); go_simp; try with_reducible rfl
      try simp only [Act.put, sA, sZ, sS]
      refine tkH 7 28 ?_ rfl ?_ ?_
      rotate_left
      ·intro w hSw; (try dsimp only at hSw); go_simp; try with_reducible rfl
      try simp only [Act.put, sA, sZ, sS]
      refine wpAnyH_ready (rs := [8]) (by kernel_rfl) (by simp) ?_
      refine AllReadyH.cons (o := ⟨some 29, _, _, _, _, _⟩) rfl (fun K hK => ?_) AllReadyH.nil
      go_simp
      go_at_call 79
      refine (covers_ex (a1 : Int) (b1 : Int) (a2 : Int) (b2 : Int) _).mono ?_
      rw [hcb]
      rintro e w4 ⟨rfl, hb4⟩
      have hV4 := (HV.out.below (below_drew _)).below hb4
      go_simp
      refine hK.out _ _ ?_ (fun hHeld => ?_)
      ·exact vnS hV4
      clear hK K
      try simp only [Act.put, sA, sZ, sS]
      refine tkH 9 30 ?_ rfl ?_ ?_
      rotate_left
      ·intro w hSw; (try dsimp only at hSw); go_simp; try with_reducible rfl
      try simp only [Act.put, sA, sZ, sS]
      refine tuH 10 31 rfl ?_
      try simp only [Act.put, sA, sZ, sS]
      refine tuH 11 32 rfl ?_
      try simp only [Act.put, sA, sZ, sS]
      refine tuH 12 33 rfl ?_
      try simp only [Act.put, sA, sZ, sS]
      refine tuH 13 34 rfl ?_
      try simp only [Act.put, sA, sZ, sS]
      refine tuH 14 35 rfl ?_
      try simp only [Act.put, sA, sZ, sS]
      refine tuH 15 36 rfl ?_
      try simp only [Act.put, sA, sZ, sS]
      refine tuH 16 37 rfl ?_
      try simp only [Act.put, sA, sZ, sS]
      refine tuH 17 38 rfl ?_
      try simp only [Act.put, sA, sZ, sS]
      refine tuH 18 39 rfl ?_
      try simp only [Act.put, sA, sZ, sS]
      refine tuH 19 40 rfl ?_
      try simp only [Act.put, sA, sZ, sS]
      refine tuH 20 41 rfl ?_
      try simp only [Act.put, sA, sZ, sS]
      refine tuH 21 42 rfl ?_
      try simp only [Act.put, sA, sZ, sS]
      refine tuH 22 43 rfl ?_
      try simp only [Act.put, sA, sZ, sS]
      refine tuH 23 44 rfl ?_
      try simp only [Act.put, sA, sZ, sS]
      refine tkH 24 45 ?_ rfl ?_ ?_
      rotate_left
      ·intro w hSw; (try dsimp only at hSw); go_simp; try with_reducible rfl
      try simp only [Act.put, sA, sZ, sS]
      refine wpAnyH_done (by kernel_rfl) ?_ _
      refine NoPanic.normal ?_
      have HV4 := Lib.hid hV4
      clear hV4 hb4 hcb hHeld
      go_wp2_with fail
      go_roundw
      case rel => exact ⟨_, j + 1, by omega, rfl, HK1.out, by go_num, HV4.out.own, HV4.out.bl⟩
      case measure => simp [intOf]; omega
     ·by_cases hxx : a1 = a2
      ·by_cases hyy : b1 = b2
       ·subst hxx
        subst hyy
        by_cases hjk : j < k
        ·have HK1 := Lib.hid (keep_ne HG1.out HG2.out hcb (.inr hjk))
         have hjkI : (j : Int) < (k : Int) := by omega
         go_upto_region 9 with fail
         refine wp_region_noPanic ?_
         refine wp_region_held_drew (S := (fun W => W.cell? ⟨b', off' + j * 2, none⟩ = some (.int .u16 (a1 : Int)) ∧ W.cell? ⟨b', off' + j * 2 + 1, none⟩ = some (.int .u16 (b1 : Int)) ∧ W.cell? ⟨b', off' + k * 2, none⟩ = some (.int .u16 (a1 : Int)) ∧ W.cell? ⟨b', off' + k * 2 + 1, none⟩ = some (.int .u16 (b1 : Int)) ∧ VN w v3 l b' (off' + j * 2) (off' + k * 2) (a1 : Int) (b1 : Int) (a1 : Int) (b1 : Int) W)) (by kernel_rfl) ?_ (fun hHeld => ?_)
         ·exact vnS (HV.out.below (below_drew _))
         refine tkH 0 21 ?_ rfl ?_ ?_
         rotate_left
         ·intro w hSw; (try dsimp only at hSw); go_simp; try with_reducible rfl
         try simp only [Act.put, sA, sZ, sS]
         refine tkH 1 22 ?_ rfl ?_ ?_
         rotate_left
         ·intro w hSw; (try dsimp only at hSw); go_simp; try with_reducible rfl
         try simp only [Act.put, sA, sZ, sS]
         refine tkH 2 23 ?_ rfl ?_ ?_
         rotate_left
         ·intro w hSw; (try dsimp only at hSw); go_simp; try with_reducible rfl
         try simp only [Act.put, sA, sZ, sS]
         refine tkH 3 24 ?_ rfl ?_ ?_
         rotate_left
         ·intro w hSw; (try dsimp only at hSw); go_simp; try with_reducible rfl
         try simp only [Act.put, sA, sZ, sS]
         refine tkH 4 25 ?_ rfl ?_ ?_
         rotate_left
         ·intro w hSw; (try dsimp only at hSw); go_simp; try with_reducible rfl
         try simp only [Act.put, sA, sZ, sS]
         refine tkH 5 26 ?_ rfl ?_ ?_
         rotate_left
         ·intro w hSw; (try dsimp only at hSw); go_simp; try with_reducible rfl
         try simp only [Act.put, sA, sZ, sS]
         refine tkH 6 27 ?_ rfl ?_ ?_
         rotate_left
         ·intro w hSw; (try dsimp only at hSw); go_simp; try with_reducible rfl
         try simp only [Act.put, sA, sZ, sS]
         refine tkH 7 28 ?_ rfl ?_ ?_
         rotate_left
         ·intro w hSw; (try dsimp only at hSw); go_simp; try with_reducible rfl
         try simp only [Act.put, sA, sZ, sS]
         refine wpAnyH_ready (rs := [8]) (by kernel_rfl) (by simp) ?_
         refine AllReadyH.cons (o := ⟨some 29, _, _, _, _, _⟩) rfl (fun K hK => ?_) AllReadyH.nil
         go_simp
         go_at_call 79
         refine (covers_ex (a1 : Int) (b1 : Int) (a1 : Int) (b1 : Int) _).mono ?_
         rw [hcb]
         rintro e w4 ⟨rfl, hb4⟩
         have hV4 := (HV.out.below (below_drew _)).below hb4
         go_simp
         refine hK.out _ _ ?_ (fun hHeld => ?_)
         ·exact vnS hV4
         clear hK K
         try simp only [Act.put, sA, sZ, sS]
         refine tkH 9 30 ?_ rfl ?_ ?_
         rotate_left
         ·intro w hSw; (try dsimp only at hSw); go_simp; try with_reducible rfl
         try simp only [Act.put, sA, sZ, sS]
         refine tkH 10 31 ?_ rfl ?_ ?_
         rotate_left
         ·intro w hSw; (try dsimp only at hSw); go_simp; try with_reducible rfl
         try simp only [Act.put, sA, sZ, sS]
         refine tkH 11 32 ?_ rfl ?_ ?_
         rotate_left
         ·intro w hSw; (try dsimp only at hSw); go_simp; try with_reducible rfl
         try simp only [Act.put, sA, sZ, sS]
         refine tkH 12 33 ?_ rfl ?_ ?_
         rotate_left
         ·intro w hSw; (try dsimp only at hSw); go_simp; try with_reducible rfl
         try simp only [Act.put, sA, sZ, sS]
         refine tkH 13 34 ?_ rfl ?_ ?_
         rotate_left
         ·intro w hSw; (try dsimp only at hSw); go_simp; try with_reducible rfl
         try simp only [Act.put, sA, sZ, sS]
         refine tkH 14 35 ?_ rfl ?_ ?_
         rotate_left
         ·intro w hSw; (try dsimp only at hSw); go_simp; try with_reducible rfl
         try simp only [Act.put, sA, sZ, sS]
         refine tkH 15 36 ?_ rfl ?_ ?_
         rotate_left
         ·intro w hSw; (try dsimp only at hSw); go_simp; try with_reducible rfl
         try simp only [Act.put, sA, sZ, sS]
         refine tkH 16 37 ?_ rfl ?_ ?_
         rotate_left
         ·intro w hSw; (try dsimp only at hSw); go_simp; try with_reducible rfl
         try simp only [Act.put, sA, sZ, sS]
         refine tkH 17 38 ?_ rfl ?_ ?_
         rotate_left
         ·intro w hSw; (try dsimp only at hSw); go_simp; try with_reducible rfl
         try simp only [Act.put, sA, sZ, sS]
         refine tkH 18 39 ?_ rfl ?_ ?_
         rotate_left
         ·intro w hSw; (try dsimp only at hSw); go_simp; try with_reducible rfl
         try simp only [Act.put, sA, sZ, sS]
         refine tkH 19 40 ?_ rfl ?_ ?_
         rotate_left
         ·intro w hSw; (try dsimp only at hSw); go_simp; try with_reducible rfl
         try simp only [Act.put, sA, sZ, sS]
         refine tkH 20 41 ?_ rfl ?_ ?_
         rotate_left
         ·intro w hSw; (try dsimp only at hSw); go_simp; try with_reducible rfl
         try simp only [Act.put, sA, sZ, sS]
         refine tkH 21 42 ?_ rfl ?_ ?_
         rotate_left
         ·intro w hSw; (try dsimp only at hSw); go_simp; try with_reducible rfl
         try simp only [Act.put, sA, sZ, sS]
         refine tkH 22 43 ?_ rfl ?_ ?_
         rotate_left
         ·intro w hSw; (try dsimp only at hSw); go_simp; try with_reducible rfl
         try simp only [Act.put, sA, sZ, sS]
         refine tkH 23 44 ?_ rfl ?_ ?_
         rotate_left
         ·intro w hSw; (try dsimp only at hSw); go_simp; try with_reducible rfl
         try simp only [Act.put, sA, sZ, sS]
         refine tkH 24 45 ?_ rfl ?_ ?_
         rotate_left
         ·intro w hSw; (try dsimp only at hSw); go_simp; try with_reducible rfl
         try simp only [Act.put, sA, sZ, sS]
         refine wpAnyH_done (by kernel_rfl) ?_ _
         refine NoPanic.normal ?_
         have HV4 := Lib.hid hV4
         clear hV4 hb4 hcb hHeld
         go_wp2_with fail
         go_roundw
         case rel => exact ⟨_, j + 1, by omega, rfl, HK1.out, by go_num, HV4.out.own, HV4.out.bl⟩
         case measure => simp [intOf]; omega
        ·have HK1 := Lib.hid (keep_eq HKV.out HG1.out HG2.out hjk)
         have hjkI : ¬ (j : Int) < (k : Int) := by omega
         go_upto_region 9 with fail
         refine wp_region_noPanic ?_
         refine wp_region_held_drew (S := (fun W => W.cell? ⟨b', off' + j * 2, none⟩ = some (.int .u16 (a1 : Int)) ∧ W.cell? ⟨b', off' + j * 2 + 1, none⟩ = some (.int .u16 (b1 : Int)) ∧ W.cell? ⟨b', off' + k * 2, none⟩ = some (.int .u16 (a1 : Int)) ∧ W.cell? ⟨b', off' + k * 2 + 1, none⟩ = some (.int .u16 (b1 : Int)) ∧ VN w v3 l b' (off' + j * 2) (off' + k * 2) (a1 : Int) (b1 : Int) (a1 : Int) (b1 : Int) W)) (by kernel_rfl) ?_ (fun hHeld => ?_)
         ·exact vnS (HV.out.below (below_drew _))
         refine tkH 0 21 ?_ rfl ?_ ?_
         rotate_left
         ·intro w hSw; (try dsimp only at hSw); go_simp; try with_reducible rfl
         try simp only [Act.put, sA, sZ, sS]
         refine tkH 1 22 ?_ rfl ?_ ?_
         rotate_left
         ·intro w hSw; (try dsimp only at hSw); go_simp; try with_reducible rfl
         try simp only [Act.put, sA, sZ, sS]
         refine tkH 2 23 ?_ rfl ?_ ?_
         rotate_left
         ·intro w hSw; (try dsimp only at hSw); go_simp; try with_reducible rfl
         try simp only [Act.put, sA, sZ, sS]
         refine tkH 3 24 ?_ rfl ?_ ?_
         rotate_left
         ·intro w hSw; (try dsimp only at hSw); go_simp; try with_reducible rfl
         try simp only [Act.put, sA, sZ, sS]
         refine tkH 4 25 ?_ rfl ?_ ?_
         rotate_left
         ·intro w hSw; (try dsimp only at hSw); go_simp; try with_reducible rfl
         try simp only [Act.put, sA, sZ, sS]
         refine tkH 5 26 ?_ rfl ?_ ?_
         rotate_left
         ·intro w hSw; (try dsimp only at hSw); go_simp; try with_reducible rfl
         try simp only [Act.put, sA, sZ, sS]
         refine tkH 6 27 ?_ rfl ?_ ?_
         rotate_left
         ·intro w hSw; (try dsimp only at hSw); go_simp; try with_reducible rfl
         try simp only [Act.put, sA, sZ, sS]
         refine tkH 7 28 ?_ rfl ?_ ?_
         rotate_left
         ·intro w hSw; (try dsimp only at hSw); go_simp; try with_reducible rfl
         try simp only [Act.put, sA, sZ, sS]
         refine wpAnyH_ready (rs := [8]) (by kernel_rfl) (by simp) ?_
         refine AllReadyH.cons (o := ⟨some 29, _, _, _, _, _⟩) rfl (fun K hK => ?_) AllReadyH.nil
         go_simp
         go_at_call 79
         refine (covers_ex (a1 : Int) (b1 : Int) (a1 : Int) (b1 : Int) _).mono ?_
         rw [hcb]
         rintro e w4 ⟨rfl, hb4⟩
         have hV4 := (HV.out.below (below_drew _)).below hb4
         go_simp
         refine hK.out _ _ ?_ (fun hHeld => ?_)
         ·exact vnS hV4
         clear hK K
         try simp only [Act.put, sA, sZ, sS]
         refine tkH 9 30 ?_ rfl ?_ ?_
         rotate_left
         ·intro w hSw; (try dsimp only at hSw); go_simp; try with_reducible rfl
         try simp only [Act.put, sA, sZ, sS]
         refine tkH 10 31 ?_ rfl ?_ ?_
         rotate_left
         ·intro w hSw; (try dsimp only at hSw); go_simp; try with_reducible rfl
         try simp only [Act.put, sA, sZ, sS]
         refine tkH 11 32 ?_ rfl ?_ ?_
         rotate_left
         ·intro w hSw; (try dsimp only at hSw); go_simp; try with_reducible rfl
         try simp only [Act.put, sA, sZ, sS]
         refine tkH 12 33 ?_ rfl ?_ ?_
         rotate_left
         ·intro w hSw; (try dsimp only at hSw); go_simp; try with_reducible rfl
         try simp only [Act.put, sA, sZ, sS]
         refine tkH 13 34 ?_ rfl ?_ ?_
         rotate_left
         ·intro w hSw; (try dsimp only at hSw); go_simp; try with_reducible rfl
         try simp only [Act.put, sA, sZ, sS]
         refine tkH 14 35 ?_ rfl ?_ ?_
         rotate_left
         ·intro w hSw; (try dsimp only at hSw); go_simp; try with_reducible rfl
         try simp only [Act.put, sA, sZ, sS]
         refine tkH 15 36 ?_ rfl ?_ ?_
         rotate_left
         ·intro w hSw; (try dsimp only at hSw); go_simp; try with_reducible rfl
         try simp only [Act.put, sA, sZ, sS]
         refine tkH 16 37 ?_ rfl ?_ ?_
         rotate_left
         ·intro w hSw; (try dsimp only at hSw); go_simp; try with_reducible rfl
         try simp only [Act.put, sA, sZ, sS]
         refine tkH 17 38 ?_ rfl ?_ ?_
         rotate_left
         ·intro w hSw; (try dsimp only at hSw); go_simp; try with_reducible rfl
         try simp only [Act.put, sA, sZ, sS]
         refine tkH 18 39 ?_ rfl ?_ ?_
         rotate_left
         ·intro w hSw; (try dsimp only at hSw); go_simp; try with_reducible rfl
         try simp only [Act.put, sA, sZ, sS]
         refine tkH 19 40 ?_ rfl ?_ ?_
         rotate_left
         ·intro w hSw; (try dsimp only at hSw); go_simp; try with_reducible rfl
         try simp only [Act.put, sA, sZ, sS]
         refine tkH 20 41 ?_ rfl ?_ ?_
         rotate_left
         ·intro w hSw; (try dsimp only at hSw); go_simp; try with_reducible rfl
         try simp only [Act.put, sA, sZ, sS]
         refine tkH 21 42 ?_ rfl ?_ ?_
         rotate_left
         ·intro w hSw; (try dsimp only at hSw); go_simp; try with_reducible rfl
         try simp only [Act.put, sA, sZ, sS]
         refine tkH 22 43 ?_ rfl ?_ ?_
         rotate_left
         ·intro w hSw; (try dsimp only at hSw); go_simp; try with_reducible rfl
         try simp only [Act.put, sA, sZ, sS]
         refine tkH 23 44 ?_ rfl ?_ ?_
         rotate_left
         ·intro w hSw; (try dsimp only at hSw); go_simp; try with_reducible rfl
         try simp only [Act.put, sA, sZ, sS]
         refine tkH 24 45 ?_ rfl ?_ ?_
         rotate_left
         ·intro w hSw; (try dsimp only at hSw); go_simp; try with_reducible rfl
         try simp only [Act.put, sA, sZ, sS]
         refine wpAnyH_done (by kernel_rfl) ?_ _
         refine NoPanic.normal ?_
         have HV4 := Lib.hid hV4
         clear hV4 hb4 hcb hHeld
         go_wp2_with fail
         go_roundw
         case rel => exact ⟨_, j + 1, by omega, rfl, HK1.out, by go_num, HV4.out.own, HV4.out.bl⟩
         case measure => simp [intOf]; omega
       ·subst hxx
        have HK1 := Lib.hid (keep_ne HG1.out HG2.out hcb (.inl fun h => hyy (congrArg Prod.snd h)))
        have dyy : ¬ (b1 : Int) = (b2 : Int) := by omega
        go_upto_region 9 with fail
        refine wp_region_noPanic ?_
        refine wp_region_held_drew (S := (fun W => W.cell? ⟨b', off' + j * 2, none⟩ = some (.int .u16 (a1 : Int)) ∧ W.cell? ⟨b', off' + j * 2 + 1, none⟩ = some (.int .u16 (b1 : Int)) ∧ W.cell? ⟨b', off' + k * 2, none⟩ = some (.int .u16 (a1 : Int)) ∧ W.cell? ⟨b', off' + k * 2 + 1, none⟩ = some (.int .u16 (b2 : Int)) ∧ VN w v3 l b' (off' + j * 2) (off' + k * 2) (a1 : Int) (b1 : Int) (a1 : Int) (b2 : Int) W)) (by kernel_rfl) ?_ (fun hHeld => ?_)
        ·exact vnS (HV.out.below (below_drew _))
        refine tkH 0 21 ?_ rfl ?_ ?_
        rotate_left
        ·intro w hSw; (try dsimp only at hSw); go_simp; try with_reducible rfl
        try simp only [Act.put, sA, sZ, sS]
        refine tkH 1 22 ?_ rfl ?_ ?_
        rotate_left
        ·intro w hSw; (try dsimp only at hSw); go_simp; try with_reducible rfl
        try simp only [Act.put, sA, sZ, sS]
        refine tkH 2 23 ?_ rfl ?_ ?_
        rotate_left
        ·intro w hSw; (try dsimp only at hSw); go_simp; try with_reducible rfl
        try simp only [Act.put, sA, sZ, sS]
        refine tkH 3 24 ?_ rfl ?_ ?_
        rotate_left
        ·intro w hSw; (try dsimp only at hSw); go_simp; try with_reducible rfl
        try simp only [Act.put, sA, sZ, sS]
        refine tkH 4 25 ?_ rfl ?_ ?_
        rotate_left
        ·intro w hSw; (try dsimp only at hSw); go_simp; try with_reducible rfl
        try simp only [Act.put, sA, sZ, sS]
        refine tkH 5 26 ?_ rfl ?_ ?_
        rotate_left
        ·intro w hSw; (try dsimp only at hSw); go_simp; try with_reducible rfl
        try simp only [Act.put, sA, sZ, sS]
        refine tkH 6 27 ?_ rfl ?_ ?_
        rotate_left
        ·intro w hSw; (try dsimp only at hSw); go_simp; try with_reducible rfl
        try simp only [Act.put, sA, sZ, sS]
        refine tkH 7 28 ?_ rfl ?_ ?_
        rotate_left
        ·intro w hSw; (try dsimp only at hSw); go_simp; try with_reducible rfl
        try simp only [Act.put, sA, sZ, sS]
        refine wpAnyH_ready (rs := [8]) (by kernel_rfl) (by simp) ?_
        refine AllReadyH.cons (o := ⟨some 29, _, _, _, _, _⟩) rfl (fun K hK => ?_) AllReadyH.nil
        go_simp
        go_at_call 79
        refine (covers_ex (a1 : Int) (b1 : Int) (a1 : Int) (b2 : Int) _).mono ?_
        rw [hcb]
        rintro e w4 ⟨rfl, hb4⟩
        have hV4 := (HV.out.below (below_drew _)).below hb4
        go_simp
        refine hK.out _ _ ?_ (fun hHeld => ?_)
        ·exact vnS hV4
        clear hK K
        try simp only [Act.put, sA, sZ, sS]
        refine tkH 9 30 ?_ rfl ?_ ?_
        rotate_left
        ·intro w hSw; (try dsimp only at hSw); go_simp; try with_reducible rfl
        try simp only [Act.put, sA, sZ, sS]
        refine tkH 10 31 ?_ rfl ?_ ?_
        rotate_left
        ·intro w hSw; (try dsimp only at hSw); go_simp; try with_reducible rfl
        try simp only [Act.put, sA, sZ, sS]
        refine tkH 11 32 ?_ rfl ?_ ?_
        rotate_left
        ·intro w hSw; (try dsimp only at hSw); go_simp; try with_reducible rfl
        try simp only [Act.put, sA, sZ, sS]
        refine tkH 12 33 ?_ rfl ?_ ?_
        rotate_left
        ·intro w hSw; (try dsimp only at hSw); go_simp; try with_reducible rfl
        try simp only [Act.put, sA, sZ, sS]
        refine tkH 13 34 ?_ rfl ?_ ?_
        rotate_left
        ·intro w hSw; (try dsimp only at hSw); go_simp; try with_reducible rfl
        try simp only [Act.put, sA, sZ, sS]
        refine tkH 14 35 ?_ rfl ?_ ?_
        rotate_left
        ·intro w hSw; (try dsimp only at hSw); go_simp; try with_reducible rfl
        try simp only [Act.put, sA, sZ, sS]
        refine tkH 15 36 ?_ rfl ?_ ?_
        rotate_left
        ·intro w hSw; (try dsimp only at hSw); go_simp; try with_reducible rfl
        try simp only [Act.put, sA, sZ, sS]
        refine tkH 16 37 ?_ rfl ?_ ?_
        rotate_left
        ·intro w hSw; (try dsimp only at hSw); go_simp; try with_reducible rfl
        try simp only [Act.put, sA, sZ, sS]
        refine tkH 17 38 ?_ rfl ?_ ?_
        rotate_left
        ·intro w hSw; (try dsimp only at hSw); go_simp; try with_reducible rfl
        try simp only [Act.put, sA, sZ, sS]
        refine tkH 18 39 ?_ rfl ?_ ?_
        rotate_left
        ·intro w hSw; (try dsimp only at hSw); go_simp; try with_reducible rfl
        try simp only [Act.put, sA, sZ, sS]
        refine tkH 19 40 ?_ rfl ?_ ?_
        rotate_left
        ·intro w hSw; (try dsimp only at hSw); go_simp; try with_reducible rfl
        try simp only [Act.put, sA, sZ, sS]
        refine tuH 20 41 rfl ?_
        try simp only [Act.put, sA, sZ, sS]
        refine tuH 21 42 rfl ?_
        try simp only [Act.put, sA, sZ, sS]
        refine tuH 22 43 rfl ?_
        try simp only [Act.put, sA, sZ, sS]
        refine tkH 23 44 ?_ rfl ?_ ?_
        rotate_left
        ·intro w hSw; (try dsimp only at hSw); go_simp; try with_reducible rfl
        try simp only [Act.put, sA, sZ, sS]
        refine tkH 24 45 ?_ rfl ?_ ?_
        rotate_left
        ·intro w hSw; (try dsimp only at hSw); go_simp; try with_reducible rfl
        try simp only [Act.put, sA, sZ, sS]
        refine wpAnyH_done (by kernel_rfl) ?_ _
        refine NoPanic.normal ?_
        have HV4 := Lib.hid hV4
        clear hV4 hb4 hcb hHeld
        go_wp2_with fail
        go_roundw
        case rel => exact ⟨_, j + 1, by omega, rfl, HK1.out, by go_num, HV4.out.own, HV4.out.bl⟩
        case measure => simp [intOf]; omega
      ·have HK1 := Lib.hid (keep_ne HG1.out HG2.out hcb (.inl fun h => hxx (congrArg Prod.fst h)))
       have dxx : ¬ (a1 : Int) = (a2 : Int) := by omega
       go_upto_region 9 with fail
       refine wp_region_noPanic ?_
       refine wp_region_held_drew (S := (fun W => W.cell? ⟨b', off' + j * 2, none⟩ = some (.int .u16 (a1 : Int)) ∧ W.cell? ⟨b', off' + j * 2 + 1, none⟩ = some (.int .u16 (b1 : Int)) ∧ W.cell? ⟨b', off' + k * 2, none⟩ = some (.int .u16 (a2 : Int)) ∧ W.cell? ⟨b', off' + k * 2 + 1, none⟩ = some (.int .u16 (b2 : Int)) ∧ VN w v3 l b' (off' + j * 2) (off' + k * 2) (a1 : Int) (b1 : Int) (a2 : Int) (b2 : Int) W)) (by kernel_rfl) ?_ (fun hHeld => ?_)
       ·exact vnS (HV.out.below (below_drew _))
       refine tkH 0 21 ?_ rfl ?_ ?_
       rotate_left
       ·intro w hSw; (try dsimp only at hSw); go_simp; try with_reducible rfl
       try simp only [Act.put, sA, sZ, sS]
       refine tkH 1 22 ?_ rfl ?_ ?_
       rotate_left
       ·intro w hSw; (try dsimp only at hSw); go_simp; try with_reducible rfl
       try simp only [Act.put, sA, sZ, sS]
       refine tkH 2 23 ?_ rfl ?_ ?_
       rotate_left
       ·intro w hSw; (try dsimp only at hSw); go_simp; try with_reducible rfl
       try simp only [Act.put, sA, sZ, sS]
       refine tkH 3 24 ?_ rfl ?_ ?_
       rotate_left
       ·intro w hSw; (try dsimp only at hSw); go_simp; try with_reducible rfl
       try simp only [Act.put, sA, sZ, sS]
       refine tkH 4 25 ?_ rfl ?_ ?_
       rotate_left
       ·intro w hSw; (try dsimp only at hSw); go_simp; try with_reducible rfl
       try simp only [Act.put, sA, sZ, sS]
       refine tkH 5 26 ?_ rfl ?_ ?_
       rotate_left
       ·intro w hSw; (try dsimp only at hSw); go_simp; try with_reducible rfl
       try simp only [Act.put, sA, sZ, sS]
       refine tkH 6 27 ?_ rfl ?_ ?_
       rotate_left
       ·intro w hSw; (try dsimp only at hSw); go_simp; try with_reducible rfl
       try simp only [Act.put, sA, sZ, sS]
       refine tkH 7 28 ?_ rfl ?_ ?_
       rotate_left
       ·intro w hSw; (try dsimp only at hSw); go_simp; try with_reducible rfl
       try simp only [Act.put, sA, sZ, sS]
       refine wpAnyH_ready (rs := [8]) (by kernel_rfl) (by simp) ?_
       refine AllReadyH.cons (o := ⟨some 29, _, _, _, _, _⟩) rfl (fun K hK => ?_) AllReadyH.nil
       go_simp
       go_at_call 79
       refine (covers_ex (a1 : Int) (b1 : Int) (a2 : Int) (b2 : Int) _).mono ?_
       rw [hcb]
       rintro e w4 ⟨rfl, hb4⟩
       have hV4 := (HV.out.below (below_drew _)).below hb4
       go_simp
       refine hK.out _ _ ?_ (fun hHeld => ?_)
       ·exact vnS hV4
       clear hK K
       try simp only [Act.put, sA, sZ, sS]
       refine tkH 9 30 ?_ rfl ?_ ?_
       rotate_left
       ·intro w hSw; (try dsimp only at hSw); go_simp; try with_reducible rfl
       try simp only [Act.put, sA, sZ, sS]
       refine tkH 10 31 ?_ rfl ?_ ?_
       rotate_left
       ·intro w hSw; (try dsimp only at hSw); go_simp; try with_reducible rfl
       try simp only [Act.put, sA, sZ, sS]
       refine tkH 11 32 ?_ rfl ?_ ?_
       rotate_left
       ·intro w hSw; (try dsimp only at hSw); go_simp; try with_reducible rfl
       try simp only [Act.put, sA, sZ, sS]
       refine tkH 12 33 ?_ rfl ?_ ?_
       rotate_left
       ·intro w hSw; (try dsimp only at hSw); go_simp; try with_reducible rfl
       try simp only [Act.put, sA, sZ, sS]
       refine tkH 13 34 ?_ rfl ?_ ?_
       rotate_left
       ·intro w hSw; (try dsimp only at hSw); go_simp; try with_reducible rfl
       try simp only [Act.put, sA, sZ, sS]
       refine tkH 14 35 ?_ rfl ?_ ?_
       rotate_left
       ·intro w hSw; (try dsimp only at hSw); go_simp; try with_reducible rfl
       try simp only [Act.put, sA, sZ, sS]
       refine tkH 15 36 ?_ rfl ?_ ?_
       rotate_left
       ·intro w hSw; (try dsimp only at hSw); go_simp; try with_reducible rfl
       try simp only [Act.put, sA, sZ, sS]
       refine tkH 16 37 ?_ rfl ?_ ?_
       rotate_left
       ·intro w hSw; (try dsimp only at hSw); go_simp; try with_reducible rfl
       try simp only [Act.put, sA, sZ, sS]
       refine tkH 17 38 ?_ rfl ?_ ?_
       rotate_left
       ·intro w hSw; (try dsimp only at hSw); go_simp; try with_reducible rfl
       try simp only [Act.put, sA, sZ, sS]
       refine tkH 18 39 ?_ rfl ?_ ?_
       rotate_left
       ·intro w hSw; (try dsimp only at hSw); go_simp; try with_reducible rfl
       try simp only [Act.put, sA, sZ, sS]
       refine tkH 19 40 ?_ rfl ?_ ?_
       rotate_left
       ·intro w hSw; (try dsimp only at hSw); go_simp; try with_reducible rfl
       try simp only [Act.put, sA, sZ, sS]
       refine tuH 20 41 rfl ?_
       try simp only [Act.put, sA, sZ, sS]
       refine tuH 21 42 rfl ?_
       try simp only [Act.put, sA, sZ, sS]
       refine tuH 22 43 rfl ?_
       try simp only [Act.put, sA, sZ, sS]
       refine tkH 23 44 ?_ rfl ?_ ?_
       rotate_left
       ·intro w hSw; (try dsimp only at hSw); go_simp; try with_reducible rfl
       try simp only [Act.put, sA, sZ, sS]
       refine tkH 24 45 ?_ rfl ?_ ?_
       rotate_left
       ·intro w hSw; (try dsimp only at hSw); go_simp; try with_reducible rfl
       try simp only [Act.put, sA, sZ, sS]
       refine wpAnyH_done (by kernel_rfl) ?_ _
       refine NoPanic.normal ?_
       have HV4 := Lib.hid hV4
       clear hV4 hb4 hcb hHeld
       go_wp2_with fail
       go_roundw
       case rel => exact ⟨_, j + 1, by omega, rfl, HK1.out, by go_num, HV4.out.own, HV4.out.bl⟩
       case measure => simp [intOf]; omega
    ·have HV3' := HV3.out
     subst HV3'
     have HKN := Lib.hid (show keepV L k L.length = fb by rw [HM.out, show n = j by omega]; exact HKV.out)
     cases fb
     ·have HN1 := Lib.hid (show zF (norR L (k + 1)) = l by rw [norR, HKN.out, if_neg (by simp)]; exact HL.out)
      go_wp2_with fail
      go_roundw
      case rel => first | exact ⟨k + 1, l, by omega, by go_num, HN1.out, HW2.out, HB2.out⟩ | exact ⟨k + 1, by omega, by go_num, l, HN1.out, HW2.out, HB2.out⟩
      case measure => simp [intOf]; omega
     ·have HN1 := Lib.hid (show norR L (k + 1) = insF (norR L k) (a2, b2) by rw [norR, HKN.out, if_pos rfl, HG2.out])
      obtain ⟨s, hs⟩ : ∃ s, norR L k = s := ⟨_, rfl⟩
      have HLS := Lib.hid (show zF s = l by rw [← hs]; exact HL.out)
      rw [hs] at HN1
      have HSR := Lib.hid (show InF s from fun y hy => HR.out y (norR_mem' L k y (by have := HM.out; omega) (hs ▸ hy)))
      have hsl : s.length = l.length := by rw [← HLS.out, zF_len]
      clear hs
      go_upto_block 4 with fail
      go_cut [7] (fun a wx => ∃ q : Nat, q ≤ l.length ∧ a = .int .i64 q ∧ ScanF s (a2, b2) q ∧ StopF s (a2, b2) q ∧ wx.ownsRow w.heap.size 69 2 (.slice p3 l.length c3) l.length (ftV l) ∧ Below w.heap.size w wx)
      case first =>
       go_wp2_with fail
       go_loopw [7] (fun a wx => ∃ q : Nat, q ≤ l.length ∧ a = .int .i64 q ∧ ScanF s (a2, b2) q ∧ wx.ownsRow w.heap.size 69 2 (.slice p3 l.length c3) l.length (ftV l) ∧ Below w.heap.size w wx) (fun a _ => l.length - (intOf a).toNat)
       case atStart => exact ⟨0, Nat.zero_le _, rfl, (fun _ _ h => absurd h (Nat.not_lt_zero _)), HW2.out, HB2.out⟩
       case round =>
        obtain ⟨q, hq, rfl, hsc, hown, hb⟩ := hrel
        have HSC := Lib.hid hsc
        clear hsc
        have HW5 := Lib.hid hown
        have HB5 := Lib.hid hb
        have hsz5 := hb.size
        clear hown hb
        have e5 : (0 : Int) ≤ (q : Int) := by omega
        by_cases hql : q < l.length
        ·obtain ⟨_, hnil | ⟨g, c, hg, _, hglt, _, hcell⟩⟩ := flt_own HW5.out
         ·omega
         ·injection hg with hg1 _ hg3
          subst hg1
          subst hg3
          have hqs : q < s.length := by omega
          obtain ⟨a3, b3, hg3⟩ : ∃ a3 b3, s[q] = (a3, b3) := ⟨_, _, rfl⟩
          have hlq : l[q]? = some ((a3 : Int), (b3 : Int)) := by rw [← HLS.out]; simp [zF, hqs, hg3]
          obtain ⟨hc1, hd1⟩ := ftV_get hlq
          have HG3 := Lib.hid hg3
          have HR3 := Lib.hid (show a3 < 65536 ∧ b3 < 65536 by have := HSR.out (a3, b3) (hg3 ▸ List.getElem_mem _); exact this)
          clear hg3 hlq
          simp only at hc1 hd1
          have e6 : (q : Int) < (l.length : Int) := by omega
          have HM := Lib.hid (show VM w (.slice (some ⟨g, 0, none⟩) l.length c3) l b (off + k * 2) g (q * 2) (a3 : Int) (b3 : Int) (a2 : Int) (b2 : Int) _ from ⟨hcell _ _ hc1, hcell _ _ hd1, (HB5.out.cell (p := ⟨b, off + k * 2, none⟩) hbb).trans HC2.out.1, (HB5.out.cell (p := ⟨b, off + k * 2 + 1, none⟩) hbb).trans HC2.out.2, Nat.lt_of_lt_of_le hbb hsz5, hglt, HW5.out, HB5.out⟩)
          clear hcell hc1 hd1
          go_upto_region 13 with fail
          go_region_held3 (fun W => W.cell? ⟨g, q * 2, none⟩ = some (.int .u16 (a3 : Int)) ∧ W.cell? ⟨g, q * 2 + 1, none⟩ = some (.int .u16 (b3 : Int)) ∧ W.cell? ⟨b, off + k * 2, none⟩ = some (.int .u16 (a2 : Int)) ∧ W.cell? ⟨b, off + k * 2 + 1, none⟩ = some (.int .u16 (b2 : Int)) ∧ VM w (.slice (some ⟨g, 0, none⟩) l.length c3) l b (off + k * 2) g (q * 2) (a3 : Int) (b3 : Int) (a2 : Int) (b2 : Int) W)
           (first | exact vmS HM.out | exact vmS (HM.out.below (below_drew _)) | exact vmS hM6)
           ((go_at_call 80; refine (compareFR_ex a3 b3 a2 b2 HR3.out.1 HR3.out.2 HR2.out.1 HR2.out.2 _).mono ?_; rintro e w6 ⟨rfl, hb6⟩; have hM6 := (HM.out.below (below_drew _)).below hb6))
          have HM6 := Lib.hid hM6
          clear hM6 hb6
          by_cases hr : cmpF a3 b3 a2 b2 < 0
          ·have HS1 := Lib.hid (HSC.out.succ hqs (show cF s[q] (a2, b2) < 0 by rw [HG3.out]; exact hr))
           go_wp2_with fail
           go_roundw
           case rel => exact ⟨q + 1, by omega, by go_num, HS1.out, HM6.out.own, HM6.out.bl⟩
           case measure => simp [intOf]; omega
          ·have HST := Lib.hid (show StopF s (a2, b2) q from fun _ => by rw [HG3.out]; exact hr)
           go_wp2_with fail
           go_meet
           exact ⟨q, hq, rfl, HSC.out, HST.out, HM6.out.own, HM6.out.bl⟩
        ·have e6 : decide ((q : Int) < (l.length : Int)) = false := by simp; omega
         go_upto_region 13 with fail
         go_quiet (fail)
         go_wp2_with fail
         go_meet
         exact ⟨q, hq, rfl, HSC.out, (fun h => by omega), own_drewN HW5.out _, below_drewN HB5.out _⟩
      case rest =>
       obtain ⟨q, hq, rfl, hsc, hst, hown, hb⟩ := hcut
       have HIN := Lib.hid (show zF (norR L (k + 1)) = l.take q ++ [((a2 : Int), (b2 : Int))] ++ l.drop q by rw [HN1.out, insF_of (by omega) hsc hst, HLS.out])
       clear hsc hst
       have HW5 := Lib.hid hown
       have HB5 := Lib.hid hb
       have hsz5 := hb.size
       clear hown hb
       have hcx := (HB5.out.cell (p := ⟨b, off + k * 2, none⟩) hbb).trans HC2.out.1
       have hcy := (HB5.out.cell (p := ⟨b, off + k * 2 + 1, none⟩) hbb).trans HC2.out.2
       obtain ⟨_, ⟨hnil, hl0⟩ | ⟨g, c, hg, hgb, hglt, hcc, hcell⟩⟩ := flt_own HW5.out
       ·injection hnil with h1 h2 h3
        have hl1 : l = [] := List.eq_nil_of_length_eq_zero hl0
        subst h1
        subst h3
        subst hl1
        obtain rfl : q = 0 := by simpa using hq
        go_upto_region 17 with (at_builtin; refine wpList_append_own_none rfl _ _ 47 rfl wc.heap.size 69 i0 2 Tryz.underlying47 hi (.slice none 0 0) 0 [] rfl (World.ownsRow_nil _ _ _ _) rfl ?_)
        go_wp2_with (at_builtin; refine wpList_append_own _ rfl _ _ 47 rfl wc.heap.size 69 i0 (.agg #[.int .u16 0, .int .u16 0]) 2 4 Tryz.underlying47 hi hz0 hz1 hz2 rfl (by decide) (.slice none 0 0) 0 [] rfl ((World.ownsRow_nil wc wc.heap.size 69 2).alloc _) ⟨wc.heap.size, 0, none⟩ 1 1 [.int .u16 (a2 : Int), .int .u16 (b2 : Int)] rfl rfl ?n1 ?n2 ?n3 ?n4 ?n5 ?_)
        try (case n1 => (intro j u hj; rcases j with _ | _ | j <;> simp at hj <;> (subst hj; simp [Addr.add])))
        try (case n2 => (first | exact ⟨rfl, rfl⟩ | (intro u hu; simp at hu; rcases hu with rfl | rfl <;> rfl)))
        try (case n3 => (unfold maxLen; omega))
        try (case n4 => omega)
        try (case n5 => (first | omega | (simp; omega)))
        intro v' w6 hown' hgrow _
        have hb6 : Below w.heap.size w w6 := below_grown HB5.out hsz5 (World.ownsRow_nil wc w.heap.size 69 2) hgrow
        have HW6 := Lib.hid (own_mono (show w6.ownsRow wc.heap.size 69 2 v' [((a2 : Int), (b2 : Int))].length (ftV [((a2 : Int), (b2 : Int))]) from hown') hsz5)
        have HB6 := Lib.hid hb6
        clear hown' hgrow hb6 hcx hcy
        go_wp2_with (at_builtin; refine wpList_append_own_none rfl _ _ 47 rfl w.heap.size 69 i0 2 Tryz.underlying47 hi v' _ _ rfl HW6.out rfl ?_)
        go_roundw
        case rel => exact ⟨k + 1, [((a2 : Int), (b2 : Int))], by omega, by go_num, by rw [HIN.out]; simp, HW6.out, HB6.out⟩
        case measure => simp [intOf]; omega
       ·injection hg with hg1 _ hg3
        subst hg1
        subst hg3
        have e7 : (0 : Int) ≤ (q : Int) := by omega
        have e8 : (q : Int) ≤ (c3 : Int) := by omega
        have e9 : q ≤ c3 := by omega
        have HLT := Lib.hid (show (ftV (l.take q)).length = q * 2 by rw [ftV_len, List.length_take]; omega)
        have HLD := Lib.hid (show (ftV (l.drop q)).length = (l.length - q) * 2 by rw [ftV_len, List.length_drop])
        have HCELL := Lib.hid hcell
        clear hcell
        go_upto_region 17 with (at_builtin; refine wpList_append_own _ rfl _ _ 47 rfl wc.heap.size 69 i0 (.agg #[.int .u16 0, .int .u16 0]) 2 4 Tryz.underlying47 hi hz0 hz1 hz2 rfl (by decide) (.slice none 0 0) 0 [] rfl (World.ownsRow_nil wc wc.heap.size 69 2) ⟨g, 0, none⟩ q c3 (ftV (l.take q)) rfl HLT.out ?p1 ?p2 ?p3 ?p4 ?p5 ?_)
        case p1 =>
         intro j u hj
         rw [ftV_take, List.getElem?_take] at hj
         split at hj
         ·have := HCELL.out j u hj
          simpa [Addr.add] using this
         ·cases hj
        case p2 => exact ftV_one _
        case p3 => unfold maxLen; omega
        case p4 => omega
        intro v6 w6 hown6 hgrow6 _
        have hb6 : Below wc.heap.size wc w6 := (Below.refl wc.heap.size wc).grown hgrow6 (Nat.le_refl _) (fun k hk => by cases hk)
        have HW6 := Lib.hid (show w6.ownsRow wc.heap.size 69 2 v6 q (ftV (l.take q)) by simpa using hown6)
        have HB6 := Lib.hid hb6
        have hsz6 := hb6.size
        have hcx6 := (hb6.cell (p := ⟨b, off + k * 2, none⟩) (Nat.lt_of_lt_of_le hbb hsz5)).trans hcx
        have hcy6 := (hb6.cell (p := ⟨b, off + k * 2 + 1, none⟩) (Nat.lt_of_lt_of_le hbb hsz5)).trans hcy
        clear hown6 hgrow6 hb6 hcx hcy
        go_upto_region 18 with (at_builtin; refine wpList_append_own _ rfl _ _ 47 rfl wc.heap.size 69 i0 (.agg #[.int .u16 0, .int .u16 0]) 2 4 Tryz.underlying47 hi hz0 hz1 hz2 rfl (by decide) v6 q (ftV (l.take q)) rfl (HW6.out.alloc _) ⟨w6.heap.size, 0, none⟩ 1 1 [.int .u16 (a2 : Int), .int .u16 (b2 : Int)] rfl rfl ?r1 ?r2 ?r3 ?r4 ?r5 ?_)
        try (case r1 => (intro j u hj; rcases j with _ | _ | j <;> simp at hj <;> (subst hj; simp [Addr.add])))
        try (case r2 => (first | exact ⟨rfl, rfl⟩ | (intro u hu; simp at hu; rcases hu with rfl | rfl <;> rfl)))
        try (case r3 => (unfold maxLen; omega))
        try (case r4 => omega)
        try (case r5 => (first | omega | (simp; omega)))
        intro v7 w7 hown7 hgrow7 _
        have hb7 : Below wc.heap.size wc w7 := below_grown HB6.out hsz6 HW6.out hgrow7
        have HW7 := Lib.hid (show w7.ownsRow wc.heap.size 69 2 v7 (q + 1) (ftV (l.take q ++ [((a2 : Int), (b2 : Int))])) by rw [ftV_app]; exact hown7)
        have HB7 := Lib.hid hb7
        have hsz7 := hb7.size
        clear hown7 hgrow7 hb7 hcx6 hcy6
        have e10 : (q : Int) ≤ (l.length : Int) := by omega
        by_cases hqc : q = c3
        ·have hlq : l.length = q := by omega
         have HLQ := Lib.hid hlq
         clear hlq
         subst hqc
         go_wp2_with (at_builtin; refine wpList_append_own _ rfl _ _ 47 rfl wc.heap.size 69 i0 (.agg #[.int .u16 0, .int .u16 0]) 2 4 Tryz.underlying47 hi hz0 hz1 hz2 rfl (by decide) v7 (q + 1) (ftV (l.take q ++ [((a2 : Int), (b2 : Int))])) rfl HW7.out _ _ _ [] rfl (by first | rfl | (have := HLQ.out; simp; omega)) ?s1 ?s2 ?s3 ?s4 ?s5 ?_)
         try (case s1 => (intro j u hj; simp at hj))
         try (case s2 => (intro u hu; simp at hu))
         try (case s3 => (unfold maxLen; omega))
         try (case s4 => omega)
         try (case s5 => omega)
         intro v8 w8 hown8 hgrow8 _
         have hb8 : Below wc.heap.size wc w8 := HB7.out.grown hgrow8 hsz7 (fun k hk => (HW7.out.lt k hk).1)
         have h0 : l.drop q = [] := List.drop_eq_nil_of_le (by have := HLQ.out; omega)
         have H0 := Lib.hid h0
         have hlen8 : (l.take q ++ [((a2 : Int), (b2 : Int))]).length = q + 1 := by simp; omega
         have HW8 := Lib.hid (own_mono (show w8.ownsRow wc.heap.size 69 2 v8 (l.take q ++ [((a2 : Int), (b2 : Int))]).length (ftV (l.take q ++ [((a2 : Int), (b2 : Int))])) by rw [hlen8]; simpa using hown8) hsz5)
         have HB8 := Lib.hid (HB5.out.trans (hb8.mono hsz5))
         have HL8 := Lib.hid hlen8
         clear hown8 hgrow8 hb8 hlen8
         go_wp2_with fail
         go_roundw
         case rel => exact ⟨k + 1, _, by omega, by go_num, by rw [HIN.out, H0.out, List.append_nil], HW8.out, HB8.out⟩
         case measure => simp [intOf]; omega
        ·have e11 : ¬ c3 - q = 0 := by omega
         go_wp2_with (at_builtin; refine wpList_append_own _ rfl _ _ 47 rfl wc.heap.size 69 i0 (.agg #[.int .u16 0, .int .u16 0]) 2 4 Tryz.underlying47 hi hz0 hz1 hz2 rfl (by decide) v7 (q + 1) (ftV (l.take q ++ [((a2 : Int), (b2 : Int))])) rfl HW7.out ⟨g, q * 2, none⟩ (l.length - q) (c3 - q) (ftV (l.drop q)) rfl HLD.out ?t1 ?t2 ?t3 ?t4 ?t5 ?_)
         case t1 =>
          intro j u hj
          rw [ftV_drop, List.getElem?_drop] at hj
          have h1 := (HB7.out.cell (p := ⟨g, q * 2 + j, none⟩) hglt).trans (HCELL.out _ u hj)
          rw [Addr.add_lit]
          exact h1
         try (case t2 => exact ftV_one _)
         try (case t3 => (unfold maxLen; omega))
         try (case t4 => omega)
         try (case t5 => omega)
         intro v8 w8 hown8 hgrow8 _
         have hb8 : Below wc.heap.size wc w8 := HB7.out.grown hgrow8 hsz7 (fun k hk => (HW7.out.lt k hk).1)
         have hlen8 : (l.take q ++ [((a2 : Int), (b2 : Int))] ++ l.drop q).length = q + 1 + (l.length - q) := by simp; omega
         have HW8 := Lib.hid (own_mono (show w8.ownsRow wc.heap.size 69 2 v8 (l.take q ++ [((a2 : Int), (b2 : Int))] ++ l.drop q).length (ftV (l.take q ++ [((a2 : Int), (b2 : Int))] ++ l.drop q)) by rw [hlen8, ftV_app]; exact hown8) hsz5)
         have HB8 := Lib.hid (HB5.out.trans (hb8.mono hsz5))
         have HL8 := Lib.hid hlen8
         clear hown8 hgrow8 hb8 hlen8
         go_wp2_with fail
         go_roundw
         case rel => exact ⟨k + 1, _, by omega, by go_num, HIN.out, HW8.out, HB8.out⟩
         case measure => simp [intOf]; omega
  ·obtain rfl : k = n := by omega
   obtain ⟨s, hs⟩ : ∃ s, norR L k = s := ⟨_, rfl⟩
   have hlz : zF s = l := by rw [← hs]; exact HL.out
   have HW' := HW.out
   rw [← hlz, zF_len] at HW'
   obtain ⟨p4, c4, hv4, hp4, hc4, _⟩ := fltL_of_own HW'
   subst hv4
   have HPC := Lib.hid (And.intro (plain_of_own HW') (cap_of_own HW'))
   have HFR := Lib.hid (fresh_of_own HW')
   have HP4 := Lib.hid hp4
   have HS := Lib.hid hs
   clear hv3 hp3 hs HW hlz HL hp4
   go_wp2_with fail
   go_ret
   refine (show FltsL (norR L k) w _ _ from ?_)
   rw [HS.out]
   exact ⟨p4, c4, rfl, hc4, HP4.out, HFR.out, HB.out, HPC.out⟩
end Go.Proofs.YtmcnpaehmnadeaaGreatDoor
