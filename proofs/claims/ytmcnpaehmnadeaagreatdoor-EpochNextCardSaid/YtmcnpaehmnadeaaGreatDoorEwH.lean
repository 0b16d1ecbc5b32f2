/-
  EpochOf: sederuntref19.Normal returns.
-/
import Derived.Test.YtmcnpaehmnadeaaGreatDoorEwAG
import Derived.Laws.AppendOwnNone
set_option maxHeartbeats 6400000
set_option maxRecDepth 1000000
namespace Go.Proofs.YtmcnpaehmnadeaaGreatDoor
open Go Go.RowKit
structure VN (w : World) (v : Value) (l : List (Int × Int)) (b o1 o2 : Nat) (x1 y1 x2 y2 : Int) (W : World) : Prop where
 c1 : W.cell? ⟨b, o1, none⟩ = some (.int .u16 x1)
 d1 : W.cell? ⟨b, o1 + 1, none⟩ = some (.int .u16 y1)
 c2 : W.cell? ⟨b, o2, none⟩ = some (.int .u16 x2)
 d2 : W.cell? ⟨b, o2 + 1, none⟩ = some (.int .u16 y2)
 lt : b < W.heap.size
 own : W.ownsRow w.heap.size 69 2 v l.length (ftV l)
 bl : Below w.heap.size w W
theorem VN.below {w : World} {v : Value} {l : List (Int × Int)} {b o1 o2 : Nat} {x1 y1 x2 y2 : Int} {W W' : World} (h : VN w v l b o1 o2 x1 y1 x2 y2 W) (hb : Below W.heap.size W W') : VN w v l b o1 o2 x1 y1 x2 y2 W' :=
 ⟨(hb.cell (p := ⟨b, o1, none⟩) h.lt).trans h.c1, (hb.cell (p := ⟨b, o1 + 1, none⟩) h.lt).trans h.d1, (hb.cell (p := ⟨b, o2, none⟩) h.lt).trans h.c2, (hb.cell (p := ⟨b, o2 + 1, none⟩) h.lt).trans h.d2, Nat.lt_of_lt_of_le h.lt hb.size, own_below h.own hb, h.bl.trans (hb.mono h.bl.size)⟩
theorem vnS {w : World} {v : Value} {l : List (Int × Int)} {b o1 o2 : Nat} {x1 y1 x2 y2 : Int} {W : World} (h : VN w v l b o1 o2 x1 y1 x2 y2 W) : W.cell? ⟨b, o1, none⟩ = some (.int .u16 x1) ∧ W.cell? ⟨b, o1 + 1, none⟩ = some (.int .u16 y1) ∧ W.cell? ⟨b, o2, none⟩ = some (.int .u16 x2) ∧ W.cell? ⟨b, o2 + 1, none⟩ = some (.int .u16 y2) ∧ VN w v l b o1 o2 x1 y1 x2 y2 W := ⟨h.c1, h.d1, h.c2, h.d2, h⟩
structure VM (w : World) (v : Value) (l : List (Int × Int)) (b o g q : Nat) (x1 y1 x2 y2 : Int) (W : World) : Prop where
 c1 : W.cell? ⟨g, q, none⟩ = some (.int .u16 x1)
 d1 : W.cell? ⟨g, q + 1, none⟩ = some (.int .u16 y1)
 c2 : W.cell? ⟨b, o, none⟩ = some (.int .u16 x2)
 d2 : W.cell? ⟨b, o + 1, none⟩ = some (.int .u16 y2)
 lt : b < W.heap.size
 lg : g < W.heap.size
 own : W.ownsRow w.heap.size 69 2 v l.length (ftV l)
 bl : Below w.heap.size w W
theorem VM.below {w : World} {v : Value} {l : List (Int × Int)} {b o g q : Nat} {x1 y1 x2 y2 : Int} {W W' : World} (h : VM w v l b o g q x1 y1 x2 y2 W) (hb : Below W.heap.size W W') : VM w v l b o g q x1 y1 x2 y2 W' :=
 ⟨(hb.cell (p := ⟨g, q, none⟩) h.lg).trans h.c1, (hb.cell (p := ⟨g, q + 1, none⟩) h.lg).trans h.d1, (hb.cell (p := ⟨b, o, none⟩) h.lt).trans h.c2, (hb.cell (p := ⟨b, o + 1, none⟩) h.lt).trans h.d2, Nat.lt_of_lt_of_le h.lt hb.size, Nat.lt_of_lt_of_le h.lg hb.size, own_below h.own hb, h.bl.trans (hb.mono h.bl.size)⟩
theorem vmS {w : World} {v : Value} {l : List (Int × Int)} {b o g q : Nat} {x1 y1 x2 y2 : Int} {W : World} (h : VM w v l b o g q x1 y1 x2 y2 W) : W.cell? ⟨g, q, none⟩ = some (.int .u16 x1) ∧ W.cell? ⟨g, q + 1, none⟩ = some (.int .u16 y1) ∧ W.cell? ⟨b, o, none⟩ = some (.int .u16 x2) ∧ W.cell? ⟨b, o + 1, none⟩ = some (.int .u16 y2) ∧ VM w v l b o g q x1 y1 x2 y2 W := ⟨h.c1, h.d1, h.c2, h.d2, h⟩
theorem own_mono {w : World} {base base' e sz n : Nat} {v : Value} {xs : List Value} (h : w.ownsRow base e sz v n xs) (hb : base' ≤ base) : w.ownsRow base' e sz v n xs := by
 refine ⟨h.1, ?_⟩
 rcases h.2 with h0 | ⟨g, cap, cur, h1, h2, h3⟩
 ·exact .inl h0
 ·exact .inr ⟨g, cap, cur, h1, Nat.le_trans hb h2, h3⟩
set_option linter.unusedSimpArgs false in
theorem normal_any (p : Option Addr) (n cap : Nat) (w : World) (hn : n ≤ 1000) (hp : FltP w p n) : Calls Tryz.prog 53 #[.slice p n cap] w (FltRet 1000 w) := by
 obtain ⟨i0, hi, hz0, hz1, hz2⟩ := info_parts Tryz.info69
 have HP := Lib.hid hp
 clear hp
 go_enter Tryz.func53, Tryz.ntmps53
 go_wp2_with fail
 go_loopw [3, 4] (fun v i wr => ∃ (k : Nat) (l : List (Int × Int)), k ≤ n ∧ i = .int .i64 k ∧ l.length ≤ k ∧ wr.ownsRow w.heap.size 69 2 v l.length (ftV l) ∧ Below w.heap.size w wr) (fun _ i _ => n - (intOf i).toNat)
 case atStart => exact ⟨0, [], Nat.zero_le _, rfl, Nat.le_refl _, World.ownsRow_nil _ _ _ _, Below.refl _ _⟩
 case round =>
  obtain ⟨k, l, hk, rfl, hl, hown, hb⟩ := hrel
  have HW := Lib.hid hown
  have HB := Lib.hid hb
  clear hown hb
  obtain ⟨p3, c3, hv3, hp3, hc3⟩ := fltP_of_own HW.out
  by_cases hkn : k < n
  ·obtain ⟨b, off, rfl, hbb, x2, y2, hx2, hy2⟩ := HP.out.at hkn
   have HC2 := Lib.hid (And.intro hx2 hy2)
   clear hx2 hy2
   have e1 : (0 : Int) ≤ (k : Int) := by omega
   have e2 : (k : Int) < (n : Int) := by omega
   generalize hgv : u3 = v3 at HW hv3 ⊢
   clear hgv
   have HV3 := Lib.hid hv3
   have HP3 := Lib.hid hp3
   clear hv3 hp3
   go_wp2_with fail
   go_loopw [5, 6] (fun f a wx => ∃ (fb : Bool) (j : Nat), j ≤ n ∧ f = .bool fb ∧ a = .int .i64 j ∧ wx.ownsRow w.heap.size 69 2 v3 l.length (ftV l) ∧ Below w.heap.size w wx) (fun _ a _ => n - (intOf a).toNat)
   case atStart => exact ⟨true, 0, Nat.zero_le _, rfl, rfl, HW.out, HB.out⟩
   case round =>
    obtain ⟨fb, j, hj, rfl, rfl, hown, hb⟩ := hrel
    have HW2 := Lib.hid hown
    have HB2 := Lib.hid hb
    have hsz2 := hb.size
    clear hown hb
    by_cases hjn : j < n
    ·obtain ⟨b', off', hpe, _, x1, y1, hx1, hy1⟩ := HP.out.at hjn
     obtain ⟨rfl, rfl⟩ : b' = b ∧ off' = off := by
      injection hpe with hpe
      injection hpe with h1 h2
      exact ⟨h1.symm, h2.symm⟩
     have e3 : (0 : Int) ≤ (j : Int) := by omega
     have e4 : (j : Int) < (n : Int) := by omega
     have HV := Lib.hid (show VN w v3 l b' (off' + j * 2) (off' + k * 2) x1 y1 x2 y2 _ from ⟨(HB2.out.cell (p := ⟨b', off' + j * 2, none⟩) hbb).trans hx1, (HB2.out.cell (p := ⟨b', off' + j * 2 + 1, none⟩) hbb).trans hy1, (HB2.out.cell (p := ⟨b', off' + k * 2, none⟩) hbb).trans HC2.out.1, (HB2.out.cell (p := ⟨b', off' + k * 2 + 1, none⟩) hbb).trans HC2.out.2, Nat.lt_of_lt_of_le hbb hsz2, HW2.out, HB2.out⟩)
     clear hx1 hy1 hpe
     cases hcb : cB x1 y1 x2 y2
     ·skip
      go_upto_region 9 with fail
      refine wp_region_noPanic ?_
      refine wp_region_held_drew (S := (fun W => W.cell? ⟨b', off' + j * 2, none⟩ = some (.int .u16 x1) ∧ W.cell? ⟨b', off' + j * 2 + 1, none⟩ = some (.int .u16 y1) ∧ W.cell? ⟨b', off' + k * 2, none⟩ = some (.int .u16 x2) ∧ W.cell? ⟨b', off' + k * 2 + 1, none⟩ = some (.int .u16 y2) ∧ VN w v3 l b' (off' + j * 2) (off' + k * 2) x1 y1 x2 y2 W)) (by kernel_rfl) ?_ (fun hHeld => ?_)
      ·exact vnS (HV.out.below (below_drew _))
      refine tkH 0 21 ?_ rfl ?_ ?_
      rotate_left
      ·intro w hSw; (try dsimp only at hSw); go_simp; try with_reducible rfl
      try simp only [Act.put, sA, sZ, sS]
      refine tkH 1 22 ?_ rfl ?_ ?_
      rotate_left
      ·intro w hSw; (try dsimp only at hSw); go_simp; try with_reducible rfl
      try simp only [Act.put, sA, sZ, sS]
      refine tkH 2 23 ?_ rfl ?_ ?_
      rotate_left
      ·intro w hSw; (try dsimp only at hSw); go_simp; try with_reducible rfl
      try simp only [Act.put, sA, sZ, sS]
      refine tkH 3 24 ?_ rfl ?_ ?_
      rotate_left
      ·intro w hSw; (try dsimp only at hSw); go_simp; try with_reducible rfl
      try simp only [Act.put, sA, sZ, sS]
      refine tkH 4 25 ?_ rfl ?_ ?_
      rotate_left
      ·intro w hSw; (try dsimp only at hSw); go_simp; try with_reducible rfl
      try simp only [Act.put, sA, sZ, sS]
      refine tkH 5 26 ?_ rfl ?_ ?_
      rotate_left
      ·intro w hSw; (try dsimp only at hSw); go_simp; try with_reducible rfl
      try simp only [Act.put, sA, sZ, sS]
      refine tkH 6 27 ?_ rfl ?_ ?_
      rotate_left
      ·intro w hSw; (try dsimp only at hSw); go_simp; try with_reducible rfl
      try simp only [Act.put, sA, sZ, sS]
      refine tkH 7 28 ?_ rfl ?_ ?_
      rotate_left
      ·intro w hSw; (try dsimp only at hSw); go_simp; try with_reducible rfl
      try simp only [Act.put, sA, sZ, sS]
      refine wpAnyH_ready (rs := [8]) (by kernel_rfl) (by simp) ?_
      refine AllReadyH.cons (o := ⟨some 29, _, _, _, _, _⟩) rfl (fun K hK => ?_) AllReadyH.nil
      go_simp
      go_at_call 79
      refine (covers_ex x1 y1 x2 y2 _).mono ?_
      rw [hcb]
      rintro e w4 ⟨rfl, hb4⟩
      have hV4 := (HV.out.below (below_drew _)).below hb4
      go_simp
      refine hK.out _ _ ?_ (fun hHeld => ?_)
      ·exact vnS hV4
      clear hK K
      try simp only [Act.put, sA, sZ, sS]
      refine tkH 9 30 ?_ rfl ?_ ?_
      rotate_left
      ·intro w hSw; (try dsimp only at hSw); go_simp; try with_reducible rfl
      try simp only [Act.put, sA, sZ, sS]
      refine tuH 10 31 rfl ?_
      try simp only [Act.put, sA, sZ, sS]
      refine tuH 11 32 rfl ?_
      try simp only [Act.put, sA, sZ, sS]
      refine tuH 12 33 rfl ?_
      try simp only [Act.put, sA, sZ, sS]
      refine tuH 13 34 rfl ?_
      try simp only [Act.put, sA, sZ, sS]
      refine tuH 14 35 rfl ?_
      try simp only [Act.put, sA, sZ, sS]
      refine tuH 15 36 rfl ?_
      try simp only [Act.put, sA, sZ, sS]
      refine tuH 16 37 rfl ?_
      try simp only [Act.put, sA, sZ, sS]
      refine tuH 17 38 rfl ?_
      try simp only [Act.put, sA, sZ, sS]
      refine tuH 18 39 rfl ?_
      try simp only [Act.put, sA, sZ, sS]
      refine tuH 19 40 rfl ?_
      try simp only [Act.put, sA, sZ, sS]
      refine tuH 20 41 rfl ?_
      try simp only [Act.put, sA, sZ, sS]
      refine tuH 21 42 rfl ?_
      try simp only [Act.put, sA, sZ, sS]
      refine tuH 22 43 rfl ?_
      try simp only [Act.put, sA, sZ, sS]
      refine tuH 23 44 rfl ?_
      try simp only [Act.put, sA, sZ, sS]
      refine tkH 24 45 ?_ rfl ?_ ?_
      rotate_left
      ·intro w hSw; (try dsimp only at hSw); go_simp; try with_reducible rfl
      try simp only [Act.put, sA, sZ, sS]
      refine wpAnyH_done (by kernel_rfl) ?_ _
      refine NoPanic.normal ?_
      have HV4 := Lib.hid hV4
      clear hV4 hb4 hcb hHeld
      go_wp2_with fail
      all_goals
       go_roundw
       case rel => exact ⟨_, j + 1, by omega, rfl, by go_num, HV4.out.own, HV4.out.bl⟩
       case measure => simp [intOf]; omega
     ·by_cases hxx : x1 = x2
      ·by_cases hyy : y1 = y2
       ·subst hxx
        subst hyy
        go_upto_region 9 with fail
        refine wp_region_noPanic ?_
        refine wp_region_held_drew (S := (fun W => W.cell? ⟨b', off' + j * 2, none⟩ = some (.int .u16 x1) ∧ W.cell? ⟨b', off' + j * 2 + 1, none⟩ = some (.int .u16 y1) ∧ W.cell? ⟨b', off' + k * 2, none⟩ = some (.int .u16 x1) ∧ W.cell? ⟨b', off' + k * 2 + 1, none⟩ = some (.int .u16 y1) ∧ VN w v3 l b' (off' + j * 2) (off' + k * 2) x1 y1 x1 y1 W)) (by kernel_rfl) ?_ (fun hHeld => ?_)
        ·exact vnS (HV.out.below (below_drew _))
        refine tkH 0 21 ?_ rfl ?_ ?_
        rotate_left
        ·intro w hSw; (try dsimp only at hSw); go_simp; try with_reducible rfl
        try simp only [Act.put, sA, sZ, sS]
        refine tkH 1 22 ?_ rfl ?_ ?_
        rotate_left
        ·intro w hSw; (try dsimp only at hSw); go_simp; try with_reducible rfl
        try simp only [Act.put, sA, sZ, sS]
        refine tkH 2 23 ?_ rfl ?_ ?_
        rotate_left
        ·intro w hSw; (try dsimp only at hSw); go_simp; try with_reducible rfl
        try simp only [Act.put, sA, sZ, sS]
        refine tkH 3 24 ?_ rfl ?_ ?_
        rotate_left
        ·intro w hSw; (try dsimp only at hSw); go_simp; try with_reducible rfl
        try simp only [Act.put, sA, sZ, sS]
        refine tkH 4 25 ?_ rfl ?_ ?_
        rotate_left
        ·intro w hSw; (try dsimp only at hSw); go_simp; try with_reducible rfl
        try simp only [Act.put, sA, sZ, sS]
        refine tkH 5 26 ?_ rfl ?_ ?_
        rotate_left
        ·intro w hSw; (try dsimp only at hSw); go_simp; try with_reducible rfl
        try simp only [Act.put, sA, sZ, sS]
        refine tkH 6 27 ?_ rfl ?_ ?_
        rotate_left
        ·intro w hSw; (try dsimp only at hSw); go_simp; try with_reducible rfl
        try simp only [Act.put, sA, sZ, sS]
        refine tkH 7 28 ?_ rfl ?_ ?_
        rotate_left
        ·intro w hSw; (try dsimp only at hSw); go_simp; try with_reducible rfl
        try simp only [Act.put, sA, sZ, sS]
        refine wpAnyH_ready (rs := [8]) (by kernel_rfl) (by simp) ?_
        refine AllReadyH.cons (o := ⟨some 29, _, _, _, _, _⟩) rfl (fun K hK => ?_) AllReadyH.nil
        go_simp
        go_at_call 79
        refine (covers_ex x1 y1 x1 y1 _).mono ?_
        rw [hcb]
        rintro e w4 ⟨rfl, hb4⟩
        have hV4 := (HV.out.below (below_drew _)).below hb4
        go_simp
        refine hK.out _ _ ?_ (fun hHeld => ?_)
        ·exact vnS hV4
        clear hK K
        try simp only [Act.put, sA, sZ, sS]
        refine tkH 9 30 ?_ rfl ?_ ?_
        rotate_left
        ·intro w hSw; (try dsimp only at hSw); go_simp; try with_reducible rfl
        try simp only [Act.put, sA, sZ, sS]
        refine tkH 10 31 ?_ rfl ?_ ?_
        rotate_left
        ·intro w hSw; (try dsimp only at hSw); go_simp; try with_reducible rfl
        try simp only [Act.put, sA, sZ, sS]
        refine tkH 11 32 ?_ rfl ?_ ?_
        rotate_left
        ·intro w hSw; (try dsimp only at hSw); go_simp; try with_reducible rfl
        try simp only [Act.put, sA, sZ, sS]
        refine tkH 12 33 ?_ rfl ?_ ?_
        rotate_left
        ·intro w hSw; (try dsimp only at hSw); go_simp; try with_reducible rfl
        try simp only [Act.put, sA, sZ, sS]
        refine tkH 13 34 ?_ rfl ?_ ?_
        rotate_left
        ·intro w hSw; (try dsimp only at hSw); go_simp; try with_reducible rfl
        try simp only [Act.put, sA, sZ, sS]
        refine tkH 14 35 ?_ rfl ?_ ?_
        rotate_left
        ·intro w hSw; (try dsimp only at hSw); go_simp; try with_reducible rfl
        try simp only [Act.put, sA, sZ, sS]
        refine tkH 15 36 ?_ rfl ?_ ?_
        rotate_left
        ·intro w hSw; (try dsimp only at hSw); go_simp; try with_reducible rfl
        try simp only [Act.put, sA, sZ, sS]
        refine tkH 16 37 ?_ rfl ?_ ?_
        rotate_left
        ·intro w hSw; (try dsimp only at hSw); go_simp; try with_reducible rfl
        try simp only [Act.put, sA, sZ, sS]
        refine tkH 17 38 ?_ rfl ?_ ?_
        rotate_left
        ·intro w hSw; (try dsimp only at hSw); go_simp; try with_reducible rfl
        try simp only [Act.put, sA, sZ, sS]
        refine tkH 18 39 ?_ rfl ?_ ?_
        rotate_left
        ·intro w hSw; (try dsimp only at hSw); go_simp; try with_reducible rfl
        try simp only [Act.put, sA, sZ, sS]
        refine tkH 19 40 ?_ rfl ?_ ?_
        rotate_left
        ·intro w hSw; (try dsimp only at hSw); go_simp; try with_reducible rfl
        try simp only [Act.put, sA, sZ, sS]
        refine tkH 20 41 ?_ rfl ?_ ?_
        rotate_left
        ·intro w hSw; (try dsimp only at hSw); go_simp; try with_reducible rfl
        try simp only [Act.put, sA, sZ, sS]
        refine tkH 21 42 ?_ rfl ?_ ?_
        rotate_left
        ·intro w hSw; (try dsimp only at hSw); go_simp; try with_reducible rfl
        try simp only [Act.put, sA, sZ, sS]
        refine tkH 22 43 ?_ rfl ?_ ?_
        rotate_left
        ·intro w hSw; (try dsimp only at hSw); go_simp; try with_reducible rfl
        try simp only [Act.put, sA, sZ, sS]
        refine tkH 23 44 ?_ rfl ?_ ?_
        rotate_left
        ·intro w hSw; (try dsimp only at hSw); go_simp; try with_reducible rfl
        try simp only [Act.put, sA, sZ, sS]
        refine tkH 24 45 ?_ rfl ?_ ?_
        rotate_left
        ·intro w hSw; (try dsimp only at hSw); go_simp; try with_reducible rfl
        try simp only [Act.put, sA, sZ, sS]
        refine wpAnyH_done (by kernel_rfl) ?_ _
        refine NoPanic.normal ?_
        have HV4 := Lib.hid hV4
        clear hV4 hb4 hcb hHeld
        go_wp2_with fail
        all_goals
         go_roundw
         case rel => exact ⟨_, j + 1, by omega, rfl, by go_num, HV4.out.own, HV4.out.bl⟩
         case measure => simp [intOf]; omega
       ·subst hxx
        have dyy : ¬ y1 = y2 := hyy
        go_upto_region 9 with fail
        refine wp_region_noPanic ?_
        refine wp_region_held_drew (S := (fun W => W.cell? ⟨b', off' + j * 2, none⟩ = some (.int .u16 x1) ∧ W.cell? ⟨b', off' + j * 2 + 1, none⟩ = some (.int .u16 y1) ∧ W.cell? ⟨b', off' + k * 2, none⟩ = some (.int .u16 x1) ∧ W.cell? ⟨b', off' + k * 2 + 1, none⟩ = some (.int .u16 y2) ∧ VN w v3 l b' (off' + j * 2) (off' + k * 2) x1 y1 x1 y2 W)) (by kernel_rfl) ?_ (fun hHeld => ?_)
        ·exact vnS (HV.out.below (below_drew _))
        refine tkH 0 21 ?_ rfl ?_ ?_
        rotate_left
        ·intro w hSw; (try dsimp only at hSw); go_simp; try with_reducible rfl
        try simp only [Act.put, sA, sZ, sS]
        refine tkH 1 22 ?_ rfl ?_ ?_
        rotate_left
        ·intro w hSw; (try dsimp only at hSw); go_simp; try with_reducible rfl
        try simp only [Act.put, sA, sZ, sS]
        refine tkH 2 23 ?_ rfl ?_ ?_
        rotate_left
        ·intro w hSw; (try dsimp only at hSw); go_simp; try with_reducible rfl
        try simp only [Act.put, sA, sZ, sS]
        refine tkH 3 24 ?_ rfl ?_ ?_
        rotate_left
        ·intro w hSw; (try dsimp only at hSw); go_simp; try with_reducible rfl
        try simp only [Act.put, sA, sZ, sS]
        refine tkH 4 25 ?_ rfl ?_ ?_
        rotate_left
        ·intro w hSw; (try dsimp only at hSw); go_simp; try with_reducible rfl
        try simp only [Act.put, sA, sZ, sS]
        refine tkH 5 26 ?_ rfl ?_ ?_
        rotate_left
        ·intro w hSw; (try dsimp only at hSw); go_simp; try with_reducible rfl
        try simp only [Act.put, sA, sZ, sS]
        refine tkH 6 27 ?_ rfl ?_ ?_
        rotate_left
        ·intro w hSw; (try dsimp only at hSw); go_simp; try with_reducible rfl
        try simp only [Act.put, sA, sZ, sS]
        refine tkH 7 28 ?_ rfl ?_ ?_
        rotate_left
        ·intro w hSw; (try dsimp only at hSw); go_simp; try with_reducible rfl
        try simp only [Act.put, sA, sZ, sS]
        refine wpAnyH_ready (rs := [8]) (by kernel_rfl) (by simp) ?_
        refine AllReadyH.cons (o := ⟨some 29, _, _, _, _, _⟩) rfl (fun K hK => ?_) AllReadyH.nil
        go_simp
        go_at_call 79
        refine (covers_ex x1 y1 x1 y2 _).mono ?_
        rw [hcb]
        rintro e w4 ⟨rfl, hb4⟩
        have hV4 := (HV.out.below (below_drew _)).below hb4
        go_simp
        refine hK.out _ _ ?_ (fun hHeld => ?_)
        ·exact vnS hV4
        clear hK K
        try simp only [Act.put, sA, sZ, sS]
        refine tkH 9 30 ?_ rfl ?_ ?_
        rotate_left
        ·intro w hSw; (try dsimp only at hSw); go_simp; try with_reducible rfl
        try simp only [Act.put, sA, sZ, sS]
        refine tkH 10 31 ?_ rfl ?_ ?_
        rotate_left
        ·intro w hSw; (try dsimp only at hSw); go_simp; try with_reducible rfl
        try simp only [Act.put, sA, sZ, sS]
        refine tkH 11 32 ?_ rfl ?_ ?_
        rotate_left
        ·intro w hSw; (try dsimp only at hSw); go_simp; try with_reducible rfl
        try simp only [Act.put, sA, sZ, sS]
        refine tkH 12 33 ?_ rfl ?_ ?_
        rotate_left
        ·intro w hSw; (try dsimp only at hSw); go_simp; try with_reducible rfl
        try simp only [Act.put, sA, sZ, sS]
        refine tkH 13 34 ?_ rfl ?_ ?_
        rotate_left
        ·intro w hSw; (try dsimp only at hSw); go_simp; try with_reducible rfl
        try simp only [Act.put, sA, sZ, sS]
        refine tkH 14 35 ?_ rfl ?_ ?_
        rotate_left
        ·intro w hSw; (try dsimp only at hSw); go_simp; try with_reducible rfl
        try simp only [Act.put, sA, sZ, sS]
        refine tkH 15 36 ?_ rfl ?_ ?_
        rotate_left
        ·intro w hSw; (try dsimp only at hSw); go_simp; try with_reducible rfl
        try simp only [Act.put, sA, sZ, sS]
        refine tkH 16 37 ?_ rfl ?_ ?_
        rotate_left
        ·intro w hSw; (try dsimp only at hSw); go_simp; try with_reducible rfl
        try simp only [Act.put, sA, sZ, sS]
        refine tkH 17 38 ?_ rfl ?_ ?_
        rotate_left
        ·intro w hSw; (try dsimp only at hSw); go_simp; try with_reducible rfl
        try simp only [Act.put, sA, sZ, sS]
        refine tkH 18 39 ?_ rfl ?_ ?_
        rotate_left
        ·intro w hSw; (try dsimp only at hSw); go_simp; try with_reducible rfl
        try simp only [Act.put, sA, sZ, sS]
        refine tkH 19 40 ?_ rfl ?_ ?_
        rotate_left
        ·intro w hSw; (try dsimp only at hSw); go_simp; try with_reducible rfl
        try simp only [Act.put, sA, sZ, sS]
        refine tuH 20 41 rfl ?_
        try simp only [Act.put, sA, sZ, sS]
        refine tuH 21 42 rfl ?_
        try simp only [Act.put, sA, sZ, sS]
        refine tuH 22 43 rfl ?_
        try simp only [Act.put, sA, sZ, sS]
        refine tkH 23 44 ?_ rfl ?_ ?_
        rotate_left
        ·intro w hSw; (try dsimp only at hSw); go_simp; try with_reducible rfl
        try simp only [Act.put, sA, sZ, sS]
        refine tkH 24 45 ?_ rfl ?_ ?_
        rotate_left
        ·intro w hSw; (try dsimp only at hSw); go_simp; try with_reducible rfl
        try simp only [Act.put, sA, sZ, sS]
        refine wpAnyH_done (by kernel_rfl) ?_ _
        refine NoPanic.normal ?_
        have HV4 := Lib.hid hV4
        clear hV4 hb4 hcb hHeld
        go_wp2_with fail
        all_goals
         go_roundw
         case rel => exact ⟨_, j + 1, by omega, rfl, by go_num, HV4.out.own, HV4.out.bl⟩
         case measure => simp [intOf]; omega
      ·have dxx : ¬ x1 = x2 := hxx
       go_upto_region 9 with fail
       refine wp_region_noPanic ?_
       refine wp_region_held_drew (S := (fun W => W.cell? ⟨b', off' + j * 2, none⟩ = some (.int .u16 x1) ∧ W.cell? ⟨b', off' + j * 2 + 1, none⟩ = some (.int .u16 y1) ∧ W.cell? ⟨b', off' + k * 2, none⟩ = some (.int .u16 x2) ∧ W.cell? ⟨b', off' + k * 2 + 1, none⟩ = some (.int .u16 y2) ∧ VN w v3 l b' (off' + j * 2) (off' + k * 2) x1 y1 x2 y2 W)) (by kernel_rfl) ?_ (fun hHeld => ?_)
       ·exact vnS (HV.out.below (below_drew _))
       refine tkH 0 21 ?_ rfl ?_ ?_
       rotate_left
       ·intro w hSw; (try dsimp only at hSw); go_simp; try with_reducible rfl
       try simp only [Act.put, sA, sZ, sS]
       refine tkH 1 22 ?_ rfl ?_ ?_
       rotate_left
       ·intro w hSw; (try dsimp only at hSw); go_simp; try with_reducible rfl
       try simp only [Act.put, sA, sZ, sS]
       refine tkH 2 23 ?_ rfl ?_ ?_
       rotate_left
       ·intro w hSw; (try dsimp only at hSw); go_simp; try with_reducible rfl
       try simp only [Act.put, sA, sZ, sS]
       refine tkH 3 24 ?_ rfl ?_ ?_
       rotate_left
       ·intro w hSw; (try dsimp only at hSw); go_simp; try with_reducible rfl
       try simp only [Act.put, sA, sZ, sS]
       refine tkH 4 25 ?_ rfl ?_ ?_
       rotate_left
       ·intro w hSw; (try dsimp only at hSw); go_simp; try with_reducible rfl
       try simp only [Act.put, sA, sZ, sS]
       refine tkH 5 26 ?_ rfl ?_ ?_
       rotate_left
       ·intro w hSw; (try dsimp only at hSw); go_simp; try with_reducible rfl
       try simp only [Act.put, sA, sZ, sS]
       refine tkH 6 27 ?_ rfl ?_ ?_
       rotate_left
       ·intro w hSw; (try dsimp only at hSw); go_simp; try with_reducible rfl
       try simp only [Act.put, sA, sZ, sS]
       refine tkH 7 28 ?_ rfl ?_ ?_
       rotate_left
       ·intro w hSw; (try dsimp only at hSw); go_simp; try with_reducible rfl
       try simp only [Act.put, sA, sZ, sS]
       refine wpAnyH_ready (rs := [8]) (by kernel_rfl) (by simp) ?_
       refine AllReadyH.cons (o := ⟨some 29, _, _, _, _, _⟩) rfl (fun K hK => ?_) AllReadyH.nil
       go_simp
       go_at_call 79
       refine (covers_ex x1 y1 x2 y2 _).mono ?_
       rw [hcb]
       rintro e w4 ⟨rfl, hb4⟩
       have hV4 := (HV.out.below (below_drew _)).below hb4
       go_simp
       refine hK.out _ _ ?_ (fun hHeld => ?_)
       ·exact vnS hV4
       clear hK K
       try simp only [Act.put, sA, sZ, sS]
       refine tkH 9 30 ?_ rfl ?_ ?_
       rotate_left
       ·intro w hSw; (try dsimp only at hSw); go_simp; try with_reducible rfl
       try simp only [Act.put, sA, sZ, sS]
       refine tkH 10 31 ?_ rfl ?_ ?_
       rotate_left
       ·intro w hSw; (try dsimp only at hSw); go_simp; try with_reducible rfl
       try simp only [Act.put, sA, sZ, sS]
       refine tkH 11 32 ?_ rfl ?_ ?_
       rotate_left
       ·intro w hSw; (try dsimp only at hSw); go_simp; try with_reducible rfl
       try simp only [Act.put, sA, sZ, sS]
       refine tkH 12 33 ?_ rfl ?_ ?_
       rotate_left
       ·intro w hSw; (try dsimp only at hSw); go_simp; try with_reducible rfl
       try simp only [Act.put, sA, sZ, sS]
       refine tkH 13 34 ?_ rfl ?_ ?_
       rotate_left
       ·intro w hSw; (try dsimp only at hSw); go_simp; try with_reducible rfl
       try simp only [Act.put, sA, sZ, sS]
       refine tkH 14 35 ?_ rfl ?_ ?_
       rotate_left
       ·intro w hSw; (try dsimp only at hSw); go_simp; try with_reducible rfl
       try simp only [Act.put, sA, sZ, sS]
       refine tkH 15 36 ?_ rfl ?_ ?_
       rotate_left
       ·intro w hSw; (try dsimp only at hSw); go_simp; try with_reducible rfl
       try simp only [Act.put, sA, sZ, sS]
       refine tkH 16 37 ?_ rfl ?_ ?_
       rotate_left
       ·intro w hSw; (try dsimp only at hSw); go_simp; try with_reducible rfl
       try simp only [Act.put, sA, sZ, sS]
       refine tkH 17 38 ?_ rfl ?_ ?_
       rotate_left
       ·intro w hSw; (try dsimp only at hSw); go_simp; try with_reducible rfl
       try simp only [Act.put, sA, sZ, sS]
       refine tkH 18 39 ?_ rfl ?_ ?_
       rotate_left
       ·intro w hSw; (try dsimp only at hSw); go_simp; try with_reducible rfl
       try simp only [Act.put, sA, sZ, sS]
       refine tkH 19 40 ?_ rfl ?_ ?_
       rotate_left
       ·intro w hSw; (try dsimp only at hSw); go_simp; try with_reducible rfl
       try simp only [Act.put, sA, sZ, sS]
       refine tuH 20 41 rfl ?_
       try simp only [Act.put, sA, sZ, sS]
       refine tuH 21 42 rfl ?_
       try simp only [Act.put, sA, sZ, sS]
       refine tuH 22 43 rfl ?_
       try simp only [Act.put, sA, sZ, sS]
       refine tkH 23 44 ?_ rfl ?_ ?_
       rotate_left
       ·intro w hSw; (try dsimp only at hSw); go_simp; try with_reducible rfl
       try simp only [Act.put, sA, sZ, sS]
       refine tkH 24 45 ?_ rfl ?_ ?_
       rotate_left
       ·intro w hSw; (try dsimp only at hSw); go_simp; try with_reducible rfl
       try simp only [Act.put, sA, sZ, sS]
       refine wpAnyH_done (by kernel_rfl) ?_ _
       refine NoPanic.normal ?_
       have HV4 := Lib.hid hV4
       clear hV4 hb4 hcb hHeld
       go_wp2_with fail
       all_goals
        go_roundw
        case rel => exact ⟨_, j + 1, by omega, rfl, by go_num, HV4.out.own, HV4.out.bl⟩
        case measure => simp [intOf]; omega
    ·have HV3' := HV3.out
     subst HV3'
     cases fb
     ·go_wp2_with fail
      go_roundw
      case rel => first | exact ⟨k + 1, l, by omega, by go_num, by omega, HW2.out, HB2.out⟩ | exact ⟨k + 1, by omega, by go_num, l, by omega, HW2.out, HB2.out⟩
      case measure => simp [intOf]; omega
     ·go_upto_block 4 with fail
      go_cut [7] (fun a wx => ∃ q : Nat, q ≤ l.length ∧ a = .int .i64 q ∧ wx.ownsRow w.heap.size 69 2 (.slice p3 l.length c3) l.length (ftV l) ∧ Below w.heap.size w wx)
      case first =>
       go_wp2_with fail
       go_loopw [7] (fun a wx => ∃ q : Nat, q ≤ l.length ∧ a = .int .i64 q ∧ wx.ownsRow w.heap.size 69 2 (.slice p3 l.length c3) l.length (ftV l) ∧ Below w.heap.size w wx) (fun a _ => l.length - (intOf a).toNat)
       case atStart => exact ⟨0, Nat.zero_le _, rfl, HW2.out, HB2.out⟩
       case round =>
        obtain ⟨q, hq, rfl, hown, hb⟩ := hrel
        have HW5 := Lib.hid hown
        have HB5 := Lib.hid hb
        have hsz5 := hb.size
        clear hown hb
        have e5 : (0 : Int) ≤ (q : Int) := by omega
        by_cases hql : q < l.length
        ·obtain ⟨_, hnil | ⟨g, c, hg, _, hglt, _, hcell⟩⟩ := flt_own HW5.out
         ·omega
         ·injection hg with hg1 _ hg3
          subst hg1
          subst hg3
          obtain ⟨hc1, hd1⟩ := ftV_get (List.getElem?_eq_getElem hql)
          have e6 : (q : Int) < (l.length : Int) := by omega
          have HM := Lib.hid (show VM w (.slice (some ⟨g, 0, none⟩) l.length c3) l b (off + k * 2) g (q * 2) l[q].1 l[q].2 x2 y2 _ from ⟨hcell _ _ hc1, hcell _ _ hd1, (HB5.out.cell (p := ⟨b, off + k * 2, none⟩) hbb).trans HC2.out.1, (HB5.out.cell (p := ⟨b, off + k * 2 + 1, none⟩) hbb).trans HC2.out.2, Nat.lt_of_lt_of_le hbb hsz5, hglt, HW5.out, HB5.out⟩)
          clear hcell hc1 hd1
          go_upto_region 13 with fail
          go_region_held3 (fun W => W.cell? ⟨g, q * 2, none⟩ = some (.int .u16 l[q].1) ∧ W.cell? ⟨g, q * 2 + 1, none⟩ = some (.int .u16 l[q].2) ∧ W.cell? ⟨b, off + k * 2, none⟩ = some (.int .u16 x2) ∧ W.cell? ⟨b, off + k * 2 + 1, none⟩ = some (.int .u16 y2) ∧ VM w (.slice (some ⟨g, 0, none⟩) l.length c3) l b (off + k * 2) g (q * 2) l[q].1 l[q].2 x2 y2 W)
           (first | exact vmS HM.out | exact vmS (HM.out.below (below_drew _)) | exact vmS hM6)
           ((go_at_call 80; refine (compareF_any _ _ x2 y2 _).mono ?_; rintro e w6 ⟨r, rfl, hb6⟩; have hM6 := (HM.out.below (below_drew _)).below hb6))
          have HM6 := Lib.hid hM6
          clear hM6 hb6
          by_cases hr : r < 0
          ·go_wp2_with fail
           go_roundw
           case rel => exact ⟨q + 1, by omega, by go_num, HM6.out.own, HM6.out.bl⟩
           case measure => simp [intOf]; omega
          ·go_wp2_with fail
           go_meet
           exact ⟨q, hq, rfl, HM6.out.own, HM6.out.bl⟩
        ·have e6 : decide ((q : Int) < (l.length : Int)) = false := by simp; omega
         go_upto_region 13 with fail
         go_quiet (fail)
         go_wp2_with fail
         go_meet
         exact ⟨q, hq, rfl, own_drewN HW5.out _, below_drewN HB5.out _⟩
      case rest =>
       obtain ⟨q, hq, rfl, hown, hb⟩ := hcut
       have HW5 := Lib.hid hown
       have HB5 := Lib.hid hb
       have hsz5 := hb.size
       clear hown hb
       have hcx := (HB5.out.cell (p := ⟨b, off + k * 2, none⟩) hbb).trans HC2.out.1
       have hcy := (HB5.out.cell (p := ⟨b, off + k * 2 + 1, none⟩) hbb).trans HC2.out.2
       obtain ⟨_, ⟨hnil, hl0⟩ | ⟨g, c, hg, hgb, hglt, hcc, hcell⟩⟩ := flt_own HW5.out
       ·injection hnil with h1 h2 h3
        have hl1 : l = [] := List.eq_nil_of_length_eq_zero hl0
        subst h1
        subst h3
        subst hl1
        obtain rfl : q = 0 := by simpa using hq
        go_upto_region 17 with (at_builtin; refine wpList_append_own_none rfl _ _ 47 rfl wc.heap.size 69 i0 2 Tryz.underlying47 hi (.slice none 0 0) 0 [] rfl (World.ownsRow_nil _ _ _ _) rfl ?_)
        go_wp2_with (at_builtin; refine wpList_append_own _ rfl _ _ 47 rfl wc.heap.size 69 i0 (.agg #[.int .u16 0, .int .u16 0]) 2 4 Tryz.underlying47 hi hz0 hz1 hz2 rfl (by decide) (.slice none 0 0) 0 [] rfl ((World.ownsRow_nil wc wc.heap.size 69 2).alloc _) ⟨wc.heap.size, 0, none⟩ 1 1 [.int .u16 x2, .int .u16 y2] rfl rfl ?n1 ?n2 ?n3 ?n4 ?n5 ?_)
        try (case n1 => (intro j u hj; rcases j with _ | _ | j <;> simp at hj <;> (subst hj; simp [Addr.add])))
        try (case n2 => (first | exact ⟨rfl, rfl⟩ | (intro u hu; simp at hu; rcases hu with rfl | rfl <;> rfl)))
        try (case n3 => (unfold maxLen; omega))
        try (case n4 => omega)
        try (case n5 => (first | omega | (simp; omega)))
        intro v' w6 hown' hgrow _
        have hb6 : Below w.heap.size w w6 := below_grown HB5.out hsz5 (World.ownsRow_nil wc w.heap.size 69 2) hgrow
        have HW6 := Lib.hid (own_mono (show w6.ownsRow wc.heap.size 69 2 v' [(x2, y2)].length (ftV [(x2, y2)]) from hown') hsz5)
        have HB6 := Lib.hid hb6
        clear hown' hgrow hb6 hcx hcy
        go_wp2_with (at_builtin; refine wpList_append_own_none rfl _ _ 47 rfl w.heap.size 69 i0 2 Tryz.underlying47 hi v' _ _ rfl HW6.out rfl ?_)
        go_roundw
        case rel => exact ⟨k + 1, [(x2, y2)], by omega, by go_num, by simp, HW6.out, HB6.out⟩
        case measure => simp [intOf]; omega
       ·injection hg with hg1 _ hg3
        subst hg1
        subst hg3
        have e7 : (0 : Int) ≤ (q : Int) := by omega
        have e8 : (q : Int) ≤ (c3 : Int) := by omega
        have e9 : q ≤ c3 := by omega
        have HLT := Lib.hid (show (ftV (l.take q)).length = q * 2 by rw [ftV_len, List.length_take]; omega)
        have HLD := Lib.hid (show (ftV (l.drop q)).length = (l.length - q) * 2 by rw [ftV_len, List.length_drop])
        have HCELL := Lib.hid hcell
        clear hcell
        go_upto_region 17 with (at_builtin; refine wpList_append_own _ rfl _ _ 47 rfl wc.heap.size 69 i0 (.agg #[.int .u16 0, .int .u16 0]) 2 4 Tryz.underlying47 hi hz0 hz1 hz2 rfl (by decide) (.slice none 0 0) 0 [] rfl (World.ownsRow_nil wc wc.heap.size 69 2) ⟨g, 0, none⟩ q c3 (ftV (l.take q)) rfl HLT.out ?p1 ?p2 ?p3 ?p4 ?p5 ?_)
        case p1 =>
         intro j u hj
         rw [ftV_take, List.getElem?_take] at hj
         split at hj
         ·have := HCELL.out j u hj
          simpa [Addr.add] using this
         ·cases hj
        case p2 => exact ftV_one _
        case p3 => unfold maxLen; omega
        case p4 => omega
        intro v6 w6 hown6 hgrow6 _
        have hb6 : Below wc.heap.size wc w6 := (Below.refl wc.heap.size wc).grown hgrow6 (Nat.le_refl _) (fun k hk => by cases hk)
        have HW6 := Lib.hid (show w6.ownsRow wc.heap.size 69 2 v6 q (ftV (l.take q)) by simpa using hown6)
        have HB6 := Lib.hid hb6
        have hsz6 := hb6.size
        have hcx6 := (hb6.cell (p := ⟨b, off + k * 2, none⟩) (Nat.lt_of_lt_of_le hbb hsz5)).trans hcx
        have hcy6 := (hb6.cell (p := ⟨b, off + k * 2 + 1, none⟩) (Nat.lt_of_lt_of_le hbb hsz5)).trans hcy
        clear hown6 hgrow6 hb6 hcx hcy
        go_upto_region 18 with (at_builtin; refine wpList_append_own _ rfl _ _ 47 rfl wc.heap.size 69 i0 (.agg #[.int .u16 0, .int .u16 0]) 2 4 Tryz.underlying47 hi hz0 hz1 hz2 rfl (by decide) v6 q (ftV (l.take q)) rfl (HW6.out.alloc _) ⟨w6.heap.size, 0, none⟩ 1 1 [.int .u16 x2, .int .u16 y2] rfl rfl ?r1 ?r2 ?r3 ?r4 ?r5 ?_)
        try (case r1 => (intro j u hj; rcases j with _ | _ | j <;> simp at hj <;> (subst hj; simp [Addr.add])))
        try (case r2 => (first | exact ⟨rfl, rfl⟩ | (intro u hu; simp at hu; rcases hu with rfl | rfl <;> rfl)))
        try (case r3 => (unfold maxLen; omega))
        try (case r4 => omega)
        try (case r5 => (first | omega | (simp; omega)))
        intro v7 w7 hown7 hgrow7 _
        have hb7 : Below wc.heap.size wc w7 := below_grown HB6.out hsz6 HW6.out hgrow7
        have HW7 := Lib.hid (show w7.ownsRow wc.heap.size 69 2 v7 (q + 1) (ftV (l.take q ++ [(x2, y2)])) by rw [ftV_app]; exact hown7)
        have HB7 := Lib.hid hb7
        have hsz7 := hb7.size
        clear hown7 hgrow7 hb7 hcx6 hcy6
        have e10 : (q : Int) ≤ (l.length : Int) := by omega
        by_cases hqc : q = c3
        ·have hlq : l.length = q := by omega
         have HLQ := Lib.hid hlq
         clear hlq
         subst hqc
         go_wp2_with (at_builtin; refine wpList_append_own _ rfl _ _ 47 rfl wc.heap.size 69 i0 (.agg #[.int .u16 0, .int .u16 0]) 2 4 Tryz.underlying47 hi hz0 hz1 hz2 rfl (by decide) v7 (q + 1) (ftV (l.take q ++ [(x2, y2)])) rfl HW7.out _ _ _ [] rfl (by first | rfl | (have := HLQ.out; simp; omega)) ?s1 ?s2 ?s3 ?s4 ?s5 ?_)
         try (case s1 => (intro j u hj; simp at hj))
         try (case s2 => (intro u hu; simp at hu))
         try (case s3 => (unfold maxLen; omega))
         try (case s4 => omega)
         try (case s5 => omega)
         intro v8 w8 hown8 hgrow8 _
         have hb8 : Below wc.heap.size wc w8 := HB7.out.grown hgrow8 hsz7 (fun k hk => (HW7.out.lt k hk).1)
         have h0 : l.drop q = [] := List.drop_eq_nil_of_le (by have := HLQ.out; omega)
         have hlen8 : (l.take q ++ [(x2, y2)]).length = q + 1 := by simp; omega
         have HW8 := Lib.hid (own_mono (show w8.ownsRow wc.heap.size 69 2 v8 (l.take q ++ [(x2, y2)]).length (ftV (l.take q ++ [(x2, y2)])) by rw [hlen8]; simpa using hown8) hsz5)
         have HB8 := Lib.hid (HB5.out.trans (hb8.mono hsz5))
         have HL8 := Lib.hid hlen8
         clear hown8 hgrow8 hb8 hlen8
         go_wp2_with fail
         go_roundw
         case rel => exact ⟨k + 1, _, by omega, by go_num, by rw [HL8.out]; omega, HW8.out, HB8.out⟩
         case measure => simp [intOf]; omega
        ·have e11 : ¬ c3 - q = 0 := by omega
         go_wp2_with (at_builtin; refine wpList_append_own _ rfl _ _ 47 rfl wc.heap.size 69 i0 (.agg #[.int .u16 0, .int .u16 0]) 2 4 Tryz.underlying47 hi hz0 hz1 hz2 rfl (by decide) v7 (q + 1) (ftV (l.take q ++ [(x2, y2)])) rfl HW7.out ⟨g, q * 2, none⟩ (l.length - q) (c3 - q) (ftV (l.drop q)) rfl HLD.out ?t1 ?t2 ?t3 ?t4 ?t5 ?_)
         case t1 =>
          intro j u hj
          rw [ftV_drop, List.getElem?_drop] at hj
          have h1 := (HB7.out.cell (p := ⟨g, q * 2 + j, none⟩) hglt).trans (HCELL.out _ u hj)
          rw [Addr.add_lit]
          exact h1
         try (case t2 => exact ftV_one _)
         try (case t3 => (unfold maxLen; omega))
         try (case t4 => omega)
         try (case t5 => omega)
         intro v8 w8 hown8 hgrow8 _
         have hb8 : Below wc.heap.size wc w8 := HB7.out.grown hgrow8 hsz7 (fun k hk => (HW7.out.lt k hk).1)
         have hlen8 : (l.take q ++ [(x2, y2)] ++ l.drop q).length = q + 1 + (l.length - q) := by simp; omega
         have HW8 := Lib.hid (own_mono (show w8.ownsRow wc.heap.size 69 2 v8 (l.take q ++ [(x2, y2)] ++ l.drop q).length (ftV (l.take q ++ [(x2, y2)] ++ l.drop q)) by rw [hlen8, ftV_app]; exact hown8) hsz5)
         have HB8 := Lib.hid (HB5.out.trans (hb8.mono hsz5))
         have HL8 := Lib.hid hlen8
         clear hown8 hgrow8 hb8 hlen8
         go_wp2_with fail
         go_roundw
         case rel => exact ⟨k + 1, _, by omega, by go_num, by rw [HL8.out]; omega, HW8.out, HB8.out⟩
         case measure => simp [intOf]; omega
  ·subst hv3
   go_wp2_with fail
   go_ret
   exact ⟨p3, _, c3, rfl, by omega, hc3, hp3, fresh_of_own HW.out, HB.out⟩
end Go.Proofs.YtmcnpaehmnadeaaGreatDoor
