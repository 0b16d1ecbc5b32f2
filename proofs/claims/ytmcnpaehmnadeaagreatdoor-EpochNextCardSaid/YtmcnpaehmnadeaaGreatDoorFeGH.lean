/-
  EpochNext: epoch.Config at valid epochs, exactly.
-/
import Derived.Test.YtmcnpaehmnadeaaGreatDoorFeEF
set_option maxHeartbeats 6400000
set_option maxRecDepth 1000000
namespace Go.Proofs.YtmcnpaehmnadeaaGreatDoor
open Go Go.RowKit
theorem NC.set6 {w W : World} {dv ev : Array Value} (h : NC w dv ev W) {C : Nat} (hC : w.heap.size + 1 + 1 < C) (v0 v1 v2 v3 v4 v5 : Value) : NC w dv ev ((((((W.setCell ⟨C, 0, none⟩ v0).setCell ⟨C, 1, none⟩ v1).setCell ⟨C, 2, none⟩ v2).setCell ⟨C, 3, none⟩ v3).setCell ⟨C, 4, none⟩ v4).setCell ⟨C, 5, none⟩ v5) :=
 ⟨(set6_other (by omega) v0 v1 v2 v3 v4 v5).trans h.da, (set6_other (by omega) v0 v1 v2 v3 v4 v5).trans h.ea, (set6_other (by omega) v0 v1 v2 v3 v4 v5).trans h.ra, below_set6 h.bl (by omega) v0 v1 v2 v3 v4 v5⟩
structure ND (w : World) (dv ev : Array Value) (C : Nat) (cv : Array Value) (W : World) : Prop where
 nc : NC w dv ev W
 rc : W.heap[C]? = some (.cells cv 49 (0, 0))
 hc : w.heap.size + 1 + 1 < C
theorem ND.below {w W W' : World} {dv ev : Array Value} {C : Nat} {cv : Array Value} (h : ND w dv ev C cv W) (hb : Below W.heap.size W W') : ND w dv ev C cv W' :=
 ⟨h.nc.below hb, (hb.block _ (gLt h.rc)).trans h.rc, h.hc⟩
theorem ND.put {w W : World} {dv ev : Array Value} {C : Nat} {cv : Array Value} (h : ND w dv ev C cv W) (j : Nat) (v : Value) : ND w dv ev C (cv.setIfInBounds j v) (W.setCell ⟨C, j, none⟩ v) :=
 ⟨⟨(set1_other (by have := h.hc; omega) v).trans h.nc.da, (set1_other (by have := h.hc; omega) v).trans h.nc.ea, (set1_other (by have := h.hc; omega) v).trans h.nc.ra, below_set h.nc.bl (by show _ ≤ C; have := h.hc; omega) v⟩, by
  unfold World.setCell
  simp only [Array.getElem?_modify, h.rc, if_true, Option.map_some]
  rfl, h.hc⟩
theorem cloneF_ex (p : Option Addr) (m cap : Nat) (l : List (Nat × Nat)) (w : World) (hp : PlainP p) (hm : l.length = m) (hm4 : m ≤ 200000) (h : FltL w p l) : Calls Tryz.prog 27 #[.slice p m cap] w (FltsL l w) :=
 (cloneF_own p m cap l w hp hm hm4 h).mono (show ∀ e w', CloneOwnF l w e w' → FltsL l w e w' by
  rintro e w' ⟨v, rfl, hown, hb⟩
  obtain ⟨p2, c2, rfl, h1, h2, _⟩ := fltL_of_own hown
  exact ⟨p2, c2, rfl, h2, h1, fresh_of_own hown, hb, plain_of_own hown, cap_of_own hown⟩)
theorem conf0_ex (p0 : Option Addr) (n0 c0 : Nat) (x : Int) (gb go gc b off cc n : Nat) (i : Nat) (nma : ByteArray) (kda : Int) (mba : Nat) (p3a : Option Addr) (n3a c3a : Nat) (p4a : Option Addr) (n4a c4a : Nat) (p5a : Option Addr) (n5a c5a : Nat) (rda wra : List Nat) (fsa : List (Nat × Nat)) (w : World) (hn : n ≤ 3) (hi : i < n) (hC : ChW w b off n) (ha : CfgL w nma mba p3a n3a c3a p4a n4a c4a p5a n5a c5a rda wra fsa) (hca : CfC w gb (go + i * 6) nma kda mba (.slice p3a n3a c3a) (.slice p4a n4a c4a) (.slice p5a n5a c5a)) (h3 : n3a ≤ 200000) (h4 : n4a ≤ 200000) (h5 : n5a ≤ 200000) (o3 : PlainP p3a) (o4 : PlainP p4a) (o5 : PlainP p5a) :
  Calls Tryz.prog 15 #[.agg #[.slice p0 n0 c0, .slice none 0 0, .int .u16 x, .slice (some ⟨gb, go, none⟩) n gc, .slice (some ⟨b, off, none⟩) n cc, .slice none 0 0], .agg #[.int .i64 (i : Nat), .bool false]] w (CfOut nma kda (mba : Int) rda wra fsa 0 w) := by
 have hA3 := heap_alloc3 w (.cells #[.slice p0 n0 c0, .slice none 0 0, .int .u16 x, .slice (some ⟨gb, go, none⟩) n gc, .slice (some ⟨b, off, none⟩) n cc, .slice none 0 0] 33) (.cells #[.int .i64 (i : Nat), .bool false] 39) (.cells z6 49)
 have HN0 := Lib.hid (show NC w #[.slice p0 n0 c0, .slice none 0 0, .int .u16 x, .slice (some ⟨gb, go, none⟩) n gc, .slice (some ⟨b, off, none⟩) n cc, .slice none 0 0] #[.int .i64 (i : Nat), .bool false] _ from ⟨hA3.1, hA3.2.1, hA3.2.2.1, hA3.2.2.2.2⟩)
 have HCH := Lib.hid hC
 have HCA := Lib.hid hca
 have HK3 := Lib.hid (fun W (hW : Below w.heap.size w W) => cloneS_ex p3a n3a c3a rda W o3 ha.l3 h3 (ha.s3.below hW))
 have HK4 := Lib.hid (fun W (hW : Below w.heap.size w W) => cloneS_ex p4a n4a c4a wra W o4 ha.l4 h4 (ha.s4.below hW))
 have HK5 := Lib.hid (fun W (hW : Below w.heap.size w W) => cloneF_ex p5a n5a c5a fsa W o5 ha.l5 h5 (ha.s5.below hW))
 have HLL := Lib.hid (show rda.length ≤ 1000000 ∧ wra.length ≤ 1000000 ∧ fsa.length ≤ 1000000 by rw [ha.l3, ha.l4, ha.l5]; omega)
 have e1 : (i : Int) < (n : Int) := by omega
 have e2 : (0 : Int) ≤ (i : Int) := by omega
 have HV := Lib.hid (fun W (hW : Below w.heap.size w W) => valid_ex p0 n0 c0 x (some ⟨gb, go, none⟩) gc b off cc n i false W hn hi (hC.below hW))
 clear hA3 hC hca ha o3 o4 o5
 go_enter Tryz.func15, Tryz.ntmps15
 go_upto_region 1 with fail
 revert HN0
 unfold z6
 generalize ((w.alloc (.cells #[.slice p0 n0 c0, .slice none 0 0, .int .u16 x, .slice (some ⟨gb, go, none⟩) n gc, .slice (some ⟨b, off, none⟩) n cc, .slice none 0 0] 33)).alloc (.cells #[.int .i64 (i : Nat), .bool false] 39)).alloc _ = W0
 intro HN0
 obtain ⟨d0, d1, d2, d3, d4, d5⟩ := cs6 HN0.out.da
 obtain ⟨g0, g1⟩ := cs2 HN0.out.ea
 go_upto_region 3 with (go_at_call 22; (with_reducible refine (HV.out _ HN0.out.bl).mono ?_); rintro e w1 ⟨rfl, hb1⟩; have HN1 := Lib.hid (HN0.out.below hb1); clear hb1)
 clear d0 d1 d2 d3 d4 d5 g0 g1
 have HN2 := Lib.hid (HN1.out.below (below_drew _))
 refine wp_region_noPanic ?_
 refine wp_region_y 11 (fun W => W.cell? ⟨w.heap.size, 3, none⟩ = some (.slice (some ⟨gb, go, none⟩) n gc) ∧ W.cell? ⟨w.heap.size, 4, none⟩ = some (.slice (some ⟨b, off, none⟩) n cc) ∧ W.cell? ⟨w.heap.size + 1, 0, none⟩ = some (.int .i64 (i : Nat)) ∧ W.cell? ⟨b, off + i, none⟩ = some (.int .i64 (i : Nat)) ∧ W.cell? ⟨gb, go + i * 6, none⟩ = some (.string nma) ∧ W.cell? ⟨gb, go + i * 6 + 1, none⟩ = some (.int .i64 kda) ∧ W.cell? ⟨gb, go + i * 6 + 2, none⟩ = some (.int .u16 (mba : Int)) ∧ W.cell? ⟨gb, go + i * 6 + 3, none⟩ = some (.slice p3a n3a c3a) ∧ W.cell? ⟨gb, go + i * 6 + 4, none⟩ = some (.slice p4a n4a c4a) ∧ W.cell? ⟨gb, go + i * 6 + 5, none⟩ = some (.slice p5a n5a c5a) ∧ NC w #[.slice p0 n0 c0, .slice none 0 0, .int .u16 x, .slice (some ⟨gb, go, none⟩) n gc, .slice (some ⟨b, off, none⟩) n cc, .slice none 0 0] #[.int .i64 (i : Nat), .bool false] W) (by kernel_rfl) ?_ (fun hHeld => ?_)
 ·exact ⟨cellOf HN2.out.da rfl, cellOf HN2.out.da rfl, cellOf HN2.out.ea rfl, (HN2.out.bl.cell (p := ⟨b, off + i, none⟩) HCH.out.1).trans (HCH.out.2 i hi), (HCA.out.at HN2.out.bl).1, (HCA.out.at HN2.out.bl).2.1, (HCA.out.at HN2.out.bl).2.2.1, (HCA.out.at HN2.out.bl).2.2.2.1, (HCA.out.at HN2.out.bl).2.2.2.2.1, (HCA.out.at HN2.out.bl).2.2.2.2.2, HN2.out⟩
 revert hHeld HN2
 generalize w1.drew = wD
 intro HN2 hHeld
 refine tkY 0 12 ?_ rfl ?_ ?_
 rotate_left
 ·intro w hSw; (try dsimp only at hSw); go_simp; try with_reducible rfl
 try simp only [Act.put, sA, sZ, sS]
 refine tkY 1 13 ?_ rfl ?_ ?_
 rotate_left
 ·intro w hSw; (try dsimp only at hSw); go_simp; try with_reducible rfl
 try simp only [Act.put, sA, sZ, sS]
 refine tkY 2 14 ?_ rfl ?_ ?_
 rotate_left
 ·intro w hSw; (try dsimp only at hSw); go_simp; try with_reducible rfl
 try simp only [Act.put, sA, sZ, sS]
 refine tkY 3 15 ?_ rfl ?_ ?_
 rotate_left
 ·intro w hSw; (try dsimp only at hSw); go_simp; try with_reducible rfl
 try simp only [Act.put, sA, sZ, sS]
 refine tkY 4 16 ?_ rfl ?_ ?_
 rotate_left
 ·intro w hSw; (try dsimp only at hSw); go_simp; try with_reducible rfl
 try simp only [Act.put, sA, sZ, sS]
 refine tkY 5 17 ?_ rfl ?_ ?_
 rotate_left
 ·intro w hSw; (try dsimp only at hSw); go_simp; try with_reducible rfl
 try simp only [Act.put, sA, sZ, sS]
 refine tkY 6 18 ?_ rfl ?_ ?_
 rotate_left
 ·intro w hSw; (try dsimp only at hSw); go_simp; try with_reducible rfl
 try simp only [Act.put, sA, sZ, sS]
 refine tkY 7 19 ?_ rfl ?_ ?_
 rotate_left
 ·intro w hSw; (try dsimp only at hSw); go_simp; try with_reducible rfl
 try simp only [Act.put, sA, sZ, sS]
 refine tkY 8 20 ?_ rfl ?_ ?_
 rotate_left
 ·intro w hSw; (try dsimp only at hSw); go_simp; try with_reducible rfl
 try simp only [Act.put, sA, sZ, sS]
 refine tkY 9 21 ?_ rfl ?_ ?_
 rotate_left
 ·intro w hSw; (try dsimp only at hSw); go_simp; try with_reducible rfl
 try simp only [Act.put, sA, sZ, sS]
 refine wpAnyY_ready (rs := [10]) (by kernel_rfl) (by simp) ?_
 refine AllReadyY.cons (o := ⟨some 6, _, _, _, _, _⟩) rfl (fun K hK => ?_) ?_
 ·go_simp
  refine hK.out _ _ ?_ (fun hHeld => ?_)
  ·exact ⟨cellOf (HN2.out.below ((Below.refl _ _).alloc (Nat.le_refl _) _)).da rfl, cellOf (HN2.out.below ((Below.refl _ _).alloc (Nat.le_refl _) _)).da rfl, cellOf (HN2.out.below ((Below.refl _ _).alloc (Nat.le_refl _) _)).ea rfl, ((HN2.out.below ((Below.refl _ _).alloc (Nat.le_refl _) _)).bl.cell (p := ⟨b, off + i, none⟩) HCH.out.1).trans (HCH.out.2 i hi), (HCA.out.at (HN2.out.below ((Below.refl _ _).alloc (Nat.le_refl _) _)).bl).1, (HCA.out.at (HN2.out.below ((Below.refl _ _).alloc (Nat.le_refl _) _)).bl).2.1, (HCA.out.at (HN2.out.below ((Below.refl _ _).alloc (Nat.le_refl _) _)).bl).2.2.1, (HCA.out.at (HN2.out.below ((Below.refl _ _).alloc (Nat.le_refl _) _)).bl).2.2.2.1, (HCA.out.at (HN2.out.below ((Below.refl _ _).alloc (Nat.le_refl _) _)).bl).2.2.2.2.1, (HCA.out.at (HN2.out.below ((Below.refl _ _).alloc (Nat.le_refl _) _)).bl).2.2.2.2.2, (HN2.out.below ((Below.refl _ _).alloc (Nat.le_refl _) _))⟩
  clear hK K
  have HN3 := Lib.hid (show NC w #[.slice p0 n0 c0, .slice none 0 0, .int .u16 x, .slice (some ⟨gb, go, none⟩) n gc, .slice (some ⟨b, off, none⟩) n cc, .slice none 0 0] #[.int .i64 (i : Nat), .bool false] (wD.alloc (.cells #[.string ⟨#[]⟩, .int .i64 0, .int .u16 0, .slice none 0 0, .slice none 0 0, .slice none 0 0] 49)) from (HN2.out.below ((Below.refl _ _).alloc (Nat.le_refl _) _)))
  have HC6 := Lib.hid (heap_alloc_new wD (.cells #[.string ⟨#[]⟩, .int .i64 0, .int .u16 0, .slice none 0 0, .slice none 0 0, .slice none 0 0] 49))
  have hCl : w.heap.size + 1 + 1 < wD.heap.size := (gLt HN2.out.ra)
  revert HN3 HC6
  generalize wD.alloc (.cells #[.string ⟨#[]⟩, .int .i64 0, .int .u16 0, .slice none 0 0, .slice none 0 0, .slice none 0 0] 49) = wE
  generalize wD.heap.size = C at hCl ⊢
  intro HN3 HC6
  obtain ⟨q0, q1, q2, q3, q4, q5⟩ := cs6 HC6.out
  have g0 := frozenOf HC6.out (j := 0); have g1 := frozenOf HC6.out (j := 1); have g2 := frozenOf HC6.out (j := 2); have g3 := frozenOf HC6.out (j := 3); have g4 := frozenOf HC6.out (j := 4); have g5 := frozenOf HC6.out (j := 5)
  try simp only [Act.put, sA, sZ, sS]
  refine wpAnyY_ready (rs := [11]) (by kernel_rfl) (by simp) ?_
  refine AllReadyY.last (o := ⟨none, _, _, _, _, _⟩) (by decide) rfl (fun K hK => ?_) ?_
  ·go_simp
   refine hK.out _ _ ?_
   clear hK K
   try simp only [Act.put, sA, sZ, sS]
   refine wpAnyY_done (by kernel_rfl) ?_ _
   refine NoPanic.normal ?_
   go_upto_region 4 with fail
   have HD0 := Lib.hid (show ND w #[.slice p0 n0 c0, .slice none 0 0, .int .u16 x, .slice (some ⟨gb, go, none⟩) n gc, .slice (some ⟨b, off, none⟩) n cc, .slice none 0 0] #[.int .i64 (i : Nat), .bool false] C #[.string nma, .int .i64 kda, .int .u16 (mba : Int), .slice p3a n3a c3a, .slice p4a n4a c4a, .slice p5a n5a c5a] ((((((wE.setCell ⟨C, 0, none⟩ (.string nma)).setCell ⟨C, 1, none⟩ (.int .i64 kda)).setCell ⟨C, 2, none⟩ (.int .u16 (mba : Int))).setCell ⟨C, 3, none⟩ (.slice p3a n3a c3a)).setCell ⟨C, 4, none⟩ (.slice p4a n4a c4a)).setCell ⟨C, 5, none⟩ (.slice p5a n5a c5a)) from ⟨HN3.out.set6 hCl _ _ _ _ _ _, row_set6 HC6.out _ _ _ _ _ _, hCl⟩)
   clear q0 q1 q2 q3 q4 q5 g0 g1 g2 g3 g4 g5 HN3 HC6 HN2 HN1
   revert HD0
   generalize (((((wE.setCell ⟨C, 0, none⟩ (.string nma)).setCell ⟨C, 1, none⟩ (.int .i64 kda)).setCell ⟨C, 2, none⟩ (.int .u16 (mba : Int))).setCell ⟨C, 3, none⟩ (.slice p3a n3a c3a)).setCell ⟨C, 4, none⟩ (.slice p4a n4a c4a)).setCell ⟨C, 5, none⟩ (.slice p5a n5a c5a) = WC
   intro HD0
   have g1 := cellOf HD0.out.nc.ea (j := 1) rfl
   go_upto_region 5 with fail
   clear g1
   have HD1 := Lib.hid (HD0.out.below (below_drew _))
   refine wp_region_noPanic ?_
   refine wp_region_y 10 (fun W => W.cell? ⟨C, 3, none⟩ = some (.slice p3a n3a c3a) ∧ W.cell? ⟨C, 4, none⟩ = some (.slice p4a n4a c4a) ∧ W.cell? ⟨C, 5, none⟩ = some (.slice p5a n5a c5a) ∧ ND w #[.slice p0 n0 c0, .slice none 0 0, .int .u16 x, .slice (some ⟨gb, go, none⟩) n gc, .slice (some ⟨b, off, none⟩) n cc, .slice none 0 0] #[.int .i64 (i : Nat), .bool false] C #[.string nma, .int .i64 kda, .int .u16 (mba : Int), .slice p3a n3a c3a, .slice p4a n4a c4a, .slice p5a n5a c5a] W) (by kernel_rfl) ?_ (fun hHeld => ?_)
   ·exact ⟨cellOf HD1.out.rc rfl, cellOf HD1.out.rc rfl, cellOf HD1.out.rc rfl, HD1.out⟩
   clear HD0
   revert hHeld HD1
   generalize WC.drew = wG
   intro HD1 hHeld
   refine tkY 0 25 ?_ rfl ?_ ?_
   rotate_left
   ·intro w hSw; (try dsimp only at hSw); go_simp; try with_reducible rfl
   try simp only [Act.put, sA, sZ, sS]
   refine tkY 1 26 ?_ rfl ?_ ?_
   rotate_left
   ·intro w hSw; (try dsimp only at hSw); go_simp; try with_reducible rfl
   try simp only [Act.put, sA, sZ, sS]
   refine tkY 3 28 ?_ rfl ?_ ?_
   rotate_left
   ·intro w hSw; (try dsimp only at hSw); go_simp; try with_reducible rfl
   try simp only [Act.put, sA, sZ, sS]
   refine tkY 4 29 ?_ rfl ?_ ?_
   rotate_left
   ·intro w hSw; (try dsimp only at hSw); go_simp; try with_reducible rfl
   try simp only [Act.put, sA, sZ, sS]
   refine tkY 6 31 ?_ rfl ?_ ?_
   rotate_left
   ·intro w hSw; (try dsimp only at hSw); go_simp; try with_reducible rfl
   try simp only [Act.put, sA, sZ, sS]
   refine tkY 7 32 ?_ rfl ?_ ?_
   rotate_left
   ·intro w hSw; (try dsimp only at hSw); go_simp; try with_reducible rfl
   try simp only [Act.put, sA, sZ, sS]
   refine wpAnyY_ready (rs := [2]) (by kernel_rfl) (by simp) ?_
   refine AllReadyY.cons (o := ⟨some 27, _, _, _, _, _⟩) rfl (fun K hK => ?_) ?_
   ·go_simp
    go_at_call 26
    refine (HK3.out _ HD1.out.nc.bl).mono ?_
    rintro e w3 ⟨q3, k3, rfl, hk3, hs3, hf3, hb3⟩
    have hD3 := HD1.out.below hb3
    go_simp
    refine hK.out _ _ ?_ (fun hHeld => ?_)
    ·exact ⟨cellOf hD3.rc rfl, cellOf hD3.rc rfl, cellOf hD3.rc rfl, hD3⟩
    clear hK K
    have HD3 := Lib.hid hD3
    have HS3 := Lib.hid (And.intro hs3 (And.intro (off_ne hf3 (show w.heap.size + 1 + 1 < _ from Nat.lt_trans HD1.out.hc (gLt HD1.out.rc))) (off_ne hf3 (gLt HD1.out.rc))))
    clear hk3 hs3 hf3 hb3 hD3
    try simp only [Act.put, sA, sZ, sS]
    refine tkY 9 34 ?_ rfl ?_ ?_
    rotate_left
    ·intro w hSw; (try dsimp only at hSw); go_simp; try with_reducible rfl
    try simp only [Act.put, sA, sZ, sS]
    refine wpAnyY_ready (rs := [5]) (by kernel_rfl) (by simp) ?_
    refine AllReadyY.cons (o := ⟨some 30, _, _, _, _, _⟩) rfl (fun K hK => ?_) ?_
    ·go_simp
     go_at_call 26
     refine (HK4.out _ HD3.out.nc.bl).mono ?_
     rintro e w4 ⟨q4, k4, rfl, hk4, hs4, hf4, hb4⟩
     have hD4 := HD3.out.below hb4
     go_simp
     refine hK.out _ _ ?_ (fun hHeld => ?_)
     ·exact ⟨cellOf hD4.rc rfl, cellOf hD4.rc rfl, cellOf hD4.rc rfl, hD4⟩
     clear hK K
     have HD4 := Lib.hid hD4
     have HS4 := Lib.hid (And.intro hs4 (And.intro (off_ne hf4 (show w.heap.size + 1 + 1 < _ from Nat.lt_trans HD3.out.hc (gLt HD3.out.rc))) (off_ne hf4 (gLt HD3.out.rc))))
     have HS3 := Lib.hid (And.intro (HS3.out.1.below hb4) HS3.out.2)
     clear hk4 hs4 hf4 hb4 hD4
     try simp only [Act.put, sA, sZ, sS]
     refine wpAnyY_ready (rs := [8]) (by kernel_rfl) (by simp) ?_
     refine AllReadyY.cons (o := ⟨some 33, _, _, _, _, _⟩) rfl (fun K hK => ?_) ?_
     ·go_simp
      go_at_call 27
      refine (HK5.out _ HD4.out.nc.bl).mono ?_
      rintro e w5 ⟨q5, k5, rfl, hk5, hs5, hf5, hb5, _⟩
      have hD5 := HD4.out.below hb5
      go_simp
      refine hK.out _ _ ?_ (fun hHeld => ?_)
      ·exact ⟨cellOf hD5.rc rfl, cellOf hD5.rc rfl, cellOf hD5.rc rfl, hD5⟩
      clear hK K
      have HD5 := Lib.hid hD5
      have HS5 := Lib.hid (And.intro hs5 (And.intro (off_ne hf5 (show w.heap.size + 1 + 1 < _ from Nat.lt_trans HD4.out.hc (gLt HD4.out.rc))) (off_ne hf5 (gLt HD4.out.rc))))
      have HS3 := Lib.hid (And.intro (HS3.out.1.below hb5) HS3.out.2)
      have HS4 := Lib.hid (And.intro (HS4.out.1.below hb5) HS4.out.2)
      clear hk5 hs5 hf5 hb5 hD5
      have c3 := cellOf HD5.out.rc (j := 3) rfl; have c4 := cellOf HD5.out.rc (j := 4) rfl; have c5 := cellOf HD5.out.rc (j := 5) rfl
      have g3 := frozenOf HD5.out.rc (j := 3); have g4 := frozenOf HD5.out.rc (j := 4); have g5 := frozenOf HD5.out.rc (j := 5)
      try simp only [Act.put, sA, sZ, sS]
      refine wpAnyY_ready (rs := [10]) (by kernel_rfl) (by simp) ?_
      refine AllReadyY.last (o := ⟨none, _, _, _, _, _⟩) (by decide) rfl (fun K hK => ?_) ?_
      ·go_simp
       refine hK.out _ _ ?_
       clear hK K
       try simp only [Act.put, sA, sZ, sS]
       refine wpAnyY_ready (rs := [11]) (by kernel_rfl) (by simp) ?_
       refine AllReadyY.last (o := ⟨some 35, _, _, _, _, _⟩) (by decide) rfl (fun K hK => ?_) ?_
       ·go_simp
        refine hK.out _ _ ?_
        clear hK K
        try simp only [Act.put, sA, sZ, sS]
        refine wpAnyY_ready (rs := [12]) (by kernel_rfl) (by simp) ?_
        refine AllReadyY.last (o := ⟨none, _, _, _, _, _⟩) (by decide) rfl (fun K hK => ?_) ?_
        ·go_simp
         refine hK.out _ _ ?_
         clear hK K
         try simp only [Act.put, sA, sZ, sS]
         refine wpAnyY_ready (rs := [13]) (by kernel_rfl) (by simp) ?_
         refine AllReadyY.last (o := ⟨some 36, _, _, _, _, _⟩) (by decide) rfl (fun K hK => ?_) ?_
         ·go_simp
          refine hK.out _ _ ?_
          clear hK K
          try simp only [Act.put, sA, sZ, sS]
          refine wpAnyY_ready (rs := [14]) (by kernel_rfl) (by simp) ?_
          refine AllReadyY.last (o := ⟨none, _, _, _, _, _⟩) (by decide) rfl (fun K hK => ?_) ?_
          ·go_simp
           refine hK.out _ _ ?_
           clear hK K
           try simp only [Act.put, sA, sZ, sS]
           refine wpAnyY_done (by kernel_rfl) ?_ _
           refine NoPanic.normal ?_
           go_upto_region 6 with fail
           have HE := Lib.hid (show ND w #[.slice p0 n0 c0, .slice none 0 0, .int .u16 x, .slice (some ⟨gb, go, none⟩) n gc, .slice (some ⟨b, off, none⟩) n cc, .slice none 0 0] #[.int .i64 (i : Nat), .bool false] C #[.string nma, .int .i64 kda, .int .u16 (mba : Int), .slice q3 rda.length k3, .slice q4 wra.length k4, .slice q5 fsa.length k5] (((w5.setCell ⟨C, 3, none⟩ (.slice q3 rda.length k3)).setCell ⟨C, 4, none⟩ (.slice q4 wra.length k4)).setCell ⟨C, 5, none⟩ (.slice q5 fsa.length k5)) from ((HD5.out.put 3 _).put 4 _).put 5 _)
           have HT3 := Lib.hid (show SetL (((w5.setCell ⟨C, 3, none⟩ (.slice q3 rda.length k3)).setCell ⟨C, 4, none⟩ (.slice q4 wra.length k4)).setCell ⟨C, 5, none⟩ (.slice q5 fsa.length k5)) q3 rda from ((HS3.out.1.set1 HS3.out.2.2 _ _).set1 HS3.out.2.2 _ _).set1 HS3.out.2.2 _ _)
           have HT4 := Lib.hid (show SetL (((w5.setCell ⟨C, 3, none⟩ (.slice q3 rda.length k3)).setCell ⟨C, 4, none⟩ (.slice q4 wra.length k4)).setCell ⟨C, 5, none⟩ (.slice q5 fsa.length k5)) q4 wra from ((HS4.out.1.set1 HS4.out.2.2 _ _).set1 HS4.out.2.2 _ _).set1 HS4.out.2.2 _ _)
           have HT5 := Lib.hid (show FltL (((w5.setCell ⟨C, 3, none⟩ (.slice q3 rda.length k3)).setCell ⟨C, 4, none⟩ (.slice q4 wra.length k4)).setCell ⟨C, 5, none⟩ (.slice q5 fsa.length k5)) q5 fsa from ((HS5.out.1.set1 HS5.out.2.2 _ _).set1 HS5.out.2.2 _ _).set1 HS5.out.2.2 _ _)
           clear c3 c4 c5 g3 g4 g5 HD5
           revert HE HT3 HT4 HT5
           generalize ((w5.setCell ⟨C, 3, none⟩ (.slice q3 rda.length k3)).setCell ⟨C, 4, none⟩ (.slice q4 wra.length k4)).setCell ⟨C, 5, none⟩ (.slice q5 fsa.length k5) = WF
           intro HE HT3 HT4 HT5
           obtain ⟨d0, d1, d2, d3, d4, d5⟩ := cs6 HE.out.rc
           obtain ⟨r0, r1, r2, r3, r4, r5⟩ := cs6 HE.out.nc.ra
           have f0 := frozenOf HE.out.nc.ra (j := 0); have f1 := frozenOf HE.out.nc.ra (j := 1); have f2 := frozenOf HE.out.nc.ra (j := 2); have f3 := frozenOf HE.out.nc.ra (j := 3); have f4 := frozenOf HE.out.nc.ra (j := 4); have f5 := frozenOf HE.out.nc.ra (j := 5)
           go_wp2_with fail
           exact cfo_end 4 5 rfl HE.out.nc.ra HE.out.nc.bl (by omega) nma kda (mba : Int) q3 rda.length k3 q4 wra.length k4 q5 fsa.length k5 rda wra fsa 0 _ rfl rfl ⟨rfl, HT3.out, rfl, HT4.out, rfl, HT5.out, HLL.out.1, HLL.out.2.1, HLL.out.2.2⟩ (fun _ => HS3.out.2.1) (fun _ => HS4.out.2.1) (fun _ => HS5.out.2.1)
          exact AllReadyY.nil
         exact AllReadyY.nil
        exact AllReadyY.nil
       exact AllReadyY.nil
      exact AllReadyY.nil
     exact AllReadyY.nil
    exact AllReadyY.nil
   exact AllReadyY.nil
  exact AllReadyY.nil
 exact AllReadyY.nil
end Go.Proofs.YtmcnpaehmnadeaaGreatDoor
/-
  EpochNext: epoch.Config at joint epochs, exactly.
-/
namespace Go.Proofs.YtmcnpaehmnadeaaGreatDoor
open Go Go.RowKit
theorem conf1_ex (p0 : Option Addr) (n0 c0 : Nat) (x : Int) (gb go gc b off cc n : Nat) (i : Nat) (nma : ByteArray) (kda : Int) (mba : Nat) (p3a : Option Addr) (n3a c3a : Nat) (p4a : Option Addr) (n4a c4a : Nat) (p5a : Option Addr) (n5a c5a : Nat) (rda wra : List Nat) (fsa : List (Nat × Nat)) (nmb : ByteArray) (kdb : Int) (mbb : Nat) (p3b : Option Addr) (n3b c3b : Nat) (p4b : Option Addr) (n4b c4b : Nat) (p5b : Option Addr) (n5b c5b : Nat) (rdb wrb : List Nat) (fsb : List (Nat × Nat)) (w : World) (hn : n ≤ 3) (hi1 : i + 1 < n) (hC : ChW w b off n) (ha : CfgL w nma mba p3a n3a c3a p4a n4a c4a p5a n5a c5a rda wra fsa) (hca : CfC w gb (go + i * 6) nma kda mba (.slice p3a n3a c3a) (.slice p4a n4a c4a) (.slice p5a n5a c5a)) (hb : CfgL w nmb mbb p3b n3b c3b p4b n4b c4b p5b n5b c5b rdb wrb fsb) (hcb : CfC w gb (go + (i + 1) * 6) nmb kdb mbb (.slice p3b n3b c3b) (.slice p4b n4b c4b) (.slice p5b n5b c5b)) :
  Calls Tryz.prog 15 #[.agg #[.slice p0 n0 c0, .slice none 0 0, .int .u16 x, .slice (some ⟨gb, go, none⟩) n gc, .slice (some ⟨b, off, none⟩) n cc, .slice none 0 0], .agg #[.int .i64 (i : Nat), .bool true]] w (JoOut (four (bothE (valE kda mba rda wra fsa) (valE kdb mbb rdb wrb fsb)) (andE rda rdb) (andE wra wrb) (fjE kda mba rda wra fsa kdb mbb rdb wrb fsb)) (jkd kda kdb) (bits .or .u16 (mba : Int) (mbb : Int)) (andL rda rdb) (andL wra wrb) (fjL kda mba rda wra fsa kdb mbb rdb wrb fsb) w) := by
 have hi : i < n := by omega
 have hA3 := heap_alloc3 w (.cells #[.slice p0 n0 c0, .slice none 0 0, .int .u16 x, .slice (some ⟨gb, go, none⟩) n gc, .slice (some ⟨b, off, none⟩) n cc, .slice none 0 0] 33) (.cells #[.int .i64 (i : Nat), .bool true] 39) (.cells z6 49)
 have HN0 := Lib.hid (show NC w #[.slice p0 n0 c0, .slice none 0 0, .int .u16 x, .slice (some ⟨gb, go, none⟩) n gc, .slice (some ⟨b, off, none⟩) n cc, .slice none 0 0] #[.int .i64 (i : Nat), .bool true] _ from ⟨hA3.1, hA3.2.1, hA3.2.2.1, hA3.2.2.2.2⟩)
 have HCH := Lib.hid hC
 have HCA := Lib.hid hca
 have HCB := Lib.hid hcb
 have HQ := Lib.hid (fun W (hW : Below w.heap.size w W) => jointOf_ex nma kda mba p3a n3a c3a p4a n4a c4a p5a n5a c5a rda wra fsa nmb kdb mbb p3b n3b c3b p4b n4b c4b p5b n5b c5b rdb wrb fsb W (ha.below hW) (hb.below hW))
 have e1 : (i : Int) < (n : Int) := by omega
 have e2 : (0 : Int) ≤ (i : Int) := by omega
 have e3 : ((i + 1 : Nat) : Int) < (n : Int) := by omega
 have HWP := Lib.hid (show IntKind.i64.wrap ((i : Int) + 1) = ((i + 1 : Nat) : Int) by simp [IntKind.wrap, IntKind.bits, IntKind.signed]; omega)
 have HV := Lib.hid (fun W (hW : Below w.heap.size w W) => valid_ex p0 n0 c0 x (some ⟨gb, go, none⟩) gc b off cc n i true W hn hi (hC.below hW))
 rw [show (!true || decide (i + 1 < n)) = true by simpa using hi1] at HV
 clear hA3 hC hca hcb ha hb
 generalize (four (bothE (valE kda mba rda wra fsa) (valE kdb mbb rdb wrb fsb)) (andE rda rdb) (andE wra wrb) (fjE kda mba rda wra fsa kdb mbb rdb wrb fsb)) = EE at HQ ⊢
 unfold JoOut
 unfold JoRet at HQ
 generalize (if EE = 0 then jointB else emptyB) = NM at HQ ⊢
 generalize (if EE = 0 then jkd kda kdb else 0) = KD at HQ ⊢
 generalize (if EE = 0 then bits .or .u16 (mba : Int) (mbb : Int) else 0) = MB at HQ ⊢
 generalize (if EE = 0 then andL rda rdb else []) = RR at HQ ⊢
 generalize (if EE = 0 then andL wra wrb else []) = WW at HQ ⊢
 generalize (if EE = 0 then fjL kda mba rda wra fsa kdb mbb rdb wrb fsb else []) = FF at HQ ⊢
 go_enter Tryz.func15, Tryz.ntmps15
 go_upto_region 1 with fail
 revert HN0
 unfold z6
 generalize ((w.alloc (.cells #[.slice p0 n0 c0, .slice none 0 0, .int .u16 x, .slice (some ⟨gb, go, none⟩) n gc, .slice (some ⟨b, off, none⟩) n cc, .slice none 0 0] 33)).alloc (.cells #[.int .i64 (i : Nat), .bool true] 39)).alloc _ = W0
 intro HN0
 obtain ⟨d0, d1, d2, d3, d4, d5⟩ := cs6 HN0.out.da
 obtain ⟨g0, g1⟩ := cs2 HN0.out.ea
 go_upto_region 3 with (go_at_call 22; (with_reducible refine (HV.out _ HN0.out.bl).mono ?_); rintro e w1 ⟨rfl, hb1⟩; have HN1 := Lib.hid (HN0.out.below hb1); clear hb1)
 clear d0 d1 d2 d3 d4 d5 g0 g1
 have HN2 := Lib.hid (HN1.out.below (below_drew _))
 refine wp_region_noPanic ?_
 refine wp_region_y 11 (fun W => W.cell? ⟨w.heap.size, 3, none⟩ = some (.slice (some ⟨gb, go, none⟩) n gc) ∧ W.cell? ⟨w.heap.size, 4, none⟩ = some (.slice (some ⟨b, off, none⟩) n cc) ∧ W.cell? ⟨w.heap.size + 1, 0, none⟩ = some (.int .i64 (i : Nat)) ∧ W.cell? ⟨b, off + i, none⟩ = some (.int .i64 (i : Nat)) ∧ W.cell? ⟨gb, go + i * 6, none⟩ = some (.string nma) ∧ W.cell? ⟨gb, go + i * 6 + 1, none⟩ = some (.int .i64 kda) ∧ W.cell? ⟨gb, go + i * 6 + 2, none⟩ = some (.int .u16 (mba : Int)) ∧ W.cell? ⟨gb, go + i * 6 + 3, none⟩ = some (.slice p3a n3a c3a) ∧ W.cell? ⟨gb, go + i * 6 + 4, none⟩ = some (.slice p4a n4a c4a) ∧ W.cell? ⟨gb, go + i * 6 + 5, none⟩ = some (.slice p5a n5a c5a) ∧ NC w #[.slice p0 n0 c0, .slice none 0 0, .int .u16 x, .slice (some ⟨gb, go, none⟩) n gc, .slice (some ⟨b, off, none⟩) n cc, .slice none 0 0] #[.int .i64 (i : Nat), .bool true] W) (by kernel_rfl) ?_ (fun hHeld => ?_)
 ·exact ⟨cellOf HN2.out.da rfl, cellOf HN2.out.da rfl, cellOf HN2.out.ea rfl, (HN2.out.bl.cell (p := ⟨b, off + i, none⟩) HCH.out.1).trans (HCH.out.2 i hi), (HCA.out.at HN2.out.bl).1, (HCA.out.at HN2.out.bl).2.1, (HCA.out.at HN2.out.bl).2.2.1, (HCA.out.at HN2.out.bl).2.2.2.1, (HCA.out.at HN2.out.bl).2.2.2.2.1, (HCA.out.at HN2.out.bl).2.2.2.2.2, HN2.out⟩
 revert hHeld HN2
 generalize w1.drew = wD
 intro HN2 hHeld
 refine tkY 0 12 ?_ rfl ?_ ?_
 rotate_left
 ·intro w hSw; (try dsimp only at hSw); go_simp; try with_reducible rfl
 try simp only [Act.put, sA, sZ, sS]
 refine tkY 1 13 ?_ rfl ?_ ?_
 rotate_left
 ·intro w hSw; (try dsimp only at hSw); go_simp; try with_reducible rfl
 try simp only [Act.put, sA, sZ, sS]
 refine tkY 2 14 ?_ rfl ?_ ?_
 rotate_left
 ·intro w hSw; (try dsimp only at hSw); go_simp; try with_reducible rfl
 try simp only [Act.put, sA, sZ, sS]
 refine tkY 3 15 ?_ rfl ?_ ?_
 rotate_left
 ·intro w hSw; (try dsimp only at hSw); go_simp; try with_reducible rfl
 try simp only [Act.put, sA, sZ, sS]
 refine tkY 4 16 ?_ rfl ?_ ?_
 rotate_left
 ·intro w hSw; (try dsimp only at hSw); go_simp; try with_reducible rfl
 try simp only [Act.put, sA, sZ, sS]
 refine tkY 5 17 ?_ rfl ?_ ?_
 rotate_left
 ·intro w hSw; (try dsimp only at hSw); go_simp; try with_reducible rfl
 try simp only [Act.put, sA, sZ, sS]
 refine tkY 6 18 ?_ rfl ?_ ?_
 rotate_left
 ·intro w hSw; (try dsimp only at hSw); go_simp; try with_reducible rfl
 try simp only [Act.put, sA, sZ, sS]
 refine tkY 7 19 ?_ rfl ?_ ?_
 rotate_left
 ·intro w hSw; (try dsimp only at hSw); go_simp; try with_reducible rfl
 try simp only [Act.put, sA, sZ, sS]
 refine tkY 8 20 ?_ rfl ?_ ?_
 rotate_left
 ·intro w hSw; (try dsimp only at hSw); go_simp; try with_reducible rfl
 try simp only [Act.put, sA, sZ, sS]
 refine tkY 9 21 ?_ rfl ?_ ?_
 rotate_left
 ·intro w hSw; (try dsimp only at hSw); go_simp; try with_reducible rfl
 try simp only [Act.put, sA, sZ, sS]
 refine wpAnyY_ready (rs := [10]) (by kernel_rfl) (by simp) ?_
 refine AllReadyY.cons (o := ⟨some 6, _, _, _, _, _⟩) rfl (fun K hK => ?_) ?_
 ·go_simp
  refine hK.out _ _ ?_ (fun hHeld => ?_)
  ·exact ⟨cellOf (HN2.out.below ((Below.refl _ _).alloc (Nat.le_refl _) _)).da rfl, cellOf (HN2.out.below ((Below.refl _ _).alloc (Nat.le_refl _) _)).da rfl, cellOf (HN2.out.below ((Below.refl _ _).alloc (Nat.le_refl _) _)).ea rfl, ((HN2.out.below ((Below.refl _ _).alloc (Nat.le_refl _) _)).bl.cell (p := ⟨b, off + i, none⟩) HCH.out.1).trans (HCH.out.2 i hi), (HCA.out.at (HN2.out.below ((Below.refl _ _).alloc (Nat.le_refl _) _)).bl).1, (HCA.out.at (HN2.out.below ((Below.refl _ _).alloc (Nat.le_refl _) _)).bl).2.1, (HCA.out.at (HN2.out.below ((Below.refl _ _).alloc (Nat.le_refl _) _)).bl).2.2.1, (HCA.out.at (HN2.out.below ((Below.refl _ _).alloc (Nat.le_refl _) _)).bl).2.2.2.1, (HCA.out.at (HN2.out.below ((Below.refl _ _).alloc (Nat.le_refl _) _)).bl).2.2.2.2.1, (HCA.out.at (HN2.out.below ((Below.refl _ _).alloc (Nat.le_refl _) _)).bl).2.2.2.2.2, (HN2.out.below ((Below.refl _ _).alloc (Nat.le_refl _) _))⟩
  clear hK K
  have HN3 := Lib.hid (show NC w #[.slice p0 n0 c0, .slice none 0 0, .int .u16 x, .slice (some ⟨gb, go, none⟩) n gc, .slice (some ⟨b, off, none⟩) n cc, .slice none 0 0] #[.int .i64 (i : Nat), .bool true] (wD.alloc (.cells #[.string ⟨#[]⟩, .int .i64 0, .int .u16 0, .slice none 0 0, .slice none 0 0, .slice none 0 0] 49)) from (HN2.out.below ((Below.refl _ _).alloc (Nat.le_refl _) _)))
  have HC6 := Lib.hid (heap_alloc_new wD (.cells #[.string ⟨#[]⟩, .int .i64 0, .int .u16 0, .slice none 0 0, .slice none 0 0, .slice none 0 0] 49))
  have hCl : w.heap.size + 1 + 1 < wD.heap.size := (gLt HN2.out.ra)
  revert HN3 HC6
  generalize wD.alloc (.cells #[.string ⟨#[]⟩, .int .i64 0, .int .u16 0, .slice none 0 0, .slice none 0 0, .slice none 0 0] 49) = wE
  generalize wD.heap.size = C at hCl ⊢
  intro HN3 HC6
  obtain ⟨q0, q1, q2, q3, q4, q5⟩ := cs6 HC6.out
  have g0 := frozenOf HC6.out (j := 0); have g1 := frozenOf HC6.out (j := 1); have g2 := frozenOf HC6.out (j := 2); have g3 := frozenOf HC6.out (j := 3); have g4 := frozenOf HC6.out (j := 4); have g5 := frozenOf HC6.out (j := 5)
  try simp only [Act.put, sA, sZ, sS]
  refine wpAnyY_ready (rs := [11]) (by kernel_rfl) (by simp) ?_
  refine AllReadyY.last (o := ⟨none, _, _, _, _, _⟩) (by decide) rfl (fun K hK => ?_) ?_
  ·go_simp
   refine hK.out _ _ ?_
   clear hK K
   try simp only [Act.put, sA, sZ, sS]
   refine wpAnyY_done (by kernel_rfl) ?_ _
   refine NoPanic.normal ?_
   go_upto_region 4 with fail
   have HD0 := Lib.hid (show ND w #[.slice p0 n0 c0, .slice none 0 0, .int .u16 x, .slice (some ⟨gb, go, none⟩) n gc, .slice (some ⟨b, off, none⟩) n cc, .slice none 0 0] #[.int .i64 (i : Nat), .bool true] C #[.string nma, .int .i64 kda, .int .u16 (mba : Int), .slice p3a n3a c3a, .slice p4a n4a c4a, .slice p5a n5a c5a] ((((((wE.setCell ⟨C, 0, none⟩ (.string nma)).setCell ⟨C, 1, none⟩ (.int .i64 kda)).setCell ⟨C, 2, none⟩ (.int .u16 (mba : Int))).setCell ⟨C, 3, none⟩ (.slice p3a n3a c3a)).setCell ⟨C, 4, none⟩ (.slice p4a n4a c4a)).setCell ⟨C, 5, none⟩ (.slice p5a n5a c5a)) from ⟨HN3.out.set6 hCl _ _ _ _ _ _, row_set6 HC6.out _ _ _ _ _ _, hCl⟩)
   clear q0 q1 q2 q3 q4 q5 g0 g1 g2 g3 g4 g5 HN3 HC6 HN2 HN1
   revert HD0
   generalize (((((wE.setCell ⟨C, 0, none⟩ (.string nma)).setCell ⟨C, 1, none⟩ (.int .i64 kda)).setCell ⟨C, 2, none⟩ (.int .u16 (mba : Int))).setCell ⟨C, 3, none⟩ (.slice p3a n3a c3a)).setCell ⟨C, 4, none⟩ (.slice p4a n4a c4a)).setCell ⟨C, 5, none⟩ (.slice p5a n5a c5a) = WC
   intro HD0
   have g1 := cellOf HD0.out.nc.ea (j := 1) rfl
   go_upto_region 7 with fail
   clear g1
   have HD1 := Lib.hid (HD0.out.below (below_drew _))
   refine wp_region_noPanic ?_
   refine wp_region_y 15 (fun W => W.cell? ⟨C, 0, none⟩ = some (.string nma) ∧ W.cell? ⟨C, 1, none⟩ = some (.int .i64 kda) ∧ W.cell? ⟨C, 2, none⟩ = some (.int .u16 (mba : Int)) ∧ W.cell? ⟨C, 3, none⟩ = some (.slice p3a n3a c3a) ∧ W.cell? ⟨C, 4, none⟩ = some (.slice p4a n4a c4a) ∧ W.cell? ⟨C, 5, none⟩ = some (.slice p5a n5a c5a) ∧ W.cell? ⟨w.heap.size, 3, none⟩ = some (.slice (some ⟨gb, go, none⟩) n gc) ∧ W.cell? ⟨w.heap.size, 4, none⟩ = some (.slice (some ⟨b, off, none⟩) n cc) ∧ W.cell? ⟨w.heap.size + 1, 0, none⟩ = some (.int .i64 (i : Nat)) ∧ W.cell? ⟨b, off + (i + 1), none⟩ = some (.int .i64 ((i + 1 : Nat) : Int)) ∧ W.cell? ⟨gb, go + (i + 1) * 6, none⟩ = some (.string nmb) ∧ W.cell? ⟨gb, go + (i + 1) * 6 + 1, none⟩ = some (.int .i64 kdb) ∧ W.cell? ⟨gb, go + (i + 1) * 6 + 2, none⟩ = some (.int .u16 (mbb : Int)) ∧ W.cell? ⟨gb, go + (i + 1) * 6 + 3, none⟩ = some (.slice p3b n3b c3b) ∧ W.cell? ⟨gb, go + (i + 1) * 6 + 4, none⟩ = some (.slice p4b n4b c4b) ∧ W.cell? ⟨gb, go + (i + 1) * 6 + 5, none⟩ = some (.slice p5b n5b c5b) ∧ ND w #[.slice p0 n0 c0, .slice none 0 0, .int .u16 x, .slice (some ⟨gb, go, none⟩) n gc, .slice (some ⟨b, off, none⟩) n cc, .slice none 0 0] #[.int .i64 (i : Nat), .bool true] C #[.string nma, .int .i64 kda, .int .u16 (mba : Int), .slice p3a n3a c3a, .slice p4a n4a c4a, .slice p5a n5a c5a] W) (by kernel_rfl) ?_ (fun hHeld => ?_)
   ·exact ⟨cellOf HD1.out.rc rfl, cellOf HD1.out.rc rfl, cellOf HD1.out.rc rfl, cellOf HD1.out.rc rfl, cellOf HD1.out.rc rfl, cellOf HD1.out.rc rfl, cellOf HD1.out.nc.da rfl, cellOf HD1.out.nc.da rfl, cellOf HD1.out.nc.ea rfl, (HD1.out.nc.bl.cell (p := ⟨b, off + (i + 1), none⟩) HCH.out.1).trans (HCH.out.2 (i + 1) hi1), (HCB.out.at HD1.out.nc.bl).1, (HCB.out.at HD1.out.nc.bl).2.1, (HCB.out.at HD1.out.nc.bl).2.2.1, (HCB.out.at HD1.out.nc.bl).2.2.2.1, (HCB.out.at HD1.out.nc.bl).2.2.2.2.1, (HCB.out.at HD1.out.nc.bl).2.2.2.2.2, HD1.out⟩
   clear HD0
   revert hHeld HD1
   generalize WC.drew = wG
   intro HD1 hHeld
   refine tkY 0 38 ?_ rfl ?_ ?_
   rotate_left
   ·intro w hSw; (try dsimp only at hSw); go_simp; try with_reducible rfl
   try simp only [Act.put, sA, sZ, sS]
   refine tkY 1 39 ?_ rfl ?_ ?_
   rotate_left
   ·intro w hSw; (try dsimp only at hSw); go_simp; try with_reducible rfl
   try simp only [Act.put, sA, sZ, sS]
   refine tkY 2 40 ?_ rfl ?_ ?_
   rotate_left
   ·intro w hSw; (try dsimp only at hSw); go_simp; try with_reducible rfl
   try simp only [Act.put, sA, sZ, sS]
   refine tkY 3 41 ?_ rfl ?_ ?_
   rotate_left
   ·intro w hSw; (try dsimp only at hSw); go_simp; try with_reducible rfl
   try simp only [Act.put, sA, sZ, sS]
   refine tkY 4 42 ?_ rfl ?_ ?_
   rotate_left
   ·intro w hSw; (try dsimp only at hSw); go_simp; try with_reducible rfl
   try simp only [Act.put, sA, sZ, sS]
   refine tkY 5 43 ?_ rfl ?_ ?_
   rotate_left
   ·intro w hSw; (try dsimp only at hSw); go_simp; try with_reducible rfl
   try simp only [Act.put, sA, sZ, sS]
   refine tkY 6 44 ?_ rfl ?_ ?_
   rotate_left
   ·intro w hSw; (try dsimp only at hSw); go_simp; try with_reducible rfl
   try simp only [Act.put, sA, sZ, sS]
   refine tkY 7 45 ?_ rfl ?_ ?_
   rotate_left
   ·intro w hSw; (try dsimp only at hSw); go_simp; try with_reducible rfl
   try simp only [Act.put, sA, sZ, sS]
   refine tkY 8 46 ?_ rfl ?_ ?_
   rotate_left
   ·intro w hSw
    try dsimp only at hSw
    go_simp
    rw [HWP.out, if_pos ⟨by omega, e3⟩, Int.toNat_natCast]
    try with_reducible rfl
   try simp only [Act.put, sA, sZ, sS]
   refine tkY 9 47 ?_ rfl ?_ ?_
   rotate_left
   ·intro w hSw; (try dsimp only at hSw); go_simp; try with_reducible rfl
   try simp only [Act.put, sA, sZ, sS]
   refine tkY 10 48 ?_ rfl ?_ ?_
   rotate_left
   ·intro w hSw
    try dsimp only at hSw
    go_simp
    rw [if_pos ⟨by omega, by omega⟩]
    try with_reducible rfl
   try simp only [Act.put, sA, sZ, sS]
   refine tkY 11 49 ?_ rfl ?_ ?_
   rotate_left
   ·intro w hSw; (try dsimp only at hSw); go_simp; try with_reducible rfl
   try simp only [Act.put, sA, sZ, sS]
   refine wpAnyY_ready (rs := [12]) (by kernel_rfl) (by simp) ?_
   refine AllReadyY.cons (o := ⟨some 50, _, _, _, _, _⟩) rfl (fun K hK => ?_) ?_
   ·go_simp
    go_at_call 28
    refine (HQ.out _ HD1.out.nc.bl).mono ?_
    rintro e w4 ⟨q3, m3, k3, q4, m4, k4, q5, m5, k5, rfl, hH, hb4, hf3, hf4, hf5⟩
    have hD4 := HD1.out.below hb4
    go_simp
    refine hK.out _ _ ?_ (fun hHeld => ?_)
    ·exact ⟨cellOf hD4.rc rfl, cellOf hD4.rc rfl, cellOf hD4.rc rfl, cellOf hD4.rc rfl, cellOf hD4.rc rfl, cellOf hD4.rc rfl, cellOf hD4.nc.da rfl, cellOf hD4.nc.da rfl, cellOf hD4.nc.ea rfl, (hD4.nc.bl.cell (p := ⟨b, off + (i + 1), none⟩) HCH.out.1).trans (HCH.out.2 (i + 1) hi1), (HCB.out.at hD4.nc.bl).1, (HCB.out.at hD4.nc.bl).2.1, (HCB.out.at hD4.nc.bl).2.2.1, (HCB.out.at hD4.nc.bl).2.2.2.1, (HCB.out.at hD4.nc.bl).2.2.2.2.1, (HCB.out.at hD4.nc.bl).2.2.2.2.2, hD4⟩
    clear hK K
    have HD4 := Lib.hid hD4
    have HRs := Lib.hid (show w.heap.size + 1 + 1 < wG.heap.size from Nat.lt_trans HD1.out.hc (gLt HD1.out.rc))
    have HHq := Lib.hid (And.intro hH (And.intro (off_ne hf3 HRs.out) (And.intro (off_ne hf4 HRs.out) (off_ne hf5 HRs.out))))
    clear hD4 hH hb4 hf3 hf4 hf5
    obtain ⟨r0, r1, r2, r3, r4, r5⟩ := cs6 HD4.out.nc.ra
    have f0 := frozenOf HD4.out.nc.ra (j := 0); have f1 := frozenOf HD4.out.nc.ra (j := 1); have f2 := frozenOf HD4.out.nc.ra (j := 2); have f3 := frozenOf HD4.out.nc.ra (j := 3); have f4 := frozenOf HD4.out.nc.ra (j := 4); have f5 := frozenOf HD4.out.nc.ra (j := 5)
    try simp only [Act.put, sA, sZ, sS]
    refine tkY 13 51 ?_ rfl ?_ ?_
    rotate_left
    ·intro w hSw; (try dsimp only at hSw); go_simp; try with_reducible rfl
    try simp only [Act.put, sA, sZ, sS]
    refine tkY 14 52 ?_ rfl ?_ ?_
    rotate_left
    ·intro w hSw; (try dsimp only at hSw); go_simp; try with_reducible rfl
    try simp only [Act.put, sA, sZ, sS]
    refine wpAnyY_ready (rs := [15]) (by kernel_rfl) (by simp) ?_
    refine AllReadyY.last (o := ⟨none, _, _, _, _, _⟩) (by decide) rfl (fun K hK => ?_) ?_
    ·go_simp
     refine hK.out _ _ ?_
     clear hK K
     try simp only [Act.put, sA, sZ, sS]
     refine wpAnyY_ready (rs := [16]) (by kernel_rfl) (by simp) ?_
     refine AllReadyY.last (o := ⟨some 5, _, _, _, _, _⟩) (by decide) rfl (fun K hK => ?_) ?_
     ·go_simp
      refine hK.out _ _ ?_
      clear hK K
      try simp only [Act.put, sA, sZ, sS]
      refine wpAnyY_done (by kernel_rfl) ?_ _
      refine NoPanic.normal ?_
      go_wp2_with fail
      exact cfo_end 4 5 rfl HD4.out.nc.ra HD4.out.nc.bl (by omega) NM KD MB q3 m3 k3 q4 m4 k4 q5 m5 k5 RR WW FF EE _ rfl rfl HHq.out.1 (fun _ => HHq.out.2.1) (fun _ => HHq.out.2.2.1) (fun _ => HHq.out.2.2.2)
     exact AllReadyY.nil
    exact AllReadyY.nil
   exact AllReadyY.nil
  exact AllReadyY.nil
 exact AllReadyY.nil
end Go.Proofs.YtmcnpaehmnadeaaGreatDoor
