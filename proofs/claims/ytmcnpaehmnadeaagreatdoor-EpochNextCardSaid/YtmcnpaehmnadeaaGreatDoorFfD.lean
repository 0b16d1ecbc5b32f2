/-
  EpochNext: sederuntref41.Made returns a deployment, with what its configurations hold.
-/
import Derived.Test.YtmcnpaehmnadeaaGreatDoorFfC
import Derived.Test.YtmcnpaehmnadeaaGreatDoorEwMO
set_option maxHeartbeats 6400000
set_option maxRecDepth 1000000
namespace Go.Proofs.YtmcnpaehmnadeaaGreatDoor
open Go Go.RowKit
structure CfsAt (W : World) (gp : Option Addr) (n : Nat) (cs : List Cg) (D : Nat) : Prop where
 len : cs.length = n
 nm : ∀ i (h : i < cs.length), cs[i].nm = nameK i
 ok : ∀ c ∈ cs, CgOk W (some D) c
 row : ∃ gb, gp = some ⟨gb, 0, none⟩ ∧ gb < W.heap.size ∧ gb ≠ D ∧ ∀ j u, (cs.flatMap Cg.vals)[j]? = some u → W.cell? ⟨gb, j, none⟩ = some u
theorem SetL.keep {W W' : World} {D : Nat} {p : Option Addr} {l : List Nat} (h : SetL W p l) (ho : l ≠ [] → ∀ q, p = some q → some q.block ≠ some D) (hs : W.heap.size ≤ W'.heap.size) (hk : ∀ B, B < W.heap.size → B ≠ D → W'.heap[B]? = W.heap[B]?) : SetL W' p l := by
 rcases h with h | ⟨b, off, h1, h2, h3⟩
 ·exact .inl h
 ·by_cases hl : l = []
  ·exact .inl hl
  ·have hb : b ≠ D := fun e => ho hl _ h1 (by rw [e])
   exact .inr ⟨b, off, h1, Nat.lt_of_lt_of_le h2 hs, fun i hi => (World.cell?_of_block (a := ⟨b, off + i, none⟩) (hk b h2 hb)).trans (h3 i hi)⟩
theorem FltL.keep {W W' : World} {D : Nat} {p : Option Addr} {l : List (Nat × Nat)} (h : FltL W p l) (ho : l ≠ [] → ∀ q, p = some q → some q.block ≠ some D) (hs : W.heap.size ≤ W'.heap.size) (hk : ∀ B, B < W.heap.size → B ≠ D → W'.heap[B]? = W.heap[B]?) : FltL W' p l := by
 rcases h with h | ⟨b, off, h1, h2, h3⟩
 ·exact .inl h
 ·by_cases hl : l = []
  ·exact .inl hl
  ·have hb : b ≠ D := fun e => ho hl _ h1 (by rw [e])
   exact .inr ⟨b, off, h1, Nat.lt_of_lt_of_le h2 hs, fun i hi => ⟨(World.cell?_of_block (a := ⟨b, off + i * 2, none⟩) (hk b h2 hb)).trans (h3 i hi).1, (World.cell?_of_block (a := ⟨b, off + i * 2 + 1, none⟩) (hk b h2 hb)).trans (h3 i hi).2⟩⟩
theorem CfsAt.keep {W W' : World} {gp : Option Addr} {n : Nat} {cs : List Cg} {D : Nat} (h : CfsAt W gp n cs D) (hs : W.heap.size ≤ W'.heap.size) (hk : ∀ B, B < W.heap.size → B ≠ D → W'.heap[B]? = W.heap[B]?) : CfsAt W' gp n cs D := by
 obtain ⟨gb, h1, h2, h3, h4⟩ := h.row
 exact ⟨h.len, h.nm, fun c hc => { h.ok c hc with s3 := (h.ok c hc).s3.keep (h.ok c hc).o3 hs hk, s4 := (h.ok c hc).s4.keep (h.ok c hc).o4 hs hk, s5 := (h.ok c hc).s5.keep (h.ok c hc).o5 hs hk },
  gb, h1, Nat.lt_of_lt_of_le h2 hs, h3, fun j u hu => (World.cell?_of_block (a := ⟨gb, j, none⟩) (hk gb h2 h3)).trans (h4 j u hu)⟩
theorem CfsAt.later {w W : World} {gp : Option Addr} {gc n : Nat} {cs : List Cg} (hn : 0 < n) (hl : cs.length = n) (hnm : ∀ i (h : i < cs.length), cs[i].nm = nameK i) (hok : ∀ c ∈ cs, CgOk W none c) (hown : W.ownsRow w.heap.size 49 6 (.slice gp n gc) n (cs.flatMap Cg.vals)) {D : Nat} (hD : W.heap.size ≤ D) : CfsAt W gp n cs D := by
 refine ⟨hl, hnm, fun c hc => { hok c hc with o3 := fun hne q hq => ?_, o4 := fun hne q hq => ?_, o5 := fun hne q hq => ?_ }, ?_⟩
 ·have := setL_lt (hok c hc).s3 hne q hq
  intro e; injection e with e; omega
 ·have := setL_lt (hok c hc).s4 hne q hq
  intro e; injection e with e; omega
 ·have := fltL_lt (hok c hc).s5 hne q hq
  intro e; injection e with e; omega
 ·rcases hown.2 with ⟨_, h0⟩ | ⟨g, cap, cur, h1, hg, hc, hcap, _, hsz, hx⟩
  ·omega
  ·injection h1 with h1 _ _
   have hlt := (gLt hc)
   refine ⟨g, h1, hlt, by omega, fun j u hu => cellOf hc ?_⟩
   rw [← hx, List.getElem?_take] at hu
   split at hu
   ·rw [Array.getElem?_toList] at hu; exact hu
   ·cases hu
theorem CfsAt.older {w W : World} {gp : Option Addr} {gc n : Nat} {cs : List Cg} (hn : 0 < n) (hl : cs.length = n) (hnm : ∀ i (h : i < cs.length), cs[i].nm = nameK i) (hok : ∀ c ∈ cs, CgOk W none c) (hfr : ∀ c ∈ cs, FrC w c) (hown : W.ownsRow w.heap.size 49 6 (.slice gp n gc) n (cs.flatMap Cg.vals)) {D : Nat} (hD : D < w.heap.size) : CfsAt W gp n cs D := by
 refine ⟨hl, hnm, fun c hc => { hok c hc with o3 := fun _ q hq => ?_, o4 := fun _ q hq => ?_, o5 := fun _ q hq => ?_ }, ?_⟩
 ·have := (hfr c hc).1 q hq
  intro e; injection e with e; omega
 ·have := (hfr c hc).2.1 q hq
  intro e; injection e with e; omega
 ·have := (hfr c hc).2.2 q hq
  intro e; injection e with e; omega
 ·rcases hown.2 with ⟨_, h0⟩ | ⟨g, cap, cur, h1, hg, hc, hcap, _, hsz, hx⟩
  ·omega
  ·injection h1 with h1 _ _
   have hlt := (gLt hc)
   refine ⟨g, h1, hlt, by omega, fun j u hu => cellOf hc ?_⟩
   rw [← hx, List.getElem?_take] at hu
   split at hu
   ·rw [Array.getElem?_toList] at hu; exact hu
   ·cases hu
def MadeRetC (n : Nat) (w : World) (e : Ending) (w' : World) : Prop := ∃ (p0 : Option Addr) (n0 c0 : Nat) (x : Int) (gp : Option Addr) (gn gc : Nat) (cp : Option Addr) (cn cc : Nat) (r : Bool),
 e = .returned (.tuple #[.agg #[.slice p0 n0 c0, .slice none 0 0, .int .u16 x, .slice gp gn gc, .slice cp cn cc, .slice none 0 0], .bool r]) ∧ Below w.heap.size w w' ∧
  (r = true → 0 < n ∧ n ≤ 3 ∧ gn = n ∧ cn = n ∧ n ≤ cc ∧ (∃ b off, cp = some ⟨b, off, none⟩ ∧ ChW w' b off n) ∧ ∃ cs R, CfsAt w' gp n cs R)
theorem mdc_end {w W : World} {fn : Func} {R n : Nat} {a0 a1 a2 a3 a4 a5 : Value} (pp uu : Tmp) (hfn : fn.results = #[.cell pp 33, .tmp uu]) (hR : W.heap[R]? = some (.cells #[a0, a1, a2, a3, a4, a5] 33 (0, 0))) (hb : Below w.heap.size w W) (hge : w.heap.size ≤ R)
  (p0 : Option Addr) (n0 c0 : Nat) (x : Int) (gp : Option Addr) (gn gc : Nat) (cp : Option Addr) (cn cc : Nat) (r : Bool) (tmps : Array Value) (h6 : tmps.getD pp undef = .pointer (some ⟨R, 0, none⟩)) (h7 : tmps.getD uu undef = .bool r)
  (hr : r = true → 0 < n ∧ n ≤ 3 ∧ gn = n ∧ cn = n ∧ n ≤ cc ∧ (∃ b off, cp = some ⟨b, off, none⟩ ∧ b ≠ R ∧ ChW W b off n) ∧ ∃ cs, CfsAt W gp n cs R) :
  bodyPost Tryz.prog fn (MadeRetC n w) Exit.ret { tmps := tmps, defers := [] } ((((((W.setCell ⟨R, 0, none⟩ (.slice p0 n0 c0)).setCell ⟨R, 1, none⟩ (.slice none 0 0)).setCell ⟨R, 2, none⟩ (.int .u16 x)).setCell ⟨R, 3, none⟩ (.slice gp gn gc)).setCell ⟨R, 4, none⟩ (.slice cp cn cc)).setCell ⟨R, 5, none⟩ (.slice none 0 0)) := by
 refine bodyPost_ret (results_row_tmp hfn _ _ R 33 #[.slice p0 n0 c0, .slice none 0 0, .int .u16 x, .slice gp gn gc, .slice cp cn cc, .slice none 0 0] (0, 0) _ h6 (row_set6 hR _ _ _ _ _ _) Tryz.underlying33 rfl Tryz.size33) rfl ?_
 rw [h7]
 refine ⟨p0, n0, c0, x, gp, gn, gc, cp, cn, cc, r, rfl, below_set6 hb hge _ _ _ _ _ _, fun h => ?_⟩
 obtain ⟨h1, h2, h3, h4, h5, ⟨b, off, h8, h9, h10⟩, cs, h11⟩ := hr h
 exact ⟨h1, h2, h3, h4, h5, ⟨b, off, h8, Nat.lt_of_lt_of_le h10.1 (Nat.le_of_eq (set6_size _ _ _ _ _ _).symm), fun i hi => (World.cell?_of_block (a := ⟨b, off + i, none⟩) (set6_other h9 _ _ _ _ _ _)).trans (h10.2 i hi)⟩,
  cs, R, h11.keep (Nat.le_of_eq (set6_size _ _ _ _ _ _).symm) fun _ _ hB => set6_other hB _ _ _ _ _ _⟩
theorem cfs_two {W W' : World} {gp : Option Addr} {n : Nat} {cs : List Cg} {D R : Nat} (hD : CfsAt W gp n cs D) (hR : CfsAt W gp n cs R) (hs : W.heap.size ≤ W'.heap.size) (hk : ∀ B, B < W.heap.size → B ≠ D → W'.heap[B]? = W.heap[B]?) : CfsAt W' gp n cs R := by
 obtain ⟨gb, h1, h2, h3, h4⟩ := hD.row
 obtain ⟨gb', h1', h2', h3', h4'⟩ := hR.row
 obtain rfl : gb = gb' := by
  rw [h1] at h1'
  injection h1' with h1'
  injection h1'
 exact ⟨hR.len, hR.nm, fun c hc => { hR.ok c hc with s3 := (hD.ok c hc).s3.keep (hD.ok c hc).o3 hs hk, s4 := (hD.ok c hc).s4.keep (hD.ok c hc).o4 hs hk, s5 := (hD.ok c hc).s5.keep (hD.ok c hc).o5 hs hk },
  gb, h1, Nat.lt_of_lt_of_le h2 hs, h3', fun j u hu => (World.cell?_of_block (a := ⟨gb, j, none⟩) (hk gb h2 h3)).trans (h4 j u hu)⟩
theorem cfs_set6 {W : World} {gp : Option Addr} {n : Nat} {cs : List Cg} {D R : Nat} (hR : CfsAt W gp n cs R) (hD : CfsAt W gp n cs D) {v0 v1 v2 v3 v4 v5 : Value} : CfsAt ((((((W.setCell ⟨D, 0, none⟩ v0).setCell ⟨D, 1, none⟩ v1).setCell ⟨D, 2, none⟩ v2).setCell ⟨D, 3, none⟩ v3).setCell ⟨D, 4, none⟩ v4).setCell ⟨D, 5, none⟩ v5) gp n cs R :=
 cfs_two hD hR (Nat.le_of_eq (set6_size _ _ _ _ _ _).symm) fun _ _ hB => set6_other hB _ _ _ _ _ _
theorem made41_ct (p : Option Addr) (n cap : Nat) (x0 : Int) (w : World) (hp : n ≤ 3 → DrfP w p n) : Calls Tryz.prog 5 #[.agg #[.slice p n cap, .int .u8 x0]] w (MadeRetC n w) := by
 obtain ⟨i0, hi, hz0, hz1, hz2⟩ := info_parts Tryz.info9
 obtain ⟨j0, hj, hy0, hy1, hy2⟩ := info_parts Tryz.info3
 have hb0 : Below w.heap.size w ((w.alloc (.cells #[.slice p n cap, .int .u8 x0] 24)).alloc (.cells #[.slice none 0 0, .slice none 0 0, .int .u16 0, .slice none 0 0, .slice none 0 0, .slice none 0 0] 33)) := ((Below.refl _ _).alloc (Nat.le_refl _) _).alloc (by simp) _
 have HO0 := Lib.hid (show OM w p n cap x0 _ from ⟨heap_alloc2_old w (.cells #[.slice p n cap, .int .u8 x0] 24) (.cells #[.slice none 0 0, .slice none 0 0, .int .u16 0, .slice none 0 0, .slice none 0 0, .slice none 0 0] 33), heap_alloc2_new w _ _, hb0⟩)
 have HP := Lib.hid hp
 clear hb0 hp
 go_enter Tryz.func5, Tryz.ntmps5
 go_upto_region 1 with fail
 revert HO0
 generalize (w.alloc (.cells #[.slice p n cap, .int .u8 x0] 24)).alloc (.cells #[.slice none 0 0, .slice none 0 0, .int .u16 0, .slice none 0 0, .slice none 0 0, .slice none 0 0] 33) = W0
 intro HO0
 have d0 := cellOf HO0.out.da (j := 0) rfl
 obtain ⟨r0, r1, r2, r3, r4, r5⟩ := cs6 HO0.out.ra
 have f0 := frozenOf HO0.out.ra (j := 0); have f1 := frozenOf HO0.out.ra (j := 1); have f2 := frozenOf HO0.out.ra (j := 2); have f3 := frozenOf HO0.out.ra (j := 3); have f4 := frozenOf HO0.out.ra (j := 4); have f5 := frozenOf HO0.out.ra (j := 5)
 by_cases hn1 : n < 1
 ·obtain rfl : n = 0 := by omega
  go_wp2_with fail
  exact mdc_end 2 3 rfl HO0.out.ra HO0.out.bl (Nat.le_succ _) _ _ _ _ _ _ _ _ _ _ false _ rfl rfl (fun h => by cases h)
 ·have e0 : ¬ (n : Int) < 1 := by omega
  by_cases hn3 : n ≤ 3
  ·have e1 : ¬ (3 : Int) < (n : Int) := by omega
   have HD := Lib.hid (HP.out hn3)
   go_upto_region 3 with fail
   clear d0 r0 r1 r2 r3 r4 r5 f0 f1 f2 f3 f4 f5 HP e0 e1
   go_cut [4] (fun u wx => ∃ (D : Nat) (x : Int) (gp : Option Addr) (gc : Nat) (cs : List Cg), u = .pointer (some ⟨D, 0, none⟩) ∧ w.heap.size + 1 < D ∧ CfsAt wx gp n cs D ∧ CfsAt wx gp n cs (w.heap.size + 1) ∧ OM w p n cap x0 wx ∧ wx.heap[D]? = some (.cells #[.slice none 0 0, .slice none 0 0, .int .u16 x, .slice gp n gc, .slice none 0 0, .slice none 0 0] 33 (0, 0)))
   case first =>
    have hOd := HO0.out.below (below_drew W0)
    refine wp_region_noPanic ?_
    refine wp_region_x 8 (fun W => W.cell? ⟨w.heap.size, 0, none⟩ = some (.slice p n cap) ∧ W.cell? ⟨w.heap.size, 1, none⟩ = some (.int .u8 x0) ∧ OM w p n cap x0 W) (by kernel_rfl) ?_ (fun hHeld => ?_)
    ·exact omS hOd
    refine tkX 0 18 ?_ rfl ?_ ?_
    rotate_left
    ·intro w hSw; (try dsimp only at hSw); go_simp; try with_reducible rfl
    try simp only [Act.put, sA, sZ, sS]
    refine tkX 1 19 ?_ rfl ?_ ?_
    rotate_left
    ·intro w hSw; (try dsimp only at hSw); go_simp; try with_reducible rfl
    try simp only [Act.put, sA, sZ, sS]
    refine tkX 2 20 ?_ rfl ?_ ?_
    rotate_left
    ·intro w hSw; (try dsimp only at hSw); go_simp; try with_reducible rfl
    try simp only [Act.put, sA, sZ, sS]
    refine tkX 3 21 ?_ rfl ?_ ?_
    rotate_left
    ·intro w hSw; (try dsimp only at hSw); go_simp; try with_reducible rfl
    try simp only [Act.put, sA, sZ, sS]
    refine tkX 4 22 ?_ rfl ?_ ?_
    rotate_left
    ·intro w hSw; (try dsimp only at hSw); go_simp; try with_reducible rfl
    try simp only [Act.put, sA, sZ, sS]
    refine wpAnyX_ready (rs := [5, 7]) (by kernel_rfl) (by simp) ?_
    refine AllReadyX.cons (o := ⟨some 23, _, _, _, _, _⟩) rfl (fun K hK => ?_) ?_
    ·go_simp
     go_at_call 19
     refine (all_ct p n cap _ hn3 (HD.out.below hOd.bl)).mono ?_
     rintro e x1 ⟨gp, gc, cs, rfl, hb1, hcl, hcn, hco, hcf, hcw⟩
     have hO1 := hOd.below hb1
     have hcr := CfsAt.older (by omega) hcl hcn hco hcf hcw hOd.lt
     go_simp
     refine hK.out _ _ ?_ (fun hHeld => ?_)
     ·exact omS hO1
     clear hK K
     try simp only [Act.put, sA, sZ, sS]
     refine tkX 6 24 ?_ rfl ?_ ?_
     rotate_left
     ·intro w hSw; (try dsimp only at hSw); go_simp; try with_reducible rfl
     try simp only [Act.put, sA, sZ, sS]
     refine wpAnyX_ready (rs := [7]) (by kernel_rfl) (by simp) ?_
     refine AllReadyX.cons (o := ⟨some 4, _, _, _, _, _⟩) rfl (fun K hK => ?_) ?_
     ·go_simp
      have hX2 : (x1.alloc (.cells #[.slice none 0 0, .slice none 0 0, .int .u16 0, .slice none 0 0, .slice none 0 0, .slice none 0 0] 33)).heap[x1.heap.size]? = some (.cells #[.slice none 0 0, .slice none 0 0, .int .u16 0, .slice none 0 0, .slice none 0 0, .slice none 0 0] 33) := heap_alloc_new x1 _
      have hO2 := hO1.below ((Below.refl _ _).alloc (Nat.le_refl _) (.cells #[.slice none 0 0, .slice none 0 0, .int .u16 0, .slice none 0 0, .slice none 0 0, .slice none 0 0] 33))
      have hL := hO1.lt
      have hcd0 := CfsAt.later (by omega) hcl hcn hco hcw (Nat.le_refl _)
      have hcd := hcd0.keep (W' := x1.alloc (.cells #[.slice none 0 0, .slice none 0 0, .int .u16 0, .slice none 0 0, .slice none 0 0, .slice none 0 0] 33)) (by simp) (fun B hB _ => Below.heap_alloc _ _ _ hB)
      have hcr' := hcr.keep (W' := x1.alloc (.cells #[.slice none 0 0, .slice none 0 0, .int .u16 0, .slice none 0 0, .slice none 0 0, .slice none 0 0] 33)) (by simp) (fun B hB _ => Below.heap_alloc _ _ _ hB)
      refine hK.out _ _ ?_ (fun hHeld => ?_)
      ·exact omS hO2
      clear hK K
      try simp only [Act.put, sA, sZ, sS]
      refine wpAnyX_ready (rs := [8]) (by kernel_rfl) (by simp) ?_
      refine AllReadyX.last (o := ⟨none, _, _, _, _, _⟩) rfl (fun K hK => ?_) ?_
      ·have z0 := cellOf hX2 (j := 0) rfl
       have z1 := cellOf hX2 (j := 1) rfl
       have z2 := cellOf hX2 (j := 2) rfl
       have z3 := cellOf hX2 (j := 3) rfl
       have z4 := cellOf hX2 (j := 4) rfl
       have z5 := cellOf hX2 (j := 5) rfl
       have y0 := frozenOf hX2 (j := 0)
       have y1 := frozenOf hX2 (j := 1)
       have y2 := frozenOf hX2 (j := 2)
       have y3 := frozenOf hX2 (j := 3)
       have y4 := frozenOf hX2 (j := 4)
       have y5 := frozenOf hX2 (j := 5)
       go_simp
       refine hK.out _ _ ?_
       clear hK K
       clear z0 z1 z2 z3 z4 z5 y0 y1 y2 y3 y4 y5
       try simp only [Act.put, sA, sZ, sS]
       refine wpAnyX_done (by kernel_rfl) ?_ _
       refine NoPanic.normal ?_
       go_wp2_with fail
       go_meet
       exact ⟨_, _, _, _, cs, rfl, hL, hcd0.keep (by simp) (fun B hB _ => Below.heap_alloc _ _ _ hB), hcr.keep (by simp) (fun B hB _ => Below.heap_alloc _ _ _ hB), hO1.below ((Below.refl _ _).alloc (Nat.le_refl _) _), heap_alloc_new _ _⟩
      exact AllReadyX.nil
     exact AllReadyX.nil
    refine AllReadyX.cons (o := ⟨some 4, _, _, _, _, _⟩) rfl (fun K hK => ?_) ?_
    ·go_simp
     have hX3 : (W0.drew.alloc (.cells #[.slice none 0 0, .slice none 0 0, .int .u16 0, .slice none 0 0, .slice none 0 0, .slice none 0 0] 33)).heap[W0.heap.size]? = some (.cells #[.slice none 0 0, .slice none 0 0, .int .u16 0, .slice none 0 0, .slice none 0 0, .slice none 0 0] 33) := heap_alloc_new W0.drew _
     have hO3 := hOd.below ((Below.refl _ _).alloc (Nat.le_refl _) (.cells #[.slice none 0 0, .slice none 0 0, .int .u16 0, .slice none 0 0, .slice none 0 0, .slice none 0 0] 33))
     have hL := hOd.lt
     refine hK.out _ _ ?_ (fun hHeld => ?_)
     ·exact omS hO3
     clear hK K
     try simp only [Act.put, sA, sZ, sS]
     refine wpAnyX_ready (rs := [5]) (by kernel_rfl) (by simp) ?_
     refine AllReadyX.cons (o := ⟨some 23, _, _, _, _, _⟩) rfl (fun K hK => ?_) ?_
     ·go_simp
      go_at_call 19
      refine (all_ct p n cap _ hn3 (HD.out.below hO3.bl)).mono ?_
      rintro e x4 ⟨gp, gc, cs, rfl, hb4, hcl, hcn, hco, hcf, hcw⟩
      have hO4 := hO3.below hb4
      have hcr := CfsAt.older (by omega) hcl hcn hco hcf hcw hO3.lt
      have hX4 := (hb4.block _ (gLt hX3)).trans hX3
      have hcd := CfsAt.older (by omega) hcl hcn hco hcf hcw (gLt hX3)
      go_simp
      refine hK.out _ _ ?_ (fun hHeld => ?_)
      ·exact omS hO4
      clear hK K
      try simp only [Act.put, sA, sZ, sS]
      refine tkX 6 24 ?_ rfl ?_ ?_
      rotate_left
      ·intro w hSw; (try dsimp only at hSw); go_simp; try with_reducible rfl
      try simp only [Act.put, sA, sZ, sS]
      refine wpAnyX_ready (rs := [8]) (by kernel_rfl) (by simp) ?_
      refine AllReadyX.last (o := ⟨none, _, _, _, _, _⟩) rfl (fun K hK => ?_) ?_
      ·have z0 := cellOf hX4 (j := 0) rfl
       have z1 := cellOf hX4 (j := 1) rfl
       have z2 := cellOf hX4 (j := 2) rfl
       have z3 := cellOf hX4 (j := 3) rfl
       have z4 := cellOf hX4 (j := 4) rfl
       have z5 := cellOf hX4 (j := 5) rfl
       have y0 := frozenOf hX4 (j := 0)
       have y1 := frozenOf hX4 (j := 1)
       have y2 := frozenOf hX4 (j := 2)
       have y3 := frozenOf hX4 (j := 3)
       have y4 := frozenOf hX4 (j := 4)
       have y5 := frozenOf hX4 (j := 5)
       go_simp
       refine hK.out _ _ ?_
       clear hK K
       clear z0 z1 z2 z3 z4 z5 y0 y1 y2 y3 y4 y5
       try simp only [Act.put, sA, sZ, sS]
       refine wpAnyX_done (by kernel_rfl) ?_ _
       refine NoPanic.normal ?_
       go_wp2_with fail
       go_meet
       exact ⟨_, _, _, _, cs, rfl, hL, hcd.keep (Nat.le_of_eq (set6_size _ _ _ _ _ _).symm) (fun _ _ hB => set6_other hB _ _ _ _ _ _), cfs_set6 hcr hcd, hO4.set6 hL _ _ _ _ _ _, row_set6 hX4 _ _ _ _ _ _⟩
      exact AllReadyX.nil
     exact AllReadyX.nil
    exact AllReadyX.nil
   case rest =>
    obtain ⟨D, x, gp, gc, cs, rfl, hD, hCD, hCR, hO, hX⟩ := hcut
    have HCD := Lib.hid (And.intro hCD hCR)
    clear hCD hCR
    obtain ⟨w3, hw3⟩ : ∃ w3 : World, w3 = wc := ⟨wc, rfl⟩
    subst hw3
    have HCD3 := HCD
    clear HCD
    have HO := Lib.hid hO
    have HK0 := Lib.hid (show DK w w3 D (.slice none 0 0) x gp n gc (.slice none 0 0) w3 from ⟨hO.bl.size, (gLt hX), hD, fun _ _ _ => rfl, hX, Nat.le_refl _, hO.bl⟩)
    have HDW := Lib.hid (show w.heap.size ≠ D by omega)
    have HDR := Lib.hid (show w.heap.size + 1 ≠ D by omega)
    clear hD hO hX
    go_upto_block 0 with fail
    go_cut [5] (fun _ wx => ∃ v0 : Value, (∃ p0 n0 c0, v0 = .slice p0 n0 c0) ∧ DK w w3 D v0 x gp n gc (.slice none 0 0) wx)
    case first =>
     go_wp2_with fail
     go_loopw [5] (fun i wr => ∃ (k : Nat) (v : Value) (xs : List Value), k ≤ 8 ∧ i = .int .i64 k ∧ DK w w3 D v x gp n gc (.slice none 0 0) wr ∧ wr.ownsRow w3.heap.size 9 1 v k xs) (fun i _ => 8 - (intOf i).toNat)
     case atStart => exact ⟨0, _, [], Nat.zero_le _, rfl, HK0.out, World.ownsRow_nil _ _ _ _⟩
     case round =>
      obtain ⟨k, v, xs, hk, rfl, hK, hown⟩ := hrel
      have HK := Lib.hid hK
      have HW := Lib.hid hown
      clear hK hown
      have e0 : (0 : Int) ≤ (k : Int) := by omega
      by_cases hk8 : k < 8
      ·have e1 : (k : Int) < 8 := by omega
       go_upto_region 7 with fail
       have hKd := HK.out.below (below_drew wr)
       have HWd := Lib.hid (own_below HW.out (below_drew wr))
       refine wp_region_noPanic ?_
       refine wp_region_x 9 (fun W => W.cell? ⟨D, 0, none⟩ = some v ∧ DK w w3 D v x gp n gc (.slice none 0 0) W) (by kernel_rfl) ?_ (fun hHeld => ?_)
       ·exact dkS hKd
       refine tkX 0 29 ?_ rfl ?_ ?_
       rotate_left
       ·intro w hSw; (try dsimp only at hSw); go_simp; try with_reducible rfl
       try simp only [Act.put, sA, sZ, sS]
       refine tkX 1 30 ?_ rfl ?_ ?_
       rotate_left
       ·intro w hSw; (try dsimp only at hSw); go_simp; try with_reducible rfl
       try simp only [Act.put, sA, sZ, sS]
       refine tkX 2 31 ?_ rfl ?_ ?_
       rotate_left
       ·intro w hSw; (try dsimp only at hSw); go_simp; try with_reducible rfl
       try simp only [Act.put, sA, sZ, sS]
       refine tkX 3 32 ?_ rfl ?_ ?_
       rotate_left
       ·intro w hSw; (try dsimp only at hSw); go_simp; try with_reducible rfl
       try simp only [Act.put, sA, sZ, sS]
       refine tkX 4 33 ?_ rfl ?_ ?_
       rotate_left
       ·intro w hSw; (try dsimp only at hSw); go_simp; try with_reducible rfl
       try simp only [Act.put, sA, sZ, sS]
       refine tkX 5 34 ?_ rfl ?_ ?_
       rotate_left
       ·intro w hSw
        try dsimp only at hSw
        go_simp
        rw [if_neg (enc_small _)]
        try with_reducible rfl
       try simp only [Act.put, sA, sZ, sS]
       refine wpAnyX_ready (rs := [6]) (by kernel_rfl) (by simp) ?_
       refine AllReadyX.cons (o := ⟨some 35, _, _, _, _, _⟩) rfl (fun K hK => ?_) ?_
       ·go_simp
        refine hK.out _ _ ?_ (fun hHeld => ?_)
        ·exact dkS (hKd.below ((Below.refl _ _).alloc (Nat.le_refl _) _))
        clear hK K
        try simp only [Act.put, sA, sZ, sS]
        refine wpAnyX_ready (rs := [7]) (by kernel_rfl) (by simp) ?_
        refine AllReadyX.cons (o := ⟨some 36, _, _, _, _, _⟩) rfl (fun K hK => ?_) ?_
        ·refine step_append_lies _ (by rfl) _ _ _ (by rfl) w3.heap.size 9 i0 (.string ⟨#[]⟩) 1 16 Tryz.underlying25 hi hz0 hz1 hz2 rfl (by omega) v k xs (by rfl) (HWd.out.alloc _) ⟨wr.heap.size, 0, none⟩ 1 1 _ (by rfl) ?g1 (World.news_of_block (t := 9) (fr := (0, 0)) (heap_alloc_new wr.drew _)) ?g2 (by omega) (by unfold maxLen; omega) (by omega) (by simp; have := HK.out.sz; omega) (wr.heap.size + 1) (by simp) ?_
         case g1 => rfl
         case g2 => simp [Value.oneCell']
         intro g5 c5' w5 hown5 hgrow hat hlt
         have hK7 := hKd.grown HWd.out hgrow
         refine hK.out _ _ ?_ (fun hHeld => ?_)
         ·exact dkS hK7
         clear hK K
         have HO5 := Lib.hid hown5
         clear hown5 hgrow hat hlt
         try simp only [Act.put, sA, sZ, sS]
         refine tkX 8 37 ?_ rfl ?_ ?_
         rotate_left
         ·intro w hSw; (try dsimp only at hSw); go_simp; try with_reducible rfl
         try simp only [Act.put, sA, sZ, sS]
         refine wpAnyX_ready (rs := [9]) (by kernel_rfl) (by simp) ?_
         refine AllReadyX.last (o := ⟨none, _, _, _, _, _⟩) rfl (fun K hK => ?_) ?_
         ·have z0 := cellOf hK7.ta (j := 0) rfl
          have y0 := frozenOf hK7.ta (j := 0)
          go_simp
          refine hK.out _ _ ?_
          clear hK K
          clear z0 y0
          try simp only [Act.put, sA, sZ, sS]
          refine wpAnyX_done (by kernel_rfl) ?_ _
          refine NoPanic.normal ?_
          go_wp2_with fail
          go_roundw
          case rel => exact ⟨k + 1, _, _, by omega, by go_num, hK7.put0 _, own_set HO5.out (p := ⟨D, 0, none⟩) hK7.hD _⟩
          case measure => simp [intOf]; omega
         exact AllReadyX.nil
        exact AllReadyX.nil
       exact AllReadyX.nil
      ·have e1 : ¬ (k : Int) < 8 := by omega
       obtain ⟨p5, c5, hv5, _⟩ := slice_of_own HW.out
       subst hv5
       go_wp2_with fail
       go_meet
       exact ⟨_, ⟨_, _, _, rfl⟩, HK.out⟩
    case rest =>
     obtain ⟨v0, ⟨p0, n0, c0, rfl⟩, hK⟩ := hcut
     have HK1 := Lib.hid hK
     clear hK
     go_upto_block 2 with fail
     go_wp2_with fail
     go_loopw [6] (fun i wr => ∃ (k : Nat) (v4 : Value), k ≤ n ∧ i = .int .i64 k ∧ DK w w3 D (.slice p0 n0 c0) x gp n gc v4 wr ∧ wr.ownsRow w3.heap.size 3 1 v4 k (inV (List.range k))) (fun i _ => n - (intOf i).toNat)
     case atStart => exact ⟨0, _, Nat.zero_le _, rfl, HK1.out, World.ownsRow_nil _ _ _ _⟩
     case round =>
      obtain ⟨k, v4, hk, rfl, hK, hown⟩ := hrel
      have HK := Lib.hid hK
      have HW := Lib.hid hown
      have hd0 := cellOf (hK.row HO.out.da HDW.out) (j := 0) rfl
      clear hK hown
      have e0 : (0 : Int) ≤ (k : Int) := by omega
      by_cases hkn : k < n
      ·have e1 : (k : Int) < (n : Int) := by omega
       have q4 := cellOf HK.out.ta (j := 4) rfl
       go_wp2_with (at_builtin; refine wpList_append_own _ rfl _ _ 30 rfl w3.heap.size 3 j0 (.int .i64 0) 1 8 Tryz.underlying30 hj hy0 hy1 hy2 rfl (by decide) v4 k _ rfl (HW.out.alloc _) ⟨wr.heap.size, 0, none⟩ 1 1 [.int .i64 k] rfl rfl ?c1 ?c2 ?c3 ?c4 ?c5 ?_)
       try (case c1 => (intro j u hj; cases j with | zero => (simp at hj; subst hj; simp [Addr.add]) | succ j => simp at hj))
       case c2 => first | rfl | (intro u hu; simp at hu; subst hu; rfl)
       case c3 => unfold maxLen; omega
       case c4 => omega
       case c5 => have := HK.out.sz; first | omega | (simp; omega)
       intro v' w6 hown' hgrow _
       obtain ⟨p9, c9, rfl, _⟩ := slice_of_own hown'
       have HK6 := Lib.hid (HK.out.grown HW.out hgrow)
       rw [inV_snoc, ← List.range_succ] at hown'
       have HO6 := Lib.hid hown'
       have z4 := cellOf HK6.out.ta (j := 4) rfl
       have y4 := frozenOf HK6.out.ta (j := 4)
       clear hown' hgrow q4 hd0
       go_wp2_with fail
       go_roundw
       case rel => exact ⟨k + 1, _, by omega, by go_num, HK6.out.put4 _, own_set HO6.out (p := ⟨D, 4, none⟩) HK6.out.hD _⟩
       case measure => simp [intOf]; omega
      ·have e1 : ¬ (k : Int) < (n : Int) := by omega
       obtain rfl : k = n := by omega
       have hD2 : DK w w3 D (.slice p0 n0 c0) x gp k gc v4 wr := HK.out
       obtain ⟨p5, c5, hv5, hp5, -⟩ := intL_of_own HW.out
       obtain ⟨p6, c6, hv6, hc6⟩ := slice_of_own HW.out
       rw [List.length_range] at hv5
       obtain ⟨rfl, rfl⟩ : p6 = p5 ∧ c6 = c5 := by
        rw [hv5] at hv6
        injection hv6 with h1 h2 h3
        exact ⟨h1.symm, h3.symm⟩
       subst hv5
       have hfr := fresh_of_own HW.out
       have HCH := Lib.hid (show ∃ b off, p6 = some ⟨b, off, none⟩ ∧ b ≠ w.heap.size + 1 ∧ ChW wr b off k from by
        rcases hp5 with h | ⟨b, off, rfl, h2, h3⟩
        ·have := congrArg List.length h
         simp at this
         omega
        ·refine ⟨b, off, rfl, ?_, h2, fun i hi => ?_⟩
         ·have h4 : w3.heap.size ≤ b := hfr _ rfl
          have := HK.out.h0
          have := HK.out.hD
          omega
         ·have h5 := h3 i (by rw [List.length_range]; exact hi)
          rw [List.getElem_range] at h5
          exact h5)
       have HR := Lib.hid (HK.out.row HO.out.ra HDR.out)
       clear hfr hp5 hv6 hD2
       obtain ⟨z0, z1, z2, z3, z4, z5⟩ := cs6 HK.out.ta
       obtain ⟨r0, r1, r2, r3, r4, r5⟩ := cs6 HR.out
       have f0 := frozenOf HR.out (j := 0); have f1 := frozenOf HR.out (j := 1); have f2 := frozenOf HR.out (j := 2); have f3 := frozenOf HR.out (j := 3); have f4 := frozenOf HR.out (j := 4); have f5 := frozenOf HR.out (j := 5)
       go_wp2_with fail
       exact mdc_end 2 3 rfl HR.out HK.out.bl (Nat.le_succ _) _ _ _ _ _ _ _ _ _ _ true _ (by rfl) (by rfl) (fun _ => ⟨by omega, hn3, rfl, rfl, hc6, HCH.out, cs, cfs_two HCD3.out.1 HCD3.out.2 HK.out.sz HK.out.old⟩)
  ·have e1 : (3 : Int) < (n : Int) := by omega
   go_wp2_with fail
   exact mdc_end 2 3 rfl HO0.out.ra HO0.out.bl (Nat.le_succ _) _ _ _ _ _ _ _ _ _ _ false _ rfl rfl (fun h => by cases h)
end Go.Proofs.YtmcnpaehmnadeaaGreatDoor
