/-
  EpochNext: sederuntref41.Config at valid epochs, exactly.
-/
import Derived.Test.YtmcnpaehmnadeaaGreatDoorFeD
set_option maxHeartbeats 6400000
set_option maxRecDepth 1000000
namespace Go.Proofs.YtmcnpaehmnadeaaGreatDoor
open Go Go.RowKit
def CfOut (nm : ByteArray) (kd mb : Int) (R Wr : List Nat) (F : List (Nat × Nat)) (E : Nat) (w : World) (e : Ending) (w' : World) : Prop :=
 ∃ p3 n3 c3 p4 n4 c4 p5 n5 c5, e = .returned (.tuple #[.agg #[.string nm, .int .i64 kd, .int .u16 mb, .slice p3 n3 c3, .slice p4 n4 c4, .slice p5 n5 c5], .int .i64 (E : Nat)]) ∧ CfH w' p3 n3 p4 n4 p5 n5 R Wr F ∧ Below w.heap.size w w'
theorem setL_lt {W : World} {p : Option Addr} {l : List Nat} (h : SetL W p l) (hl : l ≠ []) : ∀ q, p = some q → q.block < W.heap.size := by
 rcases h with h | ⟨b, off, h1, h2, _⟩
 ·exact absurd h hl
 ·intro q hq
  rw [h1] at hq
  injection hq with hq
  subst hq
  exact h2
theorem fltL_lt {W : World} {p : Option Addr} {l : List (Nat × Nat)} (h : FltL W p l) (hl : l ≠ []) : ∀ q, p = some q → q.block < W.heap.size := by
 rcases h with h | ⟨b, off, h1, h2, _⟩
 ·exact absurd h hl
 ·intro q hq
  rw [h1] at hq
  injection hq with hq
  subst hq
  exact h2
theorem SetL.set6w {W : World} {p : Option Addr} {l : List Nat} {R : Nat} (h : SetL W p l) (hf : l ≠ [] → ∀ q, p = some q → q.block ≠ R) (v0 v1 v2 v3 v4 v5 : Value) : SetL ((((((W.setCell ⟨R, 0, none⟩ v0).setCell ⟨R, 1, none⟩ v1).setCell ⟨R, 2, none⟩ v2).setCell ⟨R, 3, none⟩ v3).setCell ⟨R, 4, none⟩ v4).setCell ⟨R, 5, none⟩ v5) p l := by
 by_cases hl : l = []
 ·exact .inl hl
 ·exact h.set6 (hf hl) _ _ _ _ _ _
theorem FltL.set6w {W : World} {p : Option Addr} {l : List (Nat × Nat)} {R : Nat} (h : FltL W p l) (hf : l ≠ [] → ∀ q, p = some q → q.block ≠ R) (v0 v1 v2 v3 v4 v5 : Value) : FltL ((((((W.setCell ⟨R, 0, none⟩ v0).setCell ⟨R, 1, none⟩ v1).setCell ⟨R, 2, none⟩ v2).setCell ⟨R, 3, none⟩ v3).setCell ⟨R, 4, none⟩ v4).setCell ⟨R, 5, none⟩ v5) p l := by
 by_cases hl : l = []
 ·exact .inl hl
 ·exact h.set6 (hf hl) _ _ _ _ _ _
theorem cfo_end {w W : World} {fn : Func} {R : Nat} {a0 a1 a2 a3 a4 a5 : Value} (pp uu : Tmp) (hfn : fn.results = #[.cell pp 49, .tmp uu]) (hR : W.heap[R]? = some (.cells #[a0, a1, a2, a3, a4, a5] 49 (0, 0))) (hb : Below w.heap.size w W) (hge : w.heap.size ≤ R)
  (nm : ByteArray) (kd mb : Int) (p3 : Option Addr) (n3 c3 : Nat) (p4 : Option Addr) (n4 c4 : Nat) (p5 : Option Addr) (n5 c5 : Nat) (Rd Wr : List Nat) (F : List (Nat × Nat)) (E : Nat) (tmps : Array Value) (h6 : tmps.getD pp undef = .pointer (some ⟨R, 0, none⟩)) (h7 : tmps.getD uu undef = .int .i64 (E : Nat))
  (h : CfH W p3 n3 p4 n4 p5 n5 Rd Wr F) (ho3 : Rd ≠ [] → ∀ q, p3 = some q → q.block ≠ R) (ho4 : Wr ≠ [] → ∀ q, p4 = some q → q.block ≠ R) (ho5 : F ≠ [] → ∀ q, p5 = some q → q.block ≠ R) :
  bodyPost Tryz.prog fn (CfOut nm kd mb Rd Wr F E w) Exit.ret { tmps := tmps, defers := [] } ((((((W.setCell ⟨R, 0, none⟩ (.string nm)).setCell ⟨R, 1, none⟩ (.int .i64 kd)).setCell ⟨R, 2, none⟩ (.int .u16 mb)).setCell ⟨R, 3, none⟩ (.slice p3 n3 c3)).setCell ⟨R, 4, none⟩ (.slice p4 n4 c4)).setCell ⟨R, 5, none⟩ (.slice p5 n5 c5)) := by
 refine bodyPost_ret (results_row_err hfn _ _ R 49 #[.string nm, .int .i64 kd, .int .u16 mb, .slice p3 n3 c3, .slice p4 n4 c4, .slice p5 n5 c5] (0, 0) _ h6 (row_set6 hR _ _ _ _ _ _) Tryz.underlying49 rfl Tryz.size49) rfl ?_
 rw [h7]
 exact ⟨p3, n3, c3, p4, n4, c4, p5, n5, c5, rfl, ⟨h.l3, h.s3.set6w ho3 _ _ _ _ _ _, h.l4, h.s4.set6w ho4 _ _ _ _ _ _, h.l5, h.s5.set6w ho5 _ _ _ _ _ _, h.b3, h.b4, h.b5⟩, below_set6 hb hge _ _ _ _ _ _⟩
structure NC (w : World) (dv ev : Array Value) (W : World) : Prop where
 da : W.heap[w.heap.size]? = some (.cells dv 33 (0, 0))
 ea : W.heap[w.heap.size + 1]? = some (.cells ev 39 (0, 0))
 ra : W.heap[w.heap.size + 1 + 1]? = some (.cells z6 49 (0, 0))
 bl : Below w.heap.size w W
theorem NC.below {w W W' : World} {dv ev : Array Value} (h : NC w dv ev W) (hb : Below W.heap.size W W') : NC w dv ev W' :=
 ⟨(hb.block _ (gLt h.da)).trans h.da, (hb.block _ (gLt h.ea)).trans h.ea, (hb.block _ (gLt h.ra)).trans h.ra, h.bl.trans (hb.mono h.bl.size)⟩
def CfC (w : World) (b o : Nat) (nm : ByteArray) (kd : Int) (mb : Nat) (v3 v4 v5 : Value) : Prop :=
 b < w.heap.size ∧ w.cell? ⟨b, o, none⟩ = some (.string nm) ∧ w.cell? ⟨b, o + 1, none⟩ = some (.int .i64 kd) ∧ w.cell? ⟨b, o + 2, none⟩ = some (.int .u16 (mb : Int)) ∧ w.cell? ⟨b, o + 3, none⟩ = some v3 ∧ w.cell? ⟨b, o + 4, none⟩ = some v4 ∧ w.cell? ⟨b, o + 5, none⟩ = some v5
theorem CfC.at {w W : World} {b o : Nat} {nm : ByteArray} {kd : Int} {mb : Nat} {v3 v4 v5 : Value} (h : CfC w b o nm kd mb v3 v4 v5) (hb : Below w.heap.size w W) :
  W.cell? ⟨b, o, none⟩ = some (.string nm) ∧ W.cell? ⟨b, o + 1, none⟩ = some (.int .i64 kd) ∧ W.cell? ⟨b, o + 2, none⟩ = some (.int .u16 (mb : Int)) ∧ W.cell? ⟨b, o + 3, none⟩ = some v3 ∧ W.cell? ⟨b, o + 4, none⟩ = some v4 ∧ W.cell? ⟨b, o + 5, none⟩ = some v5 :=
 ⟨(hb.cell (p := ⟨b, o, none⟩) h.1).trans h.2.1, (hb.cell (p := ⟨b, o + 1, none⟩) h.1).trans h.2.2.1, (hb.cell (p := ⟨b, o + 2, none⟩) h.1).trans h.2.2.2.1, (hb.cell (p := ⟨b, o + 3, none⟩) h.1).trans h.2.2.2.2.1, (hb.cell (p := ⟨b, o + 4, none⟩) h.1).trans h.2.2.2.2.2.1, (hb.cell (p := ⟨b, o + 5, none⟩) h.1).trans h.2.2.2.2.2.2⟩
theorem olds {w : World} {nm : ByteArray} {mb : Nat} {p3 : Option Addr} {n3 c3 : Nat} {p4 : Option Addr} {n4 c4 : Nat} {p5 : Option Addr} {n5 c5 : Nat} {rd wr : List Nat} {fs : List (Nat × Nat)} (h : CfgL w nm mb p3 n3 c3 p4 n4 c4 p5 n5 c5 rd wr fs) (h3 : n3 ≤ 1000000) (h4 : n4 ≤ 1000000) (h5 : n5 ≤ 1000000) (W : World) (hb : Below w.heap.size w W) : CfH W p3 n3 p4 n4 p5 n5 rd wr fs :=
 ⟨h.l3, h.s3.below hb, h.l4, h.s4.below hb, h.l5, h.s5.below hb, h3, h4, h5⟩
theorem drew_set1 (W : World) (a : Addr) (v : Value) : (W.setCell a v).drew = W.drew.setCell a v := rfl
theorem drew_set6 (W : World) (b : Nat) (v0 v1 v2 v3 v4 v5 : Value) : ((((((W.setCell ⟨b, 0, none⟩ v0).setCell ⟨b, 1, none⟩ v1).setCell ⟨b, 2, none⟩ v2).setCell ⟨b, 3, none⟩ v3).setCell ⟨b, 4, none⟩ v4).setCell ⟨b, 5, none⟩ v5).drew = ((((((W.drew.setCell ⟨b, 0, none⟩ v0).setCell ⟨b, 1, none⟩ v1).setCell ⟨b, 2, none⟩ v2).setCell ⟨b, 3, none⟩ v3).setCell ⟨b, 4, none⟩ v4).setCell ⟨b, 5, none⟩ v5) := by rw [drew_set1, drew_set1, drew_set1, drew_set1, drew_set1, drew_set1]
theorem rconf0_ex (p0 : Option Addr) (n0 c0 : Nat) (x : Int) (gb go gc b off cc n : Nat) (i : Nat) (nma : ByteArray) (kda : Int) (mba : Nat) (p3a : Option Addr) (n3a c3a : Nat) (p4a : Option Addr) (n4a c4a : Nat) (p5a : Option Addr) (n5a c5a : Nat) (rda wra : List Nat) (fsa : List (Nat × Nat)) (w : World) (hn : n ≤ 3) (hi : i < n) (hC : ChW w b off n) (ha : CfgL w nma mba p3a n3a c3a p4a n4a c4a p5a n5a c5a rda wra fsa) (hca : CfC w gb (go + i * 6) nma kda mba (.slice p3a n3a c3a) (.slice p4a n4a c4a) (.slice p5a n5a c5a)) (h3 : n3a ≤ 1000000) (h4 : n4a ≤ 1000000) (h5 : n5a ≤ 1000000) :
  Calls Tryz.prog 16 #[.agg #[.slice p0 n0 c0, .slice none 0 0, .int .u16 x, .slice (some ⟨gb, go, none⟩) n gc, .slice (some ⟨b, off, none⟩) n cc, .slice none 0 0], .agg #[.int .i64 (i : Nat), .bool false]] w (CfOut nma kda (mba : Int) rda wra fsa 0 w) := by
 have hA3 := heap_alloc3 w (.cells #[.slice p0 n0 c0, .slice none 0 0, .int .u16 x, .slice (some ⟨gb, go, none⟩) n gc, .slice (some ⟨b, off, none⟩) n cc, .slice none 0 0] 33) (.cells #[.int .i64 (i : Nat), .bool false] 39) (.cells z6 49)
 have HN0 := Lib.hid (show NC w #[.slice p0 n0 c0, .slice none 0 0, .int .u16 x, .slice (some ⟨gb, go, none⟩) n gc, .slice (some ⟨b, off, none⟩) n cc, .slice none 0 0] #[.int .i64 (i : Nat), .bool false] _ from ⟨hA3.1, hA3.2.1, hA3.2.2.1, hA3.2.2.2.2⟩)
 have HCH := Lib.hid hC
 have HCA := Lib.hid hca
 have HH := Lib.hid (fun W hb => olds ha h3 h4 h5 W hb)
 have HO := Lib.hid (show (rda ≠ [] → ∀ q, p3a = some q → q.block ≠ w.heap.size + 1 + 1) ∧ (wra ≠ [] → ∀ q, p4a = some q → q.block ≠ w.heap.size + 1 + 1) ∧ (fsa ≠ [] → ∀ q, p5a = some q → q.block ≠ w.heap.size + 1 + 1) from ⟨fun hne q hq he => by have := setL_lt ha.s3 hne q hq; omega, fun hne q hq he => by have := setL_lt ha.s4 hne q hq; omega, fun hne q hq he => by have := fltL_lt ha.s5 hne q hq; omega⟩)
 have e1 : (i : Int) < (n : Int) := by omega
 have e2 : (0 : Int) ≤ (i : Int) := by omega
 have HV := Lib.hid (fun W (hW : Below w.heap.size w W) => rvalid_ex p0 n0 c0 x (some ⟨gb, go, none⟩) gc b off cc n i false W hn hi (hC.below hW))
 clear hA3 hC hca ha
 go_enter Tryz.func16, Tryz.ntmps16
 go_upto_region 1 with fail
 revert HN0
 unfold z6
 generalize ((w.alloc (.cells #[.slice p0 n0 c0, .slice none 0 0, .int .u16 x, .slice (some ⟨gb, go, none⟩) n gc, .slice (some ⟨b, off, none⟩) n cc, .slice none 0 0] 33)).alloc (.cells #[.int .i64 (i : Nat), .bool false] 39)).alloc _ = W0
 intro HN0
 obtain ⟨d0, d1, d2, d3, d4, d5⟩ := cs6 HN0.out.da
 obtain ⟨g0, g1⟩ := cs2 HN0.out.ea
 go_upto_region 5 with (go_at_call 29; (with_reducible refine (HV.out _ HN0.out.bl).mono ?_); rintro e w1 ⟨rfl, hb1⟩; have HN1 := Lib.hid (HN0.out.below hb1); clear hb1; have g1 := cellOf HN1.out.ea (j := 1) rfl)
 clear d0 d1 d2 d3 d4 d5 g0 g1
 have HN2 := Lib.hid (HN1.out.below (below_drew _))
 obtain ⟨r0, r1, r2, r3, r4, r5⟩ := cs6 HN1.out.ra
 have f0 := frozenOf HN1.out.ra (j := 0); have f1 := frozenOf HN1.out.ra (j := 1); have f2 := frozenOf HN1.out.ra (j := 2); have f3 := frozenOf HN1.out.ra (j := 3); have f4 := frozenOf HN1.out.ra (j := 4); have f5 := frozenOf HN1.out.ra (j := 5)
 refine wp_region_noPanic ?_
 refine wp_region_y 10 (fun W => W.cell? ⟨w.heap.size, 3, none⟩ = some (.slice (some ⟨gb, go, none⟩) n gc) ∧ W.cell? ⟨w.heap.size, 4, none⟩ = some (.slice (some ⟨b, off, none⟩) n cc) ∧ W.cell? ⟨w.heap.size + 1, 0, none⟩ = some (.int .i64 (i : Nat)) ∧ W.cell? ⟨b, off + i, none⟩ = some (.int .i64 (i : Nat)) ∧ W.cell? ⟨gb, go + i * 6, none⟩ = some (.string nma) ∧ W.cell? ⟨gb, go + i * 6 + 1, none⟩ = some (.int .i64 kda) ∧ W.cell? ⟨gb, go + i * 6 + 2, none⟩ = some (.int .u16 (mba : Int)) ∧ W.cell? ⟨gb, go + i * 6 + 3, none⟩ = some (.slice p3a n3a c3a) ∧ W.cell? ⟨gb, go + i * 6 + 4, none⟩ = some (.slice p4a n4a c4a) ∧ W.cell? ⟨gb, go + i * 6 + 5, none⟩ = some (.slice p5a n5a c5a) ∧ NC w #[.slice p0 n0 c0, .slice none 0 0, .int .u16 x, .slice (some ⟨gb, go, none⟩) n gc, .slice (some ⟨b, off, none⟩) n cc, .slice none 0 0] #[.int .i64 (i : Nat), .bool false] W) (by kernel_rfl) ?_ (fun hHeld => ?_)
 ·exact ⟨cellOf HN2.out.da rfl, cellOf HN2.out.da rfl, cellOf HN2.out.ea rfl, (HN2.out.bl.cell (p := ⟨b, off + i, none⟩) HCH.out.1).trans (HCH.out.2 i hi), (HCA.out.at HN2.out.bl).1, (HCA.out.at HN2.out.bl).2.1, (HCA.out.at HN2.out.bl).2.2.1, (HCA.out.at HN2.out.bl).2.2.2.1, (HCA.out.at HN2.out.bl).2.2.2.2.1, (HCA.out.at HN2.out.bl).2.2.2.2.2, HN2.out⟩
 refine tkY 0 37 ?_ rfl ?_ ?_
 rotate_left
 ·intro w hSw; (try dsimp only at hSw); go_simp; try with_reducible rfl
 try simp only [Act.put, sA, sZ, sS]
 refine tkY 1 38 ?_ rfl ?_ ?_
 rotate_left
 ·intro w hSw; (try dsimp only at hSw); go_simp; try with_reducible rfl
 try simp only [Act.put, sA, sZ, sS]
 refine tkY 2 39 ?_ rfl ?_ ?_
 rotate_left
 ·intro w hSw; (try dsimp only at hSw); go_simp; try with_reducible rfl
 try simp only [Act.put, sA, sZ, sS]
 refine tkY 3 40 ?_ rfl ?_ ?_
 rotate_left
 ·intro w hSw; (try dsimp only at hSw); go_simp; try with_reducible rfl
 try simp only [Act.put, sA, sZ, sS]
 refine tkY 4 41 ?_ rfl ?_ ?_
 rotate_left
 ·intro w hSw; (try dsimp only at hSw); go_simp; try with_reducible rfl
 try simp only [Act.put, sA, sZ, sS]
 refine tkY 5 42 ?_ rfl ?_ ?_
 rotate_left
 ·intro w hSw; (try dsimp only at hSw); go_simp; try with_reducible rfl
 try simp only [Act.put, sA, sZ, sS]
 refine tkY 6 43 ?_ rfl ?_ ?_
 rotate_left
 ·intro w hSw; (try dsimp only at hSw); go_simp; try with_reducible rfl
 try simp only [Act.put, sA, sZ, sS]
 refine tkY 7 44 ?_ rfl ?_ ?_
 rotate_left
 ·intro w hSw; (try dsimp only at hSw); go_simp; try with_reducible rfl
 try simp only [Act.put, sA, sZ, sS]
 refine tkY 8 45 ?_ rfl ?_ ?_
 rotate_left
 ·intro w hSw; (try dsimp only at hSw); go_simp; try with_reducible rfl
 try simp only [Act.put, sA, sZ, sS]
 refine tkY 9 46 ?_ rfl ?_ ?_
 rotate_left
 ·intro w hSw; (try dsimp only at hSw); go_simp; try with_reducible rfl
 try simp only [Act.put, sA, sZ, sS]
 refine wpAnyY_ready (rs := [10]) (by kernel_rfl) (by simp) ?_
 refine AllReadyY.last (o := ⟨none, _, _, _, _, _⟩) (by decide) rfl (fun K hK => ?_) ?_
 ·go_simp
  refine hK.out _ _ ?_
  clear hK K
  try simp only [Act.put, sA, sZ, sS]
  refine wpAnyY_ready (rs := [11]) (by kernel_rfl) (by simp) ?_
  refine AllReadyY.last (o := ⟨some 5, _, _, _, _, _⟩) (by decide) rfl (fun K hK => ?_) ?_
  ·go_simp
   refine hK.out _ _ ?_
   clear hK K
   try simp only [Act.put, sA, sZ, sS]
   refine wpAnyY_done (by kernel_rfl) ?_ _
   refine NoPanic.normal ?_
   go_wp2_with fail
   rw [drew_set6]
   exact cfo_end 4 5 rfl HN2.out.ra HN2.out.bl (by omega) nma kda (mba : Int) p3a n3a c3a p4a n4a c4a p5a n5a c5a rda wra fsa 0 _ rfl rfl (HH.out _ HN2.out.bl) HO.out.1 HO.out.2.1 HO.out.2.2
  exact AllReadyY.nil
 exact AllReadyY.nil
end Go.Proofs.YtmcnpaehmnadeaaGreatDoor
/-
  EpochNext: sederuntref41.Config at joint epochs, exactly.
-/
namespace Go.Proofs.YtmcnpaehmnadeaaGreatDoor
open Go Go.RowKit
def JoOut (E : Nat) (kd mb : Int) (R Wr : List Nat) (F : List (Nat × Nat)) (w : World) (e : Ending) (w' : World) : Prop :=
 CfOut (if E = 0 then jointB else emptyB) (if E = 0 then kd else 0) (if E = 0 then mb else 0) (if E = 0 then R else []) (if E = 0 then Wr else []) (if E = 0 then F else []) E w e w'
theorem rconf1_ex (p0 : Option Addr) (n0 c0 : Nat) (x : Int) (gb go gc b off cc n : Nat) (i : Nat) (nma : ByteArray) (kda : Int) (mba : Nat) (p3a : Option Addr) (n3a c3a : Nat) (p4a : Option Addr) (n4a c4a : Nat) (p5a : Option Addr) (n5a c5a : Nat) (rda wra : List Nat) (fsa : List (Nat × Nat)) (nmb : ByteArray) (kdb : Int) (mbb : Nat) (p3b : Option Addr) (n3b c3b : Nat) (p4b : Option Addr) (n4b c4b : Nat) (p5b : Option Addr) (n5b c5b : Nat) (rdb wrb : List Nat) (fsb : List (Nat × Nat)) (w : World) (hn : n ≤ 3) (hi1 : i + 1 < n) (hC : ChW w b off n) (ha : CfgL w nma mba p3a n3a c3a p4a n4a c4a p5a n5a c5a rda wra fsa) (hca : CfC w gb (go + i * 6) nma kda mba (.slice p3a n3a c3a) (.slice p4a n4a c4a) (.slice p5a n5a c5a)) (hb : CfgL w nmb mbb p3b n3b c3b p4b n4b c4b p5b n5b c5b rdb wrb fsb) (hcb : CfC w gb (go + (i + 1) * 6) nmb kdb mbb (.slice p3b n3b c3b) (.slice p4b n4b c4b) (.slice p5b n5b c5b)) :
  Calls Tryz.prog 16 #[.agg #[.slice p0 n0 c0, .slice none 0 0, .int .u16 x, .slice (some ⟨gb, go, none⟩) n gc, .slice (some ⟨b, off, none⟩) n cc, .slice none 0 0], .agg #[.int .i64 (i : Nat), .bool true]] w (JoOut (four (bothE (valE kda mba rda wra fsa) (valE kdb mbb rdb wrb fsb)) (andE rda rdb) (andE wra wrb) (fjE kda mba rda wra fsa kdb mbb rdb wrb fsb)) (jkd kda kdb) (bits .or .u16 (mba : Int) (mbb : Int)) (andL rda rdb) (andL wra wrb) (fjL kda mba rda wra fsa kdb mbb rdb wrb fsb) w) := by
 have hi : i < n := by omega
 have hA3 := heap_alloc3 w (.cells #[.slice p0 n0 c0, .slice none 0 0, .int .u16 x, .slice (some ⟨gb, go, none⟩) n gc, .slice (some ⟨b, off, none⟩) n cc, .slice none 0 0] 33) (.cells #[.int .i64 (i : Nat), .bool true] 39) (.cells z6 49)
 have HN0 := Lib.hid (show NC w #[.slice p0 n0 c0, .slice none 0 0, .int .u16 x, .slice (some ⟨gb, go, none⟩) n gc, .slice (some ⟨b, off, none⟩) n cc, .slice none 0 0] #[.int .i64 (i : Nat), .bool true] _ from ⟨hA3.1, hA3.2.1, hA3.2.2.1, hA3.2.2.2.2⟩)
 have HCH := Lib.hid hC
 have HCA := Lib.hid hca
 have HCB := Lib.hid hcb
 have HQ := Lib.hid (fun W (hW : Below w.heap.size w W) => jointOfR_ex nma kda mba p3a n3a c3a p4a n4a c4a p5a n5a c5a rda wra fsa nmb kdb mbb p3b n3b c3b p4b n4b c4b p5b n5b c5b rdb wrb fsb W (ha.below hW) (hb.below hW))
 have e1 : (i : Int) < (n : Int) := by omega
 have e2 : (0 : Int) ≤ (i : Int) := by omega
 have e3 : ((i + 1 : Nat) : Int) < (n : Int) := by omega
 have HWP := Lib.hid (show IntKind.i64.wrap ((i : Int) + 1) = ((i + 1 : Nat) : Int) by simp [IntKind.wrap, IntKind.bits, IntKind.signed]; omega)
 have HV := Lib.hid (fun W (hW : Below w.heap.size w W) => rvalid_ex p0 n0 c0 x (some ⟨gb, go, none⟩) gc b off cc n i true W hn hi (hC.below hW))
 rw [show (!true || decide (i + 1 < n)) = true by simpa using hi1] at HV
 clear hA3 hC hca hcb ha hb
 generalize (four (bothE (valE kda mba rda wra fsa) (valE kdb mbb rdb wrb fsb)) (andE rda rdb) (andE wra wrb) (fjE kda mba rda wra fsa kdb mbb rdb wrb fsb)) = EE at HQ ⊢
 unfold JoOut
 unfold JoRet at HQ
 generalize (if EE = 0 then jointB else emptyB) = NM at HQ ⊢
 generalize (if EE = 0 then jkd kda kdb else 0) = KD at HQ ⊢
 generalize (if EE = 0 then bits .or .u16 (mba : Int) (mbb : Int) else 0) = MB at HQ ⊢
 generalize (if EE = 0 then andL rda rdb else []) = RR at HQ ⊢
 generalize (if EE = 0 then andL wra wrb else []) = WW at HQ ⊢
 generalize (if EE = 0 then fjL kda mba rda wra fsa kdb mbb rdb wrb fsb else []) = FF at HQ ⊢
 go_enter Tryz.func16, Tryz.ntmps16
 go_upto_region 1 with fail
 revert HN0
 unfold z6
 generalize ((w.alloc (.cells #[.slice p0 n0 c0, .slice none 0 0, .int .u16 x, .slice (some ⟨gb, go, none⟩) n gc, .slice (some ⟨b, off, none⟩) n cc, .slice none 0 0] 33)).alloc (.cells #[.int .i64 (i : Nat), .bool true] 39)).alloc _ = W0
 intro HN0
 obtain ⟨d0, d1, d2, d3, d4, d5⟩ := cs6 HN0.out.da
 obtain ⟨g0, g1⟩ := cs2 HN0.out.ea
 go_upto_region 4 with (go_at_call 29; (with_reducible refine (HV.out _ HN0.out.bl).mono ?_); rintro e w1 ⟨rfl, hb1⟩; have HN1 := Lib.hid (HN0.out.below hb1); clear hb1; have g1 := cellOf HN1.out.ea (j := 1) rfl)
 clear d0 d1 d2 d3 d4 d5 g0 g1
 have HN2 := Lib.hid (HN1.out.below (below_drew _))
 have HRs := Lib.hid (show w.heap.size + 1 + 1 < w1.drew.heap.size from (gLt HN2.out.ra))
 refine wp_region_noPanic ?_
 refine wp_region_y 24 (fun W => W.cell? ⟨w.heap.size, 3, none⟩ = some (.slice (some ⟨gb, go, none⟩) n gc) ∧ W.cell? ⟨w.heap.size, 4, none⟩ = some (.slice (some ⟨b, off, none⟩) n cc) ∧ W.cell? ⟨w.heap.size + 1, 0, none⟩ = some (.int .i64 (i : Nat)) ∧ W.cell? ⟨b, off + i, none⟩ = some (.int .i64 (i : Nat)) ∧ W.cell? ⟨gb, go + i * 6, none⟩ = some (.string nma) ∧ W.cell? ⟨gb, go + i * 6 + 1, none⟩ = some (.int .i64 kda) ∧ W.cell? ⟨gb, go + i * 6 + 2, none⟩ = some (.int .u16 (mba : Int)) ∧ W.cell? ⟨gb, go + i * 6 + 3, none⟩ = some (.slice p3a n3a c3a) ∧ W.cell? ⟨gb, go + i * 6 + 4, none⟩ = some (.slice p4a n4a c4a) ∧ W.cell? ⟨gb, go + i * 6 + 5, none⟩ = some (.slice p5a n5a c5a) ∧ W.cell? ⟨b, off + (i + 1), none⟩ = some (.int .i64 ((i + 1 : Nat) : Int)) ∧ W.cell? ⟨gb, go + (i + 1) * 6, none⟩ = some (.string nmb) ∧ W.cell? ⟨gb, go + (i + 1) * 6 + 1, none⟩ = some (.int .i64 kdb) ∧ W.cell? ⟨gb, go + (i + 1) * 6 + 2, none⟩ = some (.int .u16 (mbb : Int)) ∧ W.cell? ⟨gb, go + (i + 1) * 6 + 3, none⟩ = some (.slice p3b n3b c3b) ∧ W.cell? ⟨gb, go + (i + 1) * 6 + 4, none⟩ = some (.slice p4b n4b c4b) ∧ W.cell? ⟨gb, go + (i + 1) * 6 + 5, none⟩ = some (.slice p5b n5b c5b) ∧ NC w #[.slice p0 n0 c0, .slice none 0 0, .int .u16 x, .slice (some ⟨gb, go, none⟩) n gc, .slice (some ⟨b, off, none⟩) n cc, .slice none 0 0] #[.int .i64 (i : Nat), .bool true] W) (by kernel_rfl) ?_ (fun hHeld => ?_)
 ·exact ⟨cellOf HN2.out.da rfl, cellOf HN2.out.da rfl, cellOf HN2.out.ea rfl, (HN2.out.bl.cell (p := ⟨b, off + i, none⟩) HCH.out.1).trans (HCH.out.2 i hi), (HCA.out.at HN2.out.bl).1, (HCA.out.at HN2.out.bl).2.1, (HCA.out.at HN2.out.bl).2.2.1, (HCA.out.at HN2.out.bl).2.2.2.1, (HCA.out.at HN2.out.bl).2.2.2.2.1, (HCA.out.at HN2.out.bl).2.2.2.2.2, (HN2.out.bl.cell (p := ⟨b, off + (i + 1), none⟩) HCH.out.1).trans (HCH.out.2 (i + 1) hi1), (HCB.out.at HN2.out.bl).1, (HCB.out.at HN2.out.bl).2.1, (HCB.out.at HN2.out.bl).2.2.1, (HCB.out.at HN2.out.bl).2.2.2.1, (HCB.out.at HN2.out.bl).2.2.2.2.1, (HCB.out.at HN2.out.bl).2.2.2.2.2, HN2.out⟩
 refine tkY 0 13 ?_ rfl ?_ ?_
 rotate_left
 ·intro w hSw; (try dsimp only at hSw); go_simp; try with_reducible rfl
 try simp only [Act.put, sA, sZ, sS]
 refine tkY 1 14 ?_ rfl ?_ ?_
 rotate_left
 ·intro w hSw; (try dsimp only at hSw); go_simp; try with_reducible rfl
 try simp only [Act.put, sA, sZ, sS]
 refine tkY 2 15 ?_ rfl ?_ ?_
 rotate_left
 ·intro w hSw; (try dsimp only at hSw); go_simp; try with_reducible rfl
 try simp only [Act.put, sA, sZ, sS]
 refine tkY 3 16 ?_ rfl ?_ ?_
 rotate_left
 ·intro w hSw; (try dsimp only at hSw); go_simp; try with_reducible rfl
 try simp only [Act.put, sA, sZ, sS]
 refine tkY 4 17 ?_ rfl ?_ ?_
 rotate_left
 ·intro w hSw; (try dsimp only at hSw); go_simp; try with_reducible rfl
 try simp only [Act.put, sA, sZ, sS]
 refine tkY 5 18 ?_ rfl ?_ ?_
 rotate_left
 ·intro w hSw; (try dsimp only at hSw); go_simp; try with_reducible rfl
 try simp only [Act.put, sA, sZ, sS]
 refine tkY 6 19 ?_ rfl ?_ ?_
 rotate_left
 ·intro w hSw; (try dsimp only at hSw); go_simp; try with_reducible rfl
 try simp only [Act.put, sA, sZ, sS]
 refine tkY 7 20 ?_ rfl ?_ ?_
 rotate_left
 ·intro w hSw; (try dsimp only at hSw); go_simp; try with_reducible rfl
 try simp only [Act.put, sA, sZ, sS]
 refine tkY 8 21 ?_ rfl ?_ ?_
 rotate_left
 ·intro w hSw; (try dsimp only at hSw); go_simp; try with_reducible rfl
 try simp only [Act.put, sA, sZ, sS]
 refine tkY 9 22 ?_ rfl ?_ ?_
 rotate_left
 ·intro w hSw; (try dsimp only at hSw); go_simp; try with_reducible rfl
 try simp only [Act.put, sA, sZ, sS]
 refine tkY 10 23 ?_ rfl ?_ ?_
 rotate_left
 ·intro w hSw; (try dsimp only at hSw); go_simp; try with_reducible rfl
 try simp only [Act.put, sA, sZ, sS]
 refine tkY 11 24 ?_ rfl ?_ ?_
 rotate_left
 ·intro w hSw; (try dsimp only at hSw); go_simp; try with_reducible rfl
 try simp only [Act.put, sA, sZ, sS]
 refine tkY 12 25 ?_ rfl ?_ ?_
 rotate_left
 ·intro w hSw; (try dsimp only at hSw); go_simp; try with_reducible rfl
 try simp only [Act.put, sA, sZ, sS]
 refine tkY 13 26 ?_ rfl ?_ ?_
 rotate_left
 ·intro w hSw; (try dsimp only at hSw); go_simp; try with_reducible rfl
 try simp only [Act.put, sA, sZ, sS]
 refine tkY 14 27 ?_ rfl ?_ ?_
 rotate_left
 ·intro w hSw; (try dsimp only at hSw); go_simp; try with_reducible rfl
 try simp only [Act.put, sA, sZ, sS]
 refine tkY 15 28 ?_ rfl ?_ ?_
 rotate_left
 ·intro w hSw; (try dsimp only at hSw); go_simp; try with_reducible rfl
 try simp only [Act.put, sA, sZ, sS]
 refine tkY 16 29 ?_ rfl ?_ ?_
 rotate_left
 ·intro w hSw; (try dsimp only at hSw); go_simp; try with_reducible rfl
 try simp only [Act.put, sA, sZ, sS]
 refine tkY 17 30 ?_ rfl ?_ ?_
 rotate_left
 ·intro w hSw
  try dsimp only at hSw
  go_simp
  rw [HWP.out, if_pos ⟨by omega, e3⟩, Int.toNat_natCast]
  try with_reducible rfl
 try simp only [Act.put, sA, sZ, sS]
 refine tkY 18 31 ?_ rfl ?_ ?_
 rotate_left
 ·intro w hSw; (try dsimp only at hSw); go_simp; try with_reducible rfl
 try simp only [Act.put, sA, sZ, sS]
 refine tkY 19 32 ?_ rfl ?_ ?_
 rotate_left
 ·intro w hSw
  try dsimp only at hSw
  go_simp
  rw [if_pos ⟨by omega, by omega⟩]
  try with_reducible rfl
 try simp only [Act.put, sA, sZ, sS]
 refine tkY 20 33 ?_ rfl ?_ ?_
 rotate_left
 ·intro w hSw; (try dsimp only at hSw); go_simp; try with_reducible rfl
 try simp only [Act.put, sA, sZ, sS]
 refine wpAnyY_ready (rs := [21]) (by kernel_rfl) (by simp) ?_
 refine AllReadyY.cons (o := ⟨some 34, _, _, _, _, _⟩) rfl (fun K hK => ?_) ?_
 ·go_simp
  go_at_call 30
  refine (HQ.out _ HN2.out.bl).mono ?_
  rintro e w4 ⟨q3, m3, k3, q4, m4, k4, q5, m5, k5, rfl, hH, hb4, hf3, hf4, hf5⟩
  have hN4 := HN2.out.below hb4
  go_simp
  refine hK.out _ _ ?_ (fun hHeld => ?_)
  ·exact ⟨cellOf hN4.da rfl, cellOf hN4.da rfl, cellOf hN4.ea rfl, (hN4.bl.cell (p := ⟨b, off + i, none⟩) HCH.out.1).trans (HCH.out.2 i hi), (HCA.out.at hN4.bl).1, (HCA.out.at hN4.bl).2.1, (HCA.out.at hN4.bl).2.2.1, (HCA.out.at hN4.bl).2.2.2.1, (HCA.out.at hN4.bl).2.2.2.2.1, (HCA.out.at hN4.bl).2.2.2.2.2, (hN4.bl.cell (p := ⟨b, off + (i + 1), none⟩) HCH.out.1).trans (HCH.out.2 (i + 1) hi1), (HCB.out.at hN4.bl).1, (HCB.out.at hN4.bl).2.1, (HCB.out.at hN4.bl).2.2.1, (HCB.out.at hN4.bl).2.2.2.1, (HCB.out.at hN4.bl).2.2.2.2.1, (HCB.out.at hN4.bl).2.2.2.2.2, hN4⟩
  clear hK K
  have HN4 := Lib.hid hN4
  have HHq := Lib.hid (And.intro hH (And.intro (off_ne hf3 HRs.out) (And.intro (off_ne hf4 HRs.out) (off_ne hf5 HRs.out))))
  clear hN4 hH hb4 hf3 hf4 hf5
  obtain ⟨r0, r1, r2, r3, r4, r5⟩ := cs6 HN4.out.ra
  have f0 := frozenOf HN4.out.ra (j := 0); have f1 := frozenOf HN4.out.ra (j := 1); have f2 := frozenOf HN4.out.ra (j := 2); have f3 := frozenOf HN4.out.ra (j := 3); have f4 := frozenOf HN4.out.ra (j := 4); have f5 := frozenOf HN4.out.ra (j := 5)
  try simp only [Act.put, sA, sZ, sS]
  refine tkY 22 35 ?_ rfl ?_ ?_
  rotate_left
  ·intro w hSw; (try dsimp only at hSw); go_simp; try with_reducible rfl
  try simp only [Act.put, sA, sZ, sS]
  refine tkY 23 36 ?_ rfl ?_ ?_
  rotate_left
  ·intro w hSw; (try dsimp only at hSw); go_simp; try with_reducible rfl
  try simp only [Act.put, sA, sZ, sS]
  refine wpAnyY_ready (rs := [24]) (by kernel_rfl) (by simp) ?_
  refine AllReadyY.last (o := ⟨none, _, _, _, _, _⟩) (by decide) rfl (fun K hK => ?_) ?_
  ·go_simp
   refine hK.out _ _ ?_
   clear hK K
   try simp only [Act.put, sA, sZ, sS]
   refine wpAnyY_ready (rs := [25]) (by kernel_rfl) (by simp) ?_
   refine AllReadyY.last (o := ⟨some 5, _, _, _, _, _⟩) (by decide) rfl (fun K hK => ?_) ?_
   ·go_simp
    refine hK.out _ _ ?_
    clear hK K
    try simp only [Act.put, sA, sZ, sS]
    refine wpAnyY_done (by kernel_rfl) ?_ _
    refine NoPanic.normal ?_
    go_wp2_with fail
    exact cfo_end 4 5 rfl HN4.out.ra HN4.out.bl (by omega) NM KD MB q3 m3 k3 q4 m4 k4 q5 m5 k5 RR WW FF EE _ rfl rfl HHq.out.1 (fun _ => HHq.out.2.1) (fun _ => HHq.out.2.2.1) (fun _ => HHq.out.2.2.2)
   exact AllReadyY.nil
  exact AllReadyY.nil
 exact AllReadyY.nil
end Go.Proofs.YtmcnpaehmnadeaaGreatDoor
