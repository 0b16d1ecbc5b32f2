/-
  EpochNext: epochs that are not valid.
-/
import Derived.Test.YtmcnpaehmnadeaaGreatDoorFeC
import Derived.Test.YtmcnpaehmnadeaaGreatDoorEvAF
import Derived.Test.YtmcnpaehmnadeaaGreatDoorEwIJ
set_option maxHeartbeats 6400000
set_option maxRecDepth 1000000
namespace Go.Proofs.YtmcnpaehmnadeaaGreatDoor
open Go Go.RowKit
def okB (n : Nat) (a : Int) (j : Bool) : Bool := decide (0 ≤ a ∧ a < n) && (!j || decide (a + 1 < n))
theorem hasN_ex (p0 : Option Addr) (n0 c0 : Nat) (x : Int) (gp : Option Addr) (gc b off cc n : Nat) (a : Int) (w : World) (ha : a < 0 ∨ (n : Int) ≤ a) : Calls Tryz.prog 24 #[.agg #[.slice p0 n0 c0, .slice none 0 0, .int .u16 x, .slice gp n gc, .slice (some ⟨b, off, none⟩) n cc, .slice none 0 0], .int .i64 a] w (IsB false w) := by
 have hb : Below w.heap.size w (w.alloc (.cells #[.slice p0 n0 c0, .slice none 0 0, .int .u16 x, .slice gp n gc, .slice (some ⟨b, off, none⟩) n cc, .slice none 0 0] 33)) := (Below.refl _ _).alloc (Nat.le_refl _) _
 have HB := Lib.hid hb
 clear hb
 by_cases h0 : a < 0
 ·have e0 : ¬ (0 : Int) ≤ a := by omega
  have e2 : decide ((0 : Int) ≤ a) = false := by simp; omega
  clear ha h0
  go_enter Tryz.func24, Tryz.ntmps24
  go_wp2_with fail
  go_quiet (fail)
  go_wp2_with fail
  go_ret
  exact ⟨rfl, below_drewN HB.out _⟩
 ·have e0 : (0 : Int) ≤ a := by omega
  have e1 : decide (a < (n : Int)) = false := by simp; omega
  have e2 : ¬ a < (n : Int) := by omega
  clear ha h0
  go_enter Tryz.func24, Tryz.ntmps24
  go_wp2_with fail
  go_quiet (fail)
  go_wp2_with fail
  go_ret
  exact ⟨rfl, below_drewN HB.out _⟩
theorem rhasN_ex (p0 : Option Addr) (n0 c0 : Nat) (x : Int) (gp : Option Addr) (gc b off cc n : Nat) (a : Int) (w : World) (ha : a < 0 ∨ (n : Int) ≤ a) : Calls Tryz.prog 43 #[.agg #[.slice p0 n0 c0, .slice none 0 0, .int .u16 x, .slice gp n gc, .slice (some ⟨b, off, none⟩) n cc, .slice none 0 0], .int .i64 a] w (IsB false w) := by
 have hb : Below w.heap.size w (w.alloc (.cells #[.slice p0 n0 c0, .slice none 0 0, .int .u16 x, .slice gp n gc, .slice (some ⟨b, off, none⟩) n cc, .slice none 0 0] 33)) := (Below.refl _ _).alloc (Nat.le_refl _) _
 have HB := Lib.hid hb
 clear hb
 by_cases h0 : a < 0
 ·have e0 : ¬ (0 : Int) ≤ a := by omega
  have e2 : decide ((0 : Int) ≤ a) = false := by simp; omega
  clear ha h0
  go_enter Tryz.func43, Tryz.ntmps43
  go_wp2_with fail
  go_quiet (fail)
  go_wp2_with fail
  go_ret
  exact ⟨rfl, below_drewN HB.out _⟩
 ·have e0 : (0 : Int) ≤ a := by omega
  have e1 : decide (a < (n : Int)) = false := by simp; omega
  have e2 : ¬ a < (n : Int) := by omega
  clear ha h0
  go_enter Tryz.func43, Tryz.ntmps43
  go_wp2_with fail
  go_quiet (fail)
  go_wp2_with fail
  go_ret
  exact ⟨rfl, below_drewN HB.out _⟩
theorem validN_ex (p0 : Option Addr) (n0 c0 : Nat) (x : Int) (gp : Option Addr) (gc b off cc n : Nat) (a : Int) (j : Bool) (w : World) (ha : a < 0 ∨ (n : Int) ≤ a) : Calls Tryz.prog 22 #[.agg #[.slice p0 n0 c0, .slice none 0 0, .int .u16 x, .slice gp n gc, .slice (some ⟨b, off, none⟩) n cc, .slice none 0 0], .agg #[.int .i64 a, .bool j]] w (IsB false w) := by
 obtain ⟨W0, hW0⟩ : ∃ W0, W0 = (w.alloc (.cells #[.slice p0 n0 c0, .slice none 0 0, .int .u16 x, .slice gp n gc, .slice (some ⟨b, off, none⟩) n cc, .slice none 0 0] 33)).alloc (.cells #[.int .i64 a, .bool j] 39) := ⟨_, rfl⟩
 have hb : Below w.heap.size w W0 := by rw [hW0]; exact ((Below.refl _ _).alloc (Nat.le_refl _) _).alloc (by simp) _
 have HB := Lib.hid hb
 have HD := Lib.hid (show W0.heap[w.heap.size]? = some (.cells #[.slice p0 n0 c0, .slice none 0 0, .int .u16 x, .slice gp n gc, .slice (some ⟨b, off, none⟩) n cc, .slice none 0 0] 33 (0, 0)) by rw [hW0]; exact heap_alloc2_old w _ _)
 have HE := Lib.hid (show W0.heap[w.heap.size + 1]? = some (.cells #[.int .i64 a, .bool j] 39 (0, 0)) by rw [hW0]; exact heap_alloc2_new w _ _)
 have HH := Lib.hid (fun W => hasN_ex p0 n0 c0 x gp gc b off cc n a W ha)
 clear hb ha
 go_enter Tryz.func22, Tryz.ntmps22
 go_upto_region 1 with fail
 rw [← hW0]
 clear hW0
 obtain ⟨d0, d1, d2, d3, d4, d5⟩ := cs6 HD.out; obtain ⟨g0, g1⟩ := cs2 HE.out
 go_wp2_with (go_at_call 24; (with_reducible refine (HH.out _).mono ?_); rintro e w1 ⟨rfl, hb1⟩; have HB1 := Lib.hid hb1; clear hb1)
 go_ret
 exact ⟨rfl, HB.out.trans (HB1.out.mono HB.out.size)⟩
theorem validZ_ex (p0 : Option Addr) (n0 c0 : Nat) (x : Int) (gp : Option Addr) (gc b off cc n : Nat) (a : Int) (j : Bool) (w : World) (hn : n ≤ 3) (hC : ChW w b off n) : Calls Tryz.prog 22 #[.agg #[.slice p0 n0 c0, .slice none 0 0, .int .u16 x, .slice gp n gc, .slice (some ⟨b, off, none⟩) n cc, .slice none 0 0], .agg #[.int .i64 a, .bool j]] w (IsB (okB n a j) w) := by
 by_cases h : 0 ≤ a ∧ a < n
 ·obtain ⟨i, rfl⟩ : ∃ i : Nat, a = (i : Int) := ⟨a.toNat, by omega⟩
  have h1 : okB n (i : Int) j = (!j || decide (i + 1 < n)) := by
   unfold okB
   rw [decide_eq_true h, Bool.true_and, show decide ((i : Int) + 1 < n) = decide (i + 1 < n) by simp; omega]
  rw [h1]
  exact valid_ex p0 n0 c0 x gp gc b off cc n i j w hn (by omega) hC
 ·have h1 : okB n a j = false := by
   unfold okB
   rw [decide_eq_false h]; rfl
  rw [h1]
  exact validN_ex p0 n0 c0 x gp gc b off cc n a j w (by omega)
theorem rvalidN_ex (p0 : Option Addr) (n0 c0 : Nat) (x : Int) (gp : Option Addr) (gc b off cc n : Nat) (a : Int) (j : Bool) (w : World) (ha : a < 0 ∨ (n : Int) ≤ a) : Calls Tryz.prog 29 #[.agg #[.slice p0 n0 c0, .slice none 0 0, .int .u16 x, .slice gp n gc, .slice (some ⟨b, off, none⟩) n cc, .slice none 0 0], .agg #[.int .i64 a, .bool j]] w (IsB false w) := by
 obtain ⟨W0, hW0⟩ : ∃ W0, W0 = (w.alloc (.cells #[.slice p0 n0 c0, .slice none 0 0, .int .u16 x, .slice gp n gc, .slice (some ⟨b, off, none⟩) n cc, .slice none 0 0] 33)).alloc (.cells #[.int .i64 a, .bool j] 39) := ⟨_, rfl⟩
 have hb : Below w.heap.size w W0 := by rw [hW0]; exact ((Below.refl _ _).alloc (Nat.le_refl _) _).alloc (by simp) _
 have HB := Lib.hid hb
 have HD := Lib.hid (show W0.heap[w.heap.size]? = some (.cells #[.slice p0 n0 c0, .slice none 0 0, .int .u16 x, .slice gp n gc, .slice (some ⟨b, off, none⟩) n cc, .slice none 0 0] 33 (0, 0)) by rw [hW0]; exact heap_alloc2_old w _ _)
 have HE := Lib.hid (show W0.heap[w.heap.size + 1]? = some (.cells #[.int .i64 a, .bool j] 39 (0, 0)) by rw [hW0]; exact heap_alloc2_new w _ _)
 have HH := Lib.hid (fun W => rhasN_ex p0 n0 c0 x gp gc b off cc n a W ha)
 clear hb ha
 go_enter Tryz.func29, Tryz.ntmps29
 go_upto_region 1 with fail
 rw [← hW0]
 clear hW0
 obtain ⟨d0, d1, d2, d3, d4, d5⟩ := cs6 HD.out; obtain ⟨g0, g1⟩ := cs2 HE.out
 go_wp2_with (go_at_call 43; (with_reducible refine (HH.out _).mono ?_); rintro e w1 ⟨rfl, hb1⟩; have HB1 := Lib.hid hb1; clear hb1)
 go_ret
 exact ⟨rfl, HB.out.trans (HB1.out.mono HB.out.size)⟩
theorem rvalidZ_ex (p0 : Option Addr) (n0 c0 : Nat) (x : Int) (gp : Option Addr) (gc b off cc n : Nat) (a : Int) (j : Bool) (w : World) (hn : n ≤ 3) (hC : ChW w b off n) : Calls Tryz.prog 29 #[.agg #[.slice p0 n0 c0, .slice none 0 0, .int .u16 x, .slice gp n gc, .slice (some ⟨b, off, none⟩) n cc, .slice none 0 0], .agg #[.int .i64 a, .bool j]] w (IsB (okB n a j) w) := by
 by_cases h : 0 ≤ a ∧ a < n
 ·obtain ⟨i, rfl⟩ : ∃ i : Nat, a = (i : Int) := ⟨a.toNat, by omega⟩
  have h1 : okB n (i : Int) j = (!j || decide (i + 1 < n)) := by
   unfold okB
   rw [decide_eq_true h, Bool.true_and, show decide ((i : Int) + 1 < n) = decide (i + 1 < n) by simp; omega]
  rw [h1]
  exact rvalid_ex p0 n0 c0 x gp gc b off cc n i j w hn (by omega) hC
 ·have h1 : okB n a j = false := by
   unfold okB
   rw [decide_eq_false h]; rfl
  rw [h1]
  exact rvalidN_ex p0 n0 c0 x gp gc b off cc n a j w (by omega)
structure NZ (w : World) (p0 : Option Addr) (n0 c0 : Nat) (x : Int) (gp : Option Addr) (gc b off cc n : Nat) (i : Int) (j : Bool) (W : World) : Prop where
 da : W.heap[w.heap.size]? = some (.cells #[.slice p0 n0 c0, .slice none 0 0, .int .u16 x, .slice gp n gc, .slice (some ⟨b, off, none⟩) n cc, .slice none 0 0] 33 (0, 0))
 ea : W.heap[w.heap.size + 1]? = some (.cells #[.int .i64 i, .bool j] 39 (0, 0))
 ra : W.heap[w.heap.size + 2]? = some (.cells #[.int .i64 0, .bool false] 39 (0, 0))
 bl : Below w.heap.size w W
 ch : ChW W b off n
theorem NZ.below {w : World} {p0 : Option Addr} {n0 c0 : Nat} {x : Int} {gp : Option Addr} {gc b off cc n : Nat} {i : Int} {j : Bool} {W W' : World} (h : NZ w p0 n0 c0 x gp gc b off cc n i j W) (hb : Below W.heap.size W W') : NZ w p0 n0 c0 x gp gc b off cc n i j W' :=
 ⟨(hb.block _ (gLt h.da)).trans h.da, (hb.block _ (gLt h.ea)).trans h.ea, (hb.block _ (gLt h.ra)).trans h.ra, h.bl.trans (hb.mono h.bl.size), h.ch.below hb⟩
theorem NZ.first {w : World} {p0 : Option Addr} {n0 c0 : Nat} {x : Int} {gp : Option Addr} {gc b off cc n : Nat} {i : Int} {j : Bool} (hC : ChW w b off n) : NZ w p0 n0 c0 x gp gc b off cc n i j (((w.alloc (.cells #[.slice p0 n0 c0, .slice none 0 0, .int .u16 x, .slice gp n gc, .slice (some ⟨b, off, none⟩) n cc, .slice none 0 0] 33)).alloc (.cells #[.int .i64 i, .bool j] 39)).alloc (.cells #[.int .i64 0, .bool false] 39)) := by
 have h1 : Below (w.heap.size + 2) ((w.alloc (.cells #[.slice p0 n0 c0, .slice none 0 0, .int .u16 x, .slice gp n gc, .slice (some ⟨b, off, none⟩) n cc, .slice none 0 0] 33)).alloc (.cells #[.int .i64 i, .bool j] 39)) (((w.alloc (.cells #[.slice p0 n0 c0, .slice none 0 0, .int .u16 x, .slice gp n gc, .slice (some ⟨b, off, none⟩) n cc, .slice none 0 0] 33)).alloc (.cells #[.int .i64 i, .bool j] 39)).alloc (.cells #[.int .i64 0, .bool false] 39)) := (Below.refl _ _).alloc (by simp) _
 have hb : Below w.heap.size w (((w.alloc (.cells #[.slice p0 n0 c0, .slice none 0 0, .int .u16 x, .slice gp n gc, .slice (some ⟨b, off, none⟩) n cc, .slice none 0 0] 33)).alloc (.cells #[.int .i64 i, .bool j] 39)).alloc (.cells #[.int .i64 0, .bool false] 39)) := (((Below.refl _ _).alloc (Nat.le_refl _) _).alloc (by simp) _).alloc (by simp; omega) _
 refine ⟨(h1.block _ (by omega)).trans (heap_alloc2_old w _ _), (h1.block _ (by omega)).trans (heap_alloc2_new w _ _), ?_, hb, hC.below hb⟩
 have h2 := heap_alloc_new ((w.alloc (.cells #[.slice p0 n0 c0, .slice none 0 0, .int .u16 x, .slice gp n gc, .slice (some ⟨b, off, none⟩) n cc, .slice none 0 0] 33)).alloc (.cells #[.int .i64 i, .bool j] 39)) (.cells #[.int .i64 0, .bool false] 39)
 have h3 : ((w.alloc (.cells #[.slice p0 n0 c0, .slice none 0 0, .int .u16 x, .slice gp n gc, .slice (some ⟨b, off, none⟩) n cc, .slice none 0 0] 33)).alloc (.cells #[.int .i64 i, .bool j] 39)).heap.size = w.heap.size + 2 := by simp
 rwa [h3] at h2
def SameRet (a : Int) (j : Bool) (w : World) (e : Ending) (w' : World) : Prop := e = .returned (.agg #[.int .i64 a, .bool j]) ∧ Below w.heap.size w w'
theorem es_end {w W : World} {fn : Func} {R : Nat} {a0 a1 : Value} (p : Tmp) (hfn : fn.results = #[.cell p 39]) (hR : W.heap[R]? = some (.cells #[a0, a1] 39 (0, 0))) (hb : Below w.heap.size w W) (hge : w.heap.size ≤ R) (a : Int) (j : Bool) (tmps : Array Value) (h6 : tmps.getD p undef = .pointer (some ⟨R, 0, none⟩)) :
  bodyPost Tryz.prog fn (SameRet a j w) Exit.ret { tmps := tmps, defers := [] } ((W.setCell ⟨R, 0, none⟩ (.int .i64 a)).setCell ⟨R, 1, none⟩ (.bool j)) :=
 bodyPost_ret (results_cell_row hfn _ _ R 39 #[.int .i64 a, .bool j] (0, 0) _ h6 (row_set2 hR _ _) Tryz.underlying39 rfl Tryz.size39) rfl ⟨rfl, below_set (below_set hb (p := ⟨R, 0, none⟩) hge _) (p := ⟨R, 1, none⟩) hge _⟩
theorem nextN_ex (p0 : Option Addr) (n0 c0 : Nat) (x : Int) (gp : Option Addr) (gc b off cc n : Nat) (a : Int) (j : Bool) (s : ByteArray) (w : World) (hn : n ≤ 3) (hv : okB n a j = false) (hC : ChW w b off n) : Calls Tryz.prog 10 #[.agg #[.slice p0 n0 c0, .slice none 0 0, .int .u16 x, .slice gp n gc, .slice (some ⟨b, off, none⟩) n cc, .slice none 0 0], .agg #[.int .i64 a, .bool j], .string s] w (SameRet a j w) := by
 have HN0 := Lib.hid (NZ.first (p0 := p0) (n0 := n0) (c0 := c0) (x := x) (gp := gp) (gc := gc) (cc := cc) (i := a) (j := j) hC)
 have HV := Lib.hid (fun W hW => validZ_ex p0 n0 c0 x gp gc b off cc n a j W hn hW)
 rw [hv] at HV
 clear hC hv
 go_enter Tryz.func10, Tryz.ntmps10
 go_upto_region 1 with fail
 revert HN0
 generalize ((w.alloc (.cells #[.slice p0 n0 c0, .slice none 0 0, .int .u16 x, .slice gp n gc, .slice (some ⟨b, off, none⟩) n cc, .slice none 0 0] 33)).alloc (.cells #[.int .i64 a, .bool j] 39)).alloc (.cells #[.int .i64 0, .bool false] 39) = W0
 intro HN0
 obtain ⟨d0, d1, d2, d3, d4, d5⟩ := cs6 HN0.out.da; obtain ⟨g0, g1⟩ := cs2 HN0.out.ea; obtain ⟨r0, r1⟩ := cs2 HN0.out.ra; have f0 := frozenOf HN0.out.ra (j := 0); have f1 := frozenOf HN0.out.ra (j := 1)
 go_wp2_with (go_at_call 22; refine (HV.out _ HN0.out.ch).mono ?_; rintro e w1 ⟨rfl, hb1⟩; have HN1 := Lib.hid (HN0.out.below hb1); clear hb1; obtain ⟨d0, d1, d2, d3, d4, d5⟩ := cs6 HN1.out.da; obtain ⟨g0, g1⟩ := cs2 HN1.out.ea; obtain ⟨r0, r1⟩ := cs2 HN1.out.ra; have f0 := frozenOf HN1.out.ra (j := 0); have f1 := frozenOf HN1.out.ra (j := 1))
 exact es_end 6 rfl HN1.out.ra HN1.out.bl (by omega) a j _ rfl
theorem rnextN_ex (p0 : Option Addr) (n0 c0 : Nat) (x : Int) (gp : Option Addr) (gc b off cc n : Nat) (a : Int) (j : Bool) (s : ByteArray) (w : World) (hn : n ≤ 3) (hv : okB n a j = false) (hs : s.size ≤ 300) (hC : ChW w b off n) : Calls Tryz.prog 17 #[.agg #[.slice p0 n0 c0, .slice none 0 0, .int .u16 x, .slice gp n gc, .slice (some ⟨b, off, none⟩) n cc, .slice none 0 0], .agg #[.int .i64 a, .bool j], .string s] w (SameRet a j w) := by
 have HN0 := Lib.hid (NZ.first (p0 := p0) (n0 := n0) (c0 := c0) (x := x) (gp := gp) (gc := gc) (cc := cc) (i := a) (j := j) hC)
 have HV := Lib.hid (fun W hW => rvalidZ_ex p0 n0 c0 x gp gc b off cc n a j W hn hW)
 rw [hv] at HV
 clear hC hv
 go_enter Tryz.func17, Tryz.ntmps17
 go_upto_region 1 with fail
 revert HN0
 generalize ((w.alloc (.cells #[.slice p0 n0 c0, .slice none 0 0, .int .u16 x, .slice gp n gc, .slice (some ⟨b, off, none⟩) n cc, .slice none 0 0] 33)).alloc (.cells #[.int .i64 a, .bool j] 39)).alloc (.cells #[.int .i64 0, .bool false] 39) = W0
 intro HN0
 obtain ⟨d0, d1, d2, d3, d4, d5⟩ := cs6 HN0.out.da; obtain ⟨g0, g1⟩ := cs2 HN0.out.ea; obtain ⟨r0, r1⟩ := cs2 HN0.out.ra; have f0 := frozenOf HN0.out.ra (j := 0); have f1 := frozenOf HN0.out.ra (j := 1)
 go_upto_region 2 with (go_at_call 31; refine (rdecode_ex s _ hs).mono ?_; rintro e w2 ⟨kd, cf, dp, dk, dc, r, rfl, hJ, hF, hb2⟩; have HN2 := Lib.hid (HN0.out.below hb2); clear hb2 hJ hF)
 have HN3 := Lib.hid (HN2.out.below ((Below.refl _ _).alloc (Nat.le_refl _) (.cells #[.int .i64 kd, .int .i64 cf, .slice dp dk dc] 61)))
 clear d0 d1 d2 d3 d4 d5 g0 g1 r0 r1 f0 f1 HN2 HN0
 revert HN3
 generalize w2.alloc (.cells #[.int .i64 kd, .int .i64 cf, .slice dp dk dc] 61) = W3
 intro HN3
 obtain ⟨d0, d1, d2, d3, d4, d5⟩ := cs6 HN3.out.da; obtain ⟨g0, g1⟩ := cs2 HN3.out.ea; obtain ⟨r0, r1⟩ := cs2 HN3.out.ra; have f0 := frozenOf HN3.out.ra (j := 0); have f1 := frozenOf HN3.out.ra (j := 1)
 go_wp2_with (go_at_call 29; refine (HV.out _ HN3.out.ch).mono ?_; rintro e w4 ⟨rfl, hb4⟩; have HN4 := Lib.hid (HN3.out.below hb4); clear hb4; obtain ⟨d0, d1, d2, d3, d4, d5⟩ := cs6 HN4.out.da; obtain ⟨g0, g1⟩ := cs2 HN4.out.ea; obtain ⟨r0, r1⟩ := cs2 HN4.out.ra; have f0 := frozenOf HN4.out.ra (j := 0); have f1 := frozenOf HN4.out.ra (j := 1))
 exact es_end 6 rfl HN4.out.ra HN4.out.bl (by omega) a j _ rfl
end Go.Proofs.YtmcnpaehmnadeaaGreatDoor
/-
  EpochNext: a region whose last operations wait for all others: what is known of the world need not hold behind them.
-/
namespace Go.Proofs.YtmcnpaehmnadeaaGreatDoor
open Go Go.RowKit
section
variable {P : Program} {ops : Array Oper} {Q : Exit → Act → World → Prop} {md : Region.Mode} {S : World → Prop} {L : Nat}
def wpAnyY (P : Program) (md : Region.Mode) (ops : Array Oper) (Q : Exit → Act → World → Prop) (S : World → Prop) (L : Nat) : Nat → Array Bool → Act → World → Prop
 | 0, l, a, w => Region.ready md ops l = [] ∧ Q .normal a w
 | f + 1, l, a, w => (Region.ready md ops l = [] → Q .normal a w) ∧
   ∀ i ∈ Region.ready md ops l, wpOp P ops Q i (fun a' w' => (L ≤ i ∨ S w') ∧ wpAnyY P md ops Q S L f (l.setIfInBounds i true) a' w') a w
theorem wpAny_of_y : ∀ (f : Nat) (l : Array Bool) (a : Act) (w : World), wpAnyY P md ops Q S L f l a w → wpAny P md ops Q f l a w
 | 0, _, _, _, h => h
 | f + 1, _, _, _, h => ⟨h.1, fun i hi => wpOp_mono (fun a' w' h' => wpAny_of_y f _ a' w' h'.2) (h.2 i hi)⟩
theorem wpAnyY_take {i : Nat} {oi : Oper} {v : Value} {f : Nat} {l : Array Bool} {a : Act} {w : World} (hi : ops[i]? = some oi)
  (hs : Region.noSelect ops = true) (hL : ((List.range ops.size).all fun j => decide (j < L) || Region.waitsFor md ops j i) = true) (hf : Region.free md ops l i = true) (hr : (Region.ready md ops l).contains i = true)
  (hQ : ∀ c a w, Q (.panic c) (a.put oi.dst v) w → Q (.panic c) a w) (hy : YieldsIf P ops S oi v a) (hS : S w)
  (h : wpAnyY P md ops Q S L f (l.setIfInBounds i true) (a.put oi.dst v) w) : wpAnyY P md ops Q S L (f + 1) l a w := by
 have hsel := Region.noSelect_spec hs
 replace hf := Region.free_spec hi hf
 replace hr : i ∈ Region.ready md ops l := by simpa using hr
 -- an operation that is there, and has come up, is not awaited
 have keyL : ∀ {l : Array Bool} {j : Nat}, j ∈ Region.ready md ops l → l.getD i true = false → ¬ L ≤ j := by
  intro l j hj hun hjL
  obtain ⟨_, oj, hoj, hall⟩ := mem_ready.1 hj
  have hjs : j < ops.size := (gLt hoj)
  have hw := List.all_eq_true.mp hL j (by simpa using hjs)
  rw [decide_eq_false (by omega), Bool.false_or] at hw
  obtain ⟨oL, hoL, e0, he0, hb0, hon⟩ := Region.waitsFor_spec hw
  obtain rfl : oj = oL := Option.some.inj (hoj.symm.trans hoL)
  have h1 := hall e0 he0 hb0
  rw [hon, getD_both hun] at h1
  cases h1
 induction f generalizing l a w with
 | zero =>
  refine ⟨fun h0 => (by rw [h0] at hr; cases hr), fun j hj => ?_⟩
  by_cases hji : j = i
  ·subst hji
   exact hy.wpOp hi hS ⟨.inr hS, h⟩
  ·have h1 := ready_mono hj hji
   rw [h.1] at h1
   cases h1
 | succ f ih =>
  have hun := (mem_ready.1 hr).1
  refine ⟨fun h0 => (by rw [h0] at hr; cases hr), fun j hj => ?_⟩
  by_cases hji : j = i
  ·subst hji
   exact hy.wpOp hi hS ⟨.inr hS, h⟩
  ·have hjL := keyL hj hun
   have h1 := h.2 j (ready_mono hj hji)
   obtain ⟨hjun, oj, hoj, hall⟩ := mem_ready.1 hj
   have hnot : ∀ e ∈ oj.after, Region.binds md e = true → e.on ≠ i := fun e he hb heq => by
    have h2 := hall e he hb
    rw [heq, getD_both hun] at h2
    cases h2
   refine wpOp_mono (fun a' w' h3 => ?_) (wpOp_putIf hoj (hf j oj hoj hji hjun hnot) (fun cs b => hsel i oi cs b hi) (fun cs b => hsel j oj cs b hoj) hQ hy h1)
   obtain ⟨hy', hS', h4⟩ := h3
   have hS2 : S w' := hS'.resolve_left hjL
   refine ⟨.inr hS2, ih hy' hS2 (by rw [Array.setIfInBounds_comm _ _ hji]; exact h4) (fun k ok hk hki hun' hno => ?_) (ready_mono hr (Ne.symm hji))⟩
   refine hf k ok hk hki ?_ hno
   by_cases hjk : j = k
   ·subst hjk; exact hjun
   ·rw [getD_set_ne true hjk] at hun'; exact hun'
def AllReadyY (P : Program) (md : Region.Mode) (ops : Array Oper) (Q : Exit → Act → World → Prop) (S : World → Prop) (L f : Nat) (l : Array Bool) (a : Act) (w : World) (rs : List Nat) : Prop :=
 ∀ i ∈ rs, wpOp P ops Q i (fun a' w' => (L ≤ i ∨ S w') ∧ wpAnyY P md ops Q S L f (l.setIfInBounds i true) a' w') a w
theorem AllReadyY.nil {f : Nat} {l : Array Bool} {a : Act} {w : World} : AllReadyY P md ops Q S L f l a w [] := fun _ h => by cases h
theorem AllReadyY.cons {f : Nat} {l : Array Bool} {a : Act} {w : World} {i : Nat} {o : Oper} {rs : List Nat} (ho : ops[i]? = some o)
  (h : ∀ K' : Act → World → Prop, Shut (∀ a w, S w → (S w → wpAnyY P md ops Q S L f (l.setIfInBounds i true) a w) → K' a w) → if Region.wanted o (yielded ops a.tmps) = true then Oper.wp P o a w K' Q else K' (a.put o.dst undef) w)
  (hs : AllReadyY P md ops Q S L f l a w rs) : AllReadyY P md ops Q S L f l a w (i :: rs) := fun j hj => by
 rcases List.mem_cons.1 hj with rfl | hj
 ·exact wpOp_step ho (fun K' hK => h K' (fun a w hS hW => hK a w ⟨.inr hS, hW hS⟩))
 ·exact hs j hj
theorem AllReadyY.last {f : Nat} {l : Array Bool} {a : Act} {w : World} {i : Nat} {o : Oper} {rs : List Nat} (hi : L ≤ i) (ho : ops[i]? = some o)
  (h : ∀ K' : Act → World → Prop, Shut (∀ a w, wpAnyY P md ops Q S L f (l.setIfInBounds i true) a w → K' a w) → if Region.wanted o (yielded ops a.tmps) = true then Oper.wp P o a w K' Q else K' (a.put o.dst undef) w)
  (hs : AllReadyY P md ops Q S L f l a w rs) : AllReadyY P md ops Q S L f l a w (i :: rs) := fun j hj => by
 rcases List.mem_cons.1 hj with rfl | hj
 ·exact wpOp_step ho (fun K' hK => h K' (fun a w hW => hK a w ⟨.inl hi, hW⟩))
 ·exact hs j hj
theorem wpAnyY_ready {rs : List Nat} {f : Nat} {l : Array Bool} {a : Act} {w : World} (hr : Region.ready md ops l = rs) (hne : rs ≠ [])
  (h : AllReadyY P md ops Q S L f l a w rs) : wpAnyY P md ops Q S L (f + 1) l a w :=
 ⟨fun h0 => absurd (hr ▸ h0) hne, hr ▸ h⟩
theorem wpAnyY_done {l : Array Bool} {a : Act} {w : World} (hr : Region.ready md ops l = []) (h : Q .normal a w) : ∀ f, wpAnyY P md ops Q S L f l a w
 | 0 => ⟨hr, h⟩
 | _ + 1 => ⟨fun _ => h, by rw [hr]; simp⟩
theorem wp_region_y (L : Nat) (S : World → Prop) {id : Nat} {a : Act} {w : World} (hm : P.follows .mixedOrders = true)
  (hS : S w.drew)
  (h : S w.drew → wpAnyY P .any ops Q S L ops.size (Array.replicate ops.size false) a w.drew) : (Code.region id ops true).wp P Q a w :=
 wp_region_any hm (wpAny_of_y _ _ _ _ (h hS))
end
section
variable {P : Program} {ops : Array Oper} {Q : Exit → Act → World → Prop} {md : Region.Mode} {S : World → Prop} {L : Nat}
theorem tkY {o : Op} {ty : TypeId} {pos : String} {af : Array Edge} {g : Option (Nat × Bool)} {f : Nat} {l : Array Bool} {a : Act} {w : World} (i d : Nat) (v : Value) (hi : ops[i]? = some ⟨some d, o, ty, pos, af, g⟩) (hy : ∀ w, S w → (execOp a.eval ⟨some d, o, ty, pos, af, g⟩).run P w = .ok (.value v) w)
  (h : wpAnyY P md ops Q S L f (l.setIfInBounds i true) (a.put (some d) v) w)
  (hs : Region.noSelect ops = true := by kernel_rfl) (hL : ((List.range ops.size).all fun j => decide (j < L) || Region.waitsFor md ops j i) = true := by kernel_rfl) (hf : Region.free md ops l i = true := by kernel_rfl) (hr : (Region.ready md ops l).contains i = true := by kernel_rfl)
  (hQ : ∀ c a w, Q (.panic c) (a.put (some d) v) w → Q (.panic c) a w := by exact fun _ _ _ h => h) (hS : S w := by assumption) (hg : Region.wanted ⟨some d, o, ty, pos, af, g⟩ (yielded ops a.tmps) = true := by rfl) : wpAnyY P md ops Q S L (f + 1) l a w :=
  wpAnyY_take hi hs hL hf hr hQ (.inl ⟨hg, hy⟩) hS h
theorem tuY {o : Op} {ty : TypeId} {pos : String} {af : Array Edge} {g : Option (Nat × Bool)} {f : Nat} {l : Array Bool} {a : Act} {w : World} (i d : Nat) (hi : ops[i]? = some ⟨some d, o, ty, pos, af, g⟩)
  (h : wpAnyY P md ops Q S L f (l.setIfInBounds i true) (a.put (some d) undef) w)
  (hs : Region.noSelect ops = true := by kernel_rfl) (hL : ((List.range ops.size).all fun j => decide (j < L) || Region.waitsFor md ops j i) = true := by kernel_rfl) (hf : Region.free md ops l i = true := by kernel_rfl) (hr : (Region.ready md ops l).contains i = true := by kernel_rfl)
  (hQ : ∀ c a w, Q (.panic c) (a.put (some d) undef) w → Q (.panic c) a w := by exact fun _ _ _ h => h) (hS : S w := by assumption) (hg : Region.wanted ⟨some d, o, ty, pos, af, g⟩ (yielded ops a.tmps) = false := by kernel_rfl) : wpAnyY P md ops Q S L (f + 1) l a w :=
  wpAnyY_take hi hs hL hf hr hQ (.inr ⟨hg, rfl⟩) hS h
end
end Go.Proofs.YtmcnpaehmnadeaaGreatDoor
