/-
  EpochNext: Config at epochs that are not valid; the configurations' cells.
-/
import Derived.Test.YtmcnpaehmnadeaaGreatDoorFeGH
import Derived.Test.YtmcnpaehmnadeaaGreatDoorFfD
import Derived.Test.YtmcnpaehmnadeaaGreatDoorEwMO
set_option maxHeartbeats 6400000
set_option maxRecDepth 1000000
namespace Go.Proofs.YtmcnpaehmnadeaaGreatDoor
open Go Go.RowKit
theorem confN_ex (p0 : Option Addr) (n0 c0 : Nat) (x : Int) (gb go gc b off cc n : Nat) (a : Int) (j : Bool) (w : World) (hn : n ≤ 3) (hv : okB n a j = false) (hC : ChW w b off n) : Calls Tryz.prog 15 #[.agg #[.slice p0 n0 c0, .slice none 0 0, .int .u16 x, .slice (some ⟨gb, go, none⟩) n gc, .slice (some ⟨b, off, none⟩) n cc, .slice none 0 0], .agg #[.int .i64 a, .bool j]] w (CfOut emptyB 0 0 [] [] [] 7 w) := by
 have hA3 := heap_alloc3 w (.cells #[.slice p0 n0 c0, .slice none 0 0, .int .u16 x, .slice (some ⟨gb, go, none⟩) n gc, .slice (some ⟨b, off, none⟩) n cc, .slice none 0 0] 33) (.cells #[.int .i64 a, .bool j] 39) (.cells z6 49)
 have HN0 := Lib.hid (show NC w #[.slice p0 n0 c0, .slice none 0 0, .int .u16 x, .slice (some ⟨gb, go, none⟩) n gc, .slice (some ⟨b, off, none⟩) n cc, .slice none 0 0] #[.int .i64 a, .bool j] _ from ⟨hA3.1, hA3.2.1, hA3.2.2.1, hA3.2.2.2.2⟩)
 have HV := Lib.hid (fun W (hW : Below w.heap.size w W) => validZ_ex p0 n0 c0 x (some ⟨gb, go, none⟩) gc b off cc n a j W hn (hC.below hW))
 rw [hv] at HV
 clear hA3 hC hv
 go_enter Tryz.func15, Tryz.ntmps15
 go_upto_region 1 with fail
 revert HN0
 unfold z6
 generalize ((w.alloc (.cells #[.slice p0 n0 c0, .slice none 0 0, .int .u16 x, .slice (some ⟨gb, go, none⟩) n gc, .slice (some ⟨b, off, none⟩) n cc, .slice none 0 0] 33)).alloc (.cells #[.int .i64 a, .bool j] 39)).alloc _ = W0
 intro HN0
 obtain ⟨d0, d1, d2, d3, d4, d5⟩ := cs6 HN0.out.da
 obtain ⟨g0, g1⟩ := cs2 HN0.out.ea
 go_wp2_with (go_at_call 22; (with_reducible refine (HV.out _ HN0.out.bl).mono ?_); rintro e w1 ⟨rfl, hb1⟩; have HN1 := Lib.hid (HN0.out.below hb1); clear hb1; obtain ⟨r0, r1, r2, r3, r4, r5⟩ := cs6 HN1.out.ra; have f0 := frozenOf HN1.out.ra (j := 0); have f1 := frozenOf HN1.out.ra (j := 1); have f2 := frozenOf HN1.out.ra (j := 2); have f3 := frozenOf HN1.out.ra (j := 3); have f4 := frozenOf HN1.out.ra (j := 4); have f5 := frozenOf HN1.out.ra (j := 5))
 exact cfo_end 4 5 rfl HN1.out.ra HN1.out.bl (by omega) emptyB 0 0 none 0 0 none 0 0 none 0 0 [] [] [] 7 _ rfl rfl (cfh_nil _) (fun _ => none_ne) (fun _ => none_ne) (fun _ => none_ne)
theorem rconfN_ex (p0 : Option Addr) (n0 c0 : Nat) (x : Int) (gb go gc b off cc n : Nat) (a : Int) (j : Bool) (w : World) (hn : n ≤ 3) (hv : okB n a j = false) (hC : ChW w b off n) : Calls Tryz.prog 16 #[.agg #[.slice p0 n0 c0, .slice none 0 0, .int .u16 x, .slice (some ⟨gb, go, none⟩) n gc, .slice (some ⟨b, off, none⟩) n cc, .slice none 0 0], .agg #[.int .i64 a, .bool j]] w (CfOut emptyB 0 0 [] [] [] 7 w) := by
 have hA3 := heap_alloc3 w (.cells #[.slice p0 n0 c0, .slice none 0 0, .int .u16 x, .slice (some ⟨gb, go, none⟩) n gc, .slice (some ⟨b, off, none⟩) n cc, .slice none 0 0] 33) (.cells #[.int .i64 a, .bool j] 39) (.cells z6 49)
 have HN0 := Lib.hid (show NC w #[.slice p0 n0 c0, .slice none 0 0, .int .u16 x, .slice (some ⟨gb, go, none⟩) n gc, .slice (some ⟨b, off, none⟩) n cc, .slice none 0 0] #[.int .i64 a, .bool j] _ from ⟨hA3.1, hA3.2.1, hA3.2.2.1, hA3.2.2.2.2⟩)
 have HV := Lib.hid (fun W (hW : Below w.heap.size w W) => rvalidZ_ex p0 n0 c0 x (some ⟨gb, go, none⟩) gc b off cc n a j W hn (hC.below hW))
 rw [hv] at HV
 clear hA3 hC hv
 go_enter Tryz.func16, Tryz.ntmps16
 go_upto_region 1 with fail
 revert HN0
 unfold z6
 generalize ((w.alloc (.cells #[.slice p0 n0 c0, .slice none 0 0, .int .u16 x, .slice (some ⟨gb, go, none⟩) n gc, .slice (some ⟨b, off, none⟩) n cc, .slice none 0 0] 33)).alloc (.cells #[.int .i64 a, .bool j] 39)).alloc _ = W0
 intro HN0
 obtain ⟨d0, d1, d2, d3, d4, d5⟩ := cs6 HN0.out.da
 obtain ⟨g0, g1⟩ := cs2 HN0.out.ea
 go_wp2_with (go_at_call 29; (with_reducible refine (HV.out _ HN0.out.bl).mono ?_); rintro e w1 ⟨rfl, hb1⟩; have HN1 := Lib.hid (HN0.out.below hb1); clear hb1; obtain ⟨r0, r1, r2, r3, r4, r5⟩ := cs6 HN1.out.ra; have f0 := frozenOf HN1.out.ra (j := 0); have f1 := frozenOf HN1.out.ra (j := 1); have f2 := frozenOf HN1.out.ra (j := 2); have f3 := frozenOf HN1.out.ra (j := 3); have f4 := frozenOf HN1.out.ra (j := 4); have f5 := frozenOf HN1.out.ra (j := 5))
 exact cfo_end 4 5 rfl HN1.out.ra HN1.out.bl (by omega) emptyB 0 0 none 0 0 none 0 0 none 0 0 [] [] [] 7 _ rfl rfl (cfh_nil _) (fun _ => none_ne) (fun _ => none_ne) (fun _ => none_ne)
theorem flat_get : ∀ {cs : List Cg} {i j : Nat} (hi : i < cs.length), j < 6 → (cs.flatMap Cg.vals)[i * 6 + j]? = cs[i].vals[j]?
 | c :: t, 0, j, _, hj => by
  rw [List.flatMap_cons, Nat.zero_mul, Nat.zero_add, List.getElem?_append_left (by exact hj)]
  rfl
 | c :: t, i + 1, j, hi, hj => by
  rw [List.flatMap_cons, List.getElem?_append_right (by show 6 ≤ _; omega), show (i + 1) * 6 + j - c.vals.length = i * 6 + j by show (i + 1) * 6 + j - 6 = _; omega]
  rw [flat_get (cs := t) (by simpa using hi) hj]
  rfl
theorem cfs_cfc {W : World} {gb n : Nat} {cs : List Cg} {R : Nat} (h : CfsAt W (some ⟨gb, 0, none⟩) n cs R) {i : Nat} (hi : i < cs.length) : CfC W gb (0 + i * 6) cs[i].nm cs[i].kd cs[i].mb (.slice cs[i].p3 cs[i].n3 cs[i].c3) (.slice cs[i].p4 cs[i].n4 cs[i].c4) (.slice cs[i].p5 cs[i].n5 cs[i].c5) := by
 obtain ⟨gb', h1, h2, _, h4⟩ := h.row
 injection h1 with h1
 injection h1 with h1
 subst h1
 rw [Nat.zero_add]
 exact ⟨h2, h4 (i * 6) _ (flat_get (j := 0) hi (by omega)), h4 (i * 6 + 1) _ (flat_get (j := 1) hi (by omega)), h4 (i * 6 + 2) _ (flat_get (j := 2) hi (by omega)), h4 (i * 6 + 3) _ (flat_get (j := 3) hi (by omega)), h4 (i * 6 + 4) _ (flat_get (j := 4) hi (by omega)), h4 (i * 6 + 5) _ (flat_get (j := 5) hi (by omega))⟩
theorem cfs_cfg {W : World} {gp : Option Addr} {n : Nat} {cs : List Cg} {R : Nat} (h : CfsAt W gp n cs R) (hN : ∀ i, i < 3 → NameOk (nameK i)) (hn : n ≤ 3) {i : Nat} (hi : i < cs.length) :
  CfgL W cs[i].nm cs[i].mb cs[i].p3 cs[i].n3 cs[i].c3 cs[i].p4 cs[i].n4 cs[i].c4 cs[i].p5 cs[i].n5 cs[i].c5 cs[i].rd cs[i].wr cs[i].fs := by
 have hk := h.ok cs[i] (List.getElem_mem hi)
 refine ⟨by rw [h.nm i hi]; exact hN i (by have := h.len; omega), hk.mb, hk.m3.1, hk.m3.2.2.1, hk.m3.2.2.2.1, hk.m3.2.2.2.2.1, hk.s3, hk.m4.1, hk.m4.2.2.1, hk.m4.2.2.2.1, hk.m4.2.2.2.2.1, hk.s4, hk.m5.1, hk.m5.2.2.1, hk.m5.2.2.2.1, hk.m5.2.2.2.2.1, hk.s5⟩
end Go.Proofs.YtmcnpaehmnadeaaGreatDoor
/-
  EpochNext: both Configs and both Nexts give the same, at every epoch.
-/
namespace Go.Proofs.YtmcnpaehmnadeaaGreatDoor
open Go Go.AM Go.RowKit
def nB (k : Nat) : List UInt8 := [UInt8.ofNat (97 + k)]
theorem nm92 : ((List.range 3).all fun k => outB true ((runF Tryz.prog same0 known0 kindOf 1000).call 92 [.str (nB k)] s00)) = true := by kernel_rfl
theorem nm100 : ((List.range 3).all fun k => outB true ((runF Tryz.prog same0 known0 kindOf 1000).call 100 [.str (nB k)] s00)) = true := by kernel_rfl
theorem nameK_eq : ∀ k, k < 3 → nameK k = ⟨(nB k).toArray⟩
 | 0, _ => by kernel_rfl
 | 1, _ => by kernel_rfl
 | 2, _ => by kernel_rfl
theorem name_call {f : FuncId} {k : Nat} (h : outB true ((runF Tryz.prog same0 known0 kindOf 1000).call f [.str (nB k)] s00) = true) (w : World) : Calls Tryz.prog f #[.string ⟨(nB k).toArray⟩] w (IsB true w) := by
 obtain ⟨s, hs⟩ := outB_some h
 rw [runF_eq] at hs
 refine ((plain_call progOk0 (args := [.str (nB k)]) rfl rfl hs).2 μ0 [.string ⟨(nB k).toArray⟩] w ⟨rfl, trivial⟩).mono ?_
 rintro e w' ⟨v', rfl, hv, hb⟩
 have e1 : v' = .bool true := hv
 subst e1
 exact ⟨rfl, hb⟩
theorem names_ok (k : Nat) (hk : k < 3) : NameOk (nameK k) := by
 rw [nameK_eq k hk]
 exact ⟨fun W => name_call (List.all_eq_true.mp nm92 k (by simpa using hk)) W, fun W => name_call (List.all_eq_true.mp nm100 k (by simpa using hk)) W⟩
theorem CfsAt.below {W W' : World} {gp : Option Addr} {n : Nat} {cs : List Cg} {D : Nat} (h : CfsAt W gp n cs D) (hb : Below W.heap.size W W') : CfsAt W' gp n cs D := h.keep hb.size fun B hB _ => hb.block B hB
def Both (f g : FuncId) (dv ev : Array Value) (w : World) : Prop := ∃ (NM : ByteArray) (KD MB : Int) (RR WW : List Nat) (FF : List (Nat × Nat)) (EE : Nat),
 (∀ W, Below w.heap.size w W → Calls Tryz.prog f #[.agg dv, .agg ev] W (CfOut NM KD MB RR WW FF EE W)) ∧ ∀ W, Below w.heap.size w W → Calls Tryz.prog g #[.agg dv, .agg ev] W (CfOut NM KD MB RR WW FF EE W)
theorem both_conf (p0 : Option Addr) (n0 c0 : Nat) (x : Int) (gb gc b off cc n : Nat) (a : Int) (j : Bool) (cs : List Cg) (R : Nat) (w : World) (hn : n ≤ 3) (hC : ChW w b off n) (hcs : CfsAt w (some ⟨gb, 0, none⟩) n cs R) : Both 15 16 #[.slice p0 n0 c0, .slice none 0 0, .int .u16 x, .slice (some ⟨gb, 0, none⟩) n gc, .slice (some ⟨b, off, none⟩) n cc, .slice none 0 0] #[.int .i64 a, .bool j] w := by
 cases hv : okB n a j
 ·exact ⟨_, _, _, _, _, _, _, fun W hW => confN_ex p0 n0 c0 x gb 0 gc b off cc n a j W hn hv (hC.below hW), fun W hW => rconfN_ex p0 n0 c0 x gb 0 gc b off cc n a j W hn hv (hC.below hW)⟩
 ·unfold okB at hv
  rw [Bool.and_eq_true, decide_eq_true_eq] at hv
  obtain ⟨hr, hj⟩ := hv
  obtain ⟨i, rfl⟩ : ∃ i : Nat, a = (i : Int) := ⟨a.toNat, by omega⟩
  have hi : i < n := by omega
  have hic : i < cs.length := by rw [hcs.len]; exact hi
  cases j
  ·have hk := hcs.ok cs[i] (List.getElem_mem hic)
   exact ⟨_, _, _, _, _, _, _, fun W hW => conf0_ex p0 n0 c0 x gb 0 gc b off cc n i _ _ _ _ _ _ _ _ _ _ _ _ _ _ _ W hn hi (hC.below hW) (cfs_cfg (hcs.below hW) names_ok hn hic) (cfs_cfc (hcs.below hW) hic) (by have := hk.m3.2.1; omega) (by have := hk.m4.2.1; omega) (by have := hk.m5.2.1; omega) hk.m3.2.2.2.2.2 hk.m4.2.2.2.2.2 hk.m5.2.2.2.2.2,
    fun W hW => rconf0_ex p0 n0 c0 x gb 0 gc b off cc n i _ _ _ _ _ _ _ _ _ _ _ _ _ _ _ W hn hi (hC.below hW) (cfs_cfg (hcs.below hW) names_ok hn hic) (cfs_cfc (hcs.below hW) hic) (by have := hk.m3.2.1; omega) (by have := hk.m4.2.1; omega) (by have := hk.m5.2.1; omega)⟩
  ·have hi1 : i + 1 < n := by
    simp at hj
    omega
   have hic1 : i + 1 < cs.length := by rw [hcs.len]; exact hi1
   exact ⟨_, _, _, _, _, _, _, fun W hW => conf1_ex p0 n0 c0 x gb 0 gc b off cc n i _ _ _ _ _ _ _ _ _ _ _ _ _ _ _ _ _ _ _ _ _ _ _ _ _ _ _ _ _ _ W hn hi1 (hC.below hW) (cfs_cfg (hcs.below hW) names_ok hn hic) (cfs_cfc (hcs.below hW) hic) (cfs_cfg (hcs.below hW) names_ok hn hic1) (cfs_cfc (hcs.below hW) hic1),
    fun W hW => rconf1_ex p0 n0 c0 x gb 0 gc b off cc n i _ _ _ _ _ _ _ _ _ _ _ _ _ _ _ _ _ _ _ _ _ _ _ _ _ _ _ _ _ _ W hn hi1 (hC.below hW) (cfs_cfg (hcs.below hW) names_ok hn hic) (cfs_cfc (hcs.below hW) hic) (cfs_cfg (hcs.below hW) names_ok hn hic1) (cfs_cfc (hcs.below hW) hic1)⟩
theorem both_next (p0 : Option Addr) (n0 c0 : Nat) (x : Int) (gp : Option Addr) (gc b off cc n : Nat) (a : Int) (j : Bool) (s : ByteArray) (w : World) (hn : n ≤ 3) (hs : s.size ≤ 300) (hC : ChW w b off n) (hG : GL w) :
  ∃ (a' : Int) (j' : Bool), (∀ W, Below w.heap.size w W → Calls Tryz.prog 10 #[.agg #[.slice p0 n0 c0, .slice none 0 0, .int .u16 x, .slice gp n gc, .slice (some ⟨b, off, none⟩) n cc, .slice none 0 0], .agg #[.int .i64 a, .bool j], .string s] W (SameRet a' j' W)) ∧ ∀ W, Below w.heap.size w W → Calls Tryz.prog 17 #[.agg #[.slice p0 n0 c0, .slice none 0 0, .int .u16 x, .slice gp n gc, .slice (some ⟨b, off, none⟩) n cc, .slice none 0 0], .agg #[.int .i64 a, .bool j], .string s] W (SameRet a' j' W) := by
 cases hv : okB n a j
 ·exact ⟨a, j, fun W hW => nextN_ex p0 n0 c0 x gp gc b off cc n a j s W hn hv (hC.below hW), fun W hW => rnextN_ex p0 n0 c0 x gp gc b off cc n a j s W hn hv hs (hC.below hW)⟩
 ·unfold okB at hv
  rw [Bool.and_eq_true, decide_eq_true_eq] at hv
  obtain ⟨hr, hj⟩ := hv
  obtain ⟨i, rfl⟩ : ∃ i : Nat, a = (i : Int) := ⟨a.toNat, by omega⟩
  have hok : okE n i j := ⟨by omega, fun h => by subst h; simp at hj; omega⟩
  exact ⟨((nextP n i j s).1 : Int), (nextP n i j s).2, fun W hW => next_ex p0 n0 c0 x gp gc b off cc n i j s W hn hok hs (hC.below hW) (hG.below hW), fun W hW => rnext_ex p0 n0 c0 x gp gc b off cc n i j s W hn hok hs (hC.below hW)⟩
end Go.Proofs.YtmcnpaehmnadeaaGreatDoor
/-
  EpochNext: the law returns true.
-/
namespace Go.Proofs.YtmcnpaehmnadeaaGreatDoor
open Go Go.RowKit
structure L4 (w : World) (dv ev v1 v2 : Array Value) (D C1 C2 : Nat) (W : World) : Prop where
 da : W.heap[D]? = some (.cells dv 33 (0, 0))
 ea : W.heap[w.heap.size + 1]? = some (.cells ev 39 (0, 0))
 c1 : W.heap[C1]? = some (.cells v1 49 (0, 0))
 c2 : W.heap[C2]? = some (.cells v2 49 (0, 0))
 bl : Below w.heap.size w W
theorem L4.below {w W W' : World} {dv ev v1 v2 : Array Value} {D C1 C2 : Nat} (h : L4 w dv ev v1 v2 D C1 C2 W) (hb : Below W.heap.size W W') : L4 w dv ev v1 v2 D C1 C2 W' :=
 ⟨(hb.block _ (gLt h.da)).trans h.da, (hb.block _ (gLt h.ea)).trans h.ea, (hb.block _ (gLt h.c1)).trans h.c1, (hb.block _ (gLt h.c2)).trans h.c2, h.bl.trans (hb.mono h.bl.size)⟩
theorem l4S {w W : World} {p0 : Option Addr} {n0 c0 : Nat} {x : Int} {gb gc b off cc n : Nat} {a : Int} {j : Bool} {NM : ByteArray} {KD MB : Int} {RR WW : List Nat} {FF : List (Nat × Nat)} {p3 p4 p5 q3 q4 q5 : Option Addr} {c3 c4 c5 k3 k4 k5 : Nat} {D C1 C2 : Nat} (h : L4 w #[.slice p0 n0 c0, .slice none 0 0, .int .u16 x, .slice (some ⟨gb, 0, none⟩) n gc, .slice (some ⟨b, off, none⟩) n cc, .slice none 0 0] #[.int .i64 a, .bool j] #[.string NM, .int .i64 KD, .int .u16 MB, .slice p3 RR.length c3, .slice p4 WW.length c4, .slice p5 FF.length c5] #[.string NM, .int .i64 KD, .int .u16 MB, .slice q3 RR.length k3, .slice q4 WW.length k4, .slice q5 FF.length k5] D C1 C2 W) :
  W.cell? ⟨D, 0, none⟩ = some (.slice p0 n0 c0) ∧ W.cell? ⟨D, 1, none⟩ = some (.slice none 0 0) ∧ W.cell? ⟨D, 2, none⟩ = some (.int .u16 x) ∧ W.cell? ⟨D, 3, none⟩ = some (.slice (some ⟨gb, 0, none⟩) n gc) ∧ W.cell? ⟨D, 4, none⟩ = some (.slice (some ⟨b, off, none⟩) n cc) ∧ W.cell? ⟨D, 5, none⟩ = some (.slice none 0 0) ∧ W.cell? ⟨(w.heap.size + 1), 0, none⟩ = some (.int .i64 a) ∧ W.cell? ⟨(w.heap.size + 1), 1, none⟩ = some (.bool j) ∧ W.cell? ⟨C1, 0, none⟩ = some (.string NM) ∧ W.cell? ⟨C1, 1, none⟩ = some (.int .i64 KD) ∧ W.cell? ⟨C1, 2, none⟩ = some (.int .u16 MB) ∧ W.cell? ⟨C1, 3, none⟩ = some (.slice p3 RR.length c3) ∧ W.cell? ⟨C1, 4, none⟩ = some (.slice p4 WW.length c4) ∧ W.cell? ⟨C1, 5, none⟩ = some (.slice p5 FF.length c5) ∧ W.cell? ⟨C2, 0, none⟩ = some (.string NM) ∧ W.cell? ⟨C2, 1, none⟩ = some (.int .i64 KD) ∧ W.cell? ⟨C2, 2, none⟩ = some (.int .u16 MB) ∧ W.cell? ⟨C2, 3, none⟩ = some (.slice q3 RR.length k3) ∧ W.cell? ⟨C2, 4, none⟩ = some (.slice q4 WW.length k4) ∧ W.cell? ⟨C2, 5, none⟩ = some (.slice q5 FF.length k5) ∧ L4 w #[.slice p0 n0 c0, .slice none 0 0, .int .u16 x, .slice (some ⟨gb, 0, none⟩) n gc, .slice (some ⟨b, off, none⟩) n cc, .slice none 0 0] #[.int .i64 a, .bool j] #[.string NM, .int .i64 KD, .int .u16 MB, .slice p3 RR.length c3, .slice p4 WW.length c4, .slice p5 FF.length c5] #[.string NM, .int .i64 KD, .int .u16 MB, .slice q3 RR.length k3, .slice q4 WW.length k4, .slice q5 FF.length k5] D C1 C2 W :=
 ⟨cellOf h.da rfl, cellOf h.da rfl, cellOf h.da rfl, cellOf h.da rfl, cellOf h.da rfl, cellOf h.da rfl, cellOf h.ea rfl, cellOf h.ea rfl, cellOf h.c1 rfl, cellOf h.c1 rfl, cellOf h.c1 rfl, cellOf h.c1 rfl, cellOf h.c1 rfl, cellOf h.c1 rfl, cellOf h.c2 rfl, cellOf h.c2 rfl, cellOf h.c2 rfl, cellOf h.c2 rfl, cellOf h.c2 rfl, cellOf h.c2 rfl, h⟩
theorem law4 (hA : Awake) (p : Option Addr) (n cap : Nat) (x0 : Int) (a : Int) (j : Bool) (s : ByteArray) (w : World) (hp : n ≤ 3 → DrfP w p n) (hG : GL w) :
  Calls Tryz.prog 4 #[.agg #[.slice p n cap, .int .u8 x0], .agg #[.int .i64 a, .bool j], .string s] w (IsB true w) := by
 have HP := Lib.hid hp
 have HG := Lib.hid hG
 have HA := Lib.hid hA
 have hb0 : Below w.heap.size w ((w.alloc (.cells #[.slice p n cap, .int .u8 x0] 24)).alloc (.cells #[.int .i64 a, .bool j] 39)) := ((Below.refl _ _).alloc (Nat.le_refl _) _).alloc (by simp) _
 have HO0 := Lib.hid (And.intro (heap_alloc2_old w (.cells #[.slice p n cap, .int .u8 x0] 24) (.cells #[.int .i64 a, .bool j] 39)) (And.intro (heap_alloc2_new w (.cells #[.slice p n cap, .int .u8 x0] 24) (.cells #[.int .i64 a, .bool j] 39)) hb0))
 clear hb0 hp hG hA
 go_enter Tryz.func4, Tryz.ntmps4
 go_upto_region 1 with fail
 revert HO0
 generalize (w.alloc (.cells #[.slice p n cap, .int .u8 x0] 24)).alloc (.cells #[.int .i64 a, .bool j] 39) = W0
 intro HO0
 obtain ⟨d0, d1⟩ := cs2 HO0.out.1
 go_upto_region 2 with (go_at_call 5; refine (made41_ct p n cap x0 _ (fun h => (HP.out h).below HO0.out.2.2)).mono ?_; rintro e w5 ⟨p0, n0, c0, x, gp, gn, gc, cp, cn, cc, r, rfl, hb5, hr⟩)
 have HB5 := Lib.hid (HO0.out.2.2.trans (hb5.mono HO0.out.2.2.size))
 have hA5 : Below w5.heap.size w5 (w5.alloc (.cells #[.slice p0 n0 c0, .slice none 0 0, .int .u16 x, .slice gp gn gc, .slice cp cn cc, .slice none 0 0] 33)) := (Below.refl _ _).alloc (Nat.le_refl _) _
 have HB6 := Lib.hid (HB5.out.trans (hA5.mono HB5.out.size))
 have HD := Lib.hid (heap_alloc_new w5 (.cells #[.slice p0 n0 c0, .slice none 0 0, .int .u16 x, .slice gp gn gc, .slice cp cn cc, .slice none 0 0] 33))
 have HE := Lib.hid ((hA5.block _ (Nat.lt_of_lt_of_le (gLt HO0.out.2.1) hb5.size)).trans ((hb5.block _ (gLt HO0.out.2.1)).trans HO0.out.2.1))
 have HR := Lib.hid hr
 have HA5 := Lib.hid hA5
 clear hA5 hr hb5 d0 d1 HO0 HB5
 revert HB6 HD HA5 HE
 generalize w5.alloc (.cells #[.slice p0 n0 c0, .slice none 0 0, .int .u16 x, .slice gp gn gc, .slice cp cn cc, .slice none 0 0] 33) = W1
 intro HB6 HD HE HA5
 cases r
 ·go_wp2_with (first
   | (go_at_call 6; (with_reducible refine (awakeF HA.out HB6.out).mono ?_); rintro e w6 ⟨rfl, hb6⟩; have HB7 := Lib.hid hb6; clear hb6 HB6)
   | (go_at_call 6; (with_reducible refine (awakeF HA.out HB7.out).mono ?_); rintro e w7 ⟨rfl, hb7⟩; have HB8 := Lib.hid hb7; clear hb7 HB7))
  go_ret
  exact ⟨rfl, HB8.out⟩
 ·by_cases hs : 300 < s.size
  ·have e1 : (300 : Int) < (s.size : Int) := by omega
   go_wp2_with (first
    | (go_at_call 6; (with_reducible refine (awakeF HA.out HB6.out).mono ?_); rintro e w6 ⟨rfl, hb6⟩; have HB7 := Lib.hid hb6; clear hb6 HB6)
    | (go_at_call 6; (with_reducible refine (awakeF HA.out HB7.out).mono ?_); rintro e w7 ⟨rfl, hb7⟩; have HB8 := Lib.hid hb7; clear hb7 HB7))
   go_ret
   exact ⟨rfl, HB8.out⟩
  ·have e1 : ¬ (300 : Int) < (s.size : Int) := by omega
   obtain ⟨hn0, hn3, hg, hcn, hcc, ⟨b, off, rfl, hC⟩, cs, R, hcs⟩ := HR.out rfl
   have hg2 := hg.symm
   have hcn2 := hcn.symm
   subst hg2
   subst hcn2
   obtain ⟨gb, rfl⟩ : ∃ gb, gp = some ⟨gb, 0, none⟩ := by
    obtain ⟨gb, h1, _⟩ := hcs.row
    exact ⟨gb, h1⟩
   have HC := Lib.hid (And.intro (hC.below HA5.out) (hcs.below HA5.out))
   clear hC hcs HR HA5 hg hcn
   go_upto_region 4 with (go_at_call 6; (with_reducible refine (hA_of HA.out _).mono ?_); rintro e w6 ⟨rfl, hb6⟩)
   have HB7 := Lib.hid (HB6.out.trans (hb6.mono HB6.out.size))
   have HD7 := Lib.hid ((hb6.block _ (gLt HD.out)).trans HD.out)
   have HE7 := Lib.hid ((hb6.block _ (gLt HE.out)).trans HE.out)
   have HC7 := Lib.hid (And.intro (HC.out.1.below hb6) (HC.out.2.below hb6))
   obtain ⟨NM, KD, MB, RR, WW, FF, EE, hi, hr⟩ := both_conf p0 n0 c0 x gb gc b off cc n a j cs R w6 hn3 HC7.out.1 HC7.out.2
   obtain ⟨a', j', hni, hnr⟩ := both_next p0 n0 c0 x (some ⟨gb, 0, none⟩) gc b off cc n a j s w6 hn3 (by omega) HC7.out.1 (HG.out.below HB7.out)
   have HCI := Lib.hid (And.intro hi hr)
   have HNX := Lib.hid (And.intro hni hnr)
   clear hi hr hni hnr hb6 HD HE HC HB6
   generalize w5.heap.size = D at HD7 ⊢
   obtain ⟨d0, d1, d2, d3, d4, d5⟩ := cs6 HD7.out; obtain ⟨g0, g1⟩ := cs2 HE7.out
   go_upto_region 5 with (go_at_call 15; (with_reducible refine (HCI.out.1 _ (Below.refl _ _)).mono ?_); rintro e w8 ⟨p3, _, c3, p4, _, c4, p5, _, c5, rfl, ⟨rfl, s3, rfl, s4, rfl, s5, b3, b4, b5⟩, hb8⟩)
   have hA8 : Below w8.heap.size w8 (w8.alloc (.cells #[.string NM, .int .i64 KD, .int .u16 MB, .slice p3 RR.length c3, .slice p4 WW.length c4, .slice p5 FF.length c5] 49)) := (Below.refl _ _).alloc (Nat.le_refl _) _
   have H1 := Lib.hid (show CfH w8 p3 RR.length p4 WW.length p5 FF.length RR WW FF from ⟨rfl, s3, rfl, s4, rfl, s5, b3, b4, b5⟩)
   have H19 := Lib.hid (H1.out.below hA8)
   have HB9 := Lib.hid (hb8.trans (hA8.mono hb8.size))
   have HC19 := Lib.hid (heap_alloc_new w8 (.cells #[.string NM, .int .i64 KD, .int .u16 MB, .slice p3 RR.length c3, .slice p4 WW.length c4, .slice p5 FF.length c5] 49))
   clear hA8 hb8 s3 s4 s5 d0 d1 d2 d3 d4 d5 g0 g1 H1
   revert H19 HB9 HC19
   generalize w8.alloc (.cells #[.string NM, .int .i64 KD, .int .u16 MB, .slice p3 RR.length c3, .slice p4 WW.length c4, .slice p5 FF.length c5] 49) = W9
   generalize w8.heap.size = C1
   intro H19 HB9 HC19
   have HD9 := Lib.hid ((HB9.out.block _ (gLt HD7.out)).trans HD7.out)
   have HE9 := Lib.hid ((HB9.out.block _ (gLt HE7.out)).trans HE7.out)
   obtain ⟨d0, d1, d2, d3, d4, d5⟩ := cs6 HD9.out; obtain ⟨g0, g1⟩ := cs2 HE9.out
   go_upto_region 6 with (go_at_call 16; (with_reducible refine (HCI.out.2 _ HB9.out).mono ?_); rintro e wa ⟨q3, _, k3, q4, _, k4, q5, _, k5, rfl, ⟨rfl, t3, rfl, t4, rfl, t5, u3, u4, u5⟩, hba⟩)
   have hAa : Below wa.heap.size wa (wa.alloc (.cells #[.string NM, .int .i64 KD, .int .u16 MB, .slice q3 RR.length k3, .slice q4 WW.length k4, .slice q5 FF.length k5] 49)) := (Below.refl _ _).alloc (Nat.le_refl _) _
   have H2 := Lib.hid (show CfH wa q3 RR.length q4 WW.length q5 FF.length RR WW FF from ⟨rfl, t3, rfl, t4, rfl, t5, u3, u4, u5⟩)
   have hbb := hba.trans (hAa.mono hba.size)
   have HHH := Lib.hid (And.intro (H19.out.below hbb) (H2.out.below hAa))
   have HB6b := Lib.hid (HB9.out.trans (hbb.mono HB9.out.size))
   have HL := Lib.hid (show L4 w #[.slice p0 n0 c0, .slice none 0 0, .int .u16 x, .slice (some ⟨gb, 0, none⟩) n gc, .slice (some ⟨b, off, none⟩) n cc, .slice none 0 0] #[.int .i64 a, .bool j] #[.string NM, .int .i64 KD, .int .u16 MB, .slice p3 RR.length c3, .slice p4 WW.length c4, .slice p5 FF.length c5] #[.string NM, .int .i64 KD, .int .u16 MB, .slice q3 RR.length k3, .slice q4 WW.length k4, .slice q5 FF.length k5] D C1 wa.heap.size (wa.alloc (.cells #[.string NM, .int .i64 KD, .int .u16 MB, .slice q3 RR.length k3, .slice q4 WW.length k4, .slice q5 FF.length k5] 49)) from ⟨(hbb.block _ (gLt HD9.out)).trans HD9.out, (hbb.block _ (gLt HE9.out)).trans HE9.out, (hbb.block _ (gLt HC19.out)).trans HC19.out, heap_alloc_new wa _, HB7.out.trans (HB6b.out.mono HB7.out.size)⟩)
   clear hAa hba hbb t3 t4 t5 d0 d1 d2 d3 d4 d5 g0 g1 H2 H19
   revert HHH HB6b HL
   generalize wa.alloc (.cells #[.string NM, .int .i64 KD, .int .u16 MB, .slice q3 RR.length k3, .slice q4 WW.length k4, .slice q5 FF.length k5] 49) = WB
   generalize wa.heap.size = C2
   intro HHH HB6b HL
   have HEQ := Lib.hid (fun W (hW : Below WB.heap.size WB W) => equal_ex NM KD MB p3 q3 RR.length c3 k3 p4 q4 WW.length c4 k4 p5 q5 FF.length c5 k5 RR WW FF W (HHH.out.1.below hW) (HHH.out.2.below hW))
   have HX10 := Lib.hid (fun W (hW : Below WB.heap.size WB W) => HNX.out.1 W (HB6b.out.trans (hW.mono HB6b.out.size)))
   have HX17 := Lib.hid (fun W (hW : Below WB.heap.size WB W) => HNX.out.2 W (HB6b.out.trans (hW.mono HB6b.out.size)))
   go_region_held3 (fun W => W.cell? ⟨D, 0, none⟩ = some (.slice p0 n0 c0) ∧ W.cell? ⟨D, 1, none⟩ = some (.slice none 0 0) ∧ W.cell? ⟨D, 2, none⟩ = some (.int .u16 x) ∧ W.cell? ⟨D, 3, none⟩ = some (.slice (some ⟨gb, 0, none⟩) n gc) ∧ W.cell? ⟨D, 4, none⟩ = some (.slice (some ⟨b, off, none⟩) n cc) ∧ W.cell? ⟨D, 5, none⟩ = some (.slice none 0 0) ∧ W.cell? ⟨(w.heap.size + 1), 0, none⟩ = some (.int .i64 a) ∧ W.cell? ⟨(w.heap.size + 1), 1, none⟩ = some (.bool j) ∧ W.cell? ⟨C1, 0, none⟩ = some (.string NM) ∧ W.cell? ⟨C1, 1, none⟩ = some (.int .i64 KD) ∧ W.cell? ⟨C1, 2, none⟩ = some (.int .u16 MB) ∧ W.cell? ⟨C1, 3, none⟩ = some (.slice p3 RR.length c3) ∧ W.cell? ⟨C1, 4, none⟩ = some (.slice p4 WW.length c4) ∧ W.cell? ⟨C1, 5, none⟩ = some (.slice p5 FF.length c5) ∧ W.cell? ⟨C2, 0, none⟩ = some (.string NM) ∧ W.cell? ⟨C2, 1, none⟩ = some (.int .i64 KD) ∧ W.cell? ⟨C2, 2, none⟩ = some (.int .u16 MB) ∧ W.cell? ⟨C2, 3, none⟩ = some (.slice q3 RR.length k3) ∧ W.cell? ⟨C2, 4, none⟩ = some (.slice q4 WW.length k4) ∧ W.cell? ⟨C2, 5, none⟩ = some (.slice q5 FF.length k5) ∧ L4 w #[.slice p0 n0 c0, .slice none 0 0, .int .u16 x, .slice (some ⟨gb, 0, none⟩) n gc, .slice (some ⟨b, off, none⟩) n cc, .slice none 0 0] #[.int .i64 a, .bool j] #[.string NM, .int .i64 KD, .int .u16 MB, .slice p3 RR.length c3, .slice p4 WW.length c4, .slice p5 FF.length c5] #[.string NM, .int .i64 KD, .int .u16 MB, .slice q3 RR.length k3, .slice q4 WW.length k4, .slice q5 FF.length k5] D C1 C2 W)
    (first | exact l4S HL.out | exact l4S (HL.out.below (below_drew _)) | exact l4S hL1 | exact l4S hL2 | exact l4S hL3)
    (first
     | (go_at_call 10; (with_reducible refine (HX10.out _ (below_drew _)).mono ?_); rintro e w10 ⟨rfl, hb10⟩; have hL1 := (HL.out.below (below_drew _)).below hb10; have hB1 := (below_drew WB).trans (hb10.mono (below_drew WB).size))
     | (go_at_call 17; (with_reducible refine (HX17.out _ hB1).mono ?_); rintro e w17 ⟨rfl, hb17⟩; have hL2 := hL1.below hb17; have hB2 := hB1.trans (hb17.mono hB1.size))
     | (go_at_call 18; (with_reducible refine (HEQ.out _ hB2).mono ?_); rintro e w18 ⟨rfl, hb18⟩; have hL3 := hL2.below hb18))
   go_wp2_with fail
   go_ret
   exact ⟨rfl, hL3.bl⟩
end Go.Proofs.YtmcnpaehmnadeaaGreatDoor
