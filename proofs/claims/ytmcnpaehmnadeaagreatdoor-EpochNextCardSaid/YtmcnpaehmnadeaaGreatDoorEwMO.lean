/-
  EpochOf: sederuntref41.Made returns a deployment.
-/
import Derived.Test.YtmcnpaehmnadeaaGreatDoorEwKL
import Derived.Test.YtmcnpaehmnadeaaGreatDoorEvAF
import Derived.Laws.ResultCell
import Derived.Laws.Cover4
import Derived.Test.YtmcnpaehmnadeaaGreatDoorEsAB
set_option maxHeartbeats 6400000
set_option maxRecDepth 1000000
namespace Go.Proofs.YtmcnpaehmnadeaaGreatDoor
open Go Go.RowKit
structure OM (w : World) (p : Option Addr) (n cap : Nat) (x0 : Int) (W : World) : Prop where
 da : W.heap[w.heap.size]? = some (.cells #[.slice p n cap, .int .u8 x0] 24 (0, 0))
 ra : W.heap[w.heap.size + 1]? = some (.cells #[.slice none 0 0, .slice none 0 0, .int .u16 0, .slice none 0 0, .slice none 0 0, .slice none 0 0] 33 (0, 0))
 bl : Below w.heap.size w W
theorem OM.below {w W W' : World} {p : Option Addr} {n cap : Nat} {x0 : Int} (h : OM w p n cap x0 W) (hb : Below W.heap.size W W') : OM w p n cap x0 W' :=
 ⟨(hb.block _ (gLt h.da)).trans h.da, (hb.block _ (gLt h.ra)).trans h.ra, h.bl.trans (hb.mono h.bl.size)⟩
theorem OM.lt {w W : World} {p : Option Addr} {n cap : Nat} {x0 : Int} (h : OM w p n cap x0 W) : w.heap.size + 1 < W.heap.size := (gLt h.ra)
theorem omS {w W : World} {p : Option Addr} {n cap : Nat} {x0 : Int} (h : OM w p n cap x0 W) : W.cell? ⟨w.heap.size, 0, none⟩ = some (.slice p n cap) ∧ W.cell? ⟨w.heap.size, 1, none⟩ = some (.int .u8 x0) ∧ OM w p n cap x0 W := ⟨cellOf h.da rfl, cellOf h.da rfl, h⟩
theorem OM.set6 {w W : World} {p : Option Addr} {n cap : Nat} {x0 : Int} {b : Nat} (h : OM w p n cap x0 W) (hb : w.heap.size + 1 < b) (v0 v1 v2 v3 v4 v5 : Value) : OM w p n cap x0 ((((((W.setCell ⟨b, 0, none⟩ v0).setCell ⟨b, 1, none⟩ v1).setCell ⟨b, 2, none⟩ v2).setCell ⟨b, 3, none⟩ v3).setCell ⟨b, 4, none⟩ v4).setCell ⟨b, 5, none⟩ v5) :=
 ⟨(set6_other (by omega) v0 v1 v2 v3 v4 v5).trans h.da, (set6_other (by omega) v0 v1 v2 v3 v4 v5).trans h.ra, below_set6 h.bl (by omega) v0 v1 v2 v3 v4 v5⟩
structure DK (w w3 : World) (D : Nat) (v0 : Value) (x : Int) (gp : Option Addr) (n gc : Nat) (v4 : Value) (W : World) : Prop where
 le : w.heap.size ≤ w3.heap.size
 hD : D < w3.heap.size
 h0 : w.heap.size + 1 < D
 old : ∀ B, B < w3.heap.size → B ≠ D → W.heap[B]? = w3.heap[B]?
 ta : W.heap[D]? = some (.cells #[v0, .slice none 0 0, .int .u16 x, .slice gp n gc, v4, .slice none 0 0] 33 (0, 0))
 sz : w3.heap.size ≤ W.heap.size
 bl : Below w.heap.size w W
section
variable {w w3 : World} {D : Nat} {v0 : Value} {x : Int} {gp : Option Addr} {n gc : Nat} {v4 : Value} {W W' : World}
theorem DK.below3 (h : DK w w3 D v0 x gp n gc v4 W) (hb : Below w3.heap.size W W') : DK w w3 D v0 x gp n gc v4 W' :=
 ⟨h.le, h.hD, h.h0, fun B h1 h2 => (hb.block B h1).trans (h.old B h1 h2), (hb.block _ h.hD).trans h.ta, Nat.le_trans h.sz hb.size, h.bl.trans (hb.mono h.le)⟩
theorem DK.below (h : DK w w3 D v0 x gp n gc v4 W) (hb : Below W.heap.size W W') : DK w w3 D v0 x gp n gc v4 W' := h.below3 (hb.mono h.sz)
theorem DK.grown {u : Value} {ob : Obj} {e sz k : Nat} {xs : List Value} (h : DK w w3 D v0 x gp n gc v4 W) (hown : W.ownsRow w3.heap.size e sz u k xs) (hg : (W.alloc ob).grownBy W' u.ownBlock) : DK w w3 D v0 x gp n gc v4 W' :=
 h.below3 (below_grown (Below.refl _ _) h.sz hown hg)
theorem dkS (h : DK w w3 D v0 x gp n gc v4 W) : W.cell? ⟨D, 0, none⟩ = some v0 ∧ DK w w3 D v0 x gp n gc v4 W := ⟨cellOf h.ta rfl, h⟩
theorem DK.put0 (h : DK w w3 D v0 x gp n gc v4 W) (u : Value) : DK w w3 D u x gp n gc v4 (W.setCell ⟨D, 0, none⟩ u) :=
 ⟨h.le, h.hD, h.h0, fun B h1 h2 => (set1_other h2 u).trans (h.old B h1 h2), by
  have := h.ta
  unfold World.setCell
  simp [Array.getElem?_modify, this], by simpa using h.sz, below_set h.bl (p := ⟨D, 0, none⟩) (by show _ ≤ D; have := h.h0; omega) u⟩
theorem DK.put4 (h : DK w w3 D v0 x gp n gc v4 W) (u : Value) : DK w w3 D v0 x gp n gc u (W.setCell ⟨D, 4, none⟩ u) :=
 ⟨h.le, h.hD, h.h0, fun B h1 h2 => (set1_other h2 u).trans (h.old B h1 h2), by
  have := h.ta
  unfold World.setCell
  simp [Array.getElem?_modify, this], by simpa using h.sz, below_set h.bl (p := ⟨D, 4, none⟩) (by show _ ≤ D; have := h.h0; omega) u⟩
theorem DK.row {b : Nat} {o : Obj} (h : DK w w3 D v0 x gp n gc v4 W) (ho : w3.heap[b]? = some o) (hn : b ≠ D) : W.heap[b]? = some o := (h.old b (gLt ho) hn).trans ho
end
theorem results_row_tmp {P : Program} {fn : Func} {p u : Tmp} {ty : TypeId} (h : fn.results = #[.cell p ty, .tmp u]) (tmps : Array Value) (w : World) (g : Nat) (t : TypeId) (cs : Array Value) (fr : Nat × Nat) (d : TypeDesc)
  (hp : tmps.getD p undef = .pointer (some ⟨g, 0, none⟩)) (hg : w.heap[g]? = some (.cells cs t fr))
  (hu : P.underlying ty = some d) (hd : (match d with | .struct _ | .array _ _ => true | _ => false) = true) (hi : (P.info? ty).map (·.size) = some cs.size) :
  (results fn tmps).run P w = .ok (.tuple #[.agg cs, tmps.getD u undef]) w := by
 have hp' : tmps[p]?.getD undef = .pointer (some ⟨g, 0, none⟩) := by simpa using hp
 rw [results_cell_tmp h]
 simp [hp', asAddr, run_loadVar_row w g t ty cs fr d hg hu hd hi, Result.andThen]
theorem enc_small (i : Int) : ¬ 9223372036854775807 < 1 + (Utf8.encode i).size := by have := encode_size_le i; omega
theorem Tryz.size33 : (Tryz.prog.info? 33).map (·.size) = some 6 := by kernel_rfl
end Go.Proofs.YtmcnpaehmnadeaaGreatDoor
/-
  EpochOf: slices.Clone at strings.
-/
namespace Go.Proofs.YtmcnpaehmnadeaaGreatDoor
open Go Go.RowKit
end Go.Proofs.YtmcnpaehmnadeaaGreatDoor
/-
  EpochOf: the law returns true.
-/
namespace Go.Proofs.YtmcnpaehmnadeaaGreatDoor
open Go Go.RowKit
section
variable {w w4 : World} {D : Nat} {p0 : Option Addr} {n0 c0 : Nat} {x : Int} {gp : Option Addr} {gc b off cc n : Nat} {W W' : World}
end
section
variable {w w6 : World} {D E9 E : Nat} {p0 : Option Addr} {n0 c0 : Nat} {x : Int} {gp : Option Addr} {gc b off cc n : Nat} {e9 e : Nat × Bool} {W W' : World}
end
theorem awakeF (hA : Awake) {w0 W : World} (h : Below w0.heap.size w0 W) : Calls Tryz.prog 6 #[] W (IsB true w0) := (hA W).mono fun _ _ ⟨h1, h2⟩ => ⟨h1, h.trans (h2.mono h.size)⟩
theorem hA_of (hA : Awake) (W : World) : Calls Tryz.prog 6 #[] W (IsB true W) := hA W
end Go.Proofs.YtmcnpaehmnadeaaGreatDoor
