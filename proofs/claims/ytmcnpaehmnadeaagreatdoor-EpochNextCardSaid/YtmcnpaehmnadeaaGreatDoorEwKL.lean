/-
  EpochOf: sederuntref29.Made returns a configuration.
-/
import Derived.Test.YtmcnpaehmnadeaaGreatDoorEwIJ
import Derived.Test.YtmcnpaehmnadeaaGreatDoorEwAG
set_option maxHeartbeats 6400000
set_option maxRecDepth 1000000
namespace Go.Proofs.YtmcnpaehmnadeaaGreatDoor
open Go Go.RowKit
structure OC (w w1 : World) (C : Nat) (nm : ByteArray) (kd mb : Int) (p3 : Option Addr) (n3 c3 : Nat) (p4 : Option Addr) (n4 c4 : Nat) (p5 : Option Addr) (n5 c5 : Nat) (W : World) : Prop where
 ca : W.heap[C]? = some (.cells #[.string nm, .int .i64 kd, .int .u16 mb, .slice p3 n3 c3, .slice p4 n4 c4, .slice p5 n5 c5] 49 (0, 0))
 ra : W.heap[w.heap.size + 1]? = some (.cells #[.string ⟨#[]⟩, .int .i64 0, .int .u16 0, .slice none 0 0, .slice none 0 0, .slice none 0 0] 49 (0, 0))
 b1 : Below w1.heap.size w1 W
 bl : Below w.heap.size w W
theorem OC.below {w w1 : World} {C : Nat} {nm : ByteArray} {kd mb : Int} {p3 : Option Addr} {n3 c3 : Nat} {p4 : Option Addr} {n4 c4 : Nat} {p5 : Option Addr} {n5 c5 : Nat} {W W' : World} (h : OC w w1 C nm kd mb p3 n3 c3 p4 n4 c4 p5 n5 c5 W) (hb : Below W.heap.size W W') : OC w w1 C nm kd mb p3 n3 c3 p4 n4 c4 p5 n5 c5 W' :=
 ⟨(hb.block _ (gLt h.ca)).trans h.ca, (hb.block _ (gLt h.ra)).trans h.ra, h.b1.trans (hb.mono h.b1.size), h.bl.trans (hb.mono h.bl.size)⟩
theorem OC.lt {w w1 : World} {C : Nat} {nm : ByteArray} {kd mb : Int} {p3 : Option Addr} {n3 c3 : Nat} {p4 : Option Addr} {n4 c4 : Nat} {p5 : Option Addr} {n5 c5 : Nat} {W : World} (h : OC w w1 C nm kd mb p3 n3 c3 p4 n4 c4 p5 n5 c5 W) : w.heap.size + 1 < W.heap.size := (gLt h.ra)
theorem OC.ltC {w w1 : World} {C : Nat} {nm : ByteArray} {kd mb : Int} {p3 : Option Addr} {n3 c3 : Nat} {p4 : Option Addr} {n4 c4 : Nat} {p5 : Option Addr} {n5 c5 : Nat} {W : World} (h : OC w w1 C nm kd mb p3 n3 c3 p4 n4 c4 p5 n5 c5 W) : C < W.heap.size := (gLt h.ca)
theorem ocS {w w1 : World} {C : Nat} {nm : ByteArray} {kd mb : Int} {p3 : Option Addr} {n3 c3 : Nat} {p4 : Option Addr} {n4 c4 : Nat} {p5 : Option Addr} {n5 c5 : Nat} {W : World} (h : OC w w1 C nm kd mb p3 n3 c3 p4 n4 c4 p5 n5 c5 W) : W.cell? ⟨C, 0, none⟩ = some (.string nm) ∧ W.cell? ⟨C, 1, none⟩ = some (.int .i64 kd) ∧ W.cell? ⟨C, 2, none⟩ = some (.int .u16 mb) ∧ W.cell? ⟨C, 3, none⟩ = some (.slice p3 n3 c3) ∧ W.cell? ⟨C, 4, none⟩ = some (.slice p4 n4 c4) ∧ W.cell? ⟨C, 5, none⟩ = some (.slice p5 n5 c5) ∧ OC w w1 C nm kd mb p3 n3 c3 p4 n4 c4 p5 n5 c5 W :=
 ⟨cellOf h.ca rfl, cellOf h.ca rfl, cellOf h.ca rfl, cellOf h.ca rfl, cellOf h.ca rfl, cellOf h.ca rfl, h⟩
theorem OC.set6 {w w1 : World} {C : Nat} {nm : ByteArray} {kd mb : Int} {p3 : Option Addr} {n3 c3 : Nat} {p4 : Option Addr} {n4 c4 : Nat} {p5 : Option Addr} {n5 c5 : Nat} {W : World} {b : Nat} (h : OC w w1 C nm kd mb p3 n3 c3 p4 n4 c4 p5 n5 c5 W) (hb : w.heap.size + 1 < b) (hC : C < b) (h1 : w1.heap.size ≤ b) (v0 v1 v2 v3 v4 v5 : Value) : OC w w1 C nm kd mb p3 n3 c3 p4 n4 c4 p5 n5 c5 ((((((W.setCell ⟨b, 0, none⟩ v0).setCell ⟨b, 1, none⟩ v1).setCell ⟨b, 2, none⟩ v2).setCell ⟨b, 3, none⟩ v3).setCell ⟨b, 4, none⟩ v4).setCell ⟨b, 5, none⟩ v5) :=
 ⟨(set6_other (by omega) v0 v1 v2 v3 v4 v5).trans h.ca, (set6_other (by omega) v0 v1 v2 v3 v4 v5).trans h.ra, below_set6 h.b1 h1 v0 v1 v2 v3 v4 v5, below_set6 h.bl (by omega) v0 v1 v2 v3 v4 v5⟩
structure MK (w w3 : World) (T : Nat) (v0 v1 v2 v3 v4 v : Value) (l : List (Int × Int)) (W : World) : Prop where
 le : w.heap.size ≤ w3.heap.size
 hT : T < w3.heap.size
 h0 : w.heap.size + 1 < T
 old : ∀ B, B < w3.heap.size → B ≠ T → W.heap[B]? = w3.heap[B]?
 ta : W.heap[T]? = some (.cells #[v0, v1, v2, v3, v4, v] 49 (0, 0))
 own : W.ownsRow w3.heap.size 69 2 v l.length (ftV l)
 sz : w3.heap.size ≤ W.heap.size
 bl : Below w.heap.size w W
structure KB (w w3 : World) (T F : Nat) (v0 v1 v2 v3 v4 v : Value) (x y : Int) (W : World) : Prop where
 le : w.heap.size ≤ w3.heap.size
 hT : T < w3.heap.size
 h0 : w.heap.size + 1 < T
 old : ∀ B, B < w3.heap.size → B ≠ T → W.heap[B]? = w3.heap[B]?
 ta : W.heap[T]? = some (.cells #[v0, v1, v2, v3, v4, v] 49 (0, 0))
 fa : W.heap[F]? = some (.cells #[.int .u16 x, .int .u16 y] 69 (0, 0))
 sz : w3.heap.size ≤ W.heap.size
 bl : Below w.heap.size w W
section
variable {w w3 : World} {T F : Nat} {v0 v1 v2 v3 v4 v : Value} {x y : Int} {W W' : World}
theorem KB.below (h : KB w w3 T F v0 v1 v2 v3 v4 v x y W) (hb : Below W.heap.size W W') : KB w w3 T F v0 v1 v2 v3 v4 v x y W' :=
 ⟨h.le, h.hT, h.h0, fun B h1 h2 => (hb.block B (Nat.lt_of_lt_of_le h1 h.sz)).trans (h.old B h1 h2), (hb.block _ (gLt h.ta)).trans h.ta, (hb.block _ (gLt h.fa)).trans h.fa, Nat.le_trans h.sz hb.size, h.bl.trans (hb.mono h.bl.size)⟩
theorem kbS (h : KB w w3 T F v0 v1 v2 v3 v4 v x y W) : W.cell? ⟨T, 5, none⟩ = some v ∧ W.cell? ⟨F, 0, none⟩ = some (.int .u16 x) ∧ W.cell? ⟨F, 1, none⟩ = some (.int .u16 y) ∧ KB w w3 T F v0 v1 v2 v3 v4 v x y W :=
 ⟨cellOf h.ta rfl, cellOf h.fa rfl, cellOf h.fa rfl, h⟩
theorem MK.fault {l : List (Int × Int)} (h : MK w w3 T v0 v1 v2 v3 v4 v l W) (x y : Int) : KB w w3 T W.heap.size v0 v1 v2 v3 v4 v x y (W.alloc (.cells #[.int .u16 x, .int .u16 y] 69)) := by
 have hb : Below W.heap.size W (W.alloc (.cells #[.int .u16 x, .int .u16 y] 69)) := (Below.refl _ _).alloc (Nat.le_refl _) _
 exact ⟨h.le, h.hT, h.h0, fun B h1 h2 => (hb.block B (Nat.lt_of_lt_of_le h1 h.sz)).trans (h.old B h1 h2), (hb.block _ (gLt h.ta)).trans h.ta, heap_alloc_new W _, Nat.le_trans h.sz hb.size, h.bl.trans (hb.mono h.bl.size)⟩
theorem kb_grown {u : Value} {ob : Obj} {n : Nat} {xs : List Value} (h : KB w w3 T F v0 v1 v2 v3 v4 v x y W) (hown : W.ownsRow w3.heap.size 69 2 u n xs) (hne : u.ownBlock ≠ some F) (hg : (W.alloc ob).grownBy W' u.ownBlock) : KB w w3 T F v0 v1 v2 v3 v4 v x y W' := by
 have hb : Below w3.heap.size W W' := below_grown (Below.refl _ _) h.sz hown hg
 have hF := (gLt h.fa)
 exact ⟨h.le, h.hT, h.h0, fun B h1 h2 => (hb.block B h1).trans (h.old B h1 h2), (hb.block T h.hT).trans h.ta,
  (hg.block F (by rw [World.size_alloc]; omega) (fun e => hne e.symm)).trans ((((Below.refl _ _).alloc (Nat.le_refl _) ob).block F hF).trans h.fa), Nat.le_trans h.sz hb.size,
  h.bl.trans (hb.mono h.le)⟩
theorem KB.put {u : Value} {l : List (Int × Int)} (h : KB w w3 T F v0 v1 v2 v3 v4 v x y W) (hown : W.ownsRow w3.heap.size 69 2 u l.length (ftV l)) : MK w w3 T v0 v1 v2 v3 v4 u l (W.setCell ⟨T, 5, none⟩ u) :=
 ⟨h.le, h.hT, h.h0, fun B h1 h2 => (set1_other h2 u).trans (h.old B h1 h2), row_put5 h.ta u, own_set hown (p := ⟨T, 5, none⟩) h.hT u, by simpa using h.sz, below_set h.bl (p := ⟨T, 5, none⟩) (by show _ ≤ T; have := h.h0; omega) u⟩
theorem MK.cell {l : List (Int × Int)} (h : MK w w3 T v0 v1 v2 v3 v4 v l W) {b o : Nat} (hb : b < w3.heap.size) (hn : b ≠ T) : W.cell? ⟨b, o, none⟩ = w3.cell? ⟨b, o, none⟩ := World.cell?_of_block (a := ⟨b, o, none⟩) (h.old b hb hn)
theorem MK.row {l : List (Int × Int)} (h : MK w w3 T v0 v1 v2 v3 v4 v l W) {b : Nat} {o : Obj} (ho : w3.heap[b]? = some o) (hn : b ≠ T) : W.heap[b]? = some o := (h.old b (gLt ho) hn).trans ho
end
end Go.Proofs.YtmcnpaehmnadeaaGreatDoor
/-
  EpochOf: sederuntref29.All returns configurations.
-/
namespace Go.Proofs.YtmcnpaehmnadeaaGreatDoor
open Go Go.RowKit
structure DrfA (W : World) (b o : Nat) (a0 : Int) (a1 : Nat) (a2 : Int) (pr pw pf : Option Addr) (nr cr nw cw nf cf mv : Nat) : Prop where
 cells : W.cell? ⟨b, o, none⟩ = some (.int .u8 a0) ∧ W.cell? ⟨b, o + 1, none⟩ = some (.int .u8 a1) ∧ W.cell? ⟨b, o + 2, none⟩ = some (.int .u8 a2) ∧ W.cell? ⟨b, o + 3, none⟩ = some (.slice pr nr cr) ∧ W.cell? ⟨b, o + 4, none⟩ = some (.slice pw nw cw) ∧ W.cell? ⟨b, o + 5, none⟩ = some (.slice pf nf cf) ∧ W.cell? ⟨b, o + 6, none⟩ = some (.int .u8 mv)
 h1 : a1 < 256
 h2 : mv < 256
 h3 : nr ≤ 9223372036854775807
 h4 : nw ≤ 9223372036854775807
 s1 : SetP W pr nr
 s2 : SetP W pw nw
 s3 : FltP W pf nf
def DrfP (W : World) (p : Option Addr) (n : Nat) : Prop := n = 0 ∨ ∃ b off, p = some ⟨b, off, none⟩ ∧ b < W.heap.size ∧ ∀ i, i < n → ∃ (a0 : Int) (a1 : Nat) (a2 : Int) (pr pw pf : Option Addr) (nr cr nw cw nf cf mv : Nat), DrfA W b (off + i * 7) a0 a1 a2 pr pw pf nr cr nw cw nf cf mv
theorem DrfA.below {W W' : World} {b o : Nat} {a0 : Int} {a1 : Nat} {a2 : Int} {pr pw pf : Option Addr} {nr cr nw cw nf cf mv : Nat} (h : DrfA W b o a0 a1 a2 pr pw pf nr cr nw cw nf cf mv) (hb : Below W.heap.size W W') (hlt : b < W.heap.size) : DrfA W' b o a0 a1 a2 pr pw pf nr cr nw cw nf cf mv := by
 obtain ⟨⟨q0, q1, q2, q3, q4, q5, q6⟩, h1, h2, h3, h4, s1, s2, s3⟩ := h
 exact ⟨⟨(hb.cell (p := ⟨b, o, none⟩) hlt).trans q0, (hb.cell (p := ⟨b, o + 1, none⟩) hlt).trans q1, (hb.cell (p := ⟨b, o + 2, none⟩) hlt).trans q2, (hb.cell (p := ⟨b, o + 3, none⟩) hlt).trans q3, (hb.cell (p := ⟨b, o + 4, none⟩) hlt).trans q4, (hb.cell (p := ⟨b, o + 5, none⟩) hlt).trans q5, (hb.cell (p := ⟨b, o + 6, none⟩) hlt).trans q6⟩, h1, h2, h3, h4, s1.below hb, s2.below hb, s3.below hb⟩
theorem DrfP.below {W W' : World} {p : Option Addr} {n : Nat} (h : DrfP W p n) (hb : Below W.heap.size W W') : DrfP W' p n := by
 rcases h with h | ⟨b, off, h1, h2, h3⟩
 ·exact .inl h
 ·exact .inr ⟨b, off, h1, Nat.lt_of_lt_of_le h2 hb.size, fun i hi => by
   obtain ⟨a0, a1, a2, pr, pw, pf, nr, cr, nw, cw, nf, cf, mv, h⟩ := h3 i hi
   exact ⟨a0, a1, a2, pr, pw, pf, nr, cr, nw, cw, nf, cf, mv, h.below hb h2⟩⟩
theorem DrfP.at {W : World} {p : Option Addr} {n k : Nat} (h : DrfP W p n) (hk : k < n) : ∃ b off, p = some ⟨b, off, none⟩ ∧ b < W.heap.size ∧ ∃ (a0 : Int) (a1 : Nat) (a2 : Int) (pr pw pf : Option Addr) (nr cr nw cw nf cf mv : Nat), DrfA W b (off + k * 7) a0 a1 a2 pr pw pf nr cr nw cw nf cf mv := by
 rcases h with rfl | ⟨b, off, h1, h2, h3⟩
 ·omega
 ·exact ⟨b, off, h1, h2, h3 k hk⟩
structure AL (w : World) (b o : Nat) (a0 : Int) (a1 : Nat) (a2 : Int) (pr pw pf : Option Addr) (nr cr nw cw nf cf mv : Nat) (W : World) : Prop where
 cells : W.cell? ⟨b, o, none⟩ = some (.int .u8 a0) ∧ W.cell? ⟨b, o + 1, none⟩ = some (.int .u8 a1) ∧ W.cell? ⟨b, o + 2, none⟩ = some (.int .u8 a2) ∧ W.cell? ⟨b, o + 3, none⟩ = some (.slice pr nr cr) ∧ W.cell? ⟨b, o + 4, none⟩ = some (.slice pw nw cw) ∧ W.cell? ⟨b, o + 5, none⟩ = some (.slice pf nf cf) ∧ W.cell? ⟨b, o + 6, none⟩ = some (.int .u8 mv)
 lt : b < W.heap.size
 bl : Below w.heap.size w W
theorem AL.below {w W W' : World} {b o : Nat} {a0 : Int} {a1 : Nat} {a2 : Int} {pr pw pf : Option Addr} {nr cr nw cw nf cf mv : Nat} (h : AL w b o a0 a1 a2 pr pw pf nr cr nw cw nf cf mv W) (hb : Below W.heap.size W W') : AL w b o a0 a1 a2 pr pw pf nr cr nw cw nf cf mv W' := by
 obtain ⟨⟨q0, q1, q2, q3, q4, q5, q6⟩, hlt, hbl⟩ := h
 exact ⟨⟨(hb.cell (p := ⟨b, o, none⟩) hlt).trans q0, (hb.cell (p := ⟨b, o + 1, none⟩) hlt).trans q1, (hb.cell (p := ⟨b, o + 2, none⟩) hlt).trans q2, (hb.cell (p := ⟨b, o + 3, none⟩) hlt).trans q3, (hb.cell (p := ⟨b, o + 4, none⟩) hlt).trans q4, (hb.cell (p := ⟨b, o + 5, none⟩) hlt).trans q5, (hb.cell (p := ⟨b, o + 6, none⟩) hlt).trans q6⟩, Nat.lt_of_lt_of_le hlt hb.size, hbl.trans (hb.mono hbl.size)⟩
theorem alS {w W : World} {b o : Nat} {a0 : Int} {a1 : Nat} {a2 : Int} {pr pw pf : Option Addr} {nr cr nw cw nf cf mv : Nat} (h : AL w b o a0 a1 a2 pr pw pf nr cr nw cw nf cf mv W) : W.cell? ⟨b, o, none⟩ = some (.int .u8 a0) ∧ W.cell? ⟨b, o + 1, none⟩ = some (.int .u8 a1) ∧ W.cell? ⟨b, o + 2, none⟩ = some (.int .u8 a2) ∧ W.cell? ⟨b, o + 3, none⟩ = some (.slice pr nr cr) ∧ W.cell? ⟨b, o + 4, none⟩ = some (.slice pw nw cw) ∧ W.cell? ⟨b, o + 5, none⟩ = some (.slice pf nf cf) ∧ W.cell? ⟨b, o + 6, none⟩ = some (.int .u8 mv) ∧ AL w b o a0 a1 a2 pr pw pf nr cr nw cw nf cf mv W := by
 obtain ⟨q0, q1, q2, q3, q4, q5, q6⟩ := h.cells
 exact ⟨q0, q1, q2, q3, q4, q5, q6, h⟩
theorem al_grown {w W W' : World} {b o : Nat} {a0 : Int} {a1 : Nat} {a2 : Int} {pr pw pf : Option Addr} {nr cr nw cw nf cf mv : Nat} {v : Value} {ob : Obj} {n : Nat} {xs : List Value} (h : AL w b o a0 a1 a2 pr pw pf nr cr nw cw nf cf mv W) (hb0 : b < w.heap.size) (hown : W.ownsRow w.heap.size 49 6 v n xs) (hg : (W.alloc ob).grownBy W' v.ownBlock) : AL w b o a0 a1 a2 pr pw pf nr cr nw cw nf cf mv W' := by
 have hb : Below w.heap.size W W' := below_grown (Below.refl _ _) h.bl.size hown hg
 obtain ⟨⟨q0, q1, q2, q3, q4, q5, q6⟩, hlt, hbl⟩ := h
 exact ⟨⟨(hb.cell (p := ⟨b, o, none⟩) hb0).trans q0, (hb.cell (p := ⟨b, o + 1, none⟩) hb0).trans q1, (hb.cell (p := ⟨b, o + 2, none⟩) hb0).trans q2, (hb.cell (p := ⟨b, o + 3, none⟩) hb0).trans q3, (hb.cell (p := ⟨b, o + 4, none⟩) hb0).trans q4, (hb.cell (p := ⟨b, o + 5, none⟩) hb0).trans q5, (hb.cell (p := ⟨b, o + 6, none⟩) hb0).trans q6⟩, Nat.lt_of_lt_of_le hlt hb.size, hbl.trans hb⟩
theorem Tryz.info49 : (Tryz.prog.info? 49).map (fun i => (i.zero, i.size, i.bytes)) = some (some (.agg #[.string ⟨#[]⟩, .int .i64 0, .int .u16 0, .slice none 0 0, .slice none 0 0, .slice none 0 0]), 6, 104) := by kernel_rfl
def SlRet (n : Nat) (w : World) (e : Ending) (w' : World) : Prop := ∃ gp gc, e = .returned (.slice gp n gc) ∧ Below w.heap.size w w'
theorem slice_of_own {w : World} {base e sz n : Nat} {v : Value} {xs : List Value} (h : w.ownsRow base e sz v n xs) : ∃ p cap, v = .slice p n cap ∧ n ≤ cap := by
 rcases h.2 with ⟨rfl, rfl⟩ | ⟨g, cap, cur, rfl, _, _, hcap, _⟩
 ·exact ⟨none, 0, rfl, Nat.le_refl _⟩
 ·exact ⟨_, cap, rfl, hcap⟩
end Go.Proofs.YtmcnpaehmnadeaaGreatDoor
