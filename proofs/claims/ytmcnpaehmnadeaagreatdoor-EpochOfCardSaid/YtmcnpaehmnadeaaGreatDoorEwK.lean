/-
  EpochOf: sederuntref29.Made returns a configuration.
-/
import Derived.Test.YtmcnpaehmnadeaaGreatDoorEwIJ
import Derived.Test.YtmcnpaehmnadeaaGreatDoorEwAC
namespace Go.Proofs.YtmcnpaehmnadeaaGreatDoor
open Go Go.RowKit

/-- inside Made: the first configuration, the result, what came in -/
structure OC (w w1 : World) (C : Nat) (nm : ByteArray) (kd mb : Int) (p3 : Option Addr) (n3 c3 : Nat) (p4 : Option Addr) (n4 c4 : Nat) (p5 : Option Addr) (n5 c5 : Nat) (W : World) : Prop where
  ca : W.heap[C]? = some (.cells #[.string nm, .int .i64 kd, .int .u16 mb, .slice p3 n3 c3, .slice p4 n4 c4, .slice p5 n5 c5] 49 (0, 0))
  ra : W.heap[w.heap.size + 1]? = some (.cells #[.string ⟨#[]⟩, .int .i64 0, .int .u16 0, .slice none 0 0, .slice none 0 0, .slice none 0 0] 49 (0, 0))
  b1 : Below w1.heap.size w1 W
  bl : Below w.heap.size w W
theorem OC.below {w w1 : World} {C : Nat} {nm : ByteArray} {kd mb : Int} {p3 : Option Addr} {n3 c3 : Nat} {p4 : Option Addr} {n4 c4 : Nat} {p5 : Option Addr} {n5 c5 : Nat} {W W' : World} (h : OC w w1 C nm kd mb p3 n3 c3 p4 n4 c4 p5 n5 c5 W) (hb : Below W.heap.size W W') : OC w w1 C nm kd mb p3 n3 c3 p4 n4 c4 p5 n5 c5 W' :=
  ⟨(hb.block _ (Array.getElem?_eq_some_iff.mp h.ca).1).trans h.ca, (hb.block _ (Array.getElem?_eq_some_iff.mp h.ra).1).trans h.ra, h.b1.trans (hb.mono h.b1.size), h.bl.trans (hb.mono h.bl.size)⟩
theorem OC.lt {w w1 : World} {C : Nat} {nm : ByteArray} {kd mb : Int} {p3 : Option Addr} {n3 c3 : Nat} {p4 : Option Addr} {n4 c4 : Nat} {p5 : Option Addr} {n5 c5 : Nat} {W : World} (h : OC w w1 C nm kd mb p3 n3 c3 p4 n4 c4 p5 n5 c5 W) : w.heap.size + 1 < W.heap.size := (Array.getElem?_eq_some_iff.mp h.ra).1
theorem OC.ltC {w w1 : World} {C : Nat} {nm : ByteArray} {kd mb : Int} {p3 : Option Addr} {n3 c3 : Nat} {p4 : Option Addr} {n4 c4 : Nat} {p5 : Option Addr} {n5 c5 : Nat} {W : World} (h : OC w w1 C nm kd mb p3 n3 c3 p4 n4 c4 p5 n5 c5 W) : C < W.heap.size := (Array.getElem?_eq_some_iff.mp h.ca).1
theorem ocS {w w1 : World} {C : Nat} {nm : ByteArray} {kd mb : Int} {p3 : Option Addr} {n3 c3 : Nat} {p4 : Option Addr} {n4 c4 : Nat} {p5 : Option Addr} {n5 c5 : Nat} {W : World} (h : OC w w1 C nm kd mb p3 n3 c3 p4 n4 c4 p5 n5 c5 W) : W.cell? ⟨C, 0, none⟩ = some (.string nm) ∧ W.cell? ⟨C, 1, none⟩ = some (.int .i64 kd) ∧ W.cell? ⟨C, 2, none⟩ = some (.int .u16 mb) ∧ W.cell? ⟨C, 3, none⟩ = some (.slice p3 n3 c3) ∧ W.cell? ⟨C, 4, none⟩ = some (.slice p4 n4 c4) ∧ W.cell? ⟨C, 5, none⟩ = some (.slice p5 n5 c5) ∧ OC w w1 C nm kd mb p3 n3 c3 p4 n4 c4 p5 n5 c5 W :=
  ⟨cellOf h.ca rfl, cellOf h.ca rfl, cellOf h.ca rfl, cellOf h.ca rfl, cellOf h.ca rfl, cellOf h.ca rfl, h⟩
theorem OC.set6 {w w1 : World} {C : Nat} {nm : ByteArray} {kd mb : Int} {p3 : Option Addr} {n3 c3 : Nat} {p4 : Option Addr} {n4 c4 : Nat} {p5 : Option Addr} {n5 c5 : Nat} {W : World} {b : Nat} (h : OC w w1 C nm kd mb p3 n3 c3 p4 n4 c4 p5 n5 c5 W) (hb : w.heap.size + 1 < b) (hC : C < b) (h1 : w1.heap.size ≤ b) (v0 v1 v2 v3 v4 v5 : Value) : OC w w1 C nm kd mb p3 n3 c3 p4 n4 c4 p5 n5 c5 ((((((W.setCell ⟨b, 0, none⟩ v0).setCell ⟨b, 1, none⟩ v1).setCell ⟨b, 2, none⟩ v2).setCell ⟨b, 3, none⟩ v3).setCell ⟨b, 4, none⟩ v4).setCell ⟨b, 5, none⟩ v5) :=
  ⟨(set6_other (by omega) v0 v1 v2 v3 v4 v5).trans h.ca, (set6_other (by omega) v0 v1 v2 v3 v4 v5).trans h.ra, below_set6 h.b1 h1 v0 v1 v2 v3 v4 v5, below_set6 h.bl (by omega) v0 v1 v2 v3 v4 v5⟩
/-- in the loop: the block of the result, its faults, all that is older -/
structure MK (w w3 : World) (T : Nat) (v0 v1 v2 v3 v4 v : Value) (l : List (Int × Int)) (W : World) : Prop where
  le : w.heap.size ≤ w3.heap.size
  hT : T < w3.heap.size
  h0 : w.heap.size + 1 < T
  old : ∀ B, B < w3.heap.size → B ≠ T → W.heap[B]? = w3.heap[B]?
  ta : W.heap[T]? = some (.cells #[v0, v1, v2, v3, v4, v] 49 (0, 0))
  own : W.ownsRow w3.heap.size 69 2 v l.length (ftV l)
  sz : w3.heap.size ≤ W.heap.size
  bl : Below w.heap.size w W
/-- .. a fault in a block of its own -/
structure KB (w w3 : World) (T F : Nat) (v0 v1 v2 v3 v4 v : Value) (x y : Int) (W : World) : Prop where
  le : w.heap.size ≤ w3.heap.size
  hT : T < w3.heap.size
  h0 : w.heap.size + 1 < T
  old : ∀ B, B < w3.heap.size → B ≠ T → W.heap[B]? = w3.heap[B]?
  ta : W.heap[T]? = some (.cells #[v0, v1, v2, v3, v4, v] 49 (0, 0))
  fa : W.heap[F]? = some (.cells #[.int .u16 x, .int .u16 y] 69 (0, 0))
  sz : w3.heap.size ≤ W.heap.size
  bl : Below w.heap.size w W
section
variable {w w3 : World} {T F : Nat} {v0 v1 v2 v3 v4 v : Value} {x y : Int} {W W' : World}
theorem KB.below (h : KB w w3 T F v0 v1 v2 v3 v4 v x y W) (hb : Below W.heap.size W W') : KB w w3 T F v0 v1 v2 v3 v4 v x y W' :=
  ⟨h.le, h.hT, h.h0, fun B h1 h2 => (hb.block B (Nat.lt_of_lt_of_le h1 h.sz)).trans (h.old B h1 h2), (hb.block _ (Array.getElem?_eq_some_iff.mp h.ta).1).trans h.ta, (hb.block _ (Array.getElem?_eq_some_iff.mp h.fa).1).trans h.fa, Nat.le_trans h.sz hb.size, h.bl.trans (hb.mono h.bl.size)⟩
theorem kbS (h : KB w w3 T F v0 v1 v2 v3 v4 v x y W) : W.cell? ⟨T, 5, none⟩ = some v ∧ W.cell? ⟨F, 0, none⟩ = some (.int .u16 x) ∧ W.cell? ⟨F, 1, none⟩ = some (.int .u16 y) ∧ KB w w3 T F v0 v1 v2 v3 v4 v x y W :=
  ⟨cellOf h.ta rfl, cellOf h.fa rfl, cellOf h.fa rfl, h⟩
theorem MK.fault {l : List (Int × Int)} (h : MK w w3 T v0 v1 v2 v3 v4 v l W) (x y : Int) : KB w w3 T W.heap.size v0 v1 v2 v3 v4 v x y (W.alloc (.cells #[.int .u16 x, .int .u16 y] 69)) := by
  have hb : Below W.heap.size W (W.alloc (.cells #[.int .u16 x, .int .u16 y] 69)) := (Below.refl _ _).alloc (Nat.le_refl _) _
  exact ⟨h.le, h.hT, h.h0, fun B h1 h2 => (hb.block B (Nat.lt_of_lt_of_le h1 h.sz)).trans (h.old B h1 h2), (hb.block _ (Array.getElem?_eq_some_iff.mp h.ta).1).trans h.ta, heap_alloc_new W _, Nat.le_trans h.sz hb.size, h.bl.trans (hb.mono h.bl.size)⟩
theorem kb_grown {u : Value} {ob : Obj} {n : Nat} {xs : List Value} (h : KB w w3 T F v0 v1 v2 v3 v4 v x y W) (hown : W.ownsRow w3.heap.size 69 2 u n xs) (hne : u.ownBlock ≠ some F) (hg : (W.alloc ob).grownBy W' u.ownBlock) : KB w w3 T F v0 v1 v2 v3 v4 v x y W' := by
  have hb : Below w3.heap.size W W' := below_grown (Below.refl _ _) h.sz hown hg
  have hF := (Array.getElem?_eq_some_iff.mp h.fa).1
  exact ⟨h.le, h.hT, h.h0, fun B h1 h2 => (hb.block B h1).trans (h.old B h1 h2), (hb.block T h.hT).trans h.ta,
    (hg.block F (by rw [World.size_alloc]; omega) (fun e => hne e.symm)).trans ((((Below.refl _ _).alloc (Nat.le_refl _) ob).block F hF).trans h.fa), Nat.le_trans h.sz hb.size,
    h.bl.trans (hb.mono h.le)⟩
theorem KB.put {u : Value} {l : List (Int × Int)} (h : KB w w3 T F v0 v1 v2 v3 v4 v x y W) (hown : W.ownsRow w3.heap.size 69 2 u l.length (ftV l)) : MK w w3 T v0 v1 v2 v3 v4 u l (W.setCell ⟨T, 5, none⟩ u) :=
  ⟨h.le, h.hT, h.h0, fun B h1 h2 => (set1_other h2 u).trans (h.old B h1 h2), row_put5 h.ta u, own_set hown (p := ⟨T, 5, none⟩) h.hT u, by simpa using h.sz, below_set h.bl (p := ⟨T, 5, none⟩) (by show _ ≤ T; have := h.h0; omega) u⟩
theorem MK.cell {l : List (Int × Int)} (h : MK w w3 T v0 v1 v2 v3 v4 v l W) {b o : Nat} (hb : b < w3.heap.size) (hn : b ≠ T) : W.cell? ⟨b, o, none⟩ = w3.cell? ⟨b, o, none⟩ := World.cell?_of_block (a := ⟨b, o, none⟩) (h.old b hb hn)
theorem MK.row {l : List (Int × Int)} (h : MK w w3 T v0 v1 v2 v3 v4 v l W) {b : Nat} {o : Obj} (ho : w3.heap[b]? = some o) (hn : b ≠ T) : W.heap[b]? = some o := (h.old b (Array.getElem?_eq_some_iff.mp ho).1 hn).trans ho
theorem MK.set {l : List (Int × Int)} (h : MK w w3 T v0 v1 v2 v3 v4 v l W) {p : Option Addr} {n : Nat} (hp : SetP w3 p n) (ho : Off p n T) : SetP W p n := by
  rcases hp with h1 | ⟨c, off, rfl, h2, h3⟩
  · exact .inl h1
  · rcases ho with ho | ho
    · exact .inl ho
    · exact .inr ⟨c, off, rfl, Nat.lt_of_lt_of_le h2 h.sz, fun i hi => by
        obtain ⟨z, hz⟩ := h3 i hi
        exact ⟨z, (h.cell h2 (ho _ rfl)).trans hz⟩⟩
end

set_option maxHeartbeats 3200000 in
set_option maxRecDepth 1000000 in
theorem made29_any (a0 : Int) (a1 : Nat) (a2 : Int) (pr pw pf : Option Addr) (nr cr nw cw nf cf mv : Nat) (nm0 : ByteArray) (w : World) (ha : a1 < 256) (hmv : mv < 256) (hr : nr ≤ 9223372036854775807) (hw : nw ≤ 9223372036854775807) (hsr : SetP w pr nr) (hsw : SetP w pw nw) (hsf : FltP w pf nf) :
    Calls Tryz.prog 34 #[.agg #[.int .u8 a0, .int .u8 a1, .int .u8 a2, .slice pr nr cr, .slice pw nw cw, .slice pf nf cf, .int .u8 mv], .string nm0] w (ConfRet w) := by
  obtain ⟨i0, hi, hz0, hz1, hz2⟩ := info_parts Tryz.info69
  have hb0 : Below w.heap.size w ((w.alloc (.cells #[.int .u8 a0, .int .u8 a1, .int .u8 a2, .slice pr nr cr, .slice pw nw cw, .slice pf nf cf, .int .u8 mv] 78)).alloc (.cells #[.string ⟨#[]⟩, .int .i64 0, .int .u16 0, .slice none 0 0, .slice none 0 0, .slice none 0 0] 49)) := ((Below.refl _ _).alloc (Nat.le_refl _) _).alloc (by simp) _
  have HO0 := Lib.hid (And.intro (heap_alloc2_old w (.cells #[.int .u8 a0, .int .u8 a1, .int .u8 a2, .slice pr nr cr, .slice pw nw cw, .slice pf nf cf, .int .u8 mv] 78) (.cells #[.string ⟨#[]⟩, .int .i64 0, .int .u16 0, .slice none 0 0, .slice none 0 0, .slice none 0 0] 49)) (And.intro (heap_alloc2_new w (.cells #[.int .u8 a0, .int .u8 a1, .int .u8 a2, .slice pr nr cr, .slice pw nw cw, .slice pf nf cf, .int .u8 mv] 78) (.cells #[.string ⟨#[]⟩, .int .i64 0, .int .u16 0, .slice none 0 0, .slice none 0 0, .slice none 0 0] 49)) hb0))
  have HSR := Lib.hid hsr
  have HSW := Lib.hid hsw
  have HSF := Lib.hid hsf
  clear hb0 hsr hsw hsf
  go_enter Tryz.func34, Tryz.ntmps34
  go_upto_region 1 with fail
  revert HO0
  generalize (w.alloc (.cells #[.int .u8 a0, .int .u8 a1, .int .u8 a2, .slice pr nr cr, .slice pw nw cw, .slice pf nf cf, .int .u8 mv] 78)).alloc (.cells #[.string ⟨#[]⟩, .int .i64 0, .int .u16 0, .slice none 0 0, .slice none 0 0, .slice none 0 0] 49) = W0
  intro HO0
  have d0 := cellOf HO0.out.1 (j := 0) rfl; have d1 := cellOf HO0.out.1 (j := 1) rfl; have d2 := cellOf HO0.out.1 (j := 2) rfl; have d3 := cellOf HO0.out.1 (j := 3) rfl; have d4 := cellOf HO0.out.1 (j := 4) rfl; have d5 := cellOf HO0.out.1 (j := 5) rfl
  go_upto_region 2 with (go_at_call 51; refine (of27_any a0 a1 a2 pr pw pf nr cr nw cw nf cf nm0 _ ha hr hw (HSR.out.below HO0.out.2.2) (HSW.out.below HO0.out.2.2) (HSF.out.below HO0.out.2.2)).mono ?_; rintro e w1 ⟨nm, kd, mb, p3, n3, c3, p4, n4, c4, p5, n5, c5, rfl, hn3, hc3, hn4, hc4, hn5, hc5, hp3, hp4, hp5, hb1⟩)
  have hA : Below w1.heap.size w1 (w1.alloc (.cells #[.string nm, .int .i64 kd, .int .u16 mb, .slice p3 n3 c3, .slice p4 n4 c4, .slice p5 n5 c5] 49)) := (Below.refl _ _).alloc (Nat.le_refl _) _
  have HR1 := Lib.hid ((hb1.block _ (Array.getElem?_eq_some_iff.mp HO0.out.2.1).1).trans HO0.out.2.1)
  have hD1 := (hb1.block _ (Array.getElem?_eq_some_iff.mp HO0.out.1).1).trans HO0.out.1
  have HB1 := Lib.hid (HO0.out.2.2.trans (hb1.mono HO0.out.2.2.size))
  have HC := Lib.hid (show OC w w1 w1.heap.size nm kd mb p3 n3 c3 p4 n4 c4 p5 n5 c5 (w1.alloc (.cells #[.string nm, .int .i64 kd, .int .u16 mb, .slice p3 n3 c3, .slice p4 n4 c4, .slice p5 n5 c5] 49)) from ⟨heap_alloc_new w1 _, (hA.block _ (Array.getElem?_eq_some_iff.mp HR1.out).1).trans HR1.out, hA, HB1.out.trans (hA.mono HB1.out.size)⟩)
  have hD := (hA.block _ (Array.getElem?_eq_some_iff.mp hD1).1).trans hD1
  have HL1 := Lib.hid (show w.heap.size + 1 < w1.heap.size from (Array.getElem?_eq_some_iff.mp HR1.out).1)
  have HP := Lib.hid (And.intro hp3 (And.intro hp4 hp5))
  clear hA hD1 hp3 hp4 hp5 hb1 d0 d1 d2 d3 d4 d5
  revert HC hD
  generalize w1.alloc (.cells #[.string nm, .int .i64 kd, .int .u16 mb, .slice p3 n3 c3, .slice p4 n4 c4, .slice p5 n5 c5] 49) = W2
  intro HC hD
  have d6 := cellOf hD (j := 6) rfl
  go_upto_region 3 with fail
  obtain ⟨m, hm⟩ : ∃ m : Nat, ((mv : Int) % 4) = (m : Int) := ⟨mv % 4, by omega⟩
  simp only [hm]
  clear hm d6 hD
  have em : (0 : Int) ≤ (m : Int) := by omega
  go_cut [7] (fun u wx => ∃ T : Nat, u = .pointer (some ⟨T, 0, none⟩) ∧ w.heap.size + 1 < T ∧ w1.heap.size < T ∧ OC w w1 w1.heap.size nm kd mb p3 n3 c3 p4 n4 c4 p5 n5 c5 wx ∧ CfgAt wx T (w.heap.size + 1))
  case first =>
    have hOc := HC.out.below (below_drew W2)
    refine wp_region_noPanic ?_
    refine wp_region_x 18 (fun W => W.cell? ⟨w1.heap.size, 0, none⟩ = some (.string nm) ∧ W.cell? ⟨w1.heap.size, 1, none⟩ = some (.int .i64 kd) ∧ W.cell? ⟨w1.heap.size, 2, none⟩ = some (.int .u16 mb) ∧ W.cell? ⟨w1.heap.size, 3, none⟩ = some (.slice p3 n3 c3) ∧ W.cell? ⟨w1.heap.size, 4, none⟩ = some (.slice p4 n4 c4) ∧ W.cell? ⟨w1.heap.size, 5, none⟩ = some (.slice p5 n5 c5) ∧ OC w w1 w1.heap.size nm kd mb p3 n3 c3 p4 n4 c4 p5 n5 c5 W) (by kernel_rfl) ?_ (fun hHeld => ?_)
    · exact ocS hOc
    refine wpAnyX_take (i := 0) (oi := { dst := some 18, op := _, type := _, pos := _, after := _, guard := _ }) (v := ?_) rfl (by kernel_rfl) (by kernel_rfl) (by kernel_rfl) (by kernel_rfl) (fun _ _ _ h => h) (Or.inl ⟨by rfl, ?_⟩) (by assumption) ?_
    rotate_left
    · intro w hSw
      try dsimp only at hSw
      go_simp
      try with_reducible rfl
    try simp only [Act.put, List.setIfInBounds_toArray, List.set_cons_zero, List.set_cons_succ]
    refine wpAnyX_take (i := 1) (oi := { dst := some 19, op := _, type := _, pos := _, after := _, guard := _ }) (v := ?_) rfl (by kernel_rfl) (by kernel_rfl) (by kernel_rfl) (by kernel_rfl) (fun _ _ _ h => h) (Or.inl ⟨by rfl, ?_⟩) (by assumption) ?_
    rotate_left
    · intro w hSw
      try dsimp only at hSw
      go_simp
      try with_reducible rfl
    try simp only [Act.put, List.setIfInBounds_toArray, List.set_cons_zero, List.set_cons_succ]
    refine wpAnyX_take (i := 2) (oi := { dst := some 20, op := _, type := _, pos := _, after := _, guard := _ }) (v := ?_) rfl (by kernel_rfl) (by kernel_rfl) (by kernel_rfl) (by kernel_rfl) (fun _ _ _ h => h) (Or.inl ⟨by rfl, ?_⟩) (by assumption) ?_
    rotate_left
    · intro w hSw
      try dsimp only at hSw
      go_simp
      try with_reducible rfl
    try simp only [Act.put, List.setIfInBounds_toArray, List.set_cons_zero, List.set_cons_succ]
    refine wpAnyX_take (i := 3) (oi := { dst := some 21, op := _, type := _, pos := _, after := _, guard := _ }) (v := ?_) rfl (by kernel_rfl) (by kernel_rfl) (by kernel_rfl) (by kernel_rfl) (fun _ _ _ h => h) (Or.inl ⟨by rfl, ?_⟩) (by assumption) ?_
    rotate_left
    · intro w hSw
      try dsimp only at hSw
      go_simp
      try with_reducible rfl
    try simp only [Act.put, List.setIfInBounds_toArray, List.set_cons_zero, List.set_cons_succ]
    refine wpAnyX_take (i := 4) (oi := { dst := some 22, op := _, type := _, pos := _, after := _, guard := _ }) (v := ?_) rfl (by kernel_rfl) (by kernel_rfl) (by kernel_rfl) (by kernel_rfl) (fun _ _ _ h => h) (Or.inl ⟨by rfl, ?_⟩) (by assumption) ?_
    rotate_left
    · intro w hSw
      try dsimp only at hSw
      go_simp
      try with_reducible rfl
    try simp only [Act.put, List.setIfInBounds_toArray, List.set_cons_zero, List.set_cons_succ]
    refine wpAnyX_take (i := 5) (oi := { dst := some 23, op := _, type := _, pos := _, after := _, guard := _ }) (v := ?_) rfl (by kernel_rfl) (by kernel_rfl) (by kernel_rfl) (by kernel_rfl) (fun _ _ _ h => h) (Or.inl ⟨by rfl, ?_⟩) (by assumption) ?_
    rotate_left
    · intro w hSw
      try dsimp only at hSw
      go_simp
      try with_reducible rfl
    try simp only [Act.put, List.setIfInBounds_toArray, List.set_cons_zero, List.set_cons_succ]
    refine wpAnyX_take (i := 6) (oi := { dst := some 24, op := _, type := _, pos := _, after := _, guard := _ }) (v := ?_) rfl (by kernel_rfl) (by kernel_rfl) (by kernel_rfl) (by kernel_rfl) (fun _ _ _ h => h) (Or.inl ⟨by rfl, ?_⟩) (by assumption) ?_
    rotate_left
    · intro w hSw
      try dsimp only at hSw
      go_simp
      try with_reducible rfl
    try simp only [Act.put, List.setIfInBounds_toArray, List.set_cons_zero, List.set_cons_succ]
    refine wpAnyX_take (i := 7) (oi := { dst := some 25, op := _, type := _, pos := _, after := _, guard := _ }) (v := ?_) rfl (by kernel_rfl) (by kernel_rfl) (by kernel_rfl) (by kernel_rfl) (fun _ _ _ h => h) (Or.inl ⟨by rfl, ?_⟩) (by assumption) ?_
    rotate_left
    · intro w hSw
      try dsimp only at hSw
      go_simp
      try with_reducible rfl
    try simp only [Act.put, List.setIfInBounds_toArray, List.set_cons_zero, List.set_cons_succ]
    refine wpAnyX_take (i := 8) (oi := { dst := some 26, op := _, type := _, pos := _, after := _, guard := _ }) (v := ?_) rfl (by kernel_rfl) (by kernel_rfl) (by kernel_rfl) (by kernel_rfl) (fun _ _ _ h => h) (Or.inl ⟨by rfl, ?_⟩) (by assumption) ?_
    rotate_left
    · intro w hSw
      try dsimp only at hSw
      go_simp
      try with_reducible rfl
    try simp only [Act.put, List.setIfInBounds_toArray, List.set_cons_zero, List.set_cons_succ]
    refine wpAnyX_take (i := 9) (oi := { dst := some 27, op := _, type := _, pos := _, after := _, guard := _ }) (v := ?_) rfl (by kernel_rfl) (by kernel_rfl) (by kernel_rfl) (by kernel_rfl) (fun _ _ _ h => h) (Or.inl ⟨by rfl, ?_⟩) (by assumption) ?_
    rotate_left
    · intro w hSw
      try dsimp only at hSw
      go_simp
      try with_reducible rfl
    try simp only [Act.put, List.setIfInBounds_toArray, List.set_cons_zero, List.set_cons_succ]
    refine wpAnyX_take (i := 10) (oi := { dst := some 28, op := _, type := _, pos := _, after := _, guard := _ }) (v := ?_) rfl (by kernel_rfl) (by kernel_rfl) (by kernel_rfl) (by kernel_rfl) (fun _ _ _ h => h) (Or.inl ⟨by rfl, ?_⟩) (by assumption) ?_
    rotate_left
    · intro w hSw
      try dsimp only at hSw
      go_simp
      try with_reducible rfl
    try simp only [Act.put, List.setIfInBounds_toArray, List.set_cons_zero, List.set_cons_succ]
    refine wpAnyX_take (i := 12) (oi := { dst := some 30, op := _, type := _, pos := _, after := _, guard := _ }) (v := ?_) rfl (by kernel_rfl) (by kernel_rfl) (by kernel_rfl) (by kernel_rfl) (fun _ _ _ h => h) (Or.inl ⟨by rfl, ?_⟩) (by assumption) ?_
    rotate_left
    · intro w hSw
      try dsimp only at hSw
      go_simp
      try with_reducible rfl
    try simp only [Act.put, List.setIfInBounds_toArray, List.set_cons_zero, List.set_cons_succ]
    refine wpAnyX_take (i := 13) (oi := { dst := some 31, op := _, type := _, pos := _, after := _, guard := _ }) (v := ?_) rfl (by kernel_rfl) (by kernel_rfl) (by kernel_rfl) (by kernel_rfl) (fun _ _ _ h => h) (Or.inl ⟨by rfl, ?_⟩) (by assumption) ?_
    rotate_left
    · intro w hSw
      try dsimp only at hSw
      go_simp
      try with_reducible rfl
    try simp only [Act.put, List.setIfInBounds_toArray, List.set_cons_zero, List.set_cons_succ]
    refine wpAnyX_take (i := 14) (oi := { dst := some 32, op := _, type := _, pos := _, after := _, guard := _ }) (v := ?_) rfl (by kernel_rfl) (by kernel_rfl) (by kernel_rfl) (by kernel_rfl) (fun _ _ _ h => h) (Or.inl ⟨by rfl, ?_⟩) (by assumption) ?_
    rotate_left
    · intro w hSw
      try dsimp only at hSw
      go_simp
      try with_reducible rfl
    try simp only [Act.put, List.setIfInBounds_toArray, List.set_cons_zero, List.set_cons_succ]
    refine wpAnyX_ready (rs := [11, 17]) (by kernel_rfl) (by simp) ?_
    refine AllReadyX.cons (o := { dst := some 29, op := _, type := _, pos := _, after := _, guard := _ }) rfl (fun K hK => ?_) ?_
    · go_simp
      go_at_call 52
      refine (moved_any p3 n3 c3 m _ hn3 (HP.out.1.below hOc.b1)).mono ?_
      rintro e x1 ⟨p11, n11, c11, rfl, hn11, hc11, hp11, hf11, hb1⟩
      have hO1 := hOc.below hb1
      have hr11 := off_new (n := n11) hf11 hOc.lt
      go_simp
      refine hK.out _ _ ?_ (fun hHeld => ?_)
      · exact ocS hO1
      clear hK K
      try simp only [Act.put, List.setIfInBounds_toArray, List.set_cons_zero, List.set_cons_succ]
      refine wpAnyX_ready (rs := [15, 17]) (by kernel_rfl) (by simp) ?_
      refine AllReadyX.cons (o := { dst := some 33, op := _, type := _, pos := _, after := _, guard := _ }) rfl (fun K hK => ?_) ?_
      · go_simp
        go_at_call 52
        refine (moved_any p4 n4 c4 m _ hn4 (HP.out.2.1.below hO1.b1)).mono ?_
        rintro e x2 ⟨p15, n15, c15, rfl, hn15, hc15, hp15, hf15, hb2⟩
        have hO2 := hO1.below hb2
        have hr15 := off_new (n := n15) hf15 hO1.lt
        have hp112 := hp11.below hb2
        go_simp
        refine hK.out _ _ ?_ (fun hHeld => ?_)
        · exact ocS hO2
        clear hK K
        try simp only [Act.put, List.setIfInBounds_toArray, List.set_cons_zero, List.set_cons_succ]
        refine wpAnyX_take (i := 16) (oi := { dst := some 34, op := _, type := _, pos := _, after := _, guard := _ }) (v := ?_) rfl (by kernel_rfl) (by kernel_rfl) (by kernel_rfl) (by kernel_rfl) (fun _ _ _ h => h) (Or.inl ⟨by rfl, ?_⟩) (by assumption) ?_
        rotate_left
        · intro w hSw
          try dsimp only at hSw
          go_simp
          try with_reducible rfl
        try simp only [Act.put, List.setIfInBounds_toArray, List.set_cons_zero, List.set_cons_succ]
        refine wpAnyX_ready (rs := [17]) (by kernel_rfl) (by simp) ?_
        refine AllReadyX.cons (o := { dst := some 7, op := _, type := _, pos := _, after := _, guard := _ }) rfl (fun K hK => ?_) ?_
        · go_simp
          have hX3 : (x2.alloc (.cells #[.string ⟨#[]⟩, .int .i64 0, .int .u16 0, .slice none 0 0, .slice none 0 0, .slice none 0 0] 49)).heap[x2.heap.size]? = some (.cells #[.string ⟨#[]⟩, .int .i64 0, .int .u16 0, .slice none 0 0, .slice none 0 0, .slice none 0 0] 49) := heap_alloc_new x2 _
          have hO3 := hO2.below ((Below.refl _ _).alloc (Nat.le_refl _) (.cells #[.string ⟨#[]⟩, .int .i64 0, .int .u16 0, .slice none 0 0, .slice none 0 0, .slice none 0 0] 49))
          have hL := hO2.lt
          have hLC := hO2.ltC
          have ho11 := off_old hp112 (Nat.le_refl _)
          have hp11p := hp112
          have hp113 := hp112.below ((Below.refl _ _).alloc (Nat.le_refl _) (.cells #[.string ⟨#[]⟩, .int .i64 0, .int .u16 0, .slice none 0 0, .slice none 0 0, .slice none 0 0] 49))
          have ho15 := off_old hp15 (Nat.le_refl _)
          have hp15p := hp15
          have hp153 := hp15.below ((Below.refl _ _).alloc (Nat.le_refl _) (.cells #[.string ⟨#[]⟩, .int .i64 0, .int .u16 0, .slice none 0 0, .slice none 0 0, .slice none 0 0] 49))
          refine hK.out _ _ ?_ (fun hHeld => ?_)
          · exact ocS hO3
          clear hK K
          try simp only [Act.put, List.setIfInBounds_toArray, List.set_cons_zero, List.set_cons_succ]
          refine wpAnyX_ready (rs := [18]) (by kernel_rfl) (by simp) ?_
          refine AllReadyX.last (o := { dst := none, op := _, type := _, pos := _, after := _, guard := _ }) rfl (fun K hK => ?_) ?_
          · have z0 := cellOf hX3 (j := 0) rfl
            have z1 := cellOf hX3 (j := 1) rfl
            have z2 := cellOf hX3 (j := 2) rfl
            have z3 := cellOf hX3 (j := 3) rfl
            have z4 := cellOf hX3 (j := 4) rfl
            have z5 := cellOf hX3 (j := 5) rfl
            have y0 := frozenOf hX3 (j := 0)
            have y1 := frozenOf hX3 (j := 1)
            have y2 := frozenOf hX3 (j := 2)
            have y3 := frozenOf hX3 (j := 3)
            have y4 := frozenOf hX3 (j := 4)
            have y5 := frozenOf hX3 (j := 5)
            go_simp
            refine hK.out _ _ ?_
            clear hK K
            clear z0 z1 z2 z3 z4 z5 y0 y1 y2 y3 y4 y5
            try simp only [Act.put, List.setIfInBounds_toArray, List.set_cons_zero, List.set_cons_succ]
            refine wpAnyX_done (by kernel_rfl) ?_ _
            refine NoPanic.normal ?_
            go_wp2_with fail
            go_meet
            exact ⟨_, rfl, hL, hLC, hO2.below ((Below.refl _ _).alloc (Nat.le_refl _) _), _, _, _, _, _, _, _, _, _, heap_alloc_new _ _, hn11, hc11, hn15, hc15, hp11p.below ((Below.refl _ _).alloc (Nat.le_refl _) _), hp15p.below ((Below.refl _ _).alloc (Nat.le_refl _) _), ho11, ho15, hr11, hr15⟩
          exact AllReadyX.nil
        exact AllReadyX.nil
      refine AllReadyX.cons (o := { dst := some 7, op := _, type := _, pos := _, after := _, guard := _ }) rfl (fun K hK => ?_) ?_
      · go_simp
        have hX4 : (x1.alloc (.cells #[.string ⟨#[]⟩, .int .i64 0, .int .u16 0, .slice none 0 0, .slice none 0 0, .slice none 0 0] 49)).heap[x1.heap.size]? = some (.cells #[.string ⟨#[]⟩, .int .i64 0, .int .u16 0, .slice none 0 0, .slice none 0 0, .slice none 0 0] 49) := heap_alloc_new x1 _
        have hO4 := hO1.below ((Below.refl _ _).alloc (Nat.le_refl _) (.cells #[.string ⟨#[]⟩, .int .i64 0, .int .u16 0, .slice none 0 0, .slice none 0 0, .slice none 0 0] 49))
        have hL := hO1.lt
        have hLC := hO1.ltC
        have ho11 := off_old hp11 (Nat.le_refl _)
        have hp11p := hp11
        have hp114 := hp11.below ((Below.refl _ _).alloc (Nat.le_refl _) (.cells #[.string ⟨#[]⟩, .int .i64 0, .int .u16 0, .slice none 0 0, .slice none 0 0, .slice none 0 0] 49))
        refine hK.out _ _ ?_ (fun hHeld => ?_)
        · exact ocS hO4
        clear hK K
        try simp only [Act.put, List.setIfInBounds_toArray, List.set_cons_zero, List.set_cons_succ]
        refine wpAnyX_ready (rs := [15]) (by kernel_rfl) (by simp) ?_
        refine AllReadyX.cons (o := { dst := some 33, op := _, type := _, pos := _, after := _, guard := _ }) rfl (fun K hK => ?_) ?_
        · go_simp
          go_at_call 52
          refine (moved_any p4 n4 c4 m _ hn4 (HP.out.2.1.below hO4.b1)).mono ?_
          rintro e x5 ⟨p15, n15, c15, rfl, hn15, hc15, hp15, hf15, hb5⟩
          have hO5 := hO4.below hb5
          have hr15 := off_new (n := n15) hf15 hO4.lt
          have hX5 := (hb5.block _ (Array.getElem?_eq_some_iff.mp hX4).1).trans hX4
          have ho15 := off_new (n := n15) hf15 (Array.getElem?_eq_some_iff.mp hX4).1
          have hp115 := hp114.below hb5
          go_simp
          refine hK.out _ _ ?_ (fun hHeld => ?_)
          · exact ocS hO5
          clear hK K
          try simp only [Act.put, List.setIfInBounds_toArray, List.set_cons_zero, List.set_cons_succ]
          refine wpAnyX_take (i := 16) (oi := { dst := some 34, op := _, type := _, pos := _, after := _, guard := _ }) (v := ?_) rfl (by kernel_rfl) (by kernel_rfl) (by kernel_rfl) (by kernel_rfl) (fun _ _ _ h => h) (Or.inl ⟨by rfl, ?_⟩) (by assumption) ?_
          rotate_left
          · intro w hSw
            try dsimp only at hSw
            go_simp
            try with_reducible rfl
          try simp only [Act.put, List.setIfInBounds_toArray, List.set_cons_zero, List.set_cons_succ]
          refine wpAnyX_ready (rs := [18]) (by kernel_rfl) (by simp) ?_
          refine AllReadyX.last (o := { dst := none, op := _, type := _, pos := _, after := _, guard := _ }) rfl (fun K hK => ?_) ?_
          · have z0 := cellOf hX5 (j := 0) rfl
            have z1 := cellOf hX5 (j := 1) rfl
            have z2 := cellOf hX5 (j := 2) rfl
            have z3 := cellOf hX5 (j := 3) rfl
            have z4 := cellOf hX5 (j := 4) rfl
            have z5 := cellOf hX5 (j := 5) rfl
            have y0 := frozenOf hX5 (j := 0)
            have y1 := frozenOf hX5 (j := 1)
            have y2 := frozenOf hX5 (j := 2)
            have y3 := frozenOf hX5 (j := 3)
            have y4 := frozenOf hX5 (j := 4)
            have y5 := frozenOf hX5 (j := 5)
            go_simp
            refine hK.out _ _ ?_
            clear hK K
            clear z0 z1 z2 z3 z4 z5 y0 y1 y2 y3 y4 y5
            try simp only [Act.put, List.setIfInBounds_toArray, List.set_cons_zero, List.set_cons_succ]
            refine wpAnyX_done (by kernel_rfl) ?_ _
            refine NoPanic.normal ?_
            go_wp2_with fail
            go_meet
            exact ⟨_, rfl, hL, hLC, hO5.set6 hL hLC (Nat.le_of_lt hLC) _ _ _ _ _ _, _, _, _, _, _, _, _, _, _, row_set6 hX5 _ _ _ _ _ _, hn11, hc11, hn15, hc15, hp115.set6 ho11 _ _ _ _ _ _, hp15.set6 ho15 _ _ _ _ _ _, ho11, ho15, hr11, hr15⟩
          exact AllReadyX.nil
        exact AllReadyX.nil
      exact AllReadyX.nil
    refine AllReadyX.cons (o := { dst := some 7, op := _, type := _, pos := _, after := _, guard := _ }) rfl (fun K hK => ?_) ?_
    · go_simp
      have hX6 : (W2.drew.alloc (.cells #[.string ⟨#[]⟩, .int .i64 0, .int .u16 0, .slice none 0 0, .slice none 0 0, .slice none 0 0] 49)).heap[W2.heap.size]? = some (.cells #[.string ⟨#[]⟩, .int .i64 0, .int .u16 0, .slice none 0 0, .slice none 0 0, .slice none 0 0] 49) := heap_alloc_new W2.drew _
      have hO6 := hOc.below ((Below.refl _ _).alloc (Nat.le_refl _) (.cells #[.string ⟨#[]⟩, .int .i64 0, .int .u16 0, .slice none 0 0, .slice none 0 0, .slice none 0 0] 49))
      have hL := hOc.lt
      have hLC := hOc.ltC
      refine hK.out _ _ ?_ (fun hHeld => ?_)
      · exact ocS hO6
      clear hK K
      try simp only [Act.put, List.setIfInBounds_toArray, List.set_cons_zero, List.set_cons_succ]
      refine wpAnyX_ready (rs := [11]) (by kernel_rfl) (by simp) ?_
      refine AllReadyX.cons (o := { dst := some 29, op := _, type := _, pos := _, after := _, guard := _ }) rfl (fun K hK => ?_) ?_
      · go_simp
        go_at_call 52
        refine (moved_any p3 n3 c3 m _ hn3 (HP.out.1.below hO6.b1)).mono ?_
        rintro e x7 ⟨p11, n11, c11, rfl, hn11, hc11, hp11, hf11, hb7⟩
        have hO7 := hO6.below hb7
        have hr11 := off_new (n := n11) hf11 hO6.lt
        have hX7 := (hb7.block _ (Array.getElem?_eq_some_iff.mp hX6).1).trans hX6
        have ho11 := off_new (n := n11) hf11 (Array.getElem?_eq_some_iff.mp hX6).1
        go_simp
        refine hK.out _ _ ?_ (fun hHeld => ?_)
        · exact ocS hO7
        clear hK K
        try simp only [Act.put, List.setIfInBounds_toArray, List.set_cons_zero, List.set_cons_succ]
        refine wpAnyX_ready (rs := [15]) (by kernel_rfl) (by simp) ?_
        refine AllReadyX.cons (o := { dst := some 33, op := _, type := _, pos := _, after := _, guard := _ }) rfl (fun K hK => ?_) ?_
        · go_simp
          go_at_call 52
          refine (moved_any p4 n4 c4 m _ hn4 (HP.out.2.1.below hO7.b1)).mono ?_
          rintro e x8 ⟨p15, n15, c15, rfl, hn15, hc15, hp15, hf15, hb8⟩
          have hO8 := hO7.below hb8
          have hr15 := off_new (n := n15) hf15 hO7.lt
          have hX8 := (hb8.block _ (Array.getElem?_eq_some_iff.mp hX7).1).trans hX7
          have ho15 := off_new (n := n15) hf15 (Array.getElem?_eq_some_iff.mp hX7).1
          have hp118 := hp11.below hb8
          go_simp
          refine hK.out _ _ ?_ (fun hHeld => ?_)
          · exact ocS hO8
          clear hK K
          try simp only [Act.put, List.setIfInBounds_toArray, List.set_cons_zero, List.set_cons_succ]
          refine wpAnyX_take (i := 16) (oi := { dst := some 34, op := _, type := _, pos := _, after := _, guard := _ }) (v := ?_) rfl (by kernel_rfl) (by kernel_rfl) (by kernel_rfl) (by kernel_rfl) (fun _ _ _ h => h) (Or.inl ⟨by rfl, ?_⟩) (by assumption) ?_
          rotate_left
          · intro w hSw
            try dsimp only at hSw
            go_simp
            try with_reducible rfl
          try simp only [Act.put, List.setIfInBounds_toArray, List.set_cons_zero, List.set_cons_succ]
          refine wpAnyX_ready (rs := [18]) (by kernel_rfl) (by simp) ?_
          refine AllReadyX.last (o := { dst := none, op := _, type := _, pos := _, after := _, guard := _ }) rfl (fun K hK => ?_) ?_
          · have z0 := cellOf hX8 (j := 0) rfl
            have z1 := cellOf hX8 (j := 1) rfl
            have z2 := cellOf hX8 (j := 2) rfl
            have z3 := cellOf hX8 (j := 3) rfl
            have z4 := cellOf hX8 (j := 4) rfl
            have z5 := cellOf hX8 (j := 5) rfl
            have y0 := frozenOf hX8 (j := 0)
            have y1 := frozenOf hX8 (j := 1)
            have y2 := frozenOf hX8 (j := 2)
            have y3 := frozenOf hX8 (j := 3)
            have y4 := frozenOf hX8 (j := 4)
            have y5 := frozenOf hX8 (j := 5)
            go_simp
            refine hK.out _ _ ?_
            clear hK K
            clear z0 z1 z2 z3 z4 z5 y0 y1 y2 y3 y4 y5
            try simp only [Act.put, List.setIfInBounds_toArray, List.set_cons_zero, List.set_cons_succ]
            refine wpAnyX_done (by kernel_rfl) ?_ _
            refine NoPanic.normal ?_
            go_wp2_with fail
            go_meet
            exact ⟨_, rfl, hL, hLC, hO8.set6 hL hLC (Nat.le_of_lt hLC) _ _ _ _ _ _, _, _, _, _, _, _, _, _, _, row_set6 hX8 _ _ _ _ _ _, hn11, hc11, hn15, hc15, hp118.set6 ho11 _ _ _ _ _ _, hp15.set6 ho15 _ _ _ _ _ _, ho11, ho15, hr11, hr15⟩
          exact AllReadyX.nil
        exact AllReadyX.nil
      exact AllReadyX.nil
    exact AllReadyX.nil
  case rest =>
    obtain ⟨T, rfl, hT0, hT1, hO, nm', kd', mb', q3, m3, e3, q4, m4, e4, hX, hm3, he3, hm4, he4, hq3, hq4, ho3, ho4, hr3, hr4⟩ := hcut
    have HT0 := Lib.hid hT0
    have HK0 := Lib.hid (show MK w wc T (.string nm') (.int .i64 kd') (.int .u16 mb') (.slice q3 m3 e3) (.slice q4 m4 e4) (.slice none 0 0) [] wc from ⟨hO.bl.size, (Array.getElem?_eq_some_iff.mp hX).1, hT0, fun _ _ _ => rfl, hX, World.ownsRow_nil _ _ _ _, Nat.le_refl _, hO.bl⟩)
    have HX3 := Lib.hid (And.intro hq3 (And.intro hq4 (And.intro ho3 (And.intro ho4 (And.intro hr3 hr4)))))
    have HO := Lib.hid hO
    have HP5 := Lib.hid (HP.out.2.2.below hO.b1)
    have HF5 := Lib.hid (foff_old HP.out.2.2 (Nat.le_of_lt hT1))
    have HCT := Lib.hid (show w1.heap.size ≠ T by omega)
    clear hX hq3 hq4 ho3 ho4 hr3 hr4 hO hT0 hT1
    go_upto_block 0 with fail
    go_wp2_with fail
    go_loopw [8] (fun i wr => ∃ (k : Nat) (v : Value) (l : List (Int × Int)), k ≤ n5 ∧ i = .int .i64 k ∧ l.length = k ∧ MK w wc T (.string nm') (.int .i64 kd') (.int .u16 mb') (.slice q3 m3 e3) (.slice q4 m4 e4) v l wr) (fun i _ => n5 - (intOf i).toNat)
    case atStart => exact ⟨0, _, [], Nat.zero_le _, rfl, rfl, HK0.out⟩
    case round =>
      obtain ⟨k, v, l, hk, rfl, hl, hK⟩ := hrel
      have HK := Lib.hid hK
      have hq5 := cellOf (hK.row HO.out.ca HCT.out) (j := 5) rfl
      clear hK
      by_cases hkn : k < n5
      · have e0 : (0 : Int) ≤ (k : Int) := by omega
        have e1 : (k : Int) < (n5 : Int) := by omega
        obtain ⟨b, off, rfl, hbb, x, y, hx, hy⟩ := HP5.out.at hkn
        have hbT : b ≠ T := by
          rcases HF5.out with h | h
          · omega
          · exact h _ rfl
        have hx1 := (HK.out.cell (o := off + k * 2) hbb hbT).trans hx
        have hy1 := (HK.out.cell (o := off + k * 2 + 1) hbb hbT).trans hy
        clear hx hy
        go_upto_region 8 with fail
        clear hx1 hy1 hq5
        have HKB := Lib.hid (HK.out.fault x y)
        have HOW := Lib.hid (own_below HK.out.own ((Below.refl _ _).alloc (Nat.le_refl _) (.cells #[.int .u16 x, .int .u16 y] 69)))
        have HNE := Lib.hid (show v.ownBlock ≠ some wr.heap.size from fun e => by have := (HK.out.own.lt _ e).2; omega)
        revert HKB HOW HNE
        generalize wr.alloc (.cells #[.int .u16 x, .int .u16 y] 69) = W7
        generalize wr.heap.size = F
        intro HKB HOW HNE
        have hK8 := HKB.out.below (below_drew W7)
        refine wp_region_noPanic ?_
        refine wp_region_x 16 (fun W => W.cell? ⟨T, 5, none⟩ = some v ∧ W.cell? ⟨F, 0, none⟩ = some (.int .u16 x) ∧ W.cell? ⟨F, 1, none⟩ = some (.int .u16 y) ∧ KB w wc T F (.string nm') (.int .i64 kd') (.int .u16 mb') (.slice q3 m3 e3) (.slice q4 m4 e4) v x y W) (by kernel_rfl) ?_ (fun hHeld => ?_)
        · exact kbS hK8
        refine wpAnyX_take (i := 0) (oi := { dst := some 47, op := _, type := _, pos := _, after := _, guard := _ }) (v := ?_) rfl (by kernel_rfl) (by kernel_rfl) (by kernel_rfl) (by kernel_rfl) (fun _ _ _ h => h) (Or.inl ⟨by rfl, ?_⟩) (by assumption) ?_
        rotate_left
        · intro w hSw
          try dsimp only at hSw
          go_simp
          try with_reducible rfl
        try simp only [Act.put, List.setIfInBounds_toArray, List.set_cons_zero, List.set_cons_succ]
        refine wpAnyX_take (i := 1) (oi := { dst := some 48, op := _, type := _, pos := _, after := _, guard := _ }) (v := ?_) rfl (by kernel_rfl) (by kernel_rfl) (by kernel_rfl) (by kernel_rfl) (fun _ _ _ h => h) (Or.inl ⟨by rfl, ?_⟩) (by assumption) ?_
        rotate_left
        · intro w hSw
          try dsimp only at hSw
          go_simp
          try with_reducible rfl
        try simp only [Act.put, List.setIfInBounds_toArray, List.set_cons_zero, List.set_cons_succ]
        refine wpAnyX_take (i := 2) (oi := { dst := some 49, op := _, type := _, pos := _, after := _, guard := _ }) (v := ?_) rfl (by kernel_rfl) (by kernel_rfl) (by kernel_rfl) (by kernel_rfl) (fun _ _ _ h => h) (Or.inl ⟨by rfl, ?_⟩) (by assumption) ?_
        rotate_left
        · intro w hSw
          try dsimp only at hSw
          go_simp
          try with_reducible rfl
        try simp only [Act.put, List.setIfInBounds_toArray, List.set_cons_zero, List.set_cons_succ]
        refine wpAnyX_take (i := 3) (oi := { dst := some 50, op := _, type := _, pos := _, after := _, guard := _ }) (v := ?_) rfl (by kernel_rfl) (by kernel_rfl) (by kernel_rfl) (by kernel_rfl) (fun _ _ _ h => h) (Or.inl ⟨by rfl, ?_⟩) (by assumption) ?_
        rotate_left
        · intro w hSw
          try dsimp only at hSw
          go_simp
          try with_reducible rfl
        try simp only [Act.put, List.setIfInBounds_toArray, List.set_cons_zero, List.set_cons_succ]
        refine wpAnyX_take (i := 4) (oi := { dst := some 51, op := _, type := _, pos := _, after := _, guard := _ }) (v := ?_) rfl (by kernel_rfl) (by kernel_rfl) (by kernel_rfl) (by kernel_rfl) (fun _ _ _ h => h) (Or.inl ⟨by rfl, ?_⟩) (by assumption) ?_
        rotate_left
        · intro w hSw
          try dsimp only at hSw
          go_simp
          try with_reducible rfl
        try simp only [Act.put, List.setIfInBounds_toArray, List.set_cons_zero, List.set_cons_succ]
        refine wpAnyX_take (i := 5) (oi := { dst := some 52, op := _, type := _, pos := _, after := _, guard := _ }) (v := ?_) rfl (by kernel_rfl) (by kernel_rfl) (by kernel_rfl) (by kernel_rfl) (fun _ _ _ h => h) (Or.inl ⟨by rfl, ?_⟩) (by assumption) ?_
        rotate_left
        · intro w hSw
          try dsimp only at hSw
          go_simp
          try with_reducible rfl
        try simp only [Act.put, List.setIfInBounds_toArray, List.set_cons_zero, List.set_cons_succ]
        refine wpAnyX_take (i := 6) (oi := { dst := some 53, op := _, type := _, pos := _, after := _, guard := _ }) (v := ?_) rfl (by kernel_rfl) (by kernel_rfl) (by kernel_rfl) (by kernel_rfl) (fun _ _ _ h => h) (Or.inl ⟨by rfl, ?_⟩) (by assumption) ?_
        rotate_left
        · intro w hSw
          try dsimp only at hSw
          go_simp
          try with_reducible rfl
        try simp only [Act.put, List.setIfInBounds_toArray, List.set_cons_zero, List.set_cons_succ]
        refine wpAnyX_take (i := 7) (oi := { dst := some 54, op := _, type := _, pos := _, after := _, guard := _ }) (v := ?_) rfl (by kernel_rfl) (by kernel_rfl) (by kernel_rfl) (by kernel_rfl) (fun _ _ _ h => h) (Or.inl ⟨by rfl, ?_⟩) (by assumption) ?_
        rotate_left
        · intro w hSw
          try dsimp only at hSw
          go_simp
          try with_reducible rfl
        try simp only [Act.put, List.setIfInBounds_toArray, List.set_cons_zero, List.set_cons_succ]
        refine wpAnyX_take (i := 8) (oi := { dst := some 55, op := _, type := _, pos := _, after := _, guard := _ }) (v := ?_) rfl (by kernel_rfl) (by kernel_rfl) (by kernel_rfl) (by kernel_rfl) (fun _ _ _ h => h) (Or.inl ⟨by rfl, ?_⟩) (by assumption) ?_
        rotate_left
        · intro w hSw
          try dsimp only at hSw
          go_simp
          try with_reducible rfl
        try simp only [Act.put, List.setIfInBounds_toArray, List.set_cons_zero, List.set_cons_succ]
        refine wpAnyX_take (i := 9) (oi := { dst := some 56, op := _, type := _, pos := _, after := _, guard := _ }) (v := ?_) rfl (by kernel_rfl) (by kernel_rfl) (by kernel_rfl) (by kernel_rfl) (fun _ _ _ h => h) (Or.inl ⟨by rfl, ?_⟩) (by assumption) ?_
        rotate_left
        · intro w hSw
          try dsimp only at hSw
          go_simp
          try with_reducible rfl
        try simp only [Act.put, List.setIfInBounds_toArray, List.set_cons_zero, List.set_cons_succ]
        refine wpAnyX_take (i := 10) (oi := { dst := some 57, op := _, type := _, pos := _, after := _, guard := _ }) (v := ?_) rfl (by kernel_rfl) (by kernel_rfl) (by kernel_rfl) (by kernel_rfl) (fun _ _ _ h => h) (Or.inl ⟨by rfl, ?_⟩) (by assumption) ?_
        rotate_left
        · intro w hSw
          try dsimp only at hSw
          go_simp
          try with_reducible rfl
        try simp only [Act.put, List.setIfInBounds_toArray, List.set_cons_zero, List.set_cons_succ]
        refine wpAnyX_take (i := 11) (oi := { dst := some 58, op := _, type := _, pos := _, after := _, guard := _ }) (v := ?_) rfl (by kernel_rfl) (by kernel_rfl) (by kernel_rfl) (by kernel_rfl) (fun _ _ _ h => h) (Or.inl ⟨by rfl, ?_⟩) (by assumption) ?_
        rotate_left
        · intro w hSw
          try dsimp only at hSw
          go_simp
          try with_reducible rfl
        try simp only [Act.put, List.setIfInBounds_toArray, List.set_cons_zero, List.set_cons_succ]
        refine wpAnyX_take (i := 12) (oi := { dst := some 59, op := _, type := _, pos := _, after := _, guard := _ }) (v := ?_) rfl (by kernel_rfl) (by kernel_rfl) (by kernel_rfl) (by kernel_rfl) (fun _ _ _ h => h) (Or.inl ⟨by rfl, ?_⟩) (by assumption) ?_
        rotate_left
        · intro w hSw
          try dsimp only at hSw
          go_simp
          try with_reducible rfl
        try simp only [Act.put, List.setIfInBounds_toArray, List.set_cons_zero, List.set_cons_succ]
        refine wpAnyX_ready (rs := [13]) (by kernel_rfl) (by simp) ?_
        refine AllReadyX.cons (o := { dst := some 60, op := _, type := _, pos := _, after := _, guard := _ }) rfl (fun K hK => ?_) ?_
        · go_simp
          have hK13 := hK8.below ((Below.refl _ _).alloc (Nat.le_refl _) (.cells #[.int .u16 (bits .and .u16 (IntKind.u16.wrap (x * 2 ^ min m 16)) 4095), .int .u16 (bits .and .u16 (IntKind.u16.wrap (y * 2 ^ min m 16)) 4095)] 69))
          refine hK.out _ _ ?_ (fun hHeld => ?_)
          · exact kbS hK13
          clear hK K
          try simp only [Act.put, List.setIfInBounds_toArray, List.set_cons_zero, List.set_cons_succ]
          refine wpAnyX_ready (rs := [14]) (by kernel_rfl) (by simp) ?_
          refine AllReadyX.cons (o := { dst := some 61, op := _, type := _, pos := _, after := _, guard := _ }) rfl (fun K hK => ?_) ?_
          · refine step_append_lies _ (by rfl) _ _ _ (by rfl) wc.heap.size 69 i0 (.agg #[.int .u16 0, .int .u16 0]) 2 4 Tryz.underlying47 hi hz0 hz1 hz2 rfl (by omega) v l.length (ftV l) (by rfl) (HOW.out.alloc _) ⟨W7.heap.size, 0, none⟩ 1 1 _ (by rfl) ?g1 (World.news_of_block (t := 69) (fr := (0, 0)) (heap_alloc_new W7.drew _)) ?g2 (by omega) (by unfold maxLen; omega) (by omega) (by simp; have := HKB.out.sz; omega) (W7.heap.size + 1) (by simp) ?_
            case g1 => rfl
            case g2 => simp [Value.oneCell']
            intro g5 c5' w5 hown5 hgrow hat hlt
            have hK14 := kb_grown hK8 HOW.out HNE.out hgrow
            refine hK.out _ _ ?_ (fun hHeld => ?_)
            · exact kbS hK14
            clear hK K
            have HO5 := Lib.hid (show w5.ownsRow wc.heap.size 69 2 (.slice (some ⟨g5, 0, none⟩) (l.length + 1) c5') (l ++ [(bits .and .u16 (IntKind.u16.wrap (x * 2 ^ min m 16)) 4095, bits .and .u16 (IntKind.u16.wrap (y * 2 ^ min m 16)) 4095)]).length (ftV (l ++ [(bits .and .u16 (IntKind.u16.wrap (x * 2 ^ min m 16)) 4095, bits .and .u16 (IntKind.u16.wrap (y * 2 ^ min m 16)) 4095)])) by rw [ftV_app, List.length_append]; exact hown5)
            clear hown5 hgrow hat hlt
            try simp only [Act.put, List.setIfInBounds_toArray, List.set_cons_zero, List.set_cons_succ]
            refine wpAnyX_take (i := 15) (oi := { dst := some 62, op := _, type := _, pos := _, after := _, guard := _ }) (v := ?_) rfl (by kernel_rfl) (by kernel_rfl) (by kernel_rfl) (by kernel_rfl) (fun _ _ _ h => h) (Or.inl ⟨by rfl, ?_⟩) (by assumption) ?_
            rotate_left
            · intro w hSw
              try dsimp only at hSw
              go_simp
              try with_reducible rfl
            try simp only [Act.put, List.setIfInBounds_toArray, List.set_cons_zero, List.set_cons_succ]
            refine wpAnyX_ready (rs := [16]) (by kernel_rfl) (by simp) ?_
            refine AllReadyX.last (o := { dst := none, op := _, type := _, pos := _, after := _, guard := _ }) rfl (fun K hK => ?_) ?_
            · have z5 := cellOf hK14.ta (j := 5) rfl
              have y5 := frozenOf hK14.ta (j := 5)
              go_simp
              refine hK.out _ _ ?_
              clear hK K
              clear z5 y5
              try simp only [Act.put, List.setIfInBounds_toArray, List.set_cons_zero, List.set_cons_succ]
              refine wpAnyX_done (by kernel_rfl) ?_ _
              refine NoPanic.normal ?_
              go_wp2_with fail
              go_roundw
              have h5 := HO5.out
              rw [hl] at h5
              case rel => exact ⟨k + 1, .slice (some ⟨g5, 0, none⟩) (k + 1) c5', l ++ [(bits .and .u16 (IntKind.u16.wrap (x * 2 ^ min m 16)) 4095, bits .and .u16 (IntKind.u16.wrap (y * 2 ^ min m 16)) 4095)], by omega, by go_num, by rw [List.length_append, hl]; rfl, hK14.put h5⟩
              case measure => simp [intOf]; omega
            exact AllReadyX.nil
          exact AllReadyX.nil
        exact AllReadyX.nil
      · subst hl
        have e1 : ¬ (l.length : Int) < (n5 : Int) := by omega
        obtain ⟨p6, c6, hv6, hp6, hc6⟩ := fltP_of_own HK.out.own
        subst hv6
        have hX6 := cellOf HK.out.ta (j := 5) rfl
        have hY6 := frozenOf HK.out.ta (j := 5)
        have HP6 := Lib.hid hp6
        clear hp6
        have HT6 := Lib.hid HK.out.ta
        have HR6 := Lib.hid (HK.out.row HO.out.ra (by have := HT0.out; omega))
        have HS3 := Lib.hid (HK.out.set HX3.out.1 HX3.out.2.2.1)
        have HS4 := Lib.hid (HK.out.set HX3.out.2.1 HX3.out.2.2.2.1)
        go_upto_region 10 with (go_at_call 53; refine (normal_any p6 l.length c6 _ (by omega) HP6.out).mono ?_; rintro e w8 ⟨p7, n7, c7, rfl, hn7, hc7, hp7, hf7, hb8⟩; have hX8 := (hb8.block _ (Array.getElem?_eq_some_iff.mp HT6.out).1).trans HT6.out; have y5 := frozenOf hX8 (j := 5); have z5 := cellOf hX8 (j := 5) rfl)
        have HX9 := Lib.hid (row_put5 hX8 (.slice p7 n7 c7))
        have HR9 := Lib.hid ((set1_other (W := w8) (b := T) (k := 5) (by have := HT0.out; omega) (.slice p7 n7 c7)).trans ((hb8.block _ (Array.getElem?_eq_some_iff.mp HR6.out).1).trans HR6.out))
        have HB9 := Lib.hid (below_set (HK.out.bl.trans (hb8.mono HK.out.bl.size)) (p := ⟨T, 5, none⟩) (by show _ ≤ T; have := HT0.out; omega) (.slice p7 n7 c7))
        have HS9 := Lib.hid (And.intro ((HS3.out.below hb8).set1 HX3.out.2.2.1 5 (.slice p7 n7 c7)) (And.intro ((HS4.out.below hb8).set1 HX3.out.2.2.2.1 5 (.slice p7 n7 c7)) (hp7.set1 (foff_new hf7 (Array.getElem?_eq_some_iff.mp HT6.out).1) 5 (.slice p7 n7 c7))))
        have HR7 := Lib.hid (off_new (n := n7) hf7 (Array.getElem?_eq_some_iff.mp HR6.out).1)
        clear hp7 hf7 hb8 hX8 y5 z5 hX6 hY6 hq5
        revert HX9 HR9 HB9 HS9
        generalize w8.setCell ⟨T, 5, none⟩ (.slice p7 n7 c7) = W9
        intro HX9 HR9 HB9 HS9
        have z0 := cellOf HX9.out (j := 0) rfl; have z1 := cellOf HX9.out (j := 1) rfl; have z2 := cellOf HX9.out (j := 2) rfl; have z3 := cellOf HX9.out (j := 3) rfl; have z4 := cellOf HX9.out (j := 4) rfl; have z5 := cellOf HX9.out (j := 5) rfl
        have r0 := cellOf HR9.out (j := 0) rfl; have r1 := cellOf HR9.out (j := 1) rfl; have r2 := cellOf HR9.out (j := 2) rfl; have r3 := cellOf HR9.out (j := 3) rfl; have r4 := cellOf HR9.out (j := 4) rfl; have r5 := cellOf HR9.out (j := 5) rfl
        have f0 := frozenOf HR9.out (j := 0); have f1 := frozenOf HR9.out (j := 1); have f2 := frozenOf HR9.out (j := 2); have f3 := frozenOf HR9.out (j := 3); have f4 := frozenOf HR9.out (j := 4); have f5 := frozenOf HR9.out (j := 5)
        go_wp2_with fail
        exact cf_end 4 rfl HR9.out HB9.out (Nat.le_succ _) _ _ _ _ _ _ _ _ _ _ _ _ _ rfl HS9.out.1 HS9.out.2.1 HS9.out.2.2 hm3 he3 hm4 he4 hn7 hc7 HX3.out.2.2.2.2.1 HX3.out.2.2.2.2.2 HR7.out
end Go.Proofs.YtmcnpaehmnadeaaGreatDoor
