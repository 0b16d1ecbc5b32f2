/-
  EpochNext: sederuntref29.moved gives sets of 16 bits.
-/
import Derived.Test.YtmcnpaehmnadeaaGreatDoorFeGH
set_option maxHeartbeats 6400000
set_option maxRecDepth 1000000
namespace Go.Proofs.YtmcnpaehmnadeaaGreatDoor
open Go Go.RowKit
def SetRetN (B : Nat) (w : World) (e : Ending) (w' : World) : Prop := ∃ (l : List Nat) (p : Option Addr) (n cap : Nat), e = .returned (.slice p n cap) ∧ l.length = n ∧ n ≤ B ∧ n ≤ cap ∧ cap ≤ 9223372036854775807 ∧ InR l ∧ SetL w' p l ∧ PlainP p ∧ FreshP w.heap.size p ∧ Below w.heap.size w w'
theorem wrap_rng (y : Int) : ∃ n : Nat, IntKind.u16.wrap y = (n : Int) ∧ n < 65536 := by
 have h : IntKind.u16.wrap y = y % 65536 := by simp [IntKind.wrap, IntKind.bits, IntKind.signed]
 exact ⟨(y % 65536).toNat, by rw [h]; omega, by omega⟩
theorem moved_ct (p : Option Addr) (n cap k0 : Nat) (w : World) (hn : n ≤ 65536) (hp : SetP w p n) : Calls Tryz.prog 52 #[.slice p n cap, .int .i64 k0] w (SetRetN 65536 w) := by
 obtain ⟨i0, hi, hz0, hz1, hz2⟩ := info_parts Tryz.info28
 have HP := Lib.hid hp
 have HN := Lib.hid hn
 have hn2 : n ≤ 9223372036854775806 := by omega
 clear hp hn
 have ek : (0 : Int) ≤ (k0 : Int) := by omega
 go_enter Tryz.func52, Tryz.ntmps52
 go_wp2_with fail
 go_loopw [5, 6] (fun v i wr => ∃ (k : Nat) (l : List Nat), k ≤ n ∧ i = .int .i64 k ∧ l.length = k ∧ InR l ∧ wr.ownsRow w.heap.size 28 1 v l.length (u16N l) ∧ Below w.heap.size w wr) (fun _ i _ => n - (intOf i).toNat)
 case atStart => exact ⟨0, [], Nat.zero_le _, rfl, rfl, (fun _ h => by cases h), World.ownsRow_nil _ _ _ _, Below.refl _ _⟩
 case round =>
  obtain ⟨k, l, hk, rfl, hl, hin, hown, hb⟩ := hrel
  have HIN := Lib.hid hin
  clear hin
  have HW := Lib.hid hown
  have HB := Lib.hid hb
  have hsz := hb.size
  have HL := Lib.hid hl
  clear hown hb hl
  by_cases hkn : k < n
  ·obtain ⟨b, off, x, rfl, hbb, hc⟩ := HP.out.at hkn
   have hc1 := (HB.out.cell (p := ⟨b, off + k, none⟩) hbb).trans hc
   clear hc
   obtain ⟨y, hy, hy2⟩ := wrap_rng (x * 2 ^ min k0 16)
   have HY := Lib.hid hy
   have HY2 := Lib.hid hy2
   clear hy hy2
   go_wp2_with (at_builtin; refine wpList_append_own _ rfl _ _ 46 rfl w.heap.size 28 i0 (.int .u16 0) 1 2 Tryz.underlying46 hi hz0 hz1 hz2 rfl (by decide) _ _ _ rfl (HW.out.alloc _) ⟨wr.heap.size, 0, none⟩ 1 1 [.int .u16 (IntKind.u16.wrap (x * 2 ^ min k0 16))] rfl rfl ?c1 ?c2 ?c3 ?c4 ?c5 ?_)
   try (case c1 => (intro j u hj; cases j with | zero => (simp at hj; subst hj; simp [Addr.add]) | succ j => simp at hj))
   case c2 => first | rfl | (intro u hu; simp at hu; subst hu; rfl)
   case c3 => have := HN.out; have := HL.out; unfold maxLen; omega
   case c4 => have := HN.out; have := HL.out; omega
   case c5 => have := HN.out; have := HL.out; first | omega | (simp; omega)
   intro v' w3 hown' hgrow _
   have hb3 : Below w.heap.size w w3 := below_grown HB.out hsz HW.out hgrow
   rw [HY.out, ← u16N_snoc] at hown'
   have HO3 := Lib.hid hown'
   have HI3 := Lib.hid (show InR (l ++ [y]) from fun z hz => by
    rcases List.mem_append.mp hz with h | h
    ·exact HIN.out z h
    ·rw [List.mem_singleton] at h; subst h; exact HY2.out)
   clear hown' hgrow
   go_wp2_with fail
   go_roundw
   case rel => exact ⟨k + 1, l ++ [y], by omega, by go_num, by rw [List.length_append]; show l.length + 1 = _; have := HL.out; omega, HI3.out, by rw [List.length_append]; exact HO3.out, hb3⟩
   case measure => simp [intOf]; omega
  ·obtain ⟨p5, c5, hv5, hp5, hc5, _⟩ := setL_of_own HW.out
   have hpl : PlainP p5 := by have h := HW.out; rw [hv5] at h; exact plain_of_own h
   have hcp : c5 ≤ 9223372036854775807 := by have h := HW.out; rw [hv5] at h; exact cap_of_own h
   subst hv5
   go_wp2_with fail
   go_ret
   exact ⟨l, p5, _, c5, rfl, rfl, by have := HN.out; have := HL.out; omega, hc5, hcp, HIN.out, hp5, hpl, fresh_of_own HW.out, HB.out⟩
end Go.Proofs.YtmcnpaehmnadeaaGreatDoor
/-
  EpochNext: sederuntref29.Made returns a configuration of sets of 16 bits, with the name that came in.
-/
namespace Go.Proofs.YtmcnpaehmnadeaaGreatDoor
open Go Go.RowKit
theorem offL_old {W : World} {p : Option Addr} {l : List Nat} {n b : Nat} (h : SetL W p l) (hl : l.length = n) (hb : W.heap.size ≤ b) : Off p n b := by
 rcases h with rfl | ⟨c, off, rfl, hc, _⟩
 ·exact .inl (by rw [← hl]; rfl)
 ·exact .inr fun q hq => by injection hq with hq; subst hq; show c ≠ b; omega
theorem SetL.set6o {W : World} {p : Option Addr} {l : List Nat} {n b : Nat} (h : SetL W p l) (hl : l.length = n) (ho : Off p n b) (v0 v1 v2 v3 v4 v5 : Value) : SetL ((((((W.setCell ⟨b, 0, none⟩ v0).setCell ⟨b, 1, none⟩ v1).setCell ⟨b, 2, none⟩ v2).setCell ⟨b, 3, none⟩ v3).setCell ⟨b, 4, none⟩ v4).setCell ⟨b, 5, none⟩ v5) p l := by
 rcases ho with ho | ho
 ·exact .inl (List.eq_nil_of_length_eq_zero (by omega))
 ·exact h.set6 ho _ _ _ _ _ _
theorem SetL.set1o {W : World} {p : Option Addr} {l : List Nat} {n b : Nat} (h : SetL W p l) (hl : l.length = n) (ho : Off p n b) (j : Nat) (v : Value) : SetL (W.setCell ⟨b, j, none⟩ v) p l := by
 rcases ho with ho | ho
 ·exact .inl (List.eq_nil_of_length_eq_zero (by omega))
 ·exact h.set1 ho _ _
theorem FltL.set6o {W : World} {p : Option Addr} {l : List (Nat × Nat)} {n b : Nat} (h : FltL W p l) (hl : l.length = n) (ho : Off p n b) (v0 v1 v2 v3 v4 v5 : Value) : FltL ((((((W.setCell ⟨b, 0, none⟩ v0).setCell ⟨b, 1, none⟩ v1).setCell ⟨b, 2, none⟩ v2).setCell ⟨b, 3, none⟩ v3).setCell ⟨b, 4, none⟩ v4).setCell ⟨b, 5, none⟩ v5) p l := by
 rcases ho with ho | ho
 ·exact .inl (List.eq_nil_of_length_eq_zero (by omega))
 ·exact h.set6 ho _ _ _ _ _ _
theorem MK.setL {w w3 : World} {T : Nat} {v0 v1 v2 v3 v4 v : Value} {W : World} {l : List (Int × Int)} (h : MK w w3 T v0 v1 v2 v3 v4 v l W) {p : Option Addr} {L : List Nat} {n : Nat} (hp : SetL w3 p L) (hL : L.length = n) (ho : Off p n T) : SetL W p L := by
 rcases hp with h1 | ⟨c, off, rfl, h2, h3⟩
 ·exact .inl h1
 ·rcases ho with ho | ho
  ·exact .inl (List.eq_nil_of_length_eq_zero (by omega))
  ·exact .inr ⟨c, off, rfl, Nat.lt_of_lt_of_le h2 h.sz, fun i hi => (h.cell h2 (ho _ rfl)).trans (h3 i hi)⟩
def MetaS (w0 : World) (p : Option Addr) (n c : Nat) (l : List Nat) : Prop := l.length = n ∧ n ≤ 65536 ∧ n ≤ c ∧ c ≤ 9223372036854775807 ∧ InR l ∧ PlainP p ∧ FreshP w0.heap.size p
def CfgAtC (nm : ByteArray) (w0 W : World) (B R : Nat) : Prop := ∃ (kd : Int) (mb : Nat) (p3 : Option Addr) (n3 c3 : Nat) (p4 : Option Addr) (n4 c4 : Nat) (l3 l4 : List Nat), W.heap[B]? = some (.cells #[.string nm, .int .i64 kd, .int .u16 (mb : Int), .slice p3 n3 c3, .slice p4 n4 c4, .slice none 0 0] 49 (0, 0)) ∧ mb < 65536 ∧ l3.length = n3 ∧ l4.length = n4 ∧ n3 ≤ 65536 ∧ n3 ≤ c3 ∧ c3 ≤ 9223372036854775807 ∧ InR l3 ∧ PlainP p3 ∧ FreshP w0.heap.size p3 ∧ n4 ≤ 65536 ∧ n4 ≤ c4 ∧ c4 ≤ 9223372036854775807 ∧ InR l4 ∧ PlainP p4 ∧ FreshP w0.heap.size p4 ∧ SetL W p3 l3 ∧ SetL W p4 l4 ∧ Off p3 n3 B ∧ Off p4 n4 B ∧ Off p3 n3 R ∧ Off p4 n4 R
def ConfRetC (nm : ByteArray) (w : World) (e : Ending) (w' : World) : Prop := ∃ (kd : Int) (mb : Nat) (p3 : Option Addr) (n3 c3 : Nat) (p4 : Option Addr) (n4 c4 : Nat) (p5 : Option Addr) (n5 c5 : Nat) (rd wr : List Nat) (fs : List (Nat × Nat)),
 e = .returned (.agg #[.string nm, .int .i64 kd, .int .u16 (mb : Int), .slice p3 n3 c3, .slice p4 n4 c4, .slice p5 n5 c5]) ∧ mb < 65536 ∧ MetaS w p3 n3 c3 rd ∧ MetaS w p4 n4 c4 wr ∧ (fs.length = n5 ∧ n5 ≤ 1000 ∧ n5 ≤ c5 ∧ c5 ≤ 9223372036854775807 ∧ InF fs ∧ PlainP p5 ∧ FreshP w.heap.size p5) ∧ SetL w' p3 rd ∧ SetL w' p4 wr ∧ FltL w' p5 fs ∧ Below w.heap.size w w'
theorem cfc_end {w W : World} {fn : Func} {R : Nat} {a0 a1 a2 a3 a4 a5 : Value} (p : Tmp) (hfn : fn.results = #[.cell p 49]) (hR : W.heap[R]? = some (.cells #[a0, a1, a2, a3, a4, a5] 49 (0, 0))) (hb : Below w.heap.size w W) (hge : w.heap.size ≤ R)
  (nm : ByteArray) (kd : Int) (mb : Nat) (p3 : Option Addr) (n3 c3 : Nat) (p4 : Option Addr) (n4 c4 : Nat) (p5 : Option Addr) (n5 c5 : Nat) (l3 l4 : List Nat) (fs : List (Nat × Nat)) (tmps : Array Value) (h6 : tmps.getD p undef = .pointer (some ⟨R, 0, none⟩))
  (hmb : mb < 65536) (hm3 : MetaS w p3 n3 c3 l3) (hm4 : MetaS w p4 n4 c4 l4) (hp3 : SetL W p3 l3) (hp4 : SetL W p4 l4) (hp5 : FltL W p5 fs) (hn5 : n5 ≤ 1000) (hc5 : n5 ≤ c5) (hcm5 : c5 ≤ 9223372036854775807) (hin : InF fs) (hpl5 : PlainP p5) (hf5 : FreshP w.heap.size p5) (ho3 : Off p3 n3 R) (ho4 : Off p4 n4 R) (ho5 : Off p5 n5 R) (hl5 : fs.length = n5 := by rfl) :
  bodyPost Tryz.prog fn (ConfRetC nm w) Exit.ret { tmps := tmps, defers := [] } ((((((W.setCell ⟨R, 0, none⟩ (.string nm)).setCell ⟨R, 1, none⟩ (.int .i64 kd)).setCell ⟨R, 2, none⟩ (.int .u16 (mb : Int))).setCell ⟨R, 3, none⟩ (.slice p3 n3 c3)).setCell ⟨R, 4, none⟩ (.slice p4 n4 c4)).setCell ⟨R, 5, none⟩ (.slice p5 n5 c5)) :=
 bodyPost_ret (results_cell_row hfn _ _ R 49 #[.string nm, .int .i64 kd, .int .u16 (mb : Int), .slice p3 n3 c3, .slice p4 n4 c4, .slice p5 n5 c5] (0, 0) _ h6 (row_set6 hR _ _ _ _ _ _) Tryz.underlying49 rfl Tryz.size49) rfl
  ⟨kd, mb, p3, n3, c3, p4, n4, c4, p5, n5, c5, l3, l4, fs, rfl, hmb, hm3, hm4, ⟨hl5, hn5, hc5, hcm5, hin, hpl5, hf5⟩, hp3.set6o hm3.1 ho3 _ _ _ _ _ _, hp4.set6o hm4.1 ho4 _ _ _ _ _ _, hp5.set6o hl5 ho5 _ _ _ _ _ _, below_set6 hb hge _ _ _ _ _ _⟩
theorem made29_ct (a0 : Int) (a1 : Nat) (a2 : Int) (pr pw pf : Option Addr) (nr cr nw cw nf cf mv : Nat) (nm : ByteArray) (w : World) (ha : a1 < 256) (hmv : mv < 256) (hr : nr ≤ 9223372036854775807) (hw : nw ≤ 9223372036854775807) (hsr : SetP w pr nr) (hsw : SetP w pw nw) (hsf : FltP w pf nf) :
  Calls Tryz.prog 34 #[.agg #[.int .u8 a0, .int .u8 a1, .int .u8 a2, .slice pr nr cr, .slice pw nw cw, .slice pf nf cf, .int .u8 mv], .string nm] w (ConfRetC nm w) := by
 obtain ⟨i0, hi, hz0, hz1, hz2⟩ := info_parts Tryz.info69
 have hb0 : Below w.heap.size w ((w.alloc (.cells #[.int .u8 a0, .int .u8 a1, .int .u8 a2, .slice pr nr cr, .slice pw nw cw, .slice pf nf cf, .int .u8 mv] 78)).alloc (.cells #[.string ⟨#[]⟩, .int .i64 0, .int .u16 0, .slice none 0 0, .slice none 0 0, .slice none 0 0] 49)) := ((Below.refl _ _).alloc (Nat.le_refl _) _).alloc (by simp) _
 have HO0 := Lib.hid (And.intro (heap_alloc2_old w (.cells #[.int .u8 a0, .int .u8 a1, .int .u8 a2, .slice pr nr cr, .slice pw nw cw, .slice pf nf cf, .int .u8 mv] 78) (.cells #[.string ⟨#[]⟩, .int .i64 0, .int .u16 0, .slice none 0 0, .slice none 0 0, .slice none 0 0] 49)) (And.intro (heap_alloc2_new w (.cells #[.int .u8 a0, .int .u8 a1, .int .u8 a2, .slice pr nr cr, .slice pw nw cw, .slice pf nf cf, .int .u8 mv] 78) (.cells #[.string ⟨#[]⟩, .int .i64 0, .int .u16 0, .slice none 0 0, .slice none 0 0, .slice none 0 0] 49)) hb0))
 have HSR := Lib.hid hsr
 have HSW := Lib.hid hsw
 have HSF := Lib.hid hsf
 clear hb0 hsr hsw hsf
 go_enter Tryz.func34, Tryz.ntmps34
 go_upto_region 1 with fail
 revert HO0
 generalize (w.alloc (.cells #[.int .u8 a0, .int .u8 a1, .int .u8 a2, .slice pr nr cr, .slice pw nw cw, .slice pf nf cf, .int .u8 mv] 78)).alloc (.cells #[.string ⟨#[]⟩, .int .i64 0, .int .u16 0, .slice none 0 0, .slice none 0 0, .slice none 0 0] 49) = W0
 intro HO0
 have d0 := cellOf HO0.out.1 (j := 0) rfl; have d1 := cellOf HO0.out.1 (j := 1) rfl; have d2 := cellOf HO0.out.1 (j := 2) rfl; have d3 := cellOf HO0.out.1 (j := 3) rfl; have d4 := cellOf HO0.out.1 (j := 4) rfl; have d5 := cellOf HO0.out.1 (j := 5) rfl
 go_upto_region 2 with (go_at_call 51; refine (of27_any a0 a1 a2 pr pw pf nr cr nw cw nf cf nm _ ha hr hw (HSR.out.below HO0.out.2.2) (HSW.out.below HO0.out.2.2) (HSF.out.below HO0.out.2.2)).mono ?_; rintro e w1 ⟨kd, mb, p3, n3, c3, p4, n4, c4, p5, n5, c5, rfl, hn3, hc3, hn4, hc4, hn5, hc5, hp3, hp4, hp5, hb1⟩)
 have hA : Below w1.heap.size w1 (w1.alloc (.cells #[.string nm, .int .i64 kd, .int .u16 mb, .slice p3 n3 c3, .slice p4 n4 c4, .slice p5 n5 c5] 49)) := (Below.refl _ _).alloc (Nat.le_refl _) _
 have HR1 := Lib.hid ((hb1.block _ (gLt HO0.out.2.1)).trans HO0.out.2.1)
 have hD1 := (hb1.block _ (gLt HO0.out.1)).trans HO0.out.1
 have HB1 := Lib.hid (HO0.out.2.2.trans (hb1.mono HO0.out.2.2.size))
 have HC := Lib.hid (show OC w w1 w1.heap.size nm kd mb p3 n3 c3 p4 n4 c4 p5 n5 c5 (w1.alloc (.cells #[.string nm, .int .i64 kd, .int .u16 mb, .slice p3 n3 c3, .slice p4 n4 c4, .slice p5 n5 c5] 49)) from ⟨heap_alloc_new w1 _, (hA.block _ (gLt HR1.out)).trans HR1.out, hA, HB1.out.trans (hA.mono HB1.out.size)⟩)
 have hD := (hA.block _ (gLt hD1)).trans hD1
 have HL1 := Lib.hid (show w.heap.size + 1 < w1.heap.size from (gLt HR1.out))
 have HP := Lib.hid (And.intro hp3 (And.intro hp4 hp5))
 clear hA hD1 hp3 hp4 hp5 hb1 d0 d1 d2 d3 d4 d5
 revert HC hD
 generalize w1.alloc (.cells #[.string nm, .int .i64 kd, .int .u16 mb, .slice p3 n3 c3, .slice p4 n4 c4, .slice p5 n5 c5] 49) = W2
 intro HC hD
 have d6 := cellOf hD (j := 6) rfl
 go_upto_region 3 with fail
 obtain ⟨m, hm⟩ : ∃ m : Nat, ((mv : Int) % 4) = (m : Int) := ⟨mv % 4, by omega⟩
 simp only [hm]
 clear hm d6 hD
 have em : (0 : Int) ≤ (m : Int) := by omega
 go_cut [7] (fun u wx => ∃ T : Nat, u = .pointer (some ⟨T, 0, none⟩) ∧ w.heap.size + 1 < T ∧ w1.heap.size < T ∧ OC w w1 w1.heap.size nm kd mb p3 n3 c3 p4 n4 c4 p5 n5 c5 wx ∧ CfgAtC nm w wx T (w.heap.size + 1))
 case first =>
  obtain ⟨ym, hym, hym2⟩ := wrap_rng (mb * 2 ^ min m 16)
  have HYM := Lib.hid (And.intro hym hym2)
  clear hym hym2
  have hOc := HC.out.below (below_drew W2)
  refine wp_region_noPanic ?_
  refine wp_region_x 18 (fun W => W.cell? ⟨w1.heap.size, 0, none⟩ = some (.string nm) ∧ W.cell? ⟨w1.heap.size, 1, none⟩ = some (.int .i64 kd) ∧ W.cell? ⟨w1.heap.size, 2, none⟩ = some (.int .u16 mb) ∧ W.cell? ⟨w1.heap.size, 3, none⟩ = some (.slice p3 n3 c3) ∧ W.cell? ⟨w1.heap.size, 4, none⟩ = some (.slice p4 n4 c4) ∧ W.cell? ⟨w1.heap.size, 5, none⟩ = some (.slice p5 n5 c5) ∧ OC w w1 w1.heap.size nm kd mb p3 n3 c3 p4 n4 c4 p5 n5 c5 W) (by kernel_rfl) ?_ (fun hHeld => ?_)
  ·exact ocS hOc
  refine tkX 0 18 ?_ rfl ?_ ?_
  rotate_left
  ·intro w hSw; (try dsimp only at hSw); go_simp; try with_reducible rfl
  try simp only [Act.put, sA, sZ, sS]
  refine tkX 1 19 ?_ rfl ?_ ?_
  rotate_left
  ·intro w hSw; (try dsimp only at hSw); go_simp; try with_reducible rfl
  try simp only [Act.put, sA, sZ, sS]
  refine tkX 2 20 ?_ rfl ?_ ?_
  rotate_left
  ·intro w hSw; (try dsimp only at hSw); go_simp; try with_reducible rfl
  try simp only [Act.put, sA, sZ, sS]
  refine tkX 3 21 ?_ rfl ?_ ?_
  rotate_left
  ·intro w hSw; (try dsimp only at hSw); go_simp; try with_reducible rfl
  try simp only [Act.put, sA, sZ, sS]
  refine tkX 4 22 ?_ rfl ?_ ?_
  rotate_left
  ·intro w hSw; (try dsimp only at hSw); go_simp; try with_reducible rfl
  try simp only [Act.put, sA, sZ, sS]
  refine tkX 5 23 ?_ rfl ?_ ?_
  rotate_left
  ·intro w hSw; (try dsimp only at hSw); go_simp; try with_reducible rfl
  try simp only [Act.put, sA, sZ, sS]
  refine tkX 6 24 ?_ rfl ?_ ?_
  rotate_left
  ·intro w hSw; (try dsimp only at hSw); go_simp; try with_reducible rfl
  try simp only [Act.put, sA, sZ, sS]
  refine tkX 7 25 ?_ rfl ?_ ?_
  rotate_left
  ·intro w hSw; (try dsimp only at hSw); go_simp; try with_reducible rfl
  try simp only [Act.put, sA, sZ, sS]
  refine tkX 8 26 ?_ rfl ?_ ?_
  rotate_left
  ·intro w hSw; (try dsimp only at hSw); go_simp; try with_reducible rfl
  try simp only [Act.put, sA, sZ, sS]
  refine tkX 9 27 ?_ rfl ?_ ?_
  rotate_left
  ·intro w hSw; (try dsimp only at hSw); go_simp; try with_reducible rfl
  try simp only [Act.put, sA, sZ, sS]
  refine tkX 10 28 ?_ rfl ?_ ?_
  rotate_left
  ·intro w hSw; (try dsimp only at hSw); go_simp; try with_reducible rfl
  try simp only [Act.put, sA, sZ, sS]
  refine tkX 12 30 ?_ rfl ?_ ?_
  rotate_left
  ·intro w hSw; (try dsimp only at hSw); go_simp; try with_reducible rfl
  try simp only [Act.put, sA, sZ, sS]
  refine tkX 13 31 ?_ rfl ?_ ?_
  rotate_left
  ·intro w hSw; (try dsimp only at hSw); go_simp; try with_reducible rfl
  try simp only [Act.put, sA, sZ, sS]
  refine tkX 14 32 ?_ rfl ?_ ?_
  rotate_left
  ·intro w hSw; (try dsimp only at hSw); go_simp; try with_reducible rfl
  try simp only [Act.put, sA, sZ, sS]
  refine wpAnyX_ready (rs := [11, 17]) (by kernel_rfl) (by simp) ?_
  refine AllReadyX.cons (o := ⟨some 29, _, _, _, _, _⟩) rfl (fun K hK => ?_) ?_
  ·go_simp
   go_at_call 52
   refine (moved_ct p3 n3 c3 m _ hn3 (HP.out.1.below hOc.b1)).mono ?_
   rintro e x1 ⟨l11, p11, n11, c11, rfl, hll11, hn11, hc11, hcm11, hir11, hp11, hpl11, hf11, hb1⟩
   have hO1 := hOc.below hb1
   have hw11 := hf11.mono hOc.bl.size
   have hr11 := off_new (n := n11) hf11 hOc.lt
   go_simp
   refine hK.out _ _ ?_ (fun hHeld => ?_)
   ·exact ocS hO1
   clear hK K
   try simp only [Act.put, sA, sZ, sS]
   refine wpAnyX_ready (rs := [15, 17]) (by kernel_rfl) (by simp) ?_
   refine AllReadyX.cons (o := ⟨some 33, _, _, _, _, _⟩) rfl (fun K hK => ?_) ?_
   ·go_simp
    go_at_call 52
    refine (moved_ct p4 n4 c4 m _ hn4 (HP.out.2.1.below hO1.b1)).mono ?_
    rintro e x2 ⟨l15, p15, n15, c15, rfl, hll15, hn15, hc15, hcm15, hir15, hp15, hpl15, hf15, hb2⟩
    have hO2 := hO1.below hb2
    have hw15 := hf15.mono hO1.bl.size
    have hr15 := off_new (n := n15) hf15 hO1.lt
    have hp112 := hp11.below hb2
    go_simp
    refine hK.out _ _ ?_ (fun hHeld => ?_)
    ·exact ocS hO2
    clear hK K
    try simp only [Act.put, sA, sZ, sS]
    refine tkX 16 34 ?_ rfl ?_ ?_
    rotate_left
    ·intro w hSw; (try dsimp only at hSw); go_simp; try with_reducible rfl
    try simp only [Act.put, sA, sZ, sS]
    refine wpAnyX_ready (rs := [17]) (by kernel_rfl) (by simp) ?_
    refine AllReadyX.cons (o := ⟨some 7, _, _, _, _, _⟩) rfl (fun K hK => ?_) ?_
    ·go_simp
     have hX3 : (x2.alloc (.cells #[.string ⟨#[]⟩, .int .i64 0, .int .u16 0, .slice none 0 0, .slice none 0 0, .slice none 0 0] 49)).heap[x2.heap.size]? = some (.cells #[.string ⟨#[]⟩, .int .i64 0, .int .u16 0, .slice none 0 0, .slice none 0 0, .slice none 0 0] 49) := heap_alloc_new x2 _
     have hO3 := hO2.below ((Below.refl _ _).alloc (Nat.le_refl _) (.cells #[.string ⟨#[]⟩, .int .i64 0, .int .u16 0, .slice none 0 0, .slice none 0 0, .slice none 0 0] 49))
     have hL := hO2.lt
     have hLC := hO2.ltC
     have ho11 := offL_old hp112 hll11 (Nat.le_refl _)
     have hp11p := hp112
     have hp113 := hp112.below ((Below.refl _ _).alloc (Nat.le_refl _) (.cells #[.string ⟨#[]⟩, .int .i64 0, .int .u16 0, .slice none 0 0, .slice none 0 0, .slice none 0 0] 49))
     have ho15 := offL_old hp15 hll15 (Nat.le_refl _)
     have hp15p := hp15
     have hp153 := hp15.below ((Below.refl _ _).alloc (Nat.le_refl _) (.cells #[.string ⟨#[]⟩, .int .i64 0, .int .u16 0, .slice none 0 0, .slice none 0 0, .slice none 0 0] 49))
     refine hK.out _ _ ?_ (fun hHeld => ?_)
     ·exact ocS hO3
     clear hK K
     try simp only [Act.put, sA, sZ, sS]
     refine wpAnyX_ready (rs := [18]) (by kernel_rfl) (by simp) ?_
     refine AllReadyX.last (o := ⟨none, _, _, _, _, _⟩) rfl (fun K hK => ?_) ?_
     ·have z0 := cellOf hX3 (j := 0) rfl
      have z1 := cellOf hX3 (j := 1) rfl
      have z2 := cellOf hX3 (j := 2) rfl
      have z3 := cellOf hX3 (j := 3) rfl
      have z4 := cellOf hX3 (j := 4) rfl
      have z5 := cellOf hX3 (j := 5) rfl
      have y0 := frozenOf hX3 (j := 0)
      have y1 := frozenOf hX3 (j := 1)
      have y2 := frozenOf hX3 (j := 2)
      have y3 := frozenOf hX3 (j := 3)
      have y4 := frozenOf hX3 (j := 4)
      have y5 := frozenOf hX3 (j := 5)
      go_simp
      refine hK.out _ _ ?_
      clear hK K
      clear z0 z1 z2 z3 z4 z5 y0 y1 y2 y3 y4 y5
      try simp only [Act.put, sA, sZ, sS]
      refine wpAnyX_done (by kernel_rfl) ?_ _
      refine NoPanic.normal ?_
      go_wp2_with fail
      go_meet
      exact ⟨_, rfl, hL, hLC, hO2.below ((Below.refl _ _).alloc (Nat.le_refl _) _), _, ym, _, _, _, _, _, _, l11, l15, (by rw [← HYM.out.1]; exact heap_alloc_new _ _), HYM.out.2, hll11, hll15, hn11, hc11, hcm11, hir11, hpl11, hw11, hn15, hc15, hcm15, hir15, hpl15, hw15, hp11p.below ((Below.refl _ _).alloc (Nat.le_refl _) _), hp15p.below ((Below.refl _ _).alloc (Nat.le_refl _) _), ho11, ho15, hr11, hr15⟩
     exact AllReadyX.nil
    exact AllReadyX.nil
   refine AllReadyX.cons (o := ⟨some 7, _, _, _, _, _⟩) rfl (fun K hK => ?_) ?_
   ·go_simp
    have hX4 : (x1.alloc (.cells #[.string ⟨#[]⟩, .int .i64 0, .int .u16 0, .slice none 0 0, .slice none 0 0, .slice none 0 0] 49)).heap[x1.heap.size]? = some (.cells #[.string ⟨#[]⟩, .int .i64 0, .int .u16 0, .slice none 0 0, .slice none 0 0, .slice none 0 0] 49) := heap_alloc_new x1 _
    have hO4 := hO1.below ((Below.refl _ _).alloc (Nat.le_refl _) (.cells #[.string ⟨#[]⟩, .int .i64 0, .int .u16 0, .slice none 0 0, .slice none 0 0, .slice none 0 0] 49))
    have hL := hO1.lt
    have hLC := hO1.ltC
    have ho11 := offL_old hp11 hll11 (Nat.le_refl _)
    have hp11p := hp11
    have hp114 := hp11.below ((Below.refl _ _).alloc (Nat.le_refl _) (.cells #[.string ⟨#[]⟩, .int .i64 0, .int .u16 0, .slice none 0 0, .slice none 0 0, .slice none 0 0] 49))
    refine hK.out _ _ ?_ (fun hHeld => ?_)
    ·exact ocS hO4
    clear hK K
    try simp only [Act.put, sA, sZ, sS]
    refine wpAnyX_ready (rs := [15]) (by kernel_rfl) (by simp) ?_
    refine AllReadyX.cons (o := ⟨some 33, _, _, _, _, _⟩) rfl (fun K hK => ?_) ?_
    ·go_simp
     go_at_call 52
     refine (moved_ct p4 n4 c4 m _ hn4 (HP.out.2.1.below hO4.b1)).mono ?_
     rintro e x5 ⟨l15, p15, n15, c15, rfl, hll15, hn15, hc15, hcm15, hir15, hp15, hpl15, hf15, hb5⟩
     have hO5 := hO4.below hb5
     have hw15 := hf15.mono hO4.bl.size
     have hr15 := off_new (n := n15) hf15 hO4.lt
     have hX5 := (hb5.block _ (gLt hX4)).trans hX4
     have ho15 := off_new (n := n15) hf15 (gLt hX4)
     have hp115 := hp114.below hb5
     go_simp
     refine hK.out _ _ ?_ (fun hHeld => ?_)
     ·exact ocS hO5
     clear hK K
     try simp only [Act.put, sA, sZ, sS]
     refine tkX 16 34 ?_ rfl ?_ ?_
     rotate_left
     ·intro w hSw; (try dsimp only at hSw); go_simp; try with_reducible rfl
     try simp only [Act.put, sA, sZ, sS]
     refine wpAnyX_ready (rs := [18]) (by kernel_rfl) (by simp) ?_
     refine AllReadyX.last (o := ⟨none, _, _, _, _, _⟩) rfl (fun K hK => ?_) ?_
     ·have z0 := cellOf hX5 (j := 0) rfl
      have z1 := cellOf hX5 (j := 1) rfl
      have z2 := cellOf hX5 (j := 2) rfl
      have z3 := cellOf hX5 (j := 3) rfl
      have z4 := cellOf hX5 (j := 4) rfl
      have z5 := cellOf hX5 (j := 5) rfl
      have y0 := frozenOf hX5 (j := 0)
      have y1 := frozenOf hX5 (j := 1)
      have y2 := frozenOf hX5 (j := 2)
      have y3 := frozenOf hX5 (j := 3)
      have y4 := frozenOf hX5 (j := 4)
      have y5 := frozenOf hX5 (j := 5)
      go_simp
      refine hK.out _ _ ?_
      clear hK K
      clear z0 z1 z2 z3 z4 z5 y0 y1 y2 y3 y4 y5
      try simp only [Act.put, sA, sZ, sS]
      refine wpAnyX_done (by kernel_rfl) ?_ _
      refine NoPanic.normal ?_
      go_wp2_with fail
      go_meet
      exact ⟨_, rfl, hL, hLC, hO5.set6 hL hLC (Nat.le_of_lt hLC) _ _ _ _ _ _, _, ym, _, _, _, _, _, _, l11, l15, (by rw [← HYM.out.1]; exact row_set6 hX5 _ _ _ _ _ _), HYM.out.2, hll11, hll15, hn11, hc11, hcm11, hir11, hpl11, hw11, hn15, hc15, hcm15, hir15, hpl15, hw15, hp115.set6o hll11 ho11 _ _ _ _ _ _, hp15.set6o hll15 ho15 _ _ _ _ _ _, ho11, ho15, hr11, hr15⟩
     exact AllReadyX.nil
    exact AllReadyX.nil
   exact AllReadyX.nil
  refine AllReadyX.cons (o := ⟨some 7, _, _, _, _, _⟩) rfl (fun K hK => ?_) ?_
  ·go_simp
   have hX6 : (W2.drew.alloc (.cells #[.string ⟨#[]⟩, .int .i64 0, .int .u16 0, .slice none 0 0, .slice none 0 0, .slice none 0 0] 49)).heap[W2.heap.size]? = some (.cells #[.string ⟨#[]⟩, .int .i64 0, .int .u16 0, .slice none 0 0, .slice none 0 0, .slice none 0 0] 49) := heap_alloc_new W2.drew _
   have hO6 := hOc.below ((Below.refl _ _).alloc (Nat.le_refl _) (.cells #[.string ⟨#[]⟩, .int .i64 0, .int .u16 0, .slice none 0 0, .slice none 0 0, .slice none 0 0] 49))
   have hL := hOc.lt
   have hLC := hOc.ltC
   refine hK.out _ _ ?_ (fun hHeld => ?_)
   ·exact ocS hO6
   clear hK K
   try simp only [Act.put, sA, sZ, sS]
   refine wpAnyX_ready (rs := [11]) (by kernel_rfl) (by simp) ?_
   refine AllReadyX.cons (o := ⟨some 29, _, _, _, _, _⟩) rfl (fun K hK => ?_) ?_
   ·go_simp
    go_at_call 52
    refine (moved_ct p3 n3 c3 m _ hn3 (HP.out.1.below hO6.b1)).mono ?_
    rintro e x7 ⟨l11, p11, n11, c11, rfl, hll11, hn11, hc11, hcm11, hir11, hp11, hpl11, hf11, hb7⟩
    have hO7 := hO6.below hb7
    have hw11 := hf11.mono hO6.bl.size
    have hr11 := off_new (n := n11) hf11 hO6.lt
    have hX7 := (hb7.block _ (gLt hX6)).trans hX6
    have ho11 := off_new (n := n11) hf11 (gLt hX6)
    go_simp
    refine hK.out _ _ ?_ (fun hHeld => ?_)
    ·exact ocS hO7
    clear hK K
    try simp only [Act.put, sA, sZ, sS]
    refine wpAnyX_ready (rs := [15]) (by kernel_rfl) (by simp) ?_
    refine AllReadyX.cons (o := ⟨some 33, _, _, _, _, _⟩) rfl (fun K hK => ?_) ?_
    ·go_simp
     go_at_call 52
     refine (moved_ct p4 n4 c4 m _ hn4 (HP.out.2.1.below hO7.b1)).mono ?_
     rintro e x8 ⟨l15, p15, n15, c15, rfl, hll15, hn15, hc15, hcm15, hir15, hp15, hpl15, hf15, hb8⟩
     have hO8 := hO7.below hb8
     have hw15 := hf15.mono hO7.bl.size
     have hr15 := off_new (n := n15) hf15 hO7.lt
     have hX8 := (hb8.block _ (gLt hX7)).trans hX7
     have ho15 := off_new (n := n15) hf15 (gLt hX7)
     have hp118 := hp11.below hb8
     go_simp
     refine hK.out _ _ ?_ (fun hHeld => ?_)
     ·exact ocS hO8
     clear hK K
     try simp only [Act.put, sA, sZ, sS]
     refine tkX 16 34 ?_ rfl ?_ ?_
     rotate_left
     ·intro w hSw; (try dsimp only at hSw); go_simp; try with_reducible rfl
     try simp only [Act.put, sA, sZ, sS]
     refine wpAnyX_ready (rs := [18]) (by kernel_rfl) (by simp) ?_
     refine AllReadyX.last (o := ⟨none, _, _, _, _, _⟩) rfl (fun K hK => ?_) ?_
     ·have z0 := cellOf hX8 (j := 0) rfl
      have z1 := cellOf hX8 (j := 1) rfl
      have z2 := cellOf hX8 (j := 2) rfl
      have z3 := cellOf hX8 (j := 3) rfl
      have z4 := cellOf hX8 (j := 4) rfl
      have z5 := cellOf hX8 (j := 5) rfl
      have y0 := frozenOf hX8 (j := 0)
      have y1 := frozenOf hX8 (j := 1)
      have y2 := frozenOf hX8 (j := 2)
      have y3 := frozenOf hX8 (j := 3)
      have y4 := frozenOf hX8 (j := 4)
      have y5 := frozenOf hX8 (j := 5)
      go_simp
      refine hK.out _ _ ?_
      clear hK K
      clear z0 z1 z2 z3 z4 z5 y0 y1 y2 y3 y4 y5
      try simp only [Act.put, sA, sZ, sS]
      refine wpAnyX_done (by kernel_rfl) ?_ _
      refine NoPanic.normal ?_
      go_wp2_with fail
      go_meet
      exact ⟨_, rfl, hL, hLC, hO8.set6 hL hLC (Nat.le_of_lt hLC) _ _ _ _ _ _, _, ym, _, _, _, _, _, _, l11, l15, (by rw [← HYM.out.1]; exact row_set6 hX8 _ _ _ _ _ _), HYM.out.2, hll11, hll15, hn11, hc11, hcm11, hir11, hpl11, hw11, hn15, hc15, hcm15, hir15, hpl15, hw15, hp118.set6o hll11 ho11 _ _ _ _ _ _, hp15.set6o hll15 ho15 _ _ _ _ _ _, ho11, ho15, hr11, hr15⟩
     exact AllReadyX.nil
    exact AllReadyX.nil
   exact AllReadyX.nil
  exact AllReadyX.nil
 case rest =>
  obtain ⟨T, rfl, hT0, hT1, hO, kd', mb', q3, m3, e3, q4, m4, e4, l3, l4, hX, hmb', hll3, hll4, hm3, he3, hcm3, hir3, hpl3, hfr3, hm4, he4, hcm4, hir4, hpl4, hfr4, hq3, hq4, ho3, ho4, hr3, hr4⟩ := hcut
  have HZC := Lib.hid (And.intro hmb' (And.intro (And.intro hll3 (And.intro hm3 (And.intro he3 (And.intro hcm3 (And.intro hir3 (And.intro hpl3 hfr3)))))) (And.intro hll4 (And.intro hm4 (And.intro he4 (And.intro hcm4 (And.intro hir4 (And.intro hpl4 hfr4))))))))
  clear hmb' hm3 he3 hcm3 hir3 hpl3 hfr3 hm4 he4 hcm4 hir4 hpl4 hfr4
  have HT0 := Lib.hid hT0
  have HK0 := Lib.hid (show MK w wc T (.string nm) (.int .i64 kd') (.int .u16 (mb' : Int)) (.slice q3 m3 e3) (.slice q4 m4 e4) (.slice none 0 0) (zF []) wc from ⟨hO.bl.size, (gLt hX), hT0, fun _ _ _ => rfl, hX, World.ownsRow_nil _ _ _ _, Nat.le_refl _, hO.bl⟩)
  have HX3 := Lib.hid (And.intro hq3 (And.intro hq4 (And.intro ho3 (And.intro ho4 (And.intro hr3 hr4)))))
  have HO := Lib.hid hO
  have HP5 := Lib.hid (HP.out.2.2.below hO.b1)
  have HF5 := Lib.hid (foff_old HP.out.2.2 (Nat.le_of_lt hT1))
  have HCT := Lib.hid (show w1.heap.size ≠ T by omega)
  clear hX hq3 hq4 ho3 ho4 hr3 hr4 hO hT0 hT1
  go_upto_block 0 with fail
  go_wp2_with fail
  go_loopw [8] (fun i wr => ∃ (k : Nat) (v : Value) (l : List (Nat × Nat)), k ≤ n5 ∧ i = .int .i64 k ∧ l.length = k ∧ InF l ∧ MK w wc T (.string nm) (.int .i64 kd') (.int .u16 (mb' : Int)) (.slice q3 m3 e3) (.slice q4 m4 e4) v (zF l) wr) (fun i _ => n5 - (intOf i).toNat)
  case atStart => exact ⟨0, _, [], Nat.zero_le _, rfl, rfl, (fun _ h => by cases h), HK0.out⟩
  case round =>
   obtain ⟨k, v, l, hk, rfl, hl, hin, hK⟩ := hrel
   have HIN := Lib.hid hin
   clear hin
   have hzl := zF_len l
   have HK := Lib.hid hK
   have hq5 := cellOf (hK.row HO.out.ca HCT.out) (j := 5) rfl
   clear hK
   by_cases hkn : k < n5
   ·have e0 : (0 : Int) ≤ (k : Int) := by omega
    have e1 : (k : Int) < (n5 : Int) := by omega
    obtain ⟨b, off, rfl, hbb, x, y, hx, hy⟩ := HP5.out.at hkn
    have hbT : b ≠ T := by
     rcases HF5.out with h | h
     ·omega
     ·exact h _ rfl
    have hx1 := (HK.out.cell (o := off + k * 2) hbb hbT).trans hx
    have hy1 := (HK.out.cell (o := off + k * 2 + 1) hbb hbT).trans hy
    clear hx hy
    obtain ⟨yx, hyx, hyx2⟩ := bits_rng .and (IntKind.u16.wrap (x * 2 ^ min m 16)) 4095 (.inl rfl)
    obtain ⟨yy, hyy, hyy2⟩ := bits_rng .and (IntKind.u16.wrap (y * 2 ^ min m 16)) 4095 (.inl rfl)
    have HYX := Lib.hid (And.intro hyx hyy)
    have HYI := Lib.hid (show InF (l ++ [(yx, yy)]) from fun z hz => by
     rcases List.mem_append.mp hz with h | h
     ·exact HIN.out z h
     ·rw [List.mem_singleton] at h; subst h; exact ⟨hyx2, hyy2⟩)
    clear hyx hyy hyx2 hyy2
    go_upto_region 8 with fail
    clear hx1 hy1 hq5
    have HKB := Lib.hid (HK.out.fault x y)
    have HOW := Lib.hid (own_below HK.out.own ((Below.refl _ _).alloc (Nat.le_refl _) (.cells #[.int .u16 x, .int .u16 y] 69)))
    have HNE := Lib.hid (show v.ownBlock ≠ some wr.heap.size from fun e => by have := (HK.out.own.lt _ e).2; omega)
    revert HKB HOW HNE
    generalize wr.alloc (.cells #[.int .u16 x, .int .u16 y] 69) = W7
    generalize wr.heap.size = F
    intro HKB HOW HNE
    have hK8 := HKB.out.below (below_drew W7)
    refine wp_region_noPanic ?_
    refine wp_region_x 16 (fun W => W.cell? ⟨T, 5, none⟩ = some v ∧ W.cell? ⟨F, 0, none⟩ = some (.int .u16 x) ∧ W.cell? ⟨F, 1, none⟩ = some (.int .u16 y) ∧ KB w wc T F (.string nm) (.int .i64 kd') (.int .u16 (mb' : Int)) (.slice q3 m3 e3) (.slice q4 m4 e4) v x y W) (by kernel_rfl) ?_ (fun hHeld => ?_)
    ·exact kbS hK8
    refine tkX 0 47 ?_ rfl ?_ ?_
    rotate_left
    ·intro w hSw; (try dsimp only at hSw); go_simp; try with_reducible rfl
    try simp only [Act.put, sA, sZ, sS]
    refine tkX 1 48 ?_ rfl ?_ ?_
    rotate_left
    ·intro w hSw; (try dsimp only at hSw); go_simp; try with_reducible rfl
    try simp only [Act.put, sA, sZ, sS]
    refine tkX 2 49 ?_ rfl ?_ ?_
    rotate_left
    ·intro w hSw; (try dsimp only at hSw); go_simp; try with_reducible rfl
    try simp only [Act.put, sA, sZ, sS]
    refine tkX 3 50 ?_ rfl ?_ ?_
    rotate_left
    ·intro w hSw; (try dsimp only at hSw); go_simp; try with_reducible rfl
    try simp only [Act.put, sA, sZ, sS]
    refine tkX 4 51 ?_ rfl ?_ ?_
    rotate_left
    ·intro w hSw; (try dsimp only at hSw); go_simp; try with_reducible rfl
    try simp only [Act.put, sA, sZ, sS]
    refine tkX 5 52 ?_ rfl ?_ ?_
    rotate_left
    ·intro w hSw; (try dsimp only at hSw); go_simp; try with_reducible rfl
    try simp only [Act.put, sA, sZ, sS]
    refine tkX 6 53 ?_ rfl ?_ ?_
    rotate_left
    ·intro w hSw; (try dsimp only at hSw); go_simp; try with_reducible rfl
    try simp only [Act.put, sA, sZ, sS]
    refine tkX 7 54 ?_ rfl ?_ ?_
    rotate_left
    ·intro w hSw; (try dsimp only at hSw); go_simp; try with_reducible rfl
    try simp only [Act.put, sA, sZ, sS]
    refine tkX 8 55 ?_ rfl ?_ ?_
    rotate_left
    ·intro w hSw; (try dsimp only at hSw); go_simp; try with_reducible rfl
    try simp only [Act.put, sA, sZ, sS]
    refine tkX 9 56 ?_ rfl ?_ ?_
    rotate_left
    ·intro w hSw; (try dsimp only at hSw); go_simp; try with_reducible rfl
    try simp only [Act.put, sA, sZ, sS]
    refine tkX 10 57 ?_ rfl ?_ ?_
    rotate_left
    ·intro w hSw; (try dsimp only at hSw); go_simp; try with_reducible rfl
    try simp only [Act.put, sA, sZ, sS]
    refine tkX 11 58 ?_ rfl ?_ ?_
    rotate_left
    ·intro w hSw; (try dsimp only at hSw); go_simp; try with_reducible rfl
    try simp only [Act.put, sA, sZ, sS]
    refine tkX 12 59 ?_ rfl ?_ ?_
    rotate_left
    ·intro w hSw; (try dsimp only at hSw); go_simp; try with_reducible rfl
    try simp only [Act.put, sA, sZ, sS]
    refine wpAnyX_ready (rs := [13]) (by kernel_rfl) (by simp) ?_
    refine AllReadyX.cons (o := ⟨some 60, _, _, _, _, _⟩) rfl (fun K hK => ?_) ?_
    ·go_simp
     have hK13 := hK8.below ((Below.refl _ _).alloc (Nat.le_refl _) (.cells #[.int .u16 (bits .and .u16 (IntKind.u16.wrap (x * 2 ^ min m 16)) 4095), .int .u16 (bits .and .u16 (IntKind.u16.wrap (y * 2 ^ min m 16)) 4095)] 69))
     refine hK.out _ _ ?_ (fun hHeld => ?_)
     ·exact kbS hK13
     clear hK K
     try simp only [Act.put, sA, sZ, sS]
     refine wpAnyX_ready (rs := [14]) (by kernel_rfl) (by simp) ?_
     refine AllReadyX.cons (o := ⟨some 61, _, _, _, _, _⟩) rfl (fun K hK => ?_) ?_
     ·refine step_append_lies _ (by rfl) _ _ _ (by rfl) wc.heap.size 69 i0 (.agg #[.int .u16 0, .int .u16 0]) 2 4 Tryz.underlying47 hi hz0 hz1 hz2 rfl (by omega) v (zF l).length (ftV (zF l)) (by rfl) (HOW.out.alloc _) ⟨W7.heap.size, 0, none⟩ 1 1 _ (by rfl) ?g1 (World.news_of_block (t := 69) (fr := (0, 0)) (heap_alloc_new W7.drew _)) ?g2 (by omega) (by unfold maxLen; omega) (by omega) (by simp; have := HKB.out.sz; omega) (W7.heap.size + 1) (by simp) ?_
      case g1 => rfl
      case g2 => simp [Value.oneCell']
      intro g5 c5' w5 hown5 hgrow hat hlt
      have hK14 := kb_grown hK8 HOW.out HNE.out hgrow
      refine hK.out _ _ ?_ (fun hHeld => ?_)
      ·exact kbS hK14
      clear hK K
      have HO5 := Lib.hid (show w5.ownsRow wc.heap.size 69 2 (.slice (some ⟨g5, 0, none⟩) ((zF l).length + 1) c5') (zF (l ++ [(yx, yy)])).length (ftV (zF (l ++ [(yx, yy)]))) by rw [zF_app, ftV_app, List.length_append]; show w5.ownsRow wc.heap.size 69 2 (.slice (some ⟨g5, 0, none⟩) ((zF l).length + 1) c5') ((zF l).length + 1) (ftV (zF l) ++ [.int .u16 (yx : Int), .int .u16 (yy : Int)]); rw [← HYX.out.1, ← HYX.out.2]; exact hown5)
      clear hown5 hgrow hat hlt
      try simp only [Act.put, sA, sZ, sS]
      refine tkX 15 62 ?_ rfl ?_ ?_
      rotate_left
      ·intro w hSw; (try dsimp only at hSw); go_simp; try with_reducible rfl
      try simp only [Act.put, sA, sZ, sS]
      refine wpAnyX_ready (rs := [16]) (by kernel_rfl) (by simp) ?_
      refine AllReadyX.last (o := ⟨none, _, _, _, _, _⟩) rfl (fun K hK => ?_) ?_
      ·have z5 := cellOf hK14.ta (j := 5) rfl
       have y5 := frozenOf hK14.ta (j := 5)
       go_simp
       refine hK.out _ _ ?_
       clear hK K
       clear z5 y5
       try simp only [Act.put, sA, sZ, sS]
       refine wpAnyX_done (by kernel_rfl) ?_ _
       refine NoPanic.normal ?_
       go_wp2_with fail
       go_roundw
       have h5 := HO5.out
       rw [hzl, hl] at h5
       case rel => exact ⟨k + 1, .slice (some ⟨g5, 0, none⟩) (k + 1) c5', l ++ [(yx, yy)], by omega, by go_num, by rw [List.length_append, hl]; rfl, HYI.out, hK14.put h5⟩
       case measure => simp [intOf]; omega
      exact AllReadyX.nil
     exact AllReadyX.nil
    exact AllReadyX.nil
   ·subst hl
    have e1 : ¬ (l.length : Int) < (n5 : Int) := by omega
    have hown6 := HK.out.own
    rw [hzl] at hown6
    obtain ⟨p6, c6, hv6, hp6, hc6, _⟩ := fltL_of_own hown6
    clear hown6
    subst hv6
    have hX6 := cellOf HK.out.ta (j := 5) rfl
    have hY6 := frozenOf HK.out.ta (j := 5)
    have HP6 := Lib.hid hp6
    clear hp6
    have HT6 := Lib.hid HK.out.ta
    have HR6 := Lib.hid (HK.out.row HO.out.ra (by have := HT0.out; omega))
    have HS3 := Lib.hid (HK.out.setL HX3.out.1 hll3 HX3.out.2.2.1)
    have HS4 := Lib.hid (HK.out.setL HX3.out.2.1 hll4 HX3.out.2.2.2.1)
    go_upto_region 10 with (go_at_call 53; refine (normalR_ex p6 l.length c6 l _ (by omega) rfl HIN.out HP6.out).mono ?_; rintro e w8 ⟨p7, c7, rfl, hc7, hp7, hf7, hb8, hpl7, hcm7⟩; have hX8 := (hb8.block _ (gLt HT6.out)).trans HT6.out; have y5 := frozenOf hX8 (j := 5); have z5 := cellOf hX8 (j := 5) rfl)
    have HX9 := Lib.hid (row_put5 hX8 (.slice p7 (norR l l.length).length c7))
    have HR9 := Lib.hid ((set1_other (W := w8) (b := T) (k := 5) (by have := HT0.out; omega) (.slice p7 (norR l l.length).length c7)).trans ((hb8.block _ (gLt HR6.out)).trans HR6.out))
    have HB9 := Lib.hid (below_set (HK.out.bl.trans (hb8.mono HK.out.bl.size)) (p := ⟨T, 5, none⟩) (by show _ ≤ T; have := HT0.out; omega) (.slice p7 (norR l l.length).length c7))
    have HS9 := Lib.hid (And.intro ((HS3.out.below hb8).set1o hll3 HX3.out.2.2.1 5 (.slice p7 (norR l l.length).length c7)) (And.intro ((HS4.out.below hb8).set1o hll4 HX3.out.2.2.2.1 5 (.slice p7 (norR l l.length).length c7)) (hp7.set1 (off_ne hf7 (gLt HT6.out)) 5 (.slice p7 (norR l l.length).length c7))))
    have HR7 := Lib.hid (off_new (n := (norR l l.length).length) hf7 (gLt HR6.out))
    have HF7 := Lib.hid (And.intro hc7 (And.intro hcm7 (And.intro hpl7 (hf7.mono HK.out.bl.size))))
    clear hp7 hf7 hb8 hX8 y5 z5 hX6 hY6 hq5
    revert HX9 HR9 HB9 HS9
    generalize w8.setCell ⟨T, 5, none⟩ (.slice p7 (norR l l.length).length c7) = W9
    intro HX9 HR9 HB9 HS9
    have z0 := cellOf HX9.out (j := 0) rfl; have z1 := cellOf HX9.out (j := 1) rfl; have z2 := cellOf HX9.out (j := 2) rfl; have z3 := cellOf HX9.out (j := 3) rfl; have z4 := cellOf HX9.out (j := 4) rfl; have z5 := cellOf HX9.out (j := 5) rfl
    have r0 := cellOf HR9.out (j := 0) rfl; have r1 := cellOf HR9.out (j := 1) rfl; have r2 := cellOf HR9.out (j := 2) rfl; have r3 := cellOf HR9.out (j := 3) rfl; have r4 := cellOf HR9.out (j := 4) rfl; have r5 := cellOf HR9.out (j := 5) rfl
    have f0 := frozenOf HR9.out (j := 0); have f1 := frozenOf HR9.out (j := 1); have f2 := frozenOf HR9.out (j := 2); have f3 := frozenOf HR9.out (j := 3); have f4 := frozenOf HR9.out (j := 4); have f5 := frozenOf HR9.out (j := 5)
    go_wp2_with fail
    exact cfc_end 4 rfl HR9.out HB9.out (Nat.le_succ _) _ _ mb' _ _ _ _ _ _ _ _ _ l3 l4 (norR l l.length) _ rfl HZC.out.1 HZC.out.2.1 HZC.out.2.2 HS9.out.1 HS9.out.2.1 HS9.out.2.2 (by have := norR_len l l.length; omega) HF7.out.1 HF7.out.2.1 (fun y hy => HIN.out y (norR_mem' l _ y (Nat.le_refl _) hy)) HF7.out.2.2.1 HF7.out.2.2.2 HX3.out.2.2.2.2.1 HX3.out.2.2.2.2.2 HR7.out
end Go.Proofs.YtmcnpaehmnadeaaGreatDoor
