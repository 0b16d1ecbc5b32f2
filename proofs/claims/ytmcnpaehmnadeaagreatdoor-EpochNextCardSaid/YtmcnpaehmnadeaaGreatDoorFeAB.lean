/-
  EpochNext: sederuntref27.Equal at two configurations that hold the same.
-/
import Derived.Test.YtmcnpaehmnadeaaGreatDoorFdHK
set_option maxHeartbeats 6400000
set_option maxRecDepth 1000000
namespace Go.Proofs.YtmcnpaehmnadeaaGreatDoor
open Go Go.RowKit
theorem sameS_ex (p q : Option Addr) (n c d : Nat) (l : List Nat) (w : World) (hn : n ≤ 1000000) (hl : l.length = n) (h1 : SetL w p l) (h2 : SetL w q l) : Calls Tryz.prog 32 #[.slice p n c, .slice q n d] w (IsB true w) := by
 have H1 := Lib.hid h1
 have H2 := Lib.hid h2
 have HM := Lib.hid hl
 clear h1 h2 hl
 go_enter Tryz.func32, Tryz.ntmps32
 go_wp2_with fail
 go_loopw [5] (fun i wr => ∃ k : Nat, k ≤ n ∧ i = .int .i64 k ∧ Below w.heap.size w wr) (fun i _ => n - (intOf i).toNat)
 case atStart => exact ⟨0, Nat.zero_le _, rfl, Below.refl _ _⟩
 case round =>
  obtain ⟨k, hk, rfl, hb⟩ := hrel
  have HB := Lib.hid hb
  clear hb
  by_cases hkn : k < n
  ·have hkl : k < l.length := by have := HM.out; omega
   obtain ⟨b1, o1, rfl, hb1, hx⟩ := H1.out.at hkl
   obtain ⟨b2, o2, rfl, hb2, hy⟩ := H2.out.at hkl
   have hx1 := (HB.out.cell (p := ⟨b1, o1 + k, none⟩) hb1).trans hx
   have hy1 := (HB.out.cell (p := ⟨b2, o2 + k, none⟩) hb2).trans hy
   clear hx hy
   generalize l[k] = x at hx1 hy1
   have e1 : (k : Int) < (n : Int) := by omega
   have e2 : (0 : Int) ≤ (k : Int) := by omega
   go_upto_region 6 with fail
   go_quiet (fail)
   go_wp2_with fail
   go_roundw
   case rel => exact ⟨k + 1, by omega, by go_num, below_drewN HB.out _⟩
   case measure => simp [intOf]; omega
  ·go_wp2_with fail
   go_ret
   exact ⟨rfl, HB.out⟩
theorem sameF_ex (p q : Option Addr) (n c d : Nat) (l : List (Nat × Nat)) (w : World) (hn : n ≤ 1000000) (hl : l.length = n) (h1 : FltL w p l) (h2 : FltL w q l) : Calls Tryz.prog 33 #[.slice p n c, .slice q n d] w (IsB true w) := by
 have H1 := Lib.hid h1
 have H2 := Lib.hid h2
 have HM := Lib.hid hl
 clear h1 h2 hl
 go_enter Tryz.func33, Tryz.ntmps33
 go_wp2_with fail
 go_loopw [5] (fun i wr => ∃ k : Nat, k ≤ n ∧ i = .int .i64 k ∧ Below w.heap.size w wr) (fun i _ => n - (intOf i).toNat)
 case atStart => exact ⟨0, Nat.zero_le _, rfl, Below.refl _ _⟩
 case round =>
  obtain ⟨k, hk, rfl, hb⟩ := hrel
  have HB := Lib.hid hb
  clear hb
  by_cases hkn : k < n
  ·have hkl : k < l.length := by have := HM.out; omega
   obtain ⟨b1, o1, rfl, hb1, hx, hx'⟩ := H1.out.at hkl
   obtain ⟨b2, o2, rfl, hb2, hy, hy'⟩ := H2.out.at hkl
   obtain ⟨u, v, hg⟩ : ∃ u v, l[k] = (u, v) := ⟨_, _, rfl⟩
   rw [hg] at hx hx' hy hy'
   simp only at hx hx' hy hy'
   have hx1 := (HB.out.cell (p := ⟨b1, o1 + k * 2, none⟩) hb1).trans hx
   have hx2 := (HB.out.cell (p := ⟨b1, o1 + k * 2 + 1, none⟩) hb1).trans hx'
   have hy1 := (HB.out.cell (p := ⟨b2, o2 + k * 2, none⟩) hb2).trans hy
   have hy2 := (HB.out.cell (p := ⟨b2, o2 + k * 2 + 1, none⟩) hb2).trans hy'
   clear hx hy hx' hy' hg
   have e1 : (k : Int) < (n : Int) := by omega
   have e2 : (0 : Int) ≤ (k : Int) := by omega
   go_upto_region 6 with fail
   go_quiet (fail)
   go_wp2_with fail
   go_roundw
   case rel => exact ⟨k + 1, by omega, by go_num, below_drewN HB.out _⟩
   case measure => simp [intOf]; omega
  ·go_wp2_with fail
   go_ret
   exact ⟨rfl, HB.out⟩
structure CfH (W : World) (p3 : Option Addr) (n3 : Nat) (p4 : Option Addr) (n4 : Nat) (p5 : Option Addr) (n5 : Nat) (R Wr : List Nat) (F : List (Nat × Nat)) : Prop where
 l3 : R.length = n3
 s3 : SetL W p3 R
 l4 : Wr.length = n4
 s4 : SetL W p4 Wr
 l5 : F.length = n5
 s5 : FltL W p5 F
 b3 : n3 ≤ 1000000
 b4 : n4 ≤ 1000000
 b5 : n5 ≤ 1000000
theorem CfH.below {W W' : World} {p3 : Option Addr} {n3 : Nat} {p4 : Option Addr} {n4 : Nat} {p5 : Option Addr} {n5 : Nat} {R Wr : List Nat} {F : List (Nat × Nat)} (h : CfH W p3 n3 p4 n4 p5 n5 R Wr F) (hb : Below W.heap.size W W') : CfH W' p3 n3 p4 n4 p5 n5 R Wr F :=
 { h with s3 := h.s3.below hb, s4 := h.s4.below hb, s5 := h.s5.below hb }
theorem equal_ex (nm : ByteArray) (kd mb : Int) (p3 p3' : Option Addr) (n3 c3 c3' : Nat) (p4 p4' : Option Addr) (n4 c4 c4' : Nat) (p5 p5' : Option Addr) (n5 c5 c5' : Nat) (R Wr : List Nat) (F : List (Nat × Nat)) (w : World) (h : CfH w p3 n3 p4 n4 p5 n5 R Wr F) (h' : CfH w p3' n3 p4' n4 p5' n5 R Wr F) :
  Calls Tryz.prog 18 #[.agg #[.string nm, .int .i64 kd, .int .u16 mb, .slice p3 n3 c3, .slice p4 n4 c4, .slice p5 n5 c5], .agg #[.string nm, .int .i64 kd, .int .u16 mb, .slice p3' n3 c3', .slice p4' n4 c4', .slice p5' n5 c5']] w (IsB true w) := by
 have HO := Lib.hid (And.intro (heap_alloc2_old w (.cells #[.string nm, .int .i64 kd, .int .u16 mb, .slice p3 n3 c3, .slice p4 n4 c4, .slice p5 n5 c5] 49) (.cells #[.string nm, .int .i64 kd, .int .u16 mb, .slice p3' n3 c3', .slice p4' n4 c4', .slice p5' n5 c5'] 49)) (And.intro (heap_alloc2_new w (.cells #[.string nm, .int .i64 kd, .int .u16 mb, .slice p3 n3 c3, .slice p4 n4 c4, .slice p5 n5 c5] 49) (.cells #[.string nm, .int .i64 kd, .int .u16 mb, .slice p3' n3 c3', .slice p4' n4 c4', .slice p5' n5 c5'] 49)) (show Below w.heap.size w ((w.alloc (.cells #[.string nm, .int .i64 kd, .int .u16 mb, .slice p3 n3 c3, .slice p4 n4 c4, .slice p5 n5 c5] 49)).alloc (.cells #[.string nm, .int .i64 kd, .int .u16 mb, .slice p3' n3 c3', .slice p4' n4 c4', .slice p5' n5 c5'] 49)) from ((Below.refl _ _).alloc (Nat.le_refl _) _).alloc (by simp) _)))
 have H3 := Lib.hid (fun W (hW : Below w.heap.size w W) => sameS_ex p3 p3' n3 c3 c3' R W h.b3 h.l3 (h.s3.below hW) (h'.s3.below hW))
 have H4 := Lib.hid (fun W (hW : Below w.heap.size w W) => sameS_ex p4 p4' n4 c4 c4' Wr W h.b4 h.l4 (h.s4.below hW) (h'.s4.below hW))
 have H5 := Lib.hid (fun W (hW : Below w.heap.size w W) => sameF_ex p5 p5' n5 c5 c5' F W h.b5 h.l5 (h.s5.below hW) (h'.s5.below hW))
 clear h h'
 go_enter Tryz.func18, Tryz.ntmps18
 go_upto_region 1 with fail
 revert HO
 generalize (w.alloc (.cells #[.string nm, .int .i64 kd, .int .u16 mb, .slice p3 n3 c3, .slice p4 n4 c4, .slice p5 n5 c5] 49)).alloc (.cells #[.string nm, .int .i64 kd, .int .u16 mb, .slice p3' n3 c3', .slice p4' n4 c4', .slice p5' n5 c5'] 49) = W0
 intro HO
 obtain ⟨z0, z1, z2, z3, z4, z5⟩ := cs6 HO.out.1
 obtain ⟨y0, y1, y2, y3, y4, y5⟩ := cs6 HO.out.2.1
 go_wp2_with (first
  | (go_at_call 32; (with_reducible refine (H3.out _ HO.out.2.2).mono ?_); rintro e w3 ⟨rfl, hb3⟩; have HB3 := Lib.hid (HO.out.2.2.trans (hb3.mono HO.out.2.2.size)); have HRA := Lib.hid ((hb3.block _ (gLt HO.out.1)).trans HO.out.1); have HRB := Lib.hid ((hb3.block _ (gLt HO.out.2.1)).trans HO.out.2.1); clear hb3 z0 z1 z2 z3 z4 z5 y0 y1 y2 y3 y4 y5; have z4 := cellOf HRA.out (j := 4) rfl; have y4 := cellOf HRB.out (j := 4) rfl)
  | (go_at_call 32; (with_reducible refine (H4.out _ HB3.out).mono ?_); rintro e w4 ⟨rfl, hb4⟩; have HB4 := Lib.hid (HB3.out.trans (hb4.mono HB3.out.size)); have z5 := cellOf ((hb4.block _ (gLt HRA.out)).trans HRA.out) (j := 5) rfl; have y5 := cellOf ((hb4.block _ (gLt HRB.out)).trans HRB.out) (j := 5) rfl; clear hb4 z4 y4)
  | (go_at_call 33; (with_reducible refine (H5.out _ HB4.out).mono ?_); rintro e w5 ⟨rfl, hb5⟩; have HB5 := Lib.hid (HB4.out.trans (hb5.mono HB4.out.size))))
 go_ret
 exact ⟨rfl, HB5.out⟩
end Go.Proofs.YtmcnpaehmnadeaaGreatDoor
/-
  EpochNext: joint.Of, exactly.
-/
namespace Go.Proofs.YtmcnpaehmnadeaaGreatDoor
open Go Go.RowKit
def CfRet (nm : ByteArray) (kd mb : Int) (R Wr : List Nat) (F : List (Nat × Nat)) (E : Nat) (w : World) (e : Ending) (w' : World) : Prop :=
 ∃ p3 n3 c3 p4 n4 c4 p5 n5 c5, e = .returned (.tuple #[.agg #[.string nm, .int .i64 kd, .int .u16 mb, .slice p3 n3 c3, .slice p4 n4 c4, .slice p5 n5 c5], .int .i64 (E : Nat)]) ∧ CfH w' p3 n3 p4 n4 p5 n5 R Wr F ∧ Below w.heap.size w w' ∧ FreshP w.heap.size p3 ∧ FreshP w.heap.size p4 ∧ FreshP w.heap.size p5
def jointB : ByteArray := ⟨#[106, 111, 105, 110, 116]⟩
def emptyB : ByteArray := ⟨#[]⟩
def JoRet (E : Nat) (kd mb : Int) (R Wr : List Nat) (F : List (Nat × Nat)) (w : World) (e : Ending) (w' : World) : Prop :=
 CfRet (if E = 0 then jointB else emptyB) (if E = 0 then kd else 0) (if E = 0 then mb else 0) (if E = 0 then R else []) (if E = 0 then Wr else []) (if E = 0 then F else []) E w e w'
def four (a b c d : Nat) : Nat := if a ≠ 0 then a else if b ≠ 0 then b else if c ≠ 0 then c else d
def z6 : Array Value := #[.string ⟨#[]⟩, .int .i64 0, .int .u16 0, .slice none 0 0, .slice none 0 0, .slice none 0 0]
structure JO (w : World) (ca cb : Array Value) (D : Nat) (cd : Array Value) (W : World) : Prop where
 ra : W.heap[w.heap.size]? = some (.cells ca 49 (0, 0))
 rb : W.heap[w.heap.size + 1]? = some (.cells cb 49 (0, 0))
 rr : W.heap[w.heap.size + 1 + 1]? = some (.cells z6 49 (0, 0))
 rd : W.heap[D]? = some (.cells cd 49 (0, 0))
 hd : w.heap.size + 1 + 1 < D
 bl : Below w.heap.size w W
theorem JO.below {w W W' : World} {ca cb cd : Array Value} {D : Nat} (h : JO w ca cb D cd W) (hb : Below W.heap.size W W') : JO w ca cb D cd W' :=
 ⟨(hb.block _ (gLt h.ra)).trans h.ra, (hb.block _ (gLt h.rb)).trans h.rb, (hb.block _ (gLt h.rr)).trans h.rr, (hb.block _ (gLt h.rd)).trans h.rd, h.hd, h.bl.trans (hb.mono h.bl.size)⟩
theorem JO.put {w W : World} {ca cb cd : Array Value} {D : Nat} (h : JO w ca cb D cd W) (j : Nat) (v : Value) : JO w ca cb D (cd.setIfInBounds j v) (W.setCell ⟨D, j, none⟩ v) :=
 ⟨(set1_other (by have := h.hd; omega) v).trans h.ra, (set1_other (by have := h.hd; omega) v).trans h.rb, (set1_other (by have := h.hd; omega) v).trans h.rr, by
  unfold World.setCell
  simp only [Array.getElem?_modify, h.rd, if_true, Option.map_some]
  rfl, h.hd, below_set h.bl (by show _ ≤ D; have := h.hd; omega) v⟩
theorem heap_alloc3 (w : World) (a b c : Obj) : (((w.alloc a).alloc b).alloc c).heap[w.heap.size]? = some a ∧ (((w.alloc a).alloc b).alloc c).heap[w.heap.size + 1]? = some b ∧ (((w.alloc a).alloc b).alloc c).heap[w.heap.size + 1 + 1]? = some c ∧ (((w.alloc a).alloc b).alloc c).heap.size = w.heap.size + 3 ∧ Below w.heap.size w (((w.alloc a).alloc b).alloc c) := by
 refine ⟨(Below.heap_alloc _ _ _ (by simp; omega)).trans (heap_alloc2_old w a b), (Below.heap_alloc _ _ _ (by simp)).trans (heap_alloc2_new w a b), ?_, by simp, (((Below.refl _ _).alloc (Nat.le_refl _) _).alloc (by simp) _).alloc (by simp; omega) _⟩
 have h := heap_alloc_new ((w.alloc a).alloc b) c
 rw [World.size_alloc, World.size_alloc] at h
 exact h
theorem results_row_err {P : Program} {fn : Func} {p u : Tmp} {ty : TypeId} (h : fn.results = #[.cell p ty, .tmp u]) (tmps : Array Value) (w : World) (g : Nat) (t : TypeId) (cs : Array Value) (fr : Nat × Nat) (d : TypeDesc)
  (hp : tmps.getD p undef = .pointer (some ⟨g, 0, none⟩)) (hg : w.heap[g]? = some (.cells cs t fr))
  (hu : P.underlying ty = some d) (hd : (match d with | .struct _ | .array _ _ => true | _ => false) = true) (hi : (P.info? ty).map (·.size) = some cs.size) :
  (results fn tmps).run P w = .ok (.tuple #[.agg cs, tmps.getD u undef]) w := by
 have hp' : tmps[p]?.getD undef = .pointer (some ⟨g, 0, none⟩) := by simpa using hp
 rw [results_cell_tmp h]
 simp [hp', asAddr, run_loadVar_row w g t ty cs fr d hg hu hd hi, Result.andThen]
theorem SetL.set6 {W : World} {p : Option Addr} {l : List Nat} {R : Nat} (h : SetL W p l) (hf : ∀ q, p = some q → q.block ≠ R) (v0 v1 v2 v3 v4 v5 : Value) : SetL ((((((W.setCell ⟨R, 0, none⟩ v0).setCell ⟨R, 1, none⟩ v1).setCell ⟨R, 2, none⟩ v2).setCell ⟨R, 3, none⟩ v3).setCell ⟨R, 4, none⟩ v4).setCell ⟨R, 5, none⟩ v5) p l := by
 rcases h with h | ⟨b, off, h1, h2, h3⟩
 ·exact .inl h
 ·exact .inr ⟨b, off, h1, by rw [set6_size]; exact h2, fun i hi => (World.cell?_of_block (a := ⟨b, off + i, none⟩) (set6_other (hf _ h1) v0 v1 v2 v3 v4 v5)).trans (h3 i hi)⟩
theorem FltL.set6 {W : World} {p : Option Addr} {l : List (Nat × Nat)} {R : Nat} (h : FltL W p l) (hf : ∀ q, p = some q → q.block ≠ R) (v0 v1 v2 v3 v4 v5 : Value) : FltL ((((((W.setCell ⟨R, 0, none⟩ v0).setCell ⟨R, 1, none⟩ v1).setCell ⟨R, 2, none⟩ v2).setCell ⟨R, 3, none⟩ v3).setCell ⟨R, 4, none⟩ v4).setCell ⟨R, 5, none⟩ v5) p l := by
 rcases h with h | ⟨b, off, h1, h2, h3⟩
 ·exact .inl h
 ·exact .inr ⟨b, off, h1, by rw [set6_size]; exact h2, fun i hi => ⟨(World.cell?_of_block (a := ⟨b, off + i * 2, none⟩) (set6_other (hf _ h1) v0 v1 v2 v3 v4 v5)).trans (h3 i hi).1, (World.cell?_of_block (a := ⟨b, off + i * 2 + 1, none⟩) (set6_other (hf _ h1) v0 v1 v2 v3 v4 v5)).trans (h3 i hi).2⟩⟩
theorem off_ne {R B : Nat} {p : Option Addr} (h : FreshP B p) (hR : R < B) : ∀ q, p = some q → q.block ≠ R := fun q hq he => by
 have := h q hq
 omega
theorem cfe_end {w W : World} {fn : Func} {R : Nat} {a0 a1 a2 a3 a4 a5 : Value} (pp uu : Tmp) (hfn : fn.results = #[.cell pp 49, .tmp uu]) (hR : W.heap[R]? = some (.cells #[a0, a1, a2, a3, a4, a5] 49 (0, 0))) (hb : Below w.heap.size w W) (hge : w.heap.size ≤ R)
  (nm : ByteArray) (kd mb : Int) (p3 : Option Addr) (n3 c3 : Nat) (p4 : Option Addr) (n4 c4 : Nat) (p5 : Option Addr) (n5 c5 : Nat) (Rd Wr : List Nat) (F : List (Nat × Nat)) (E : Nat) (tmps : Array Value) (h6 : tmps.getD pp undef = .pointer (some ⟨R, 0, none⟩)) (h7 : tmps.getD uu undef = .int .i64 (E : Nat))
  (h : CfH W p3 n3 p4 n4 p5 n5 Rd Wr F) (ho3 : ∀ q, p3 = some q → q.block ≠ R) (ho4 : ∀ q, p4 = some q → q.block ≠ R) (ho5 : ∀ q, p5 = some q → q.block ≠ R) (hf3 : FreshP w.heap.size p3) (hf4 : FreshP w.heap.size p4) (hf5 : FreshP w.heap.size p5) (Q : Ending → World → Prop) (hQ : ∀ e w', CfRet nm kd mb Rd Wr F E w e w' → Q e w') :
  bodyPost Tryz.prog fn Q Exit.ret { tmps := tmps, defers := [] } ((((((W.setCell ⟨R, 0, none⟩ (.string nm)).setCell ⟨R, 1, none⟩ (.int .i64 kd)).setCell ⟨R, 2, none⟩ (.int .u16 mb)).setCell ⟨R, 3, none⟩ (.slice p3 n3 c3)).setCell ⟨R, 4, none⟩ (.slice p4 n4 c4)).setCell ⟨R, 5, none⟩ (.slice p5 n5 c5)) := by
 refine bodyPost_ret (results_row_err hfn _ _ R 49 #[.string nm, .int .i64 kd, .int .u16 mb, .slice p3 n3 c3, .slice p4 n4 c4, .slice p5 n5 c5] (0, 0) _ h6 (row_set6 hR _ _ _ _ _ _) Tryz.underlying49 rfl Tryz.size49) rfl ?_
 rw [h7]
 exact hQ _ _ ⟨p3, n3, c3, p4, n4, c4, p5, n5, c5, rfl, ⟨h.l3, h.s3.set6 ho3 _ _ _ _ _ _, h.l4, h.s4.set6 ho4 _ _ _ _ _ _, h.l5, h.s5.set6 ho5 _ _ _ _ _ _, h.b3, h.b4, h.b5⟩, below_set6 hb hge _ _ _ _ _ _, hf3, hf4, hf5⟩
theorem none_ne {R : Nat} : ∀ q : Addr, (none : Option Addr) = some q → q.block ≠ R := fun _ h => by cases h
theorem cfh_nil (W : World) : CfH W none 0 none 0 none 0 [] [] [] := ⟨rfl, .inl rfl, rfl, .inl rfl, rfl, .inl rfl, by decide, by decide, by decide⟩
theorem four_1 {a b c d : Nat} (h : a ≠ 0) : four a b c d = a := by unfold four; rw [if_pos h]
theorem four_2 {b c d : Nat} (h : b ≠ 0) : four 0 b c d = b := by unfold four; rw [if_neg (by simp), if_pos h]
theorem four_3 {c d : Nat} (h : c ≠ 0) : four 0 0 c d = c := by unfold four; rw [if_neg (by simp), if_neg (by simp), if_pos h]
theorem four_4 {d : Nat} : four 0 0 0 d = d := by unfold four; rw [if_neg (by simp), if_neg (by simp), if_neg (by simp)]
theorem JoRet.err {E E' : Nat} {kd mb : Int} {R Wr : List Nat} {F : List (Nat × Nat)} {w : World} {e : Ending} {w' : World} (hE : E = E') (hne : E' ≠ 0) (h : CfRet emptyB 0 0 [] [] [] E' w e w') : JoRet E kd mb R Wr F w e w' := by
 subst hE
 unfold JoRet
 rw [if_neg hne, if_neg hne, if_neg hne, if_neg hne, if_neg hne, if_neg hne]
 exact h
theorem JoRet.ok {E : Nat} {kd mb : Int} {R Wr : List Nat} {F : List (Nat × Nat)} {w : World} {e : Ending} {w' : World} (hE : E = 0) (h : CfRet jointB kd mb R Wr F 0 w e w') : JoRet E kd mb R Wr F w e w' := by
 subst hE
 exact h
theorem SetL.set1 {W : World} {p : Option Addr} {l : List Nat} {D : Nat} (h : SetL W p l) (hf : ∀ q, p = some q → q.block ≠ D) (j : Nat) (v : Value) : SetL (W.setCell ⟨D, j, none⟩ v) p l := by
 rcases h with h | ⟨b, off, h1, h2, h3⟩
 ·exact .inl h
 ·exact .inr ⟨b, off, h1, by simpa using h2, fun i hi => (World.cell?_of_block (a := ⟨b, off + i, none⟩) (set1_other (hf _ h1) v)).trans (h3 i hi)⟩
theorem FltL.set1 {W : World} {p : Option Addr} {l : List (Nat × Nat)} {D : Nat} (h : FltL W p l) (hf : ∀ q, p = some q → q.block ≠ D) (j : Nat) (v : Value) : FltL (W.setCell ⟨D, j, none⟩ v) p l := by
 rcases h with h | ⟨b, off, h1, h2, h3⟩
 ·exact .inl h
 ·exact .inr ⟨b, off, h1, by simpa using h2, fun i hi => ⟨(World.cell?_of_block (a := ⟨b, off + i * 2, none⟩) (set1_other (hf _ h1) v)).trans (h3 i hi).1, (World.cell?_of_block (a := ⟨b, off + i * 2 + 1, none⟩) (set1_other (hf _ h1) v)).trans (h3 i hi).2⟩⟩
theorem andL_len (f g : List Nat) : (andL f g).length ≤ 1000000 := by
 unfold andL
 split
 ·decide
 ·split
  ·decide
  ·omega
theorem fjL_len (kda : Int) (mba : Nat) (rda wra : List Nat) (fsa : List (Nat × Nat)) (kdb : Int) (mbb : Nat) (rdb wrb : List Nat) (fsb : List (Nat × Nat)) : (fjL kda mba rda wra fsa kdb mbb rdb wrb fsb).length ≤ 1000000 := by
 unfold fjL nzL
 split
 ·decide
 ·split
  ·decide
  ·split
   ·decide
   ·split
    ·decide
    ·omega
def jkd (kda kdb : Int) : Int := if kda = 2 ∨ kdb = 2 then 2 else 1
theorem valE_kd {kd : Int} {mb : Nat} {rd wr : List Nat} {fs : List (Nat × Nat)} (h : valE kd mb rd wr fs = 0) : kd = 1 ∨ kd = 2 := by
 unfold valE at h
 by_cases h1 : kd ≠ 1 ∧ kd ≠ 2
 ·rw [if_pos h1] at h; cases h
 ·omega
theorem jkd_max {kda kdb : Int} (ha : kda = 1 ∨ kda = 2) (hb : kdb = 1 ∨ kdb = 2) : max kda kdb = jkd kda kdb := by
 rcases ha with rfl | rfl <;> rcases hb with rfl | rfl <;> rfl
theorem jointOf_ex (nma : ByteArray) (kda : Int) (mba : Nat) (p3a : Option Addr) (n3a c3a : Nat) (p4a : Option Addr) (n4a c4a : Nat) (p5a : Option Addr) (n5a c5a : Nat) (rda wra : List Nat) (fsa : List (Nat × Nat)) (nmb : ByteArray) (kdb : Int) (mbb : Nat) (p3b : Option Addr) (n3b c3b : Nat) (p4b : Option Addr) (n4b c4b : Nat) (p5b : Option Addr) (n5b c5b : Nat) (rdb wrb : List Nat) (fsb : List (Nat × Nat)) (w : World) (ha : CfgL w nma mba p3a n3a c3a p4a n4a c4a p5a n5a c5a rda wra fsa) (hb : CfgL w nmb mbb p3b n3b c3b p4b n4b c4b p5b n5b c5b rdb wrb fsb) :
  Calls Tryz.prog 28 #[.agg #[.string nma, .int .i64 kda, .int .u16 (mba : Int), .slice p3a n3a c3a, .slice p4a n4a c4a, .slice p5a n5a c5a], .agg #[.string nmb, .int .i64 kdb, .int .u16 (mbb : Int), .slice p3b n3b c3b, .slice p4b n4b c4b, .slice p5b n5b c5b]] w (JoRet (four (bothE (valE kda mba rda wra fsa) (valE kdb mbb rdb wrb fsb)) (andE rda rdb) (andE wra wrb) (fjE kda mba rda wra fsa kdb mbb rdb wrb fsb)) (jkd kda kdb) (bits .or .u16 (mba : Int) (mbb : Int)) (andL rda rdb) (andL wra wrb) (fjL kda mba rda wra fsa kdb mbb rdb wrb fsb) w) := by
 have HA := Lib.hid ha
 have HBB := Lib.hid hb
 have HO := Lib.hid (heap_alloc3 w (.cells #[.string nma, .int .i64 kda, .int .u16 (mba : Int), .slice p3a n3a c3a, .slice p4a n4a c4a, .slice p5a n5a c5a] 49) (.cells #[.string nmb, .int .i64 kdb, .int .u16 (mbb : Int), .slice p3b n3b c3b, .slice p4b n4b c4b, .slice p5b n5b c5b] 49) (.cells z6 49))
 have HK := Lib.hid (show (bothE (valE kda mba rda wra fsa) (valE kdb mbb rdb wrb fsb)) = 0 → max kda kdb = jkd kda kdb from fun h => jkd_max (valE_kd (bothE_zero h).1) (valE_kd (bothE_zero h).2))
 have HV := Lib.hid (fun (g cap : Nat) (W : World) (hW : Below w.heap.size w W) (hg : W.heap[g]? = some (.cells #[.string nma, .int .i64 kda, .int .u16 (mba : Int), .slice p3a n3a c3a, .slice p4a n4a c4a, .slice p5a n5a c5a, .string nmb, .int .i64 kdb, .int .u16 (mbb : Int), .slice p3b n3b c3b, .slice p4b n4b c4b, .slice p5b n5b c5b] 49 (0, 0))) => jointValid_ex nma kda mba p3a n3a c3a p4a n4a c4a p5a n5a c5a rda wra fsa nmb kdb mbb p3b n3b c3b p4b n4b c4b p5b n5b c5b rdb wrb fsb g cap W (ha.below hW) (hb.below hW) hg)
 have HR := Lib.hid (fun W (hW : Below w.heap.size w W) => andI_ex p3a n3a c3a rda p3b n3b c3b rdb W ha.l3 ha.k3 ha.r3 (ha.s3.below hW) hb.l3 hb.k3 hb.r3 (hb.s3.below hW))
 have HWr := Lib.hid (fun W (hW : Below w.heap.size w W) => andI_ex p4a n4a c4a wra p4b n4b c4b wrb W ha.l4 ha.k4 ha.r4 (ha.s4.below hW) hb.l4 hb.k4 hb.r4 (hb.s4.below hW))
 have HJ := Lib.hid (fun W (hW : Below w.heap.size w W) => faultsI_of normOk nma kda mba p3a n3a c3a p4a n4a c4a p5a n5a c5a rda wra fsa nmb kdb mbb p3b n3b c3b p4b n4b c4b p5b n5b c5b rdb wrb fsb W (ha.below hW) (hb.below hW))
 clear ha hb
 have HL3 := Lib.hid (andL_len rda rdb)
 have HL4 := Lib.hid (andL_len wra wrb)
 have HL5 := Lib.hid (fjL_len kda mba rda wra fsa kdb mbb rdb wrb fsb)
 generalize (fjE kda mba rda wra fsa kdb mbb rdb wrb fsb) = E4 at HJ ⊢
 generalize (fjL kda mba rda wra fsa kdb mbb rdb wrb fsb) = L4 at HJ HL5 ⊢
 generalize (bothE (valE kda mba rda wra fsa) (valE kdb mbb rdb wrb fsb)) = E1 at HV HK ⊢
 generalize andE rda rdb = E2 at HR ⊢
 generalize andL rda rdb = L2 at HR HL3 ⊢
 generalize andE wra wrb = E3 at HWr ⊢
 generalize andL wra wrb = L3 at HWr HL4 ⊢
 go_enter Tryz.func28, Tryz.ntmps28
 go_upto_region 1 with fail
 revert HO
 unfold z6
 generalize ((w.alloc (.cells #[.string nma, .int .i64 kda, .int .u16 (mba : Int), .slice p3a n3a c3a, .slice p4a n4a c4a, .slice p5a n5a c5a] 49)).alloc (.cells #[.string nmb, .int .i64 kdb, .int .u16 (mbb : Int), .slice p3b n3b c3b, .slice p4b n4b c4b, .slice p5b n5b c5b] 49)).alloc _ = W0
 intro HO
 obtain ⟨z0, z1, z2, z3, z4, z5⟩ := cs6 HO.out.1
 obtain ⟨y0, y1, y2, y3, y4, y5⟩ := cs6 HO.out.2.1
 go_upto_region 2 with (go_at_call 40; (refine (HV.out _ _ _ (HO.out.2.2.2.2.trans (((Below.refl _ _).alloc (Nat.le_refl _) _).mono HO.out.2.2.2.2.size)) (heap_alloc_new _ _)).mono ?_); rintro e w1 ⟨rfl, hb1⟩; have HB0 := Lib.hid (((Below.refl W0.heap.size W0).alloc (Nat.le_refl _) (.cells #[.string nma, .int .i64 kda, .int .u16 (mba : Int), .slice p3a n3a c3a, .slice p4a n4a c4a, .slice p5a n5a c5a, .string nmb, .int .i64 kdb, .int .u16 (mbb : Int), .slice p3b n3b c3b, .slice p4b n4b c4b, .slice p5b n5b c5b] 49)).trans (hb1.mono (by simp))); clear hb1)
 clear z0 z1 z2 z3 z4 z5 y0 y1 y2 y3 y4 y5
 have HB1 := Lib.hid (HO.out.2.2.2.2.trans (HB0.out.mono HO.out.2.2.2.2.size))
 have HRA := Lib.hid ((HB0.out.block _ (gLt HO.out.1)).trans HO.out.1)
 have HRB := Lib.hid ((HB0.out.block _ (gLt HO.out.2.1)).trans HO.out.2.1)
 have HRR := Lib.hid ((HB0.out.block _ (gLt HO.out.2.2.1)).trans HO.out.2.2.1)
 have hsz : w.heap.size + 3 ≤ w1.heap.size := by have := HB0.out.size; rw [HO.out.2.2.2.1] at this; exact this
 clear HO HV HB0
 by_cases hE1 : E1 = 0
 ·have HKD := Lib.hid (HK.out hE1)
  subst hE1
  clear HK
  have z1 := cellOf HRA.out (j := 1) rfl; have z2 := cellOf HRA.out (j := 2) rfl
  have y1 := cellOf HRB.out (j := 1) rfl; have y2 := cellOf HRB.out (j := 2) rfl
  go_upto_region 5 with fail
  have HX := Lib.hid (show JO w #[.string nma, .int .i64 kda, .int .u16 (mba : Int), .slice p3a n3a c3a, .slice p4a n4a c4a, .slice p5a n5a c5a] #[.string nmb, .int .i64 kdb, .int .u16 (mbb : Int), .slice p3b n3b c3b, .slice p4b n4b c4b, .slice p5b n5b c5b] w1.heap.size #[.string ⟨#[106, 111, 105, 110, 116]⟩, .int .i64 (max kda kdb), .int .u16 (bits .or .u16 (mba : Int) (mbb : Int)), .slice none 0 0, .slice none 0 0, .slice none 0 0] (w1.alloc (.cells #[.string ⟨#[106, 111, 105, 110, 116]⟩, .int .i64 (max kda kdb), .int .u16 (bits .or .u16 (mba : Int) (mbb : Int)), .slice none 0 0, .slice none 0 0, .slice none 0 0] 49)) from ⟨(Below.heap_alloc _ _ _ (by omega)).trans HRA.out, (Below.heap_alloc _ _ _ (by omega)).trans HRB.out, (Below.heap_alloc _ _ _ (by omega)).trans HRR.out, heap_alloc_new _ _, by omega, HB1.out.trans ((Below.refl _ _).alloc HB1.out.size _)⟩)
  clear z1 z2 y1 y2 HRA HRB HRR
  revert HX
  generalize w1.alloc (.cells #[.string ⟨#[106, 111, 105, 110, 116]⟩, .int .i64 (max kda kdb), .int .u16 (bits .or .u16 (mba : Int) (mbb : Int)), .slice none 0 0, .slice none 0 0, .slice none 0 0] 49) = WX
  generalize w1.heap.size = D at hsz ⊢
  intro HX
  clear HB1 hsz
  have z3 := cellOf HX.out.ra (j := 3) rfl
  have y3 := cellOf HX.out.rb (j := 3) rfl
  go_upto_region 7 with (go_at_call 41; (refine (HR.out _ HX.out.bl).mono ?_); rintro e w3 ⟨q3, m3, k3, rfl, rfl, hk3, hs3, hf3, hb3⟩; have HY := Lib.hid (HX.out.below hb3); have d3 := cellOf HY.out.rd (j := 3) rfl; have g3 := frozenOf HY.out.rd (j := 3))
  have hDs : D < WX.heap.size := (gLt HX.out.rd)
  have hRs : w.heap.size + 1 + 1 < WX.heap.size := (gLt HX.out.rr)
  have HZ := Lib.hid (show JO w #[.string nma, .int .i64 kda, .int .u16 (mba : Int), .slice p3a n3a c3a, .slice p4a n4a c4a, .slice p5a n5a c5a] #[.string nmb, .int .i64 kdb, .int .u16 (mbb : Int), .slice p3b n3b c3b, .slice p4b n4b c4b, .slice p5b n5b c5b] D #[.string ⟨#[106, 111, 105, 110, 116]⟩, .int .i64 (max kda kdb), .int .u16 (bits .or .u16 (mba : Int) (mbb : Int)), .slice q3 L2.length k3, .slice none 0 0, .slice none 0 0] (w3.setCell ⟨D, 3, none⟩ (.slice q3 L2.length k3)) from HY.out.put 3 (.slice q3 L2.length k3))
  have HS3' := Lib.hid (show SetL (w3.setCell ⟨D, 3, none⟩ (.slice q3 L2.length k3)) q3 L2 ∧ (∀ q, q3 = some q → q.block ≠ w.heap.size + 1 + 1) ∧ FreshP w.heap.size q3 from ⟨hs3.set1 (off_ne hf3 hDs) _ _, off_ne hf3 hRs, hf3.mono HX.out.bl.size⟩)
  have HN3 := Lib.hid (off_ne hf3 hDs)
  clear z3 y3 d3 g3 HY hs3 hf3 hk3 hb3 HX hDs hRs 
  revert HZ HS3' 
  generalize w3.setCell ⟨D, 3, none⟩ (.slice q3 L2.length k3) = WX
  intro HX HS3 
  by_cases hE2 : E2 = 0
  ·subst hE2
   have z4 := cellOf HX.out.ra (j := 4) rfl
   have y4 := cellOf HX.out.rb (j := 4) rfl
   go_upto_region 10 with (go_at_call 41; (refine (HWr.out _ HX.out.bl).mono ?_); rintro e w4 ⟨q4, m4, k4, rfl, rfl, hk4, hs4, hf4, hb4⟩; have HY := Lib.hid (HX.out.below hb4); have d4 := cellOf HY.out.rd (j := 4) rfl; have g4 := frozenOf HY.out.rd (j := 4))
   have hDs : D < WX.heap.size := (gLt HX.out.rd)
   have hRs : w.heap.size + 1 + 1 < WX.heap.size := (gLt HX.out.rr)
   have HZ := Lib.hid (show JO w #[.string nma, .int .i64 kda, .int .u16 (mba : Int), .slice p3a n3a c3a, .slice p4a n4a c4a, .slice p5a n5a c5a] #[.string nmb, .int .i64 kdb, .int .u16 (mbb : Int), .slice p3b n3b c3b, .slice p4b n4b c4b, .slice p5b n5b c5b] D #[.string ⟨#[106, 111, 105, 110, 116]⟩, .int .i64 (max kda kdb), .int .u16 (bits .or .u16 (mba : Int) (mbb : Int)), .slice q3 L2.length k3, .slice q4 L3.length k4, .slice none 0 0] (w4.setCell ⟨D, 4, none⟩ (.slice q4 L3.length k4)) from HY.out.put 4 (.slice q4 L3.length k4))
   have HS4' := Lib.hid (show SetL (w4.setCell ⟨D, 4, none⟩ (.slice q4 L3.length k4)) q4 L3 ∧ (∀ q, q4 = some q → q.block ≠ w.heap.size + 1 + 1) ∧ FreshP w.heap.size q4 from ⟨hs4.set1 (off_ne hf4 hDs) _ _, off_ne hf4 hRs, hf4.mono HX.out.bl.size⟩)
   have HN4 := Lib.hid (off_ne hf4 hDs)
   have HS3' := Lib.hid (show SetL (w4.setCell ⟨D, 4, none⟩ (.slice q4 L3.length k4)) q3 L2 ∧ (∀ q, q3 = some q → q.block ≠ w.heap.size + 1 + 1) ∧ FreshP w.heap.size q3 from ⟨(HS3.out.1.below hb4).set1 HN3.out _ _, HS3.out.2⟩)
   clear z4 y4 d4 g4 HY hs4 hf4 hk4 hb4 HX hDs hRs HS3
   revert HZ HS4' HS3'
   generalize w4.setCell ⟨D, 4, none⟩ (.slice q4 L3.length k4) = WX
   intro HX HS4 HS3
   by_cases hE3 : E3 = 0
   ·subst hE3
    obtain ⟨z0, z1, z2, z3, z4, z5⟩ := cs6 HX.out.ra
    obtain ⟨y0, y1, y2, y3, y4, y5⟩ := cs6 HX.out.rb
    go_upto_region 13 with (go_at_call 42; (refine (HJ.out _ HX.out.bl).mono ?_); rintro e w5 ⟨q5, m5, k5, rfl, rfl, hk5, hs5, hf5, hb5⟩; have HY := Lib.hid (HX.out.below hb5); have d5 := cellOf HY.out.rd (j := 5) rfl; have g5 := frozenOf HY.out.rd (j := 5))
    have hDs : D < WX.heap.size := (gLt HX.out.rd)
    have hRs : w.heap.size + 1 + 1 < WX.heap.size := (gLt HX.out.rr)
    have HZ := Lib.hid (show JO w #[.string nma, .int .i64 kda, .int .u16 (mba : Int), .slice p3a n3a c3a, .slice p4a n4a c4a, .slice p5a n5a c5a] #[.string nmb, .int .i64 kdb, .int .u16 (mbb : Int), .slice p3b n3b c3b, .slice p4b n4b c4b, .slice p5b n5b c5b] D #[.string ⟨#[106, 111, 105, 110, 116]⟩, .int .i64 (max kda kdb), .int .u16 (bits .or .u16 (mba : Int) (mbb : Int)), .slice q3 L2.length k3, .slice q4 L3.length k4, .slice q5 L4.length k5] (w5.setCell ⟨D, 5, none⟩ (.slice q5 L4.length k5)) from HY.out.put 5 (.slice q5 L4.length k5))
    have HS5' := Lib.hid (show FltL (w5.setCell ⟨D, 5, none⟩ (.slice q5 L4.length k5)) q5 L4 ∧ (∀ q, q5 = some q → q.block ≠ w.heap.size + 1 + 1) ∧ FreshP w.heap.size q5 from ⟨hs5.set1 (off_ne hf5 hDs) _ _, off_ne hf5 hRs, hf5.mono HX.out.bl.size⟩)
    have HN5 := Lib.hid (off_ne hf5 hDs)
    have HS3' := Lib.hid (show SetL (w5.setCell ⟨D, 5, none⟩ (.slice q5 L4.length k5)) q3 L2 ∧ (∀ q, q3 = some q → q.block ≠ w.heap.size + 1 + 1) ∧ FreshP w.heap.size q3 from ⟨(HS3.out.1.below hb5).set1 HN3.out _ _, HS3.out.2⟩)
    have HS4' := Lib.hid (show SetL (w5.setCell ⟨D, 5, none⟩ (.slice q5 L4.length k5)) q4 L3 ∧ (∀ q, q4 = some q → q.block ≠ w.heap.size + 1 + 1) ∧ FreshP w.heap.size q4 from ⟨(HS4.out.1.below hb5).set1 HN4.out _ _, HS4.out.2⟩)
    clear z0 z1 z2 z3 z4 z5 y0 y1 y2 y3 y4 y5 d5 g5 HY hs5 hf5 hk5 hb5 HX hDs hRs HS3 HS4
    revert HZ HS5' HS3' HS4'
    generalize w5.setCell ⟨D, 5, none⟩ (.slice q5 L4.length k5) = WX
    intro HX HS5 HS3 HS4
    by_cases hE4 : E4 = 0
    ·subst hE4
     obtain ⟨d0, d1, d2, d3, d4, d5⟩ := cs6 HX.out.rd
     obtain ⟨r0, r1, r2, r3, r4, r5⟩ := cs6 HX.out.rr
     have f0 := frozenOf HX.out.rr (j := 0); have f1 := frozenOf HX.out.rr (j := 1); have f2 := frozenOf HX.out.rr (j := 2); have f3 := frozenOf HX.out.rr (j := 3); have f4 := frozenOf HX.out.rr (j := 4); have f5 := frozenOf HX.out.rr (j := 5)
     go_wp2_with fail
     exact cfe_end 4 5 rfl HX.out.rr HX.out.bl (by omega) jointB (max kda kdb) (bits .or .u16 (mba : Int) (mbb : Int)) q3 L2.length k3 q4 L3.length k4 q5 L4.length k5 L2 L3 L4 0 _ rfl rfl ⟨rfl, HS3.out.1, rfl, HS4.out.1, rfl, HS5.out.1, HL3.out, HL4.out, HL5.out⟩ HS3.out.2.1 HS4.out.2.1 HS5.out.2.1 HS3.out.2.2 HS4.out.2.2 HS5.out.2.2 _ (fun _ _ h => JoRet.ok rfl (HKD.out ▸ h))
    ·have e1 : ¬ (E4 : Int) = 0 := by omega
     have e2 : ((E4 : Int) != 0) = true := by simp; omega
     obtain ⟨r0, r1, r2, r3, r4, r5⟩ := cs6 HX.out.rr
     have f0 := frozenOf HX.out.rr (j := 0); have f1 := frozenOf HX.out.rr (j := 1); have f2 := frozenOf HX.out.rr (j := 2); have f3 := frozenOf HX.out.rr (j := 3); have f4 := frozenOf HX.out.rr (j := 4); have f5 := frozenOf HX.out.rr (j := 5)
     go_wp2_with fail
     exact cfe_end 4 5 rfl HX.out.rr HX.out.bl (by omega) emptyB 0 0 none 0 0 none 0 0 none 0 0 [] [] [] E4 _ rfl rfl (cfh_nil _) none_ne none_ne none_ne (fresh_none _) (fresh_none _) (fresh_none _) _ (fun _ _ h => JoRet.err four_4 hE4 h)
   ·have e1 : ¬ (E3 : Int) = 0 := by omega
    have e2 : ((E3 : Int) != 0) = true := by simp; omega
    obtain ⟨r0, r1, r2, r3, r4, r5⟩ := cs6 HX.out.rr
    have f0 := frozenOf HX.out.rr (j := 0); have f1 := frozenOf HX.out.rr (j := 1); have f2 := frozenOf HX.out.rr (j := 2); have f3 := frozenOf HX.out.rr (j := 3); have f4 := frozenOf HX.out.rr (j := 4); have f5 := frozenOf HX.out.rr (j := 5)
    go_wp2_with fail
    exact cfe_end 4 5 rfl HX.out.rr HX.out.bl (by omega) emptyB 0 0 none 0 0 none 0 0 none 0 0 [] [] [] E3 _ rfl rfl (cfh_nil _) none_ne none_ne none_ne (fresh_none _) (fresh_none _) (fresh_none _) _ (fun _ _ h => JoRet.err (four_3 hE3) hE3 h)
  ·have e1 : ¬ (E2 : Int) = 0 := by omega
   have e2 : ((E2 : Int) != 0) = true := by simp; omega
   obtain ⟨r0, r1, r2, r3, r4, r5⟩ := cs6 HX.out.rr
   have f0 := frozenOf HX.out.rr (j := 0); have f1 := frozenOf HX.out.rr (j := 1); have f2 := frozenOf HX.out.rr (j := 2); have f3 := frozenOf HX.out.rr (j := 3); have f4 := frozenOf HX.out.rr (j := 4); have f5 := frozenOf HX.out.rr (j := 5)
   go_wp2_with fail
   exact cfe_end 4 5 rfl HX.out.rr HX.out.bl (by omega) emptyB 0 0 none 0 0 none 0 0 none 0 0 [] [] [] E2 _ rfl rfl (cfh_nil _) none_ne none_ne none_ne (fresh_none _) (fresh_none _) (fresh_none _) _ (fun _ _ h => JoRet.err (four_2 hE2) hE2 h)
 ·have e1 : ¬ (E1 : Int) = 0 := by omega
  have e2 : ((E1 : Int) != 0) = true := by simp; omega
  obtain ⟨r0, r1, r2, r3, r4, r5⟩ := cs6 HRR.out
  have f0 := frozenOf HRR.out (j := 0); have f1 := frozenOf HRR.out (j := 1); have f2 := frozenOf HRR.out (j := 2); have f3 := frozenOf HRR.out (j := 3); have f4 := frozenOf HRR.out (j := 4); have f5 := frozenOf HRR.out (j := 5)
  go_wp2_with fail
  exact cfe_end 4 5 rfl HRR.out HB1.out (by omega) emptyB 0 0 none 0 0 none 0 0 none 0 0 [] [] [] E1 _ rfl rfl (cfh_nil _) none_ne none_ne none_ne (fresh_none _) (fresh_none _) (fresh_none _) _ (fun _ _ h => JoRet.err (four_1 hE1) hE1 h)
end Go.Proofs.YtmcnpaehmnadeaaGreatDoor
