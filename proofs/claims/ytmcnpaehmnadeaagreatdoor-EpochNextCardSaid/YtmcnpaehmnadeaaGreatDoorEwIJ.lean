/-
  EpochOf: sederuntref19.Made returns.
-/
import Derived.Test.YtmcnpaehmnadeaaGreatDoorEwH
import Derived.StillTail
set_option maxHeartbeats 6400000
set_option maxRecDepth 1000000
namespace Go.Proofs.YtmcnpaehmnadeaaGreatDoor
open Go Go.RowKit
structure VK (w : World) (v : Value) (l : List (Int × Int)) (b o : Nat) (x y : Int) (W : World) : Prop where
 c1 : W.cell? ⟨b, o, none⟩ = some (.int .u16 x)
 d1 : W.cell? ⟨b, o + 1, none⟩ = some (.int .u16 y)
 lt : b < W.heap.size
 own : W.ownsRow w.heap.size 69 2 v l.length (ftV l)
 bl : Below w.heap.size w W
theorem VK.below {w : World} {v : Value} {l : List (Int × Int)} {b o : Nat} {x y : Int} {W W' : World} (h : VK w v l b o x y W) (hb : Below W.heap.size W W') : VK w v l b o x y W' :=
 ⟨(hb.cell (p := ⟨b, o, none⟩) h.lt).trans h.c1, (hb.cell (p := ⟨b, o + 1, none⟩) h.lt).trans h.d1, Nat.lt_of_lt_of_le h.lt hb.size, own_below h.own hb, h.bl.trans (hb.mono h.bl.size)⟩
def VKB (w : World) (b o : Nat) (x y : Int) (W : World) : Prop := W.cell? ⟨b, o, none⟩ = some (.int .u16 x) ∧ W.cell? ⟨b, o + 1, none⟩ = some (.int .u16 y) ∧ Below w.heap.size w W
theorem vkS {w : World} {b o : Nat} {x y : Int} {W : World} (h : VKB w b o x y W) : W.cell? ⟨b, o, none⟩ = some (.int .u16 x) ∧ W.cell? ⟨b, o + 1, none⟩ = some (.int .u16 y) ∧ VKB w b o x y W := ⟨h.1, h.2.1, h⟩
theorem VK.b {w : World} {v : Value} {l : List (Int × Int)} {b o : Nat} {x y : Int} {W : World} (h : VK w v l b o x y W) : VKB w b o x y W := ⟨h.c1, h.d1, h.bl⟩
theorem vkb_grown {w : World} {v : Value} {l : List (Int × Int)} {b o : Nat} {x y : Int} {W W' : World} {ob : Obj} (h : VK w v l b o x y W) (hne : v.ownBlock ≠ some b) (hg : (W.alloc ob).grownBy W' v.ownBlock) : VKB w b o x y W' := by
 have h1 := h.below ((Below.refl _ _).alloc (Nat.le_refl _) ob)
 have hb := hg.block b h1.lt (fun e => hne e.symm)
 exact ⟨(World.cell?_of_block (a := ⟨b, o, none⟩) hb).trans h1.c1, (World.cell?_of_block (a := ⟨b, o + 1, none⟩) hb).trans h1.d1, h1.bl.grown hg h1.bl.size (fun k hk => (h1.own.lt k hk).1)⟩
theorem made19_any (m : Nat) (p : Option Addr) (n cap : Nat) (w : World) (hp : FltP w p n) : Calls Tryz.prog 78 #[.int .i64 m, .slice p n cap] w (FltRet 1000 w) := by
 obtain ⟨i0, hi, hz0, hz1, hz2⟩ := info_parts Tryz.info69
 have HP := Lib.hid hp
 have em : (0 : Int) ≤ (m : Int) := by omega
 clear hp
 go_enter Tryz.func78, Tryz.ntmps78
 go_upto_region 2 with fail
 generalize IntKind.u16.wrap (IntKind.u16.wrap (2 ^ min m 16) - 1) = al
 generalize IntKind.u16.wrap (2 ^ min m 16) = al2
 go_upto_block 0 with fail
 have hV0 : (w.alloc (.cells #[.int .u16 0, .int .u16 0] 69)).ownsRow w.heap.size 69 2 (.slice (some ⟨w.heap.size, 0, none⟩) 1 1) [((0 : Int), (0 : Int))].length (ftV [(0, 0)]) :=
  ⟨rfl, .inr ⟨w.heap.size, 1, #[.int .u16 0, .int .u16 0], rfl, Nat.le_refl _, heap_alloc_new w _, Nat.le_refl _, by unfold maxLen; omega, rfl, rfl⟩⟩
 have HV0 := Lib.hid hV0
 have HB0 := Lib.hid (show Below w.heap.size w (w.alloc (.cells #[.int .u16 0, .int .u16 0] 69)) from (Below.refl _ _).alloc (Nat.le_refl _) _)
 clear hV0
 generalize w.alloc (.cells #[.int .u16 0, .int .u16 0] 69) = W0 at HV0 HB0 ⊢
 go_wp2_with fail
 go_loopw [6, 7] (fun v i wr => ∃ (k : Nat) (l : List (Int × Int)), k ≤ n ∧ k ≤ 6 ∧ i = .int .i64 k ∧ l.length ≤ k + 1 ∧ wr.ownsRow w.heap.size 69 2 v l.length (ftV l) ∧ Below w.heap.size w wr) (fun _ i _ => 6 - (intOf i).toNat)
 case atStart => exact ⟨0, [(0, 0)], Nat.zero_le _, by omega, rfl, by simp, HV0.out, HB0.out⟩
 case round =>
  obtain ⟨k, l, hk, hk6, rfl, hl, hown, hb⟩ := hrel
  have HW := Lib.hid hown
  have HB := Lib.hid hb
  have hsz := hb.size
  clear hown hb
  by_cases hkn : k < n ∧ k < 6
  ·have hk1 := hkn.1
   have hk2 := hkn.2
   have e0 : (0 : Int) ≤ (k : Int) := by omega
   have e1 : (k : Int) < (n : Int) := by omega
   have e2 : (k : Int) < 6 := by omega
   obtain ⟨b, off, rfl, hbb, x, y, hx, hy⟩ := HP.out.at hk1
   have HK := Lib.hid (show VK w u6 l b (off + k * 2) x y _ from ⟨(HB.out.cell (p := ⟨b, off + k * 2, none⟩) hbb).trans hx, (HB.out.cell (p := ⟨b, off + k * 2 + 1, none⟩) hbb).trans hy, Nat.lt_of_lt_of_le hbb hsz, HW.out, HB.out⟩)
   have hne : u6.ownBlock ≠ some b := fun e => by have := (HW.out.lt _ e).1; omega
   clear hx hy hkn
   go_upto_region 6 with fail
   go_region_held3 (fun W => W.cell? ⟨b, off + k * 2, none⟩ = some (.int .u16 x) ∧ W.cell? ⟨b, off + k * 2 + 1, none⟩ = some (.int .u16 y) ∧ VKB w b (off + k * 2) x y W)
    (first | exact vkS HK.out.b | exact vkS (HK.out.below (below_drew _)).b | exact vkS ((HK.out.below (below_drew _)).below ((Below.refl _ _).alloc (Nat.le_refl _) _)).b | exact vkS (HK.out.below ((Below.refl _ _).alloc (Nat.le_refl _) _)).b | exact vkS hK5)
    ((refine step_append_lies _ (by rfl) _ _ _ (by rfl) w.heap.size 69 i0 (.agg #[.int .u16 0, .int .u16 0]) 2 4 Tryz.underlying47 hi hz0 hz1 hz2 rfl (by omega) u6 l.length (ftV l) (by rfl) (((HK.out.below (below_drew _)).own).alloc _) ⟨wr.drew.heap.size, 0, none⟩ 1 1 [.int .u16 (bits .and .u16 x al), .int .u16 (bits .andNot .u16 (bits .and .u16 y al) x)] (by rfl) (by rfl) (World.news_of_block (cs := #[.int .u16 (bits .and .u16 x al), .int .u16 (bits .andNot .u16 (bits .and .u16 y al) x)]) (t := 69) (fr := (0, 0)) (heap_alloc_new wr.drew _)) (by simp [Value.oneCell']) (by omega) (by unfold maxLen; omega) (by omega) (by simp; omega) (wr.drew.heap.size + 1) (by simp) ?_; intro g5 c5 w5 hown5 hgrow hat hlt; have hK5 := vkb_grown (HK.out.below (below_drew _)) hne hgrow))
   have hb5 := hK5.2.2
   have HO5 := Lib.hid (show w5.ownsRow w.heap.size 69 2 (.slice (some ⟨g5, 0, none⟩) (l.length + 1) c5) (l ++ [(bits .and .u16 x al, bits .andNot .u16 (bits .and .u16 y al) x)]).length (ftV (l ++ [(bits .and .u16 x al, bits .andNot .u16 (bits .and .u16 y al) x)])) by rw [ftV_app, List.length_append]; exact hown5)
   clear hown5 hgrow hat hlt hK5
   go_wp2_with fail
   go_roundw
   case rel => exact ⟨k + 1, _, by omega, by omega, by go_num, by rw [List.length_append]; show l.length + 1 ≤ _; omega, HO5.out, hb5⟩
   case measure => simp [intOf]; omega
  ·by_cases hkn2 : k < n
   ·have e1 : (k : Int) < (n : Int) := by omega
    have e2 : ¬ (k : Int) < 6 := by omega
    obtain ⟨p5, c5, hv5, hp5, hc5⟩ := fltP_of_own HW.out
    subst hv5
    have HP5 := Lib.hid hp5
    clear hp5 hkn
    go_wp2_with (go_at_call 53; refine (normal_any p5 l.length c5 _ (by omega) HP5.out).mono ?_; rintro e w6 ⟨p6, n6, c6, rfl, hn6, hc6, hp6, hf6, hb6⟩)
    go_ret
    exact ⟨p6, n6, c6, rfl, by omega, hc6, hp6, fun q hq => Nat.le_trans hsz (hf6 q hq), HB.out.trans (hb6.mono hsz)⟩
   ·have e1 : ¬ (k : Int) < (n : Int) := by omega
    obtain ⟨p5, c5, hv5, hp5, hc5⟩ := fltP_of_own HW.out
    subst hv5
    have HP5 := Lib.hid hp5
    clear hp5 hkn
    go_wp2_with (go_at_call 53; refine (normal_any p5 l.length c5 _ (by omega) HP5.out).mono ?_; rintro e w6 ⟨p6, n6, c6, rfl, hn6, hc6, hp6, hf6, hb6⟩)
    go_ret
    exact ⟨p6, n6, c6, rfl, by omega, hc6, hp6, fun q hq => Nat.le_trans hsz (hf6 q hq), HB.out.trans (hb6.mono hsz)⟩
end Go.Proofs.YtmcnpaehmnadeaaGreatDoor
/-
  EpochOf: a region whose last operation waits for all others: what is known of the world need not hold behind it.
-/
namespace Go.Proofs.YtmcnpaehmnadeaaGreatDoor
open Go Go.RowKit
section
variable {P : Program} {ops : Array Oper} {Q : Exit → Act → World → Prop} {md : Region.Mode} {S : World → Prop} {L : Nat}
def wpAnyX (P : Program) (md : Region.Mode) (ops : Array Oper) (Q : Exit → Act → World → Prop) (S : World → Prop) (L : Nat) : Nat → Array Bool → Act → World → Prop
 | 0, l, a, w => Region.ready md ops l = [] ∧ Q .normal a w
 | f + 1, l, a, w => (Region.ready md ops l = [] → Q .normal a w) ∧
   ∀ i ∈ Region.ready md ops l, wpOp P ops Q i (fun a' w' => (i = L ∨ S w') ∧ wpAnyX P md ops Q S L f (l.setIfInBounds i true) a' w') a w
theorem wpAny_of_x : ∀ (f : Nat) (l : Array Bool) (a : Act) (w : World), wpAnyX P md ops Q S L f l a w → wpAny P md ops Q f l a w
 | 0, _, _, _, h => h
 | f + 1, _, _, _, h => ⟨h.1, fun i hi => wpOp_mono (fun a' w' h' => wpAny_of_x f _ a' w' h'.2) (h.2 i hi)⟩
theorem wpAnyX_take {i : Nat} {oi : Oper} {v : Value} {f : Nat} {l : Array Bool} {a : Act} {w : World} (hi : ops[i]? = some oi)
  (hs : Region.noSelect ops = true) (hL : Region.waitsFor md ops L i = true) (hf : Region.free md ops l i = true) (hr : (Region.ready md ops l).contains i = true)
  (hQ : ∀ c a w, Q (.panic c) (a.put oi.dst v) w → Q (.panic c) a w) (hy : YieldsIf P ops S oi v a) (hS : S w)
  (h : wpAnyX P md ops Q S L f (l.setIfInBounds i true) (a.put oi.dst v) w) : wpAnyX P md ops Q S L (f + 1) l a w := by
 have hsel := Region.noSelect_spec hs
 obtain ⟨oL, hoL, e0, he0, hb0, hon⟩ := Region.waitsFor_spec hL
 replace hf := Region.free_spec hi hf
 replace hr : i ∈ Region.ready md ops l := by simpa using hr
 -- an operation that is there, and has come up, is not awaited
 have keyL : ∀ {l : Array Bool} {j : Nat}, j ∈ Region.ready md ops l → l.getD i true = false → j ≠ L := by
  intro l j hj hun hjL
  subst hjL
  obtain ⟨_, oj, hoj, hall⟩ := mem_ready.1 hj
  obtain rfl : oj = oL := Option.some.inj (hoj.symm.trans hoL)
  have h1 := hall e0 he0 hb0
  rw [hon, getD_both hun] at h1
  cases h1
 induction f generalizing l a w with
 | zero =>
  refine ⟨fun h0 => (by rw [h0] at hr; cases hr), fun j hj => ?_⟩
  by_cases hji : j = i
  ·subst hji
   exact hy.wpOp hi hS ⟨.inr hS, h⟩
  ·have h1 := ready_mono hj hji
   rw [h.1] at h1
   cases h1
 | succ f ih =>
  have hun := (mem_ready.1 hr).1
  refine ⟨fun h0 => (by rw [h0] at hr; cases hr), fun j hj => ?_⟩
  by_cases hji : j = i
  ·subst hji
   exact hy.wpOp hi hS ⟨.inr hS, h⟩
  ·have hjL := keyL hj hun
   have h1 := h.2 j (ready_mono hj hji)
   obtain ⟨hjun, oj, hoj, hall⟩ := mem_ready.1 hj
   have hnot : ∀ e ∈ oj.after, Region.binds md e = true → e.on ≠ i := fun e he hb heq => by
    have h2 := hall e he hb
    rw [heq, getD_both hun] at h2
    cases h2
   refine wpOp_mono (fun a' w' h3 => ?_) (wpOp_putIf hoj (hf j oj hoj hji hjun hnot) (fun cs b => hsel i oi cs b hi) (fun cs b => hsel j oj cs b hoj) hQ hy h1)
   obtain ⟨hy', hS', h4⟩ := h3
   have hS2 : S w' := hS'.resolve_left hjL
   refine ⟨.inr hS2, ih hy' hS2 (by rw [Array.setIfInBounds_comm _ _ hji]; exact h4) (fun k ok hk hki hun' hno => ?_) (ready_mono hr (Ne.symm hji))⟩
   refine hf k ok hk hki ?_ hno
   by_cases hjk : j = k
   ·subst hjk; exact hjun
   ·rw [getD_set_ne true hjk] at hun'; exact hun'
def AllReadyX (P : Program) (md : Region.Mode) (ops : Array Oper) (Q : Exit → Act → World → Prop) (S : World → Prop) (L f : Nat) (l : Array Bool) (a : Act) (w : World) (rs : List Nat) : Prop :=
 ∀ i ∈ rs, wpOp P ops Q i (fun a' w' => (i = L ∨ S w') ∧ wpAnyX P md ops Q S L f (l.setIfInBounds i true) a' w') a w
theorem AllReadyX.nil {f : Nat} {l : Array Bool} {a : Act} {w : World} : AllReadyX P md ops Q S L f l a w [] := fun _ h => by cases h
theorem AllReadyX.cons {f : Nat} {l : Array Bool} {a : Act} {w : World} {i : Nat} {o : Oper} {rs : List Nat} (ho : ops[i]? = some o)
  (h : ∀ K' : Act → World → Prop, Shut (∀ a w, S w → (S w → wpAnyX P md ops Q S L f (l.setIfInBounds i true) a w) → K' a w) → if Region.wanted o (yielded ops a.tmps) = true then Oper.wp P o a w K' Q else K' (a.put o.dst undef) w)
  (hs : AllReadyX P md ops Q S L f l a w rs) : AllReadyX P md ops Q S L f l a w (i :: rs) := fun j hj => by
 rcases List.mem_cons.1 hj with rfl | hj
 ·exact wpOp_step ho (fun K' hK => h K' (fun a w hS hW => hK a w ⟨.inr hS, hW hS⟩))
 ·exact hs j hj
theorem AllReadyX.last {f : Nat} {l : Array Bool} {a : Act} {w : World} {o : Oper} {rs : List Nat} (ho : ops[L]? = some o)
  (h : ∀ K' : Act → World → Prop, Shut (∀ a w, wpAnyX P md ops Q S L f (l.setIfInBounds L true) a w → K' a w) → if Region.wanted o (yielded ops a.tmps) = true then Oper.wp P o a w K' Q else K' (a.put o.dst undef) w)
  (hs : AllReadyX P md ops Q S L f l a w rs) : AllReadyX P md ops Q S L f l a w (L :: rs) := fun j hj => by
 rcases List.mem_cons.1 hj with rfl | hj
 ·exact wpOp_step ho (fun K' hK => h K' (fun a w hW => hK a w ⟨.inl rfl, hW⟩))
 ·exact hs j hj
theorem wpAnyX_ready {rs : List Nat} {f : Nat} {l : Array Bool} {a : Act} {w : World} (hr : Region.ready md ops l = rs) (hne : rs ≠ [])
  (h : AllReadyX P md ops Q S L f l a w rs) : wpAnyX P md ops Q S L (f + 1) l a w :=
 ⟨fun h0 => absurd (hr ▸ h0) hne, hr ▸ h⟩
theorem wpAnyX_done {l : Array Bool} {a : Act} {w : World} (hr : Region.ready md ops l = []) (h : Q .normal a w) : ∀ f, wpAnyX P md ops Q S L f l a w
 | 0 => ⟨hr, h⟩
 | _ + 1 => ⟨fun _ => h, by rw [hr]; simp⟩
theorem wp_region_x (L : Nat) (S : World → Prop) {id : Nat} {a : Act} {w : World} (hm : P.follows .mixedOrders = true)
  (hS : S w.drew)
  (h : S w.drew → wpAnyX P .any ops Q S L ops.size (Array.replicate ops.size false) a w.drew) : (Code.region id ops true).wp P Q a w :=
 wp_region_any hm (wpAny_of_x _ _ _ _ (h hS))
end
section
variable {P : Program} {ops : Array Oper} {Q : Exit → Act → World → Prop} {md : Region.Mode} {S : World → Prop} {L : Nat}
theorem tkX {o : Op} {ty : TypeId} {pos : String} {af : Array Edge} {g : Option (Nat × Bool)} {f : Nat} {l : Array Bool} {a : Act} {w : World} (i d : Nat) (v : Value) (hi : ops[i]? = some ⟨some d, o, ty, pos, af, g⟩) (hy : ∀ w, S w → (execOp a.eval ⟨some d, o, ty, pos, af, g⟩).run P w = .ok (.value v) w)
  (h : wpAnyX P md ops Q S L f (l.setIfInBounds i true) (a.put (some d) v) w)
  (hs : Region.noSelect ops = true := by kernel_rfl) (hL : Region.waitsFor md ops L i = true := by kernel_rfl) (hf : Region.free md ops l i = true := by kernel_rfl) (hr : (Region.ready md ops l).contains i = true := by kernel_rfl)
  (hQ : ∀ c a w, Q (.panic c) (a.put (some d) v) w → Q (.panic c) a w := by exact fun _ _ _ h => h) (hS : S w := by assumption) (hg : Region.wanted ⟨some d, o, ty, pos, af, g⟩ (yielded ops a.tmps) = true := by rfl) : wpAnyX P md ops Q S L (f + 1) l a w :=
  wpAnyX_take hi hs hL hf hr hQ (.inl ⟨hg, hy⟩) hS h
theorem tuX {o : Op} {ty : TypeId} {pos : String} {af : Array Edge} {g : Option (Nat × Bool)} {f : Nat} {l : Array Bool} {a : Act} {w : World} (i d : Nat) (hi : ops[i]? = some ⟨some d, o, ty, pos, af, g⟩)
  (h : wpAnyX P md ops Q S L f (l.setIfInBounds i true) (a.put (some d) undef) w)
  (hs : Region.noSelect ops = true := by kernel_rfl) (hL : Region.waitsFor md ops L i = true := by kernel_rfl) (hf : Region.free md ops l i = true := by kernel_rfl) (hr : (Region.ready md ops l).contains i = true := by kernel_rfl)
  (hQ : ∀ c a w, Q (.panic c) (a.put (some d) undef) w → Q (.panic c) a w := by exact fun _ _ _ h => h) (hS : S w := by assumption) (hg : Region.wanted ⟨some d, o, ty, pos, af, g⟩ (yielded ops a.tmps) = false := by kernel_rfl) : wpAnyX P md ops Q S L (f + 1) l a w :=
  wpAnyX_take hi hs hL hf hr hQ (.inr ⟨hg, rfl⟩) hS h
end
end Go.Proofs.YtmcnpaehmnadeaaGreatDoor
/-
  EpochOf: sederuntref27.Of returns a configuration.
-/
namespace Go.Proofs.YtmcnpaehmnadeaaGreatDoor
open Go Go.RowKit
structure OD (w : World) (a0 : Int) (a1 : Nat) (a2 : Int) (pr pw pf : Option Addr) (nr cr nw cw nf cf : Nat) (W : World) : Prop where
 da : W.heap[w.heap.size]? = some (.cells #[.int .u8 a0, .int .u8 a1, .int .u8 a2, .slice pr nr cr, .slice pw nw cw, .slice pf nf cf] 76 (0, 0))
 ra : W.heap[w.heap.size + 1]? = some (.cells #[.string ⟨#[]⟩, .int .i64 0, .int .u16 0, .slice none 0 0, .slice none 0 0, .slice none 0 0] 49 (0, 0))
 bl : Below w.heap.size w W
theorem OD.below {w : World} {a0 : Int} {a1 : Nat} {a2 : Int} {pr pw pf : Option Addr} {nr cr nw cw nf cf : Nat} {W W' : World} (h : OD w a0 a1 a2 pr pw pf nr cr nw cw nf cf W) (hb : Below W.heap.size W W') : OD w a0 a1 a2 pr pw pf nr cr nw cw nf cf W' :=
 ⟨(hb.block _ (gLt h.da)).trans h.da, (hb.block _ (gLt h.ra)).trans h.ra, h.bl.trans (hb.mono h.bl.size)⟩
theorem OD.lt {w : World} {a0 : Int} {a1 : Nat} {a2 : Int} {pr pw pf : Option Addr} {nr cr nw cw nf cf : Nat} {W : World} (h : OD w a0 a1 a2 pr pw pf nr cr nw cw nf cf W) : w.heap.size + 1 < W.heap.size := (gLt h.ra)
theorem odS {w : World} {a0 : Int} {a1 : Nat} {a2 : Int} {pr pw pf : Option Addr} {nr cr nw cw nf cf : Nat} {W : World} (h : OD w a0 a1 a2 pr pw pf nr cr nw cw nf cf W) : W.cell? ⟨w.heap.size, 0, none⟩ = some (.int .u8 a0) ∧ W.cell? ⟨w.heap.size, 1, none⟩ = some (.int .u8 a1) ∧ W.cell? ⟨w.heap.size, 2, none⟩ = some (.int .u8 a2) ∧ W.cell? ⟨w.heap.size, 3, none⟩ = some (.slice pr nr cr) ∧ W.cell? ⟨w.heap.size, 4, none⟩ = some (.slice pw nw cw) ∧ W.cell? ⟨w.heap.size, 5, none⟩ = some (.slice pf nf cf) ∧ OD w a0 a1 a2 pr pw pf nr cr nw cw nf cf W :=
 ⟨cellOf h.da rfl, cellOf h.da rfl, cellOf h.da rfl, cellOf h.da rfl, cellOf h.da rfl, cellOf h.da rfl, h⟩
theorem row_set6 {W : World} {b : Nat} {a0 a1 a2 a3 a4 a5 : Value} {t : TypeId} (h : W.heap[b]? = some (.cells #[a0, a1, a2, a3, a4, a5] t (0, 0))) (v0 v1 v2 v3 v4 v5 : Value) : ((((((W.setCell ⟨b, 0, none⟩ v0).setCell ⟨b, 1, none⟩ v1).setCell ⟨b, 2, none⟩ v2).setCell ⟨b, 3, none⟩ v3).setCell ⟨b, 4, none⟩ v4).setCell ⟨b, 5, none⟩ v5).heap[b]? = some (.cells #[v0, v1, v2, v3, v4, v5] t (0, 0)) := by
 unfold World.setCell
 simp [Array.getElem?_modify, h]
theorem set6_other {W : World} {b B : Nat} (hne : B ≠ b) (v0 v1 v2 v3 v4 v5 : Value) : ((((((W.setCell ⟨b, 0, none⟩ v0).setCell ⟨b, 1, none⟩ v1).setCell ⟨b, 2, none⟩ v2).setCell ⟨b, 3, none⟩ v3).setCell ⟨b, 4, none⟩ v4).setCell ⟨b, 5, none⟩ v5).heap[B]? = W.heap[B]? := by
 rw [Below.heap_setCell _ ⟨b, 5, none⟩ _ B hne, Below.heap_setCell _ ⟨b, 4, none⟩ _ B hne, Below.heap_setCell _ ⟨b, 3, none⟩ _ B hne, Below.heap_setCell _ ⟨b, 2, none⟩ _ B hne, Below.heap_setCell _ ⟨b, 1, none⟩ _ B hne, Below.heap_setCell _ ⟨b, 0, none⟩ _ B hne]
theorem set6_size {W : World} {b : Nat} (v0 v1 v2 v3 v4 v5 : Value) : ((((((W.setCell ⟨b, 0, none⟩ v0).setCell ⟨b, 1, none⟩ v1).setCell ⟨b, 2, none⟩ v2).setCell ⟨b, 3, none⟩ v3).setCell ⟨b, 4, none⟩ v4).setCell ⟨b, 5, none⟩ v5).heap.size = W.heap.size := by simp
theorem below_set6 {B : Nat} {w W : World} {b : Nat} (h : Below B w W) (hb : B ≤ b) (v0 v1 v2 v3 v4 v5 : Value) : Below B w ((((((W.setCell ⟨b, 0, none⟩ v0).setCell ⟨b, 1, none⟩ v1).setCell ⟨b, 2, none⟩ v2).setCell ⟨b, 3, none⟩ v3).setCell ⟨b, 4, none⟩ v4).setCell ⟨b, 5, none⟩ v5) :=
 below_set (below_set (below_set (below_set (below_set (below_set h (p := ⟨b, 0, none⟩) hb _) (p := ⟨b, 1, none⟩) hb _) (p := ⟨b, 2, none⟩) hb _) (p := ⟨b, 3, none⟩) hb _) (p := ⟨b, 4, none⟩) hb _) (p := ⟨b, 5, none⟩) hb _
theorem OD.set6 {w : World} {a0 : Int} {a1 : Nat} {a2 : Int} {pr pw pf : Option Addr} {nr cr nw cw nf cf : Nat} {W : World} {b : Nat} (h : OD w a0 a1 a2 pr pw pf nr cr nw cw nf cf W) (hb : w.heap.size + 1 < b) (v0 v1 v2 v3 v4 v5 : Value) : OD w a0 a1 a2 pr pw pf nr cr nw cw nf cf ((((((W.setCell ⟨b, 0, none⟩ v0).setCell ⟨b, 1, none⟩ v1).setCell ⟨b, 2, none⟩ v2).setCell ⟨b, 3, none⟩ v3).setCell ⟨b, 4, none⟩ v4).setCell ⟨b, 5, none⟩ v5) :=
 ⟨(set6_other (by omega) v0 v1 v2 v3 v4 v5).trans h.da, (set6_other (by omega) v0 v1 v2 v3 v4 v5).trans h.ra, below_set6 h.bl (by omega) v0 v1 v2 v3 v4 v5⟩
def Off (p : Option Addr) (n b : Nat) : Prop := n = 0 ∨ ∀ q, p = some q → q.block ≠ b
theorem off_old {W : World} {p : Option Addr} {n b : Nat} (h : SetP W p n) (hb : W.heap.size ≤ b) : Off p n b := by
 rcases h with h | ⟨c, off, rfl, h2, _⟩
 ·exact .inl h
 ·exact .inr fun q hq => by injection hq with hq; subst hq; show c ≠ b; omega
theorem off_new {B0 : Nat} {p : Option Addr} {n b : Nat} (h : FreshP B0 p) (hb : b < B0) : Off p n b := .inr fun q hq => by have := h q hq; omega
theorem SetP.other {W W' : World} {p : Option Addr} {n b : Nat} (h : SetP W p n) (ho : Off p n b) (hs : W.heap.size ≤ W'.heap.size) (hh : ∀ B, B ≠ b → W'.heap[B]? = W.heap[B]?) : SetP W' p n := by
 rcases h with h | ⟨c, off, rfl, h2, h3⟩
 ·exact .inl h
 ·rcases ho with ho | ho
  ·exact .inl ho
  ·exact .inr ⟨c, off, rfl, Nat.lt_of_lt_of_le h2 hs, fun i hi => by
    obtain ⟨x, hx⟩ := h3 i hi
    exact ⟨x, (World.cell?_of_block (a := ⟨c, off + i, none⟩) (hh c (ho _ rfl))).trans hx⟩⟩
theorem SetP.set6 {W : World} {p : Option Addr} {n b : Nat} (h : SetP W p n) (ho : Off p n b) (v0 v1 v2 v3 v4 v5 : Value) : SetP ((((((W.setCell ⟨b, 0, none⟩ v0).setCell ⟨b, 1, none⟩ v1).setCell ⟨b, 2, none⟩ v2).setCell ⟨b, 3, none⟩ v3).setCell ⟨b, 4, none⟩ v4).setCell ⟨b, 5, none⟩ v5) p n :=
 h.other ho (Nat.le_of_eq (set6_size v0 v1 v2 v3 v4 v5).symm) (fun _ hB => set6_other hB v0 v1 v2 v3 v4 v5)
def CfgAt (nm : ByteArray) (W : World) (B R : Nat) : Prop := ∃ (kd mb : Int) (p3 : Option Addr) (n3 c3 : Nat) (p4 : Option Addr) (n4 c4 : Nat), W.heap[B]? = some (.cells #[.string nm, .int .i64 kd, .int .u16 mb, .slice p3 n3 c3, .slice p4 n4 c4, .slice none 0 0] 49 (0, 0)) ∧ n3 ≤ 65536 ∧ n3 ≤ c3 ∧ n4 ≤ 65536 ∧ n4 ≤ c4 ∧ SetP W p3 n3 ∧ SetP W p4 n4 ∧ Off p3 n3 B ∧ Off p4 n4 B ∧ Off p3 n3 R ∧ Off p4 n4 R
theorem set1_other {W : World} {b B k : Nat} (hne : B ≠ b) (v : Value) : (W.setCell ⟨b, k, none⟩ v).heap[B]? = W.heap[B]? := Below.heap_setCell _ ⟨b, k, none⟩ _ B hne
theorem OD.set1 {w : World} {a0 : Int} {a1 : Nat} {a2 : Int} {pr pw pf : Option Addr} {nr cr nw cw nf cf : Nat} {W : World} {b : Nat} (h : OD w a0 a1 a2 pr pw pf nr cr nw cw nf cf W) (hb : w.heap.size + 1 < b) (k : Nat) (u : Value) : OD w a0 a1 a2 pr pw pf nr cr nw cw nf cf (W.setCell ⟨b, k, none⟩ u) :=
 ⟨(set1_other (by omega) u).trans h.da, (set1_other (by omega) u).trans h.ra, below_set h.bl (p := ⟨b, k, none⟩) (by show _ ≤ b; omega) u⟩
theorem row_put5 {W : World} {b : Nat} {a0 a1 a2 a3 a4 a5 : Value} {t : TypeId} (h : W.heap[b]? = some (.cells #[a0, a1, a2, a3, a4, a5] t (0, 0))) (u : Value) : (W.setCell ⟨b, 5, none⟩ u).heap[b]? = some (.cells #[a0, a1, a2, a3, a4, u] t (0, 0)) := by
 unfold World.setCell
 simp [Array.getElem?_modify, h]
theorem SetP.set1 {W : World} {p : Option Addr} {n b : Nat} (h : SetP W p n) (ho : Off p n b) (k : Nat) (u : Value) : SetP (W.setCell ⟨b, k, none⟩ u) p n :=
 h.other ho (by simp) (fun _ hB => set1_other hB u)
theorem FltP.other {W W' : World} {p : Option Addr} {n b : Nat} (h : FltP W p n) (ho : Off p n b) (hs : W.heap.size ≤ W'.heap.size) (hh : ∀ B, B ≠ b → W'.heap[B]? = W.heap[B]?) : FltP W' p n := by
 rcases h with h | ⟨c, off, rfl, h2, h3⟩
 ·exact .inl h
 ·rcases ho with ho | ho
  ·exact .inl ho
  ·exact .inr ⟨c, off, rfl, Nat.lt_of_lt_of_le h2 hs, fun i hi => by
    obtain ⟨x, y, hx, hy⟩ := h3 i hi
    exact ⟨x, y, (World.cell?_of_block (a := ⟨c, off + i * 2, none⟩) (hh c (ho _ rfl))).trans hx, (World.cell?_of_block (a := ⟨c, off + i * 2 + 1, none⟩) (hh c (ho _ rfl))).trans hy⟩⟩
theorem FltP.set1 {W : World} {p : Option Addr} {n b : Nat} (h : FltP W p n) (ho : Off p n b) (k : Nat) (u : Value) : FltP (W.setCell ⟨b, k, none⟩ u) p n :=
 h.other ho (by simp) (fun _ hB => set1_other hB u)
theorem FltP.set6 {W : World} {p : Option Addr} {n b : Nat} (h : FltP W p n) (ho : Off p n b) (v0 v1 v2 v3 v4 v5 : Value) : FltP ((((((W.setCell ⟨b, 0, none⟩ v0).setCell ⟨b, 1, none⟩ v1).setCell ⟨b, 2, none⟩ v2).setCell ⟨b, 3, none⟩ v3).setCell ⟨b, 4, none⟩ v4).setCell ⟨b, 5, none⟩ v5) p n :=
 h.other ho (Nat.le_of_eq (set6_size v0 v1 v2 v3 v4 v5).symm) (fun _ hB => set6_other hB v0 v1 v2 v3 v4 v5)
theorem foff_new {B0 : Nat} {p : Option Addr} {n b : Nat} (h : FreshP B0 p) (hb : b < B0) : Off p n b := off_new h hb
theorem foff_old {W : World} {p : Option Addr} {n b : Nat} (h : FltP W p n) (hb : W.heap.size ≤ b) : Off p n b := by
 rcases h with h | ⟨c, off, rfl, h2, _⟩
 ·exact .inl h
 ·exact .inr fun q hq => by injection hq with hq; subst hq; show c ≠ b; omega
def ConfRet (nm : ByteArray) (w : World) (e : Ending) (w' : World) : Prop := ∃ (kd mb : Int) (p3 : Option Addr) (n3 c3 : Nat) (p4 : Option Addr) (n4 c4 : Nat) (p5 : Option Addr) (n5 c5 : Nat),
 e = .returned (.agg #[.string nm, .int .i64 kd, .int .u16 mb, .slice p3 n3 c3, .slice p4 n4 c4, .slice p5 n5 c5]) ∧ n3 ≤ 65536 ∧ n3 ≤ c3 ∧ n4 ≤ 65536 ∧ n4 ≤ c4 ∧ n5 ≤ 1000 ∧ n5 ≤ c5 ∧ SetP w' p3 n3 ∧ SetP w' p4 n4 ∧ FltP w' p5 n5 ∧ Below w.heap.size w w'
theorem Tryz.size49 : (Tryz.prog.info? 49).map (·.size) = some 6 := by kernel_rfl
theorem cf_end {w W : World} {fn : Func} {R : Nat} {a0 a1 a2 a3 a4 a5 : Value} (p : Tmp) (hfn : fn.results = #[.cell p 49]) (hR : W.heap[R]? = some (.cells #[a0, a1, a2, a3, a4, a5] 49 (0, 0))) (hb : Below w.heap.size w W) (hge : w.heap.size ≤ R)
  (nm : ByteArray) (kd mb : Int) (p3 : Option Addr) (n3 c3 : Nat) (p4 : Option Addr) (n4 c4 : Nat) (p5 : Option Addr) (n5 c5 : Nat) (tmps : Array Value) (h6 : tmps.getD p undef = .pointer (some ⟨R, 0, none⟩))
  (hp3 : SetP W p3 n3) (hp4 : SetP W p4 n4) (hp5 : FltP W p5 n5) (hn3 : n3 ≤ 65536) (hc3 : n3 ≤ c3) (hn4 : n4 ≤ 65536) (hc4 : n4 ≤ c4) (hn5 : n5 ≤ 1000) (hc5 : n5 ≤ c5) (ho3 : Off p3 n3 R) (ho4 : Off p4 n4 R) (ho5 : Off p5 n5 R) :
  bodyPost Tryz.prog fn (ConfRet nm w) Exit.ret { tmps := tmps, defers := [] } ((((((W.setCell ⟨R, 0, none⟩ (.string nm)).setCell ⟨R, 1, none⟩ (.int .i64 kd)).setCell ⟨R, 2, none⟩ (.int .u16 mb)).setCell ⟨R, 3, none⟩ (.slice p3 n3 c3)).setCell ⟨R, 4, none⟩ (.slice p4 n4 c4)).setCell ⟨R, 5, none⟩ (.slice p5 n5 c5)) :=
 bodyPost_ret (results_cell_row hfn _ _ R 49 #[.string nm, .int .i64 kd, .int .u16 mb, .slice p3 n3 c3, .slice p4 n4 c4, .slice p5 n5 c5] (0, 0) _ h6 (row_set6 hR _ _ _ _ _ _) Tryz.underlying49 rfl Tryz.size49) rfl
  ⟨kd, mb, p3, n3, c3, p4, n4, c4, p5, n5, c5, rfl, hn3, hc3, hn4, hc4, hn5, hc5, hp3.set6 ho3 _ _ _ _ _ _, hp4.set6 ho4 _ _ _ _ _ _, hp5.set6 ho5 _ _ _ _ _ _, below_set6 hb hge _ _ _ _ _ _⟩
theorem of27_any (a0 : Int) (a1 : Nat) (a2 : Int) (pr pw pf : Option Addr) (nr cr nw cw nf cf : Nat) (nm : ByteArray) (w : World) (ha : a1 < 256) (hr : nr ≤ 9223372036854775807) (hw : nw ≤ 9223372036854775807) (hsr : SetP w pr nr) (hsw : SetP w pw nw) (hsf : FltP w pf nf) :
  Calls Tryz.prog 51 #[.agg #[.int .u8 a0, .int .u8 a1, .int .u8 a2, .slice pr nr cr, .slice pw nw cw, .slice pf nf cf], .string nm] w (ConfRet nm w) := by
 have hb0 : Below w.heap.size w ((w.alloc (.cells #[.int .u8 a0, .int .u8 a1, .int .u8 a2, .slice pr nr cr, .slice pw nw cw, .slice pf nf cf] 76)).alloc (.cells #[.string ⟨#[]⟩, .int .i64 0, .int .u16 0, .slice none 0 0, .slice none 0 0, .slice none 0 0] 49)) := ((Below.refl _ _).alloc (Nat.le_refl _) _).alloc (by simp) _
 have HO0 := Lib.hid (show OD w a0 a1 a2 pr pw pf nr cr nw cw nf cf _ from ⟨heap_alloc2_old w (.cells #[.int .u8 a0, .int .u8 a1, .int .u8 a2, .slice pr nr cr, .slice pw nw cw, .slice pf nf cf] 76) (.cells #[.string ⟨#[]⟩, .int .i64 0, .int .u16 0, .slice none 0 0, .slice none 0 0, .slice none 0 0] 49), heap_alloc2_new w _ _, hb0⟩)
 have HSR := Lib.hid hsr
 have HSW := Lib.hid hsw
 have HSF := Lib.hid hsf
 clear hb0 hsr hsw hsf
 go_enter Tryz.func51, Tryz.ntmps51
 go_upto_region 1 with fail
 revert HO0
 generalize (w.alloc (.cells #[.int .u8 a0, .int .u8 a1, .int .u8 a2, .slice pr nr cr, .slice pw nw cw, .slice pf nf cf] 76)).alloc (.cells #[.string ⟨#[]⟩, .int .i64 0, .int .u16 0, .slice none 0 0, .slice none 0 0, .slice none 0 0] 49) = W0
 intro HO0
 have d1 := cellOf HO0.out.da (j := 1) rfl
 go_upto_region 2 with fail
 obtain ⟨m, hm⟩ : ∃ m : Nat, (1 + (a1 : Int) % 5) = (m : Int) := ⟨1 + a1 % 5, by omega⟩
 have hm1 : 1 ≤ m := by omega
 have hm2 : m ≤ 5 := by omega
 simp only [hm]
 clear hm d1
 have em : (0 : Int) ≤ (m : Int) := by omega
 go_cut [6] (fun u wx => ∃ B : Nat, u = .pointer (some ⟨B, 0, none⟩) ∧ w.heap.size + 1 < B ∧ OD w a0 a1 a2 pr pw pf nr cr nw cw nf cf wx ∧ CfgAt nm wx B (w.heap.size + 1))
 case first =>
  have hOd := HO0.out.below (below_drew W0)
  refine wp_region_noPanic ?_
  refine wp_region_x 21 (fun W => W.cell? ⟨w.heap.size, 0, none⟩ = some (.int .u8 a0) ∧ W.cell? ⟨w.heap.size, 1, none⟩ = some (.int .u8 a1) ∧ W.cell? ⟨w.heap.size, 2, none⟩ = some (.int .u8 a2) ∧ W.cell? ⟨w.heap.size, 3, none⟩ = some (.slice pr nr cr) ∧ W.cell? ⟨w.heap.size, 4, none⟩ = some (.slice pw nw cw) ∧ W.cell? ⟨w.heap.size, 5, none⟩ = some (.slice pf nf cf) ∧ OD w a0 a1 a2 pr pw pf nr cr nw cw nf cf W) (by kernel_rfl) ?_ (fun hHeld => ?_)
  ·exact odS hOd
  refine tkX 0 12 ?_ rfl ?_ ?_
  rotate_left
  ·intro w hSw; (try dsimp only at hSw); go_simp; try with_reducible rfl
  try simp only [Act.put, sA, sZ, sS]
  refine tkX 1 13 ?_ rfl ?_ ?_
  rotate_left
  ·intro w hSw; (try dsimp only at hSw); go_simp; try with_reducible rfl
  try simp only [Act.put, sA, sZ, sS]
  refine tkX 2 14 ?_ rfl ?_ ?_
  rotate_left
  ·intro w hSw; (try dsimp only at hSw); go_simp; try with_reducible rfl
  try simp only [Act.put, sA, sZ, sS]
  refine tkX 3 15 ?_ rfl ?_ ?_
  rotate_left
  ·intro w hSw; (try dsimp only at hSw); go_simp; try with_reducible rfl
  try simp only [Act.put, sA, sZ, sS]
  refine tkX 4 16 ?_ rfl ?_ ?_
  rotate_left
  ·intro w hSw; (try dsimp only at hSw); go_simp; try with_reducible rfl
  try simp only [Act.put, sA, sZ, sS]
  refine tkX 5 17 ?_ rfl ?_ ?_
  rotate_left
  ·intro w hSw; (try dsimp only at hSw); go_simp; try with_reducible rfl
  try simp only [Act.put, sA, sZ, sS]
  refine tkX 6 18 ?_ rfl ?_ ?_
  rotate_left
  ·intro w hSw; (try dsimp only at hSw); go_simp; try with_reducible rfl
  try simp only [Act.put, sA, sZ, sS]
  refine tkX 7 19 ?_ rfl ?_ ?_
  rotate_left
  ·intro w hSw; (try dsimp only at hSw); go_simp; try with_reducible rfl
  try simp only [Act.put, sA, sZ, sS]
  refine tkX 8 20 ?_ rfl ?_ ?_
  rotate_left
  ·intro w hSw; (try dsimp only at hSw); go_simp; try with_reducible rfl
  try simp only [Act.put, sA, sZ, sS]
  refine tkX 9 21 ?_ rfl ?_ ?_
  rotate_left
  ·intro w hSw; (try dsimp only at hSw); go_simp; try with_reducible rfl
  try simp only [Act.put, sA, sZ, sS]
  refine tkX 10 22 ?_ rfl ?_ ?_
  rotate_left
  ·intro w hSw; (try dsimp only at hSw); go_simp; try with_reducible rfl
  try simp only [Act.put, sA, sZ, sS]
  refine tkX 11 23 ?_ rfl ?_ ?_
  rotate_left
  ·intro w hSw; (try dsimp only at hSw); go_simp; try with_reducible rfl
  try simp only [Act.put, sA, sZ, sS]
  refine tkX 12 24 ?_ rfl ?_ ?_
  rotate_left
  ·intro w hSw; (try dsimp only at hSw); go_simp; try with_reducible rfl
  try simp only [Act.put, sA, sZ, sS]
  refine tkX 14 26 ?_ rfl ?_ ?_
  rotate_left
  ·intro w hSw; (try dsimp only at hSw); go_simp; try with_reducible rfl
  try simp only [Act.put, sA, sZ, sS]
  refine tkX 15 27 ?_ rfl ?_ ?_
  rotate_left
  ·intro w hSw; (try dsimp only at hSw); go_simp; try with_reducible rfl
  try simp only [Act.put, sA, sZ, sS]
  refine tkX 16 28 ?_ rfl ?_ ?_
  rotate_left
  ·intro w hSw; (try dsimp only at hSw); go_simp; try with_reducible rfl
  try simp only [Act.put, sA, sZ, sS]
  refine tkX 17 29 ?_ rfl ?_ ?_
  rotate_left
  ·intro w hSw; (try dsimp only at hSw); go_simp; try with_reducible rfl
  try simp only [Act.put, sA, sZ, sS]
  refine wpAnyX_ready (rs := [13, 20]) (by kernel_rfl) (by simp) ?_
  refine AllReadyX.cons (o := ⟨some 25, _, _, _, _, _⟩) rfl (fun K hK => ?_) ?_
  ·go_simp
   go_at_call 77
   refine (sets_any a0 a1 a2 pr pw pf nr cr nw cw nf cf pr nr cr m _ hm1 hm2 hr (HSR.out.below hOd.bl)).mono ?_
   rintro e w1 ⟨p13, n13, c13, rfl, hn13, hc13, hp13, hf13, hb1⟩
   have hO1 := hOd.below hb1
   have hr13 := off_new (n := n13) hf13 hOd.lt
   go_simp
   refine hK.out _ _ ?_ (fun hHeld => ?_)
   ·exact odS hO1
   clear hK K
   try simp only [Act.put, sA, sZ, sS]
   refine wpAnyX_ready (rs := [18, 20]) (by kernel_rfl) (by simp) ?_
   refine AllReadyX.cons (o := ⟨some 30, _, _, _, _, _⟩) rfl (fun K hK => ?_) ?_
   ·go_simp
    go_at_call 77
    refine (sets_any a0 a1 a2 pr pw pf nr cr nw cw nf cf pw nw cw m _ hm1 hm2 hw (HSW.out.below hO1.bl)).mono ?_
    rintro e w2 ⟨p18, n18, c18, rfl, hn18, hc18, hp18, hf18, hb2⟩
    have hO2 := hO1.below hb2
    have hr18 := off_new (n := n18) hf18 hO1.lt
    have hp132 := hp13.below hb2
    go_simp
    refine hK.out _ _ ?_ (fun hHeld => ?_)
    ·exact odS hO2
    clear hK K
    try simp only [Act.put, sA, sZ, sS]
    refine tkX 19 31 ?_ rfl ?_ ?_
    rotate_left
    ·intro w hSw; (try dsimp only at hSw); go_simp; try with_reducible rfl
    try simp only [Act.put, sA, sZ, sS]
    refine wpAnyX_ready (rs := [20]) (by kernel_rfl) (by simp) ?_
    refine AllReadyX.cons (o := ⟨some 6, _, _, _, _, _⟩) rfl (fun K hK => ?_) ?_
    ·go_simp
     have hX3 : (w2.alloc (.cells #[.string ⟨#[]⟩, .int .i64 0, .int .u16 0, .slice none 0 0, .slice none 0 0, .slice none 0 0] 49)).heap[w2.heap.size]? = some (.cells #[.string ⟨#[]⟩, .int .i64 0, .int .u16 0, .slice none 0 0, .slice none 0 0, .slice none 0 0] 49) := heap_alloc_new w2 _
     have hO3 := hO2.below ((Below.refl _ _).alloc (Nat.le_refl _) (.cells #[.string ⟨#[]⟩, .int .i64 0, .int .u16 0, .slice none 0 0, .slice none 0 0, .slice none 0 0] 49))
     have hL := hO2.lt
     have ho13 := off_old hp132 (Nat.le_refl _)
     have hp133 := hp132.below ((Below.refl _ _).alloc (Nat.le_refl _) (.cells #[.string ⟨#[]⟩, .int .i64 0, .int .u16 0, .slice none 0 0, .slice none 0 0, .slice none 0 0] 49))
     have ho18 := off_old hp18 (Nat.le_refl _)
     have hp183 := hp18.below ((Below.refl _ _).alloc (Nat.le_refl _) (.cells #[.string ⟨#[]⟩, .int .i64 0, .int .u16 0, .slice none 0 0, .slice none 0 0, .slice none 0 0] 49))
     have hp13p := hp132
     have hp18p := hp18
     refine hK.out _ _ ?_ (fun hHeld => ?_)
     ·exact odS hO3
     clear hK K
     try simp only [Act.put, sA, sZ, sS]
     refine wpAnyX_ready (rs := [21]) (by kernel_rfl) (by simp) ?_
     refine AllReadyX.last (o := ⟨none, _, _, _, _, _⟩) rfl (fun K hK => ?_) ?_
     ·have z0 := cellOf hX3 (j := 0) rfl
      have z1 := cellOf hX3 (j := 1) rfl
      have z2 := cellOf hX3 (j := 2) rfl
      have z3 := cellOf hX3 (j := 3) rfl
      have z4 := cellOf hX3 (j := 4) rfl
      have z5 := cellOf hX3 (j := 5) rfl
      have y0 := frozenOf hX3 (j := 0)
      have y1 := frozenOf hX3 (j := 1)
      have y2 := frozenOf hX3 (j := 2)
      have y3 := frozenOf hX3 (j := 3)
      have y4 := frozenOf hX3 (j := 4)
      have y5 := frozenOf hX3 (j := 5)
      go_simp
      refine hK.out _ _ ?_
      clear hK K
      clear z0 z1 z2 z3 z4 z5 y0 y1 y2 y3 y4 y5
      try simp only [Act.put, sA, sZ, sS]
      refine wpAnyX_done (by kernel_rfl) ?_ _
      refine NoPanic.normal ?_
      go_wp2_with fail
      go_meet
      exact ⟨_, rfl, hL, hO2.below ((Below.refl _ _).alloc (Nat.le_refl _) _), _, _, _, _, _, _, _, _, heap_alloc_new _ _, hn13, hc13, hn18, hc18, hp13p.below ((Below.refl _ _).alloc (Nat.le_refl _) _), hp18p.below ((Below.refl _ _).alloc (Nat.le_refl _) _), ho13, ho18, hr13, hr18⟩
     exact AllReadyX.nil
    exact AllReadyX.nil
   refine AllReadyX.cons (o := ⟨some 6, _, _, _, _, _⟩) rfl (fun K hK => ?_) ?_
   ·go_simp
    have hX4 : (w1.alloc (.cells #[.string ⟨#[]⟩, .int .i64 0, .int .u16 0, .slice none 0 0, .slice none 0 0, .slice none 0 0] 49)).heap[w1.heap.size]? = some (.cells #[.string ⟨#[]⟩, .int .i64 0, .int .u16 0, .slice none 0 0, .slice none 0 0, .slice none 0 0] 49) := heap_alloc_new w1 _
    have hO4 := hO1.below ((Below.refl _ _).alloc (Nat.le_refl _) (.cells #[.string ⟨#[]⟩, .int .i64 0, .int .u16 0, .slice none 0 0, .slice none 0 0, .slice none 0 0] 49))
    have hL := hO1.lt
    have ho13 := off_old hp13 (Nat.le_refl _)
    have hp134 := hp13.below ((Below.refl _ _).alloc (Nat.le_refl _) (.cells #[.string ⟨#[]⟩, .int .i64 0, .int .u16 0, .slice none 0 0, .slice none 0 0, .slice none 0 0] 49))
    have hp13p := hp13
    refine hK.out _ _ ?_ (fun hHeld => ?_)
    ·exact odS hO4
    clear hK K
    try simp only [Act.put, sA, sZ, sS]
    refine wpAnyX_ready (rs := [18]) (by kernel_rfl) (by simp) ?_
    refine AllReadyX.cons (o := ⟨some 30, _, _, _, _, _⟩) rfl (fun K hK => ?_) ?_
    ·go_simp
     go_at_call 77
     refine (sets_any a0 a1 a2 pr pw pf nr cr nw cw nf cf pw nw cw m _ hm1 hm2 hw (HSW.out.below hO4.bl)).mono ?_
     rintro e w5 ⟨p18, n18, c18, rfl, hn18, hc18, hp18, hf18, hb5⟩
     have hO5 := hO4.below hb5
     have hr18 := off_new (n := n18) hf18 hO4.lt
     have hX5 := (hb5.block _ (gLt hX4)).trans hX4
     have ho18 := off_new (n := n18) hf18 (gLt hX4)
     have hp135 := hp134.below hb5
     go_simp
     refine hK.out _ _ ?_ (fun hHeld => ?_)
     ·exact odS hO5
     clear hK K
     try simp only [Act.put, sA, sZ, sS]
     refine tkX 19 31 ?_ rfl ?_ ?_
     rotate_left
     ·intro w hSw; (try dsimp only at hSw); go_simp; try with_reducible rfl
     try simp only [Act.put, sA, sZ, sS]
     refine wpAnyX_ready (rs := [21]) (by kernel_rfl) (by simp) ?_
     refine AllReadyX.last (o := ⟨none, _, _, _, _, _⟩) rfl (fun K hK => ?_) ?_
     ·have z0 := cellOf hX5 (j := 0) rfl
      have z1 := cellOf hX5 (j := 1) rfl
      have z2 := cellOf hX5 (j := 2) rfl
      have z3 := cellOf hX5 (j := 3) rfl
      have z4 := cellOf hX5 (j := 4) rfl
      have z5 := cellOf hX5 (j := 5) rfl
      have y0 := frozenOf hX5 (j := 0)
      have y1 := frozenOf hX5 (j := 1)
      have y2 := frozenOf hX5 (j := 2)
      have y3 := frozenOf hX5 (j := 3)
      have y4 := frozenOf hX5 (j := 4)
      have y5 := frozenOf hX5 (j := 5)
      go_simp
      refine hK.out _ _ ?_
      clear hK K
      clear z0 z1 z2 z3 z4 z5 y0 y1 y2 y3 y4 y5
      try simp only [Act.put, sA, sZ, sS]
      refine wpAnyX_done (by kernel_rfl) ?_ _
      refine NoPanic.normal ?_
      go_wp2_with fail
      go_meet
      exact ⟨_, rfl, hL, hO5.set6 hL _ _ _ _ _ _, _, _, _, _, _, _, _, _, row_set6 hX5 _ _ _ _ _ _, hn13, hc13, hn18, hc18, hp135.set6 ho13 _ _ _ _ _ _, hp18.set6 ho18 _ _ _ _ _ _, ho13, ho18, hr13, hr18⟩
     exact AllReadyX.nil
    exact AllReadyX.nil
   exact AllReadyX.nil
  refine AllReadyX.cons (o := ⟨some 6, _, _, _, _, _⟩) rfl (fun K hK => ?_) ?_
  ·go_simp
   have hX6 : (W0.drew.alloc (.cells #[.string ⟨#[]⟩, .int .i64 0, .int .u16 0, .slice none 0 0, .slice none 0 0, .slice none 0 0] 49)).heap[W0.heap.size]? = some (.cells #[.string ⟨#[]⟩, .int .i64 0, .int .u16 0, .slice none 0 0, .slice none 0 0, .slice none 0 0] 49) := heap_alloc_new W0.drew _
   have hO6 := hOd.below ((Below.refl _ _).alloc (Nat.le_refl _) (.cells #[.string ⟨#[]⟩, .int .i64 0, .int .u16 0, .slice none 0 0, .slice none 0 0, .slice none 0 0] 49))
   have hL := hOd.lt
   refine hK.out _ _ ?_ (fun hHeld => ?_)
   ·exact odS hO6
   clear hK K
   try simp only [Act.put, sA, sZ, sS]
   refine wpAnyX_ready (rs := [13]) (by kernel_rfl) (by simp) ?_
   refine AllReadyX.cons (o := ⟨some 25, _, _, _, _, _⟩) rfl (fun K hK => ?_) ?_
   ·go_simp
    go_at_call 77
    refine (sets_any a0 a1 a2 pr pw pf nr cr nw cw nf cf pr nr cr m _ hm1 hm2 hr (HSR.out.below hO6.bl)).mono ?_
    rintro e w7 ⟨p13, n13, c13, rfl, hn13, hc13, hp13, hf13, hb7⟩
    have hO7 := hO6.below hb7
    have hr13 := off_new (n := n13) hf13 hO6.lt
    have hX7 := (hb7.block _ (gLt hX6)).trans hX6
    have ho13 := off_new (n := n13) hf13 (gLt hX6)
    go_simp
    refine hK.out _ _ ?_ (fun hHeld => ?_)
    ·exact odS hO7
    clear hK K
    try simp only [Act.put, sA, sZ, sS]
    refine wpAnyX_ready (rs := [18]) (by kernel_rfl) (by simp) ?_
    refine AllReadyX.cons (o := ⟨some 30, _, _, _, _, _⟩) rfl (fun K hK => ?_) ?_
    ·go_simp
     go_at_call 77
     refine (sets_any a0 a1 a2 pr pw pf nr cr nw cw nf cf pw nw cw m _ hm1 hm2 hw (HSW.out.below hO7.bl)).mono ?_
     rintro e w8 ⟨p18, n18, c18, rfl, hn18, hc18, hp18, hf18, hb8⟩
     have hO8 := hO7.below hb8
     have hr18 := off_new (n := n18) hf18 hO7.lt
     have hX8 := (hb8.block _ (gLt hX7)).trans hX7
     have ho18 := off_new (n := n18) hf18 (gLt hX7)
     have hp138 := hp13.below hb8
     go_simp
     refine hK.out _ _ ?_ (fun hHeld => ?_)
     ·exact odS hO8
     clear hK K
     try simp only [Act.put, sA, sZ, sS]
     refine tkX 19 31 ?_ rfl ?_ ?_
     rotate_left
     ·intro w hSw; (try dsimp only at hSw); go_simp; try with_reducible rfl
     try simp only [Act.put, sA, sZ, sS]
     refine wpAnyX_ready (rs := [21]) (by kernel_rfl) (by simp) ?_
     refine AllReadyX.last (o := ⟨none, _, _, _, _, _⟩) rfl (fun K hK => ?_) ?_
     ·have z0 := cellOf hX8 (j := 0) rfl
      have z1 := cellOf hX8 (j := 1) rfl
      have z2 := cellOf hX8 (j := 2) rfl
      have z3 := cellOf hX8 (j := 3) rfl
      have z4 := cellOf hX8 (j := 4) rfl
      have z5 := cellOf hX8 (j := 5) rfl
      have y0 := frozenOf hX8 (j := 0)
      have y1 := frozenOf hX8 (j := 1)
      have y2 := frozenOf hX8 (j := 2)
      have y3 := frozenOf hX8 (j := 3)
      have y4 := frozenOf hX8 (j := 4)
      have y5 := frozenOf hX8 (j := 5)
      go_simp
      refine hK.out _ _ ?_
      clear hK K
      clear z0 z1 z2 z3 z4 z5 y0 y1 y2 y3 y4 y5
      try simp only [Act.put, sA, sZ, sS]
      refine wpAnyX_done (by kernel_rfl) ?_ _
      refine NoPanic.normal ?_
      go_wp2_with fail
      go_meet
      exact ⟨_, rfl, hL, hO8.set6 hL _ _ _ _ _ _, _, _, _, _, _, _, _, _, row_set6 hX8 _ _ _ _ _ _, hn13, hc13, hn18, hc18, hp138.set6 ho13 _ _ _ _ _ _, hp18.set6 ho18 _ _ _ _ _ _, ho13, ho18, hr13, hr18⟩
     exact AllReadyX.nil
    exact AllReadyX.nil
   exact AllReadyX.nil
  exact AllReadyX.nil
 case rest =>
  obtain ⟨B, rfl, hB, hO, kd, mb, p3, n3, c3, p4, n4, c4, hX, hn3, hc3, hn4, hc4, hp3, hp4, ho3, ho4, hr3, hr4⟩ := hcut
  have d5 := cellOf hO.da (j := 5) rfl
  go_upto_region 3 with fail
  have x5 := cellOf hX (j := 5) rfl
  have HO := Lib.hid hO
  have HX := Lib.hid hX
  have HP3 := Lib.hid hp3
  have HP4 := Lib.hid hp4
  clear hO hX hp3 hp4
  go_upto_region 4 with (go_at_call 78; refine (made19_any m pf nf cf _ (HSF.out.below HO.out.bl)).mono ?_; rintro e w5 ⟨p5, n5, c5, rfl, hn5, hc5, hp5, hf5, hb5⟩; have hX5 := (hb5.block _ (gLt HX.out)).trans HX.out; have y5 := frozenOf hX5 (j := 5); have z5 := cellOf hX5 (j := 5) rfl)
  have HO6 := Lib.hid ((HO.out.below hb5).set1 hB 5 (.slice p5 n5 c5))
  have HX6 := Lib.hid (row_put5 hX5 (.slice p5 n5 c5))
  have HP6 := Lib.hid (And.intro ((HP3.out.below hb5).set1 ho3 5 (.slice p5 n5 c5)) (And.intro ((HP4.out.below hb5).set1 ho4 5 (.slice p5 n5 c5)) (hp5.set1 (foff_new hf5 (gLt HX.out)) 5 (.slice p5 n5 c5))))
  have HR5 := Lib.hid (off_new (n := n5) hf5 HO.out.lt)
  clear hp5 hf5 hb5 hX5 y5 z5 x5 d5
  revert HO6 HX6 HP6
  generalize w5.setCell ⟨B, 5, none⟩ (.slice p5 n5 c5) = W6
  intro HO6 HX6 HP6
  obtain ⟨z0, z1, z2, z3, z4, z5⟩ := cs6 HX6.out
  obtain ⟨r0, r1, r2, r3, r4, r5⟩ := cs6 HO6.out.ra
  have f0 := frozenOf HO6.out.ra (j := 0); have f1 := frozenOf HO6.out.ra (j := 1); have f2 := frozenOf HO6.out.ra (j := 2); have f3 := frozenOf HO6.out.ra (j := 3); have f4 := frozenOf HO6.out.ra (j := 4); have f5 := frozenOf HO6.out.ra (j := 5)
  go_wp2_with fail
  exact cf_end 4 rfl HO6.out.ra HO6.out.bl (Nat.le_succ _) _ _ _ _ _ _ _ _ _ _ _ _ _ rfl HP6.out.1 HP6.out.2.1 HP6.out.2.2 hn3 hc3 hn4 hc4 hn5 hc5 hr3 hr4 HR5.out
end Go.Proofs.YtmcnpaehmnadeaaGreatDoor
