/-
  EpochNext: sederuntref29.All returns the configurations, with what they hold.
-/
import Derived.Test.YtmcnpaehmnadeaaGreatDoorFfAB
set_option maxHeartbeats 6400000
set_option maxRecDepth 1000000
namespace Go.Proofs.YtmcnpaehmnadeaaGreatDoor
open Go Go.RowKit
structure Cg where
 nm : ByteArray
 kd : Int
 mb : Nat
 p3 : Option Addr
 n3 : Nat
 c3 : Nat
 p4 : Option Addr
 n4 : Nat
 c4 : Nat
 p5 : Option Addr
 n5 : Nat
 c5 : Nat
 rd : List Nat
 wr : List Nat
 fs : List (Nat × Nat)
def Cg.vals (c : Cg) : List Value := [.string c.nm, .int .i64 c.kd, .int .u16 (c.mb : Int), .slice c.p3 c.n3 c.c3, .slice c.p4 c.n4 c.c4, .slice c.p5 c.n5 c.c5]
def nameK (k : Nat) : ByteArray := Utf8.encode (([97, 98, 99, 100].getD k 0 : Nat) : Int)
structure CgOk (W : World) (ob : Option Nat) (c : Cg) : Prop where
 mb : c.mb < 65536
 m3 : c.rd.length = c.n3 ∧ c.n3 ≤ 65536 ∧ c.n3 ≤ c.c3 ∧ c.c3 ≤ 9223372036854775807 ∧ InR c.rd ∧ PlainP c.p3
 m4 : c.wr.length = c.n4 ∧ c.n4 ≤ 65536 ∧ c.n4 ≤ c.c4 ∧ c.c4 ≤ 9223372036854775807 ∧ InR c.wr ∧ PlainP c.p4
 m5 : c.fs.length = c.n5 ∧ c.n5 ≤ 1000 ∧ c.n5 ≤ c.c5 ∧ c.c5 ≤ 9223372036854775807 ∧ InF c.fs ∧ PlainP c.p5
 s3 : SetL W c.p3 c.rd
 s4 : SetL W c.p4 c.wr
 s5 : FltL W c.p5 c.fs
 o3 : c.rd ≠ [] → ∀ q, c.p3 = some q → some q.block ≠ ob
 o4 : c.wr ≠ [] → ∀ q, c.p4 = some q → some q.block ≠ ob
 o5 : c.fs ≠ [] → ∀ q, c.p5 = some q → some q.block ≠ ob
theorem CgOk.below {W W' : World} {ob : Option Nat} {c : Cg} (h : CgOk W ob c) (hb : Below W.heap.size W W') : CgOk W' ob c :=
 { h with s3 := h.s3.below hb, s4 := h.s4.below hb, s5 := h.s5.below hb }
theorem SetL.grown {W W' : World} {ob : Option Nat} {p : Option Addr} {l : List Nat} (h : SetL W p l) (ho : l ≠ [] → ∀ q, p = some q → some q.block ≠ ob) (hg : W.grownBy W' ob) : SetL W' p l := by
 rcases h with h | ⟨b, off, h1, h2, h3⟩
 ·exact .inl h
 ·by_cases hl : l = []
  ·exact .inl hl
  ·exact .inr ⟨b, off, h1, Nat.lt_of_lt_of_le h2 hg.size, fun i hi => (World.cell?_of_block (a := ⟨b, off + i, none⟩) (hg.block b h2 (ho hl _ h1))).trans (h3 i hi)⟩
theorem FltL.grown {W W' : World} {ob : Option Nat} {p : Option Addr} {l : List (Nat × Nat)} (h : FltL W p l) (ho : l ≠ [] → ∀ q, p = some q → some q.block ≠ ob) (hg : W.grownBy W' ob) : FltL W' p l := by
 rcases h with h | ⟨b, off, h1, h2, h3⟩
 ·exact .inl h
 ·by_cases hl : l = []
  ·exact .inl hl
  ·exact .inr ⟨b, off, h1, Nat.lt_of_lt_of_le h2 hg.size, fun i hi => ⟨(World.cell?_of_block (a := ⟨b, off + i * 2, none⟩) (hg.block b h2 (ho hl _ h1))).trans (h3 i hi).1, (World.cell?_of_block (a := ⟨b, off + i * 2 + 1, none⟩) (hg.block b h2 (ho hl _ h1))).trans (h3 i hi).2⟩⟩
theorem CgOk.grown {W W' : World} {ob : Option Nat} {g : Nat} {c : Cg} (h : CgOk W ob c) (hg : W.grownBy W' ob) (hat : ob = some g ∨ W.heap.size ≤ g) : CgOk W' (some g) c := by
 have key : ∀ {p : Option Addr} {P : Prop}, (P → ∀ q, p = some q → some q.block ≠ ob) → (P → ∀ q, p = some q → q.block < W.heap.size) → P → ∀ q, p = some q → some q.block ≠ some g := by
  intro p P h1 h2 hP q hq he
  rcases hat with hat | hat
  ·exact h1 hP q hq (he.trans hat.symm)
  ·injection he with he
   have := h2 hP q hq
   omega
 exact { h with s3 := h.s3.grown h.o3 hg, s4 := h.s4.grown h.o4 hg, s5 := h.s5.grown h.o5 hg, o3 := key h.o3 (setL_lt h.s3), o4 := key h.o4 (setL_lt h.s4), o5 := key h.o5 (fltL_lt h.s5) }
def FrC (w : World) (c : Cg) : Prop := FreshP w.heap.size c.p3 ∧ FreshP w.heap.size c.p4 ∧ FreshP w.heap.size c.p5
def SlRetC (n : Nat) (w : World) (e : Ending) (w' : World) : Prop := ∃ (gp : Option Addr) (gc : Nat) (cs : List Cg), e = .returned (.slice gp n gc) ∧ Below w.heap.size w w' ∧ cs.length = n ∧ (∀ i (h : i < cs.length), cs[i].nm = nameK i) ∧ (∀ c ∈ cs, CgOk w' none c) ∧ (∀ c ∈ cs, FrC w c) ∧ w'.ownsRow w.heap.size 49 6 (.slice gp n gc) n (cs.flatMap Cg.vals)
theorem CgOk.grown_none {W : World} {ob : Option Nat} {c : Cg} (h : CgOk W ob c) : CgOk W none c :=
 { h with o3 := fun _ _ _ => by simp, o4 := fun _ _ _ => by simp, o5 := fun _ _ _ => by simp }
theorem cg_new {w8 wd : World} {nm : ByteArray} {kd : Int} {mb : Nat} {p3 : Option Addr} {n3 c3 : Nat} {p4 : Option Addr} {n4 c4 : Nat} {p5 : Option Addr} {n5 c5 : Nat} {rd wq : List Nat} {fs : List (Nat × Nat)} (hmb : mb < 65536) (hm3 : MetaS wd p3 n3 c3 rd) (hm4 : MetaS wd p4 n4 c4 wq)
  (hm5 : fs.length = n5 ∧ n5 ≤ 1000 ∧ n5 ≤ c5 ∧ c5 ≤ 9223372036854775807 ∧ InF fs ∧ PlainP p5 ∧ FreshP wd.heap.size p5) (hs3 : SetL w8 p3 rd) (hs4 : SetL w8 p4 wq) (hs5 : FltL w8 p5 fs) {v : Value} (hv : ∀ q, v.ownBlock = some q → q < wd.heap.size) : CgOk w8 v.ownBlock ⟨nm, kd, mb, p3, n3, c3, p4, n4, c4, p5, n5, c5, rd, wq, fs⟩ :=
 ⟨hmb, ⟨hm3.1, hm3.2.1, hm3.2.2.1, hm3.2.2.2.1, hm3.2.2.2.2.1, hm3.2.2.2.2.2.1⟩, ⟨hm4.1, hm4.2.1, hm4.2.2.1, hm4.2.2.2.1, hm4.2.2.2.2.1, hm4.2.2.2.2.2.1⟩, ⟨hm5.1, hm5.2.1, hm5.2.2.1, hm5.2.2.2.1, hm5.2.2.2.2.1, hm5.2.2.2.2.2.1⟩, hs3, hs4, hs5,
  fun _ q hq he => by have h1 := hm3.2.2.2.2.2.2 q hq; have h2 := hv _ he.symm; omega,
  fun _ q hq he => by have h1 := hm4.2.2.2.2.2.2 q hq; have h2 := hv _ he.symm; omega,
  fun _ q hq he => by have h1 := hm5.2.2.2.2.2.2 q hq; have h2 := hv _ he.symm; omega⟩
theorem all_grown {w8 w5 : World} {o : Obj} {ob : Option Nat} {g : Nat} {cs : List Cg} {c0 : Cg} (h : ∀ c ∈ cs, CgOk w8 ob c) (h0 : CgOk w8 ob c0) (hg : (w8.alloc o).grownBy w5 ob) (hat : ob = some g ∨ g = w8.heap.size + 1) : ∀ c ∈ cs ++ [c0], CgOk w5 (some g) c := by
 have hb : Below w8.heap.size w8 (w8.alloc o) := (Below.refl _ _).alloc (Nat.le_refl _) _
 intro c hc
 have h1 : CgOk w8 ob c := by
  rcases List.mem_append.mp hc with hc | hc
  ·exact h c hc
  ·rw [List.mem_singleton] at hc; subst hc; exact h0
 exact (h1.below hb).grown hg (hat.imp id fun e => by rw [World.size_alloc]; omega)
theorem names_snoc {cs : List Cg} {k : Nat} {c0 : Cg} (hl : cs.length = k) (h : ∀ i (h : i < cs.length), cs[i].nm = nameK i) (hk : k < 3) (hn : Utf8.encode (((ByteArray.mk #[97, 98, 99, 100])[k]'(by show k < 4; omega)).toNat : Int) = c0.nm) : ∀ i (h : i < (cs ++ [c0]).length), (cs ++ [c0])[i].nm = nameK i := by
 intro i hi
 by_cases hik : i < cs.length
 ·rw [List.getElem_append_left hik]; exact h i hik
 ·have hik2 : i = k := by rw [List.length_append, List.length_singleton] at hi; omega
  subst hik2
  rw [List.getElem_append_right (by omega)]
  simp only [hl, Nat.sub_self, List.getElem_cons_zero]
  rw [← hn]
  unfold nameK
  refine congrArg (fun z : Nat => Utf8.encode (z : Int)) ?_
  clear hn hi hik h
  match i, hk with
  | 0, _ => rfl
  | 1, _ => rfl
  | 2, _ => rfl
theorem all_ct (p : Option Addr) (n cap : Nat) (w : World) (hn : n ≤ 3) (hp : DrfP w p n) : Calls Tryz.prog 19 #[.slice p n cap] w (SlRetC n w) := by
 obtain ⟨i0, hi, hz0, hz1, hz2⟩ := info_parts Tryz.info49
 have HP := Lib.hid hp
 clear hp
 go_enter Tryz.func19, Tryz.ntmps19
 go_wp2_with fail
 go_loopw [3, 4] (fun v i wr => ∃ (k : Nat) (cs : List Cg), k ≤ n ∧ i = .int .i64 k ∧ cs.length = k ∧ (∀ i (h : i < cs.length), cs[i].nm = nameK i) ∧ (∀ c ∈ cs, CgOk wr v.ownBlock c) ∧ (∀ c ∈ cs, FrC w c) ∧ wr.ownsRow w.heap.size 49 6 v k (cs.flatMap Cg.vals) ∧ Below w.heap.size w wr) (fun _ i _ => n - (intOf i).toNat)
 case atStart => exact ⟨0, [], Nat.zero_le _, rfl, rfl, (fun _ h => absurd h (Nat.not_lt_zero _)), (fun _ h => by cases h), (fun _ h => by cases h), World.ownsRow_nil _ _ _ _, Below.refl _ _⟩
 case round =>
  obtain ⟨k, cs, hk, rfl, hcl, hnm, hok, hfr, hown, hb⟩ := hrel
  have HCS := Lib.hid (And.intro hcl (And.intro hnm hok))
  have HFC := Lib.hid hfr
  clear hcl hnm hok hfr
  have HW := Lib.hid hown
  have HB := Lib.hid hb
  clear hown hb
  have e0 : (0 : Int) ≤ (k : Int) := by omega
  have e4 : (k : Int) < 4 := by omega
  by_cases hkn : k < n
  ·have e1 : (k : Int) < (n : Int) := by omega
   obtain ⟨b, off, rfl, hbb, a0, a1, a2, pr, pw, pf, nr, cr, nw, cw, nf, cf, mv, hD⟩ := HP.out.at hkn
   have HD := Lib.hid hD
   clear hD
   have HA := Lib.hid (show AL w b (off + k * 7) a0 a1 a2 pr pw pf nr cr nw cw nf cf mv wr from by
    obtain ⟨q0, q1, q2, q3, q4, q5, q6⟩ := HD.out.cells
    exact ⟨⟨(HB.out.cell (p := ⟨b, off + k * 7, none⟩) hbb).trans q0, (HB.out.cell (p := ⟨b, off + k * 7 + 1, none⟩) hbb).trans q1, (HB.out.cell (p := ⟨b, off + k * 7 + 2, none⟩) hbb).trans q2, (HB.out.cell (p := ⟨b, off + k * 7 + 3, none⟩) hbb).trans q3, (HB.out.cell (p := ⟨b, off + k * 7 + 4, none⟩) hbb).trans q4, (HB.out.cell (p := ⟨b, off + k * 7 + 5, none⟩) hbb).trans q5, (HB.out.cell (p := ⟨b, off + k * 7 + 6, none⟩) hbb).trans q6⟩, Nat.lt_of_lt_of_le hbb HB.out.size, HB.out⟩)
   generalize hgv : u3 = v3 at HW HCS ⊢
   clear hgv
   go_upto_region 5 with fail
   have hAd := HA.out.below (below_drew wr)
   have e5 : k < 3 := by omega
   clear hk hkn
   refine wp_region_noPanic ?_
   refine wp_region_x 11 (fun W => W.cell? ⟨b, off + k * 7, none⟩ = some (.int .u8 a0) ∧ W.cell? ⟨b, off + k * 7 + 1, none⟩ = some (.int .u8 a1) ∧ W.cell? ⟨b, off + k * 7 + 2, none⟩ = some (.int .u8 a2) ∧ W.cell? ⟨b, off + k * 7 + 3, none⟩ = some (.slice pr nr cr) ∧ W.cell? ⟨b, off + k * 7 + 4, none⟩ = some (.slice pw nw cw) ∧ W.cell? ⟨b, off + k * 7 + 5, none⟩ = some (.slice pf nf cf) ∧ W.cell? ⟨b, off + k * 7 + 6, none⟩ = some (.int .u8 mv) ∧ AL w b (off + k * 7) a0 a1 a2 pr pw pf nr cr nw cw nf cf mv W) (by kernel_rfl) ?_ (fun hHeld => ?_)
   ·exact alS hAd
   refine tkX 0 15 ?_ rfl ?_ ?_
   rotate_left
   ·intro w hSw; (try dsimp only at hSw); go_simp; try with_reducible rfl
   try simp only [Act.put, sA, sZ, sS]
   refine tkX 1 16 ?_ rfl ?_ ?_
   rotate_left
   ·intro w hSw; (try dsimp only at hSw); go_simp; try with_reducible rfl
   try simp only [Act.put, sA, sZ, sS]
   refine tkX 2 17 ?_ rfl ?_ ?_
   rotate_left
   ·intro w hSw; (try dsimp only at hSw); go_simp; try with_reducible rfl
   try simp only [Act.put, sA, sZ, sS]
   refine tkX 3 18 ?_ rfl ?_ ?_
   rotate_left
   ·intro w hSw; (try dsimp only at hSw); go_simp; try with_reducible rfl
   try simp only [Act.put, sA, sZ, sS]
   refine tkX 4 19 ?_ rfl ?_ ?_
   rotate_left
   ·intro w hSw; (try dsimp only at hSw); go_simp; try with_reducible rfl
   try simp only [Act.put, sA, sZ, sS]
   refine tkX 5 20 ?_ rfl ?_ ?_
   rotate_left
   ·intro w hSw; (try dsimp only at hSw); go_simp; try with_reducible rfl
   try simp only [Act.put, sA, sZ, sS]
   refine tkX 6 21 ?_ rfl ?_ ?_
   rotate_left
   ·intro w hSw; (try dsimp only at hSw); go_simp; try with_reducible rfl
   try simp only [Act.put, sA, sZ, sS]
   refine tkX 7 22 ?_ rfl ?_ ?_
   rotate_left
   ·intro w hSw; (try dsimp only at hSw); go_simp; try with_reducible rfl
   try simp only [Act.put, sA, sZ, sS]
   refine wpAnyX_ready (rs := [8]) (by kernel_rfl) (by simp) ?_
   refine AllReadyX.cons (o := ⟨some 23, _, _, _, _, _⟩) rfl (fun K hK => ?_) ?_
   ·go_simp
    generalize hnm : Utf8.encode _ = nm
    go_at_call 34
    refine (made29_ct a0 a1 a2 pr pw pf nr cr nw cw nf cf mv _ _ HD.out.h1 HD.out.h2 HD.out.h3 HD.out.h4 (HD.out.s1.below hAd.bl) (HD.out.s2.below hAd.bl) (HD.out.s3.below hAd.bl)).mono ?_
    rintro e w8 ⟨kd, mb, p3, n3, c3, p4, n4, c4, p5, n5, c5, rd, wq, fs, rfl, hmb, hm3, hm4, hm5, hs3, hs4, hs5, hb8⟩
    have hCG := cg_new hmb hm3 hm4 hm5 hs3 hs4 hs5 (nm := nm) (kd := kd) (v := v3) (fun q hq => (HW.out.lt q hq).2)
    have hFN : FrC w ⟨nm, kd, mb, p3, n3, c3, p4, n4, c4, p5, n5, c5, rd, wq, fs⟩ := ⟨hm3.2.2.2.2.2.2.mono HB.out.size, hm4.2.2.2.2.2.2.mono HB.out.size, hm5.2.2.2.2.2.2.mono HB.out.size⟩
    have hOK8 : ∀ c ∈ cs, CgOk w8 v3.ownBlock c := fun c hc => (HCS.out.2.2 c hc).below ((below_drew wr).trans (hb8.mono (below_drew wr).size))
    have hA8 := hAd.below hb8
    have hO8 := own_below HW.out ((below_drew wr).trans (hb8.mono (below_drew wr).size))
    go_simp
    refine hK.out _ _ ?_ (fun hHeld => ?_)
    ·exact alS hA8
    clear hK K
    try simp only [Act.put, sA, sZ, sS]
    refine wpAnyX_ready (rs := [9]) (by kernel_rfl) (by simp) ?_
    refine AllReadyX.cons (o := ⟨some 24, _, _, _, _, _⟩) rfl (fun K hK => ?_) ?_
    ·go_simp
     have hA9 := hA8.below ((Below.refl _ _).alloc (Nat.le_refl _) (.cells #[.string nm, .int .i64 kd, .int .u16 (mb : Int), .slice p3 n3 c3, .slice p4 n4 c4, .slice p5 n5 c5] 49))
     refine hK.out _ _ ?_ (fun hHeld => ?_)
     ·exact alS hA9
     clear hK K
     try simp only [Act.put, sA, sZ, sS]
     refine wpAnyX_ready (rs := [10]) (by kernel_rfl) (by simp) ?_
     refine AllReadyX.cons (o := ⟨some 25, _, _, _, _, _⟩) rfl (fun K hK => ?_) ?_
     ·refine step_append_lies _ (by rfl) _ _ _ (by rfl) w.heap.size 49 i0 (.agg #[.string ⟨#[]⟩, .int .i64 0, .int .u16 0, .slice none 0 0, .slice none 0 0, .slice none 0 0]) 6 104 Tryz.underlying29 hi hz0 hz1 hz2 rfl (by omega) v3 k (cs.flatMap Cg.vals) (by rfl) (hO8.alloc _) ⟨w8.heap.size, 0, none⟩ 1 1 [.string nm, .int .i64 kd, .int .u16 (mb : Int), .slice p3 n3 c3, .slice p4 n4 c4, .slice p5 n5 c5] (by rfl) ?g1 (World.news_of_block (cs := #[.string nm, .int .i64 kd, .int .u16 (mb : Int), .slice p3 n3 c3, .slice p4 n4 c4, .slice p5 n5 c5]) (t := 49) (fr := (0, 0)) (heap_alloc_new w8 _)) ?g2 (by omega) (by unfold maxLen; omega) (by omega) (by simp; have := hA8.bl.size; omega) (w8.heap.size + 1) (by simp) ?_
      case g1 => rfl
      case g2 => simp [Value.oneCell']
      intro g5 c5' w5 hown5 hgrow hat hlt
      have hALL := all_grown hOK8 hCG hgrow hat
      have hA10 := al_grown hA8 hbb hO8 hgrow
      refine hK.out _ _ ?_ (fun hHeld => ?_)
      ·exact alS hA10
      clear hK K
      have HO5 := Lib.hid hown5
      have HAL := Lib.hid hALL
      have HNM := Lib.hid hnm
      have HFN := Lib.hid hFN
      clear hFN
      clear hown5 hgrow hat hlt hALL hnm
      try simp only [Act.put, sA, sZ, sS]
      refine wpAnyX_ready (rs := [11]) (by kernel_rfl) (by simp) ?_
      refine AllReadyX.last (o := ⟨some 3, _, _, _, _, _⟩) rfl (fun K hK => ?_) ?_
      ·go_simp
       refine hK.out _ _ ?_
       clear hK K
       try simp only [Act.put, sA, sZ, sS]
       refine wpAnyX_done (by kernel_rfl) ?_ _
       refine NoPanic.normal ?_
       go_wp2_with fail
       go_roundw
       case rel => exact ⟨k + 1, cs ++ [⟨nm, kd, mb, p3, n3, c3, p4, n4, c4, p5, n5, c5, rd, wq, fs⟩], by omega, by go_num, by rw [List.length_append, HCS.out.1]; rfl, names_snoc HCS.out.1 HCS.out.2.1 e5 HNM.out, HAL.out, (fun c hc => (List.mem_append.mp hc).elim (HFC.out c) fun h => by rw [List.mem_singleton] at h; subst h; exact HFN.out), by rw [List.flatMap_append]; exact HO5.out, hA10.bl⟩
       case measure => simp [intOf]; omega
      exact AllReadyX.nil
     exact AllReadyX.nil
    exact AllReadyX.nil
   exact AllReadyX.nil
  ·have e1 : ¬ (k : Int) < (n : Int) := by omega
   obtain rfl : k = n := by omega
   obtain ⟨p5, c5, hv5, _⟩ := slice_of_own HW.out
   subst hv5
   have HFI := Lib.hid (fun c hc => (HCS.out.2.2 c hc).grown_none)
   go_wp2_with fail
   go_ret
   exact ⟨p5, c5, cs, rfl, HB.out, HCS.out.1, HCS.out.2.1, HFI.out, HFC.out, HW.out⟩
end Go.Proofs.YtmcnpaehmnadeaaGreatDoor
