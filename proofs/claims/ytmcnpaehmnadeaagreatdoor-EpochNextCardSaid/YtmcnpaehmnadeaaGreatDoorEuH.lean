/-
  EpochOf: sederuntref40.Decode returns; what it returns as a good join or finish has a closed value.
-/
import Derived.Test.YtmcnpaehmnadeaaGreatDoorEuDG
import Derived.Test.YtmcnpaehmnadeaaGreatDoorEtHI
set_option maxHeartbeats 6400000
set_option maxRecDepth 1000000
namespace Go.Proofs.YtmcnpaehmnadeaaGreatDoor
open Go Go.RowKit
def RRead (kd cf : Int) (p : Option Addr) (k cap : Nat) (W : World) : Prop := (kd = 0 ∧ cf = 0 ∧ p = none ∧ k = 0 ∧ cap = 0) ∨ Read kd cf p k cap W
theorem LS.grown2 {O : Nat} {w2 : World} {b8 o8 : Nat} {y0 y1 y2 : ByteArray} {pv : Option Addr} {kv cv : Nat} {rs : List (Int × Int × ByteArray)} {W W' : World} {o : Obj} {v' : Value} (h : LS O w2 b8 o8 y0 y1 y2 pv kv cv rs W) {n : Nat} {xs : List Value} (_ho : W'.ownsRow (O + 1) 81 3 v' n xs) (hg : (W.alloc o).grownBy W' (Value.slice pv kv cv).ownBlock) :
  W'.heap[O]? = some (.cells #[.int .i64 1, .int .i64 0, .slice pv kv cv] 61 (0, 0)) ∧ Below O w2 W' := by
 have hO := h.lt'
 have hb : Below (O + 1) W W' := below_grown (o := o) (Below.refl _ _) hO h.own hg
 exact ⟨(hb.block O (by omega)).trans h.ob, h.bl.trans (hb.mono (by omega))⟩
set_option linter.unusedSimpArgs false in
theorem rdecode_weak (s : ByteArray) (w : World) (hs : s.size ≤ 300) : Calls Tryz.prog 31 #[.string s] w (DecRet s w) := by
 obtain ⟨i1, hi1, q0, q1, q2⟩ := info_parts Tryz.info81
 go_enter Tryz.func31, Tryz.ntmps31
 go_upto_region 2 with (go_at_call 47; refine (strings_any s _ (by omega)).mono ?_; rintro e w1 ⟨lp, ln, lc, ok, rfl, hS, hln, hlc, hb1⟩)
 have hR1 : w1.heap[w.heap.size]? = some (.cells #[.int .i64 0, .int .i64 0, .slice none 0 0] 61 (0, 0)) := (hb1.block _ (by rw [World.size_alloc]; omega)).trans (heap_alloc_new w _)
 have hbw : Below w.heap.size w w1 := ((Below.refl _ _).alloc (Nat.le_refl _) _).trans (hb1.mono (by simp))
 have hlt1 : w.heap.size < w1.heap.size := (gLt hR1)
 have HR1 := Lib.hid hR1
 have HBW := Lib.hid hbw
 have HS := Lib.hid hS
 have r0 := cellOf hR1 (j := 0) rfl
 have r1 := cellOf hR1 (j := 1) rfl
 have r2 := cellOf hR1 (j := 2) rfl
 have f0 := frozenOf hR1 (j := 0)
 have f1 := frozenOf hR1 (j := 1)
 have f2 := frozenOf hR1 (j := 2)
 clear hR1 hbw hS hb1
 cases ok
 ·go_wp2_with fail
  exact dec_end rfl HR1.out HBW.out (Nat.le_refl _) 0 0 none 0 0 2 (fun h => by omega) _ rfl rfl
 by_cases hl0 : ln = 0
 ·subst hl0
  go_wp2_with fail
  exact dec_end rfl HR1.out HBW.out (Nat.le_refl _) 0 0 none 0 0 2 (fun h => by omega) _ rfl rfl
 obtain ⟨b, off, rfl, hbb, hcells⟩ : ∃ b off, lp = some ⟨b, off, none⟩ ∧ StrsAt w1 b off ln s.size := by
  rcases HS.out with h | h
  ·exact absurd h hl0
  ·exact h
 obtain ⟨x0, hx0, hx0s⟩ := hcells 0 (by omega)
 have e1 : (0 : Int) < (ln : Int) := by omega
 have e2 : ((ln : Int) == 0) = false := by simp; omega
 simp only [Nat.add_zero] at hx0
 go_upto_block 0 with fail
 have hbel : Below w1.heap.size w1 (w1.alloc (.cells #[.int .i64 0, .int .i64 0, .slice none 0 0] 61)) := (Below.refl _ _).alloc (Nat.le_refl _) _
 have hD : DS w w.heap.size w1.heap.size 0 0 none 0 0 (w1.alloc (.cells #[.int .i64 0, .int .i64 0, .slice none 0 0] 61)) := ⟨(hbel.block _ hlt1).trans HR1.out, heap_alloc_new w1 _, HBW.out.trans (hbel.mono (Nat.le_of_lt hlt1)), by omega, Nat.le_refl _, Nat.le_of_lt hlt1⟩
 have hx0' : (w1.alloc (.cells #[.int .i64 0, .int .i64 0, .slice none 0 0] 61)).cell? ⟨b, off, none⟩ = some (.string x0) := (hbel.cell (p := ⟨b, off, none⟩) hbb).trans hx0
 have hC' : ∀ i, i < ln → ∃ y : ByteArray, (w1.alloc (.cells #[.int .i64 0, .int .i64 0, .slice none 0 0] 61)).cell? ⟨b, off + i, none⟩ = some (.string y) ∧ y.size ≤ s.size := fun i hi => by obtain ⟨y, h1, h2⟩ := hcells i hi; exact ⟨y, (hbel.cell (p := ⟨b, off + i, none⟩) hbb).trans h1, h2⟩
 have hO1 : w1.heap.size < (w1.alloc (.cells #[.int .i64 0, .int .i64 0, .slice none 0 0] 61)).heap.size := by rw [World.size_alloc]; omega
 clear hbel hcells r0 r1 r2 f0 f1 f2 HS hx0
 revert hD hC' hx0' hO1
 generalize w1.alloc (.cells #[.int .i64 0, .int .i64 0, .slice none 0 0] 61) = w2
 generalize w1.heap.size = O at hlt1 hbb ⊢
 intro hD hx0' hC' hO1
 have HD := Lib.hid hD
 have HC := Lib.hid hC'
 clear hD hC'
 go_cut [] (fun wx => ∃ (kd cf : Int) (p : Option Addr) (k cap : Nat), DS w w.heap.size O kd cf p k cap wx ∧ RRead kd cf p k cap wx)
 case first =>
  have o0 := cellOf HD.out.ob (j := 0) rfl
  have o1 := cellOf HD.out.ob (j := 1) rfl
  have g0 := frozenOf HD.out.ob (j := 0)
  have g1 := frozenOf HD.out.ob (j := 1)
  go_upto_if 27 with fail
  ·go_meet
   exact ⟨3, 0, none, 0, 0, HD.out.kind 3, .inr (.inr (.inl ⟨rfl, rfl, rfl, rfl, rfl⟩))⟩
  ·by_cases hn2 : ln = 2
   ·subst hn2
    obtain ⟨y, hy, hys⟩ := HC.out 1 (by omega)
    go_wp2_with (go_at_call 48; refine (number_any y _ (by omega)).mono ?_; rintro e w4 ⟨a, rfl, ha, hb4⟩; have HD4 := Lib.hid (HD.out.below hb4); have o0 := cellOf HD4.out.ob (j := 0) rfl; have o1 := cellOf HD4.out.ob (j := 1) rfl; have g0 := frozenOf HD4.out.ob (j := 0); have g1 := frozenOf HD4.out.ob (j := 1); clear hb4)
    ·go_meet
     exact ⟨2, a, none, 0, 0, (HD4.out.kind 2).conf a, .inr (.inl ⟨rfl, ha, rfl, rfl, rfl⟩)⟩
   ·have d2 : ((ln : Int) == 2) = false := by simp; omega
    go_wp2_with fail
    go_meet
    exact ⟨0, 0, none, 0, 0, HD.out, .inl ⟨rfl, rfl, rfl, rfl, rfl⟩⟩
  ·by_cases hn3 : ln % 3 = 1
   ·have d3 : ((ln : Int) % 3 == 1) = true := by simp; omega
    go_upto_if 43 with fail
    ·go_upto_block 1 with fail
     have hD3 := HD.out.kind 1
     have hC3 : ∀ i, i < ln → ∃ y : ByteArray, (w2.setCell ⟨O, 0, none⟩ (.int .i64 1)).cell? ⟨b, off + i, none⟩ = some (.string y) ∧ y.size ≤ s.size := fun i hi => by
      obtain ⟨y, h1, h2⟩ := HC.out i hi
      refine ⟨y, ?_, h2⟩
      unfold World.cell?
      rw [Below.heap_setCell w2 ⟨O, 0, none⟩ _ b (by show b ≠ O; omega)]
      exact h1
     clear o0 o1 g0 g1 hx0' d3 hO1
     revert hD3 hC3
     generalize w2.setCell ⟨O, 0, none⟩ (.int .i64 1) = w3
     intro hD3 hC3
     have HD3 := Lib.hid hD3
     have HC3 := Lib.hid hC3
     clear hD3 hC3 HC HD
     go_wp2_with fail
     go_loopw [7] (fun r wr => ∃ (i : Nat) (pv : Option Addr) (kv cv : Nat) (rs : List (Int × Int × ByteArray)), r = .int .i64 i ∧ i = 1 + rs.length * 3 ∧ i ≤ ln ∧ AllRq rs ∧ wr.heap[O]? = some (.cells #[.int .i64 1, .int .i64 0, .slice pv kv cv] 61 (0, 0)) ∧ wr.ownsRow (O + 1) 81 3 (.slice pv kv cv) rs.length (rqV rs) ∧ Below O w3 wr) (fun r _ => ln - (intOf r).toNat)
     case atStart => exact ⟨1, none, 0, 0, [], rfl, rfl, by omega, fun _ h => (by cases h), HD3.out.ob, World.ownsRow_nil _ _ _ _, Below.refl _ _⟩
     case round =>
      obtain ⟨i, pv, kv, cv, rs, rfl, hir, hil, hall, hO, hown, hb⟩ := hrel
      have HALL := Lib.hid hall
      have HO := Lib.hid hO
      have HOW := Lib.hid hown
      have HB := Lib.hid hb
      have hszr := hb.size
      have HIR := Lib.hid hir
      clear hall hO hown hb
      by_cases hin : i < ln
      ·have hi3 : i + 3 ≤ ln := by omega
       obtain ⟨y0, hy0, hs0⟩ := HC3.out i (by omega)
       obtain ⟨y1, hy1, hs1⟩ := HC3.out (i + 1) (by omega)
       obtain ⟨y2, hy2, hs2⟩ := HC3.out (i + 2) (by omega)
       have hLS : LS O w3 b (off + i) y0 y1 y2 pv kv cv rs wr := ⟨HO.out, HOW.out, HB.out, (HB.out.cell (p := ⟨b, off + i, none⟩) hbb).trans hy0, (HB.out.cell (p := ⟨b, off + i + 1, none⟩) hbb).trans hy1, (HB.out.cell (p := ⟨b, off + i + 2, none⟩) hbb).trans hy2, hbb⟩
       have HLS := Lib.hid hLS
       have hSB : ∀ W, Below O w3 W → W.cell? ⟨b, off + i, none⟩ = some (.string y0) ∧ W.cell? ⟨b, off + (i + 1), none⟩ = some (.string y1) ∧ W.cell? ⟨b, off + (i + 2), none⟩ = some (.string y2) ∧ Below O w3 W := fun W hW => ⟨(hW.cell (p := ⟨b, off + i, none⟩) hbb).trans hy0, (hW.cell (p := ⟨b, off + (i + 1), none⟩) hbb).trans hy1, (hW.cell (p := ⟨b, off + (i + 2), none⟩) hbb).trans hy2, hW⟩
       have HSB := Lib.hid hSB
       have o2 := cellOf hLS.ob (j := 2) rfl
       have hrs : rs.length ≤ 300 := by omega
       have e4 : (0 : Int) ≤ (i : Int) := by omega
       have e5 : (i : Int) < (ln : Int) := by omega
       have e6 : (i : Int) + 1 < (ln : Int) := by omega
       have e7 : (i : Int) + 2 < (ln : Int) := by omega
       clear hSB hLS hy0 hy1 hy2 hir
       go_upto_region 14 with fail
       have ew1 : IntKind.i64.wrap ((i : Int) + 1) = (i : Int) + 1 := by simp [IntKind.wrap, IntKind.bits, IntKind.signed]; omega
       have ew2 : IntKind.i64.wrap ((i : Int) + 2) = (i : Int) + 2 := by simp [IntKind.wrap, IntKind.bits, IntKind.signed]; omega
       have e8 : (0 : Int) ≤ (i : Int) + 1 := by omega
       have e9 : (0 : Int) ≤ (i : Int) + 2 := by omega
       have et1 : ((i : Int) + 1).toNat = i + 1 := by omega
       have et2 : ((i : Int) + 2).toNat = i + 2 := by omega
       refine wp_region_noPanic ?_
       refine wp_region_held_drew (S := fun W => W.cell? ⟨b, off + i, none⟩ = some (.string y0) ∧ W.cell? ⟨b, off + (i + 1), none⟩ = some (.string y1) ∧ W.cell? ⟨b, off + (i + 2), none⟩ = some (.string y2) ∧ Below O w3 W) (by kernel_rfl) ?_ (fun hHeld => ?_)
       ·exact HSB.out _ (HLS.out.below (below_drew _)).bl
       refine wpAnyH_take (i := 0) (v := ?_) rfl (by kernel_rfl) (by kernel_rfl) (by kernel_rfl) (fun _ _ _ h => h) (Or.inl ⟨by rfl, ?_⟩) (by assumption) ?_
       rotate_left
       ·intro w hSw; (try dsimp only at hSw); go_simp; try with_reducible rfl
       try simp only [Act.put, sA, sZ, sS]
       refine wpAnyH_take (i := 2) (v := ?_) rfl (by kernel_rfl) (by kernel_rfl) (by kernel_rfl) (fun _ _ _ h => h) (Or.inl ⟨by rfl, ?_⟩) (by assumption) ?_
       rotate_left
       ·intro w hSw; (try dsimp only at hSw); go_simp; try with_reducible rfl
       try simp only [Act.put, sA, sZ, sS]
       refine wpAnyH_take (i := 3) (v := ?_) rfl (by kernel_rfl) (by kernel_rfl) (by kernel_rfl) (fun _ _ _ h => h) (Or.inl ⟨by rfl, ?_⟩) (by assumption) ?_
       rotate_left
       ·intro w hSw; (try dsimp only at hSw); go_simp; try with_reducible rfl
       try simp only [Act.put, sA, sZ, sS]
       refine wpAnyH_take (i := 4) (v := ?_) rfl (by kernel_rfl) (by kernel_rfl) (by kernel_rfl) (fun _ _ _ h => h) (Or.inl ⟨by rfl, ?_⟩) (by assumption) ?_
       rotate_left
       ·intro w hSw; (try dsimp only at hSw); go_simp; try with_reducible rfl
       try simp only [Act.put, sA, sZ, sS]
       refine wpAnyH_take (i := 5) (v := ?_) rfl (by kernel_rfl) (by kernel_rfl) (by kernel_rfl) (fun _ _ _ h => h) (Or.inl ⟨by rfl, ?_⟩) (by assumption) ?_
       rotate_left
       ·intro w hSw; (try dsimp only at hSw); go_simp; try with_reducible rfl
       try simp only [Act.put, sA, sZ, sS]
       refine wpAnyH_take (i := 7) (v := ?_) rfl (by kernel_rfl) (by kernel_rfl) (by kernel_rfl) (fun _ _ _ h => h) (Or.inl ⟨by rfl, ?_⟩) (by assumption) ?_
       rotate_left
       ·intro w hSw; (try dsimp only at hSw); go_simp; try with_reducible rfl
       try simp only [Act.put, sA, sZ, sS]
       refine wpAnyH_take (i := 8) (v := ?_) rfl (by kernel_rfl) (by kernel_rfl) (by kernel_rfl) (fun _ _ _ h => h) (Or.inl ⟨by rfl, ?_⟩) (by assumption) ?_
       rotate_left
       ·intro w hSw; (try dsimp only at hSw); go_simp; try with_reducible rfl
       try simp only [Act.put, sA, sZ, sS]
       refine wpAnyH_take (i := 9) (v := ?_) rfl (by kernel_rfl) (by kernel_rfl) (by kernel_rfl) (fun _ _ _ h => h) (Or.inl ⟨by rfl, ?_⟩) (by assumption) ?_
       rotate_left
       ·intro w hSw; (try dsimp only at hSw); go_simp; try with_reducible rfl
       try simp only [Act.put, sA, sZ, sS]
       refine wpAnyH_take (i := 10) (v := ?_) rfl (by kernel_rfl) (by kernel_rfl) (by kernel_rfl) (fun _ _ _ h => h) (Or.inl ⟨by rfl, ?_⟩) (by assumption) ?_
       rotate_left
       ·intro w hSw; (try dsimp only at hSw); go_simp; try with_reducible rfl
       try simp only [Act.put, sA, sZ, sS]
       refine wpAnyH_take (i := 11) (v := ?_) rfl (by kernel_rfl) (by kernel_rfl) (by kernel_rfl) (fun _ _ _ h => h) (Or.inl ⟨by rfl, ?_⟩) (by assumption) ?_
       rotate_left
       ·intro w hSw; (try dsimp only at hSw); go_simp; try with_reducible rfl
       try simp only [Act.put, sA, sZ, sS]
       refine wpAnyH_take (i := 13) (v := ?_) rfl (by kernel_rfl) (by kernel_rfl) (by kernel_rfl) (fun _ _ _ h => h) (Or.inl ⟨by rfl, ?_⟩) (by assumption) ?_
       rotate_left
       ·intro w hSw; (try dsimp only at hSw); go_simp; try with_reducible rfl
       try simp only [Act.put, sA, sZ, sS]
       refine wpAnyH_take (i := 14) (v := ?_) rfl (by kernel_rfl) (by kernel_rfl) (by kernel_rfl) (fun _ _ _ h => h) (Or.inl ⟨by rfl, ?_⟩) (by assumption) ?_
       rotate_left
       ·intro w hSw; (try dsimp only at hSw); go_simp; try with_reducible rfl
       try simp only [Act.put, sA, sZ, sS]
       refine wpAnyH_take (i := 15) (v := ?_) rfl (by kernel_rfl) (by kernel_rfl) (by kernel_rfl) (fun _ _ _ h => h) (Or.inl ⟨by rfl, ?_⟩) (by assumption) ?_
       rotate_left
       ·intro w hSw; (try dsimp only at hSw); go_simp; try with_reducible rfl
       try simp only [Act.put, sA, sZ, sS]
       refine wpAnyH_take (i := 16) (v := ?_) rfl (by kernel_rfl) (by kernel_rfl) (by kernel_rfl) (fun _ _ _ h => h) (Or.inl ⟨by rfl, ?_⟩) (by assumption) ?_
       rotate_left
       ·intro w hSw; (try dsimp only at hSw); go_simp; try with_reducible rfl
       try simp only [Act.put, sA, sZ, sS]
       refine wpAnyH_take (i := 17) (v := ?_) rfl (by kernel_rfl) (by kernel_rfl) (by kernel_rfl) (fun _ _ _ h => h) (Or.inl ⟨by rfl, ?_⟩) (by assumption) ?_
       rotate_left
       ·intro w hSw; (try dsimp only at hSw); go_simp; try with_reducible rfl
       try simp only [Act.put, sA, sZ, sS]
       refine wpAnyH_ready (rs := [1, 6]) (by kernel_rfl) (by simp) ?_
       refine AllReadyH.cons rfl (fun K hK => ?_) ?_
       ·go_simp
        refine hK.out _ _ ?_ (fun hHeld => ?_)
        ·first | exact HSB.out _ HLS.out.bl | exact HSB.out _ (HLS.out.below (below_drew _)).bl | exact HSB.out _ HL3.out.bl | exact HSB.out _ HL4.out.bl | exact HSB.out _ (HL4.out.below ((Below.refl _ _).alloc (Nat.le_refl _) _)).bl | exact HSB.out _ hL5.2 | exact HSB.out _ (below_set hL5.2 (p := ⟨O, 2, none⟩) (Nat.le_refl _) _)
        clear hK K
        try simp only [Act.put, sA, sZ, sS]
        refine wpAnyH_ready (rs := [6]) (by kernel_rfl) (by simp) ?_
        refine AllReadyH.cons rfl (fun K hK => ?_) ?_
        ·go_simp
         go_at_call 48
         refine (number_any y0 _ (by omega)).mono ?_
         rintro e w4' ⟨a0, rfl, ha0, hb3⟩
         have HL3 := Lib.hid ((HLS.out.below (below_drew _)).below hb3)
         have o2 := cellOf HL3.out.ob (j := 2) rfl
         clear hb3
         go_simp
         refine hK.out _ _ ?_ (fun hHeld => ?_)
         ·first | exact HSB.out _ HLS.out.bl | exact HSB.out _ (HLS.out.below (below_drew _)).bl | exact HSB.out _ HL3.out.bl | exact HSB.out _ HL4.out.bl | exact HSB.out _ (HL4.out.below ((Below.refl _ _).alloc (Nat.le_refl _) _)).bl | exact HSB.out _ hL5.2 | exact HSB.out _ (below_set hL5.2 (p := ⟨O, 2, none⟩) (Nat.le_refl _) _)
         clear hK K
         try simp only [Act.put, sA, sZ, sS]
         refine wpAnyH_ready (rs := [12]) (by kernel_rfl) (by simp) ?_
         refine AllReadyH.cons rfl (fun K hK => ?_) ?_
         ·go_simp
          go_at_call 48
          refine (number_any y1 _ (by omega)).mono ?_
          rintro e w4 ⟨a1, rfl, ha1, hb4⟩
          have HL4 := Lib.hid (HL3.out.below hb4)
          have o2 := cellOf HL4.out.ob (j := 2) rfl
          have hO4 := HL4.out.lt'
          clear hb4
          go_simp
          refine hK.out _ _ ?_ (fun hHeld => ?_)
          ·first | exact HSB.out _ HLS.out.bl | exact HSB.out _ (HLS.out.below (below_drew _)).bl | exact HSB.out _ HL3.out.bl | exact HSB.out _ HL4.out.bl | exact HSB.out _ (HL4.out.below ((Below.refl _ _).alloc (Nat.le_refl _) _)).bl | exact HSB.out _ hL5.2 | exact HSB.out _ (below_set hL5.2 (p := ⟨O, 2, none⟩) (Nat.le_refl _) _)
          clear hK K
          try simp only [Act.put, sA, sZ, sS]
          refine wpAnyH_take (i := 18) (v := ?_) rfl (by kernel_rfl) (by kernel_rfl) (by kernel_rfl) (fun _ _ _ h => h) (Or.inl ⟨by rfl, ?_⟩) (by assumption) ?_
          rotate_left
          ·intro w hSw; (try dsimp only at hSw); go_simp; try with_reducible rfl
          try simp only [Act.put, sA, sZ, sS]
          refine wpAnyH_ready (rs := [19]) (by kernel_rfl) (by simp) ?_
          refine AllReadyH.cons rfl (fun K hK => ?_) ?_
          ·go_simp
           refine hK.out _ _ ?_ (fun hHeld => ?_)
           ·first | exact HSB.out _ HLS.out.bl | exact HSB.out _ (HLS.out.below (below_drew _)).bl | exact HSB.out _ HL3.out.bl | exact HSB.out _ HL4.out.bl | exact HSB.out _ (HL4.out.below ((Below.refl _ _).alloc (Nat.le_refl _) _)).bl | exact HSB.out _ hL5.2 | exact HSB.out _ (below_set hL5.2 (p := ⟨O, 2, none⟩) (Nat.le_refl _) _)
           clear hK K
           try simp only [Act.put, sA, sZ, sS]
           refine wpAnyH_ready (rs := [20]) (by kernel_rfl) (by simp) ?_
           refine AllReadyH.cons rfl (fun K hK => ?_) ?_
           ·refine step_append_lies _ (by rfl) (.tmp 62) (.tmp 80) 59 (by rfl) (O + 1) 81 i1 (.agg #[.int .i64 0, .int .i64 0, .string ⟨#[]⟩]) 3 32 Tryz.underlying59 hi1 q0 q1 q2 rfl (by omega) (.slice pv kv cv) rs.length (rqV rs) (by rfl) (by exact HL4.out.own.alloc (.cells #[.int .i64 a0, .int .i64 a1, .string y2] 81)) ⟨w4.heap.size, 0, none⟩ 1 1 [.int .i64 a0, .int .i64 a1, .string y2] (by rfl) (by rfl) (by exact World.news_of_block (w := w4.alloc (.cells #[.int .i64 a0, .int .i64 a1, .string y2] 81)) (cs := #[.int .i64 a0, .int .i64 a1, .string y2]) (t := 81) (fr := (0, 0)) (heap_alloc_new w4 _)) (by simp [Value.oneCell']) (by omega) (by unfold maxLen; omega) (by omega) (by simp; omega) (w4.heap.size + 1) (by simp) ?_
            intro g5 c5 w5 hown5 hgrow hat hlt5
            have hL5 := HL4.out.grown2 hown5 hgrow
            have o2 := cellOf hL5.1 (j := 2) rfl
            have g2 := frozenOf hL5.1 (j := 2)
            refine hK.out _ _ ?_ (fun hHeld => ?_)
            ·first | exact HSB.out _ HLS.out.bl | exact HSB.out _ (HLS.out.below (below_drew _)).bl | exact HSB.out _ HL3.out.bl | exact HSB.out _ HL4.out.bl | exact HSB.out _ (HL4.out.below ((Below.refl _ _).alloc (Nat.le_refl _) _)).bl | exact HSB.out _ hL5.2 | exact HSB.out _ (below_set hL5.2 (p := ⟨O, 2, none⟩) (Nat.le_refl _) _)
            clear hK K
            try simp only [Act.put, sA, sZ, sS]
            refine wpAnyH_take (i := 21) (v := ?_) rfl (by kernel_rfl) (by kernel_rfl) (by kernel_rfl) (fun _ _ _ h => h) (Or.inl ⟨by rfl, ?_⟩) (by assumption) ?_
            rotate_left
            ·intro w hSw; (try dsimp only at hSw); go_simp; try with_reducible rfl
            try simp only [Act.put, sA, sZ, sS]
            refine wpAnyH_ready (rs := [22]) (by kernel_rfl) (by simp) ?_
            refine AllReadyH.cons rfl (fun K hK => ?_) ?_
            ·go_simp
             refine hK.out _ _ ?_ (fun hHeld => ?_)
             ·first | exact HSB.out _ HLS.out.bl | exact HSB.out _ (HLS.out.below (below_drew _)).bl | exact HSB.out _ HL3.out.bl | exact HSB.out _ HL4.out.bl | exact HSB.out _ (HL4.out.below ((Below.refl _ _).alloc (Nat.le_refl _) _)).bl | exact HSB.out _ hL5.2 | exact HSB.out _ (below_set hL5.2 (p := ⟨O, 2, none⟩) (Nat.le_refl _) _)
             clear hK K
             try simp only [Act.put, sA, sZ, sS]
             refine wpAnyH_done (by kernel_rfl) ?_ _
             refine NoPanic.normal ?_
             have hO6 := row3_2 hL5.1 (.slice (some ⟨g5, 0, none⟩) (rs.length + 1) c5)
             have hb6 := below_set hL5.2 (p := ⟨O, 2, none⟩) (Nat.le_refl _) (.slice (some ⟨g5, 0, none⟩) (rs.length + 1) c5)
             have hw6 := own_set hown5 (p := ⟨O, 2, none⟩) (by show O < O + 1; omega) (.slice (some ⟨g5, 0, none⟩) (rs.length + 1) c5)
             have hw7 : (w5.setCell ⟨O, 2, none⟩ (.slice (some ⟨g5, 0, none⟩) (rs.length + 1) c5)).ownsRow (O + 1) 81 3 (.slice (some ⟨g5, 0, none⟩) (rs.length + 1) c5) (rs ++ [(a0, a1, y2)]).length (rqV (rs ++ [(a0, a1, y2)])) := by rw [rqV_append, List.length_append]; exact hw6
             have HA6 := Lib.hid (HALL.out.snoc ha0 ha1 (show y2.size ≤ 1000 by omega))
             have H6 := Lib.hid (And.intro hO6 (And.intro hw7 hb6))
             clear hO6 hb6 hw6 hw7 hown5 hgrow hat hL5 o2 g2
             go_wp2_with fail
             go_roundw
             case rel => exact ⟨i + 3, _, _, _, rs ++ [(a0, a1, y2)], by go_num, by rw [List.length_append]; show _ = 1 + (rs.length + 1) * 3; have := HIR.out; omega, by omega, HA6.out, H6.out.1, H6.out.2.1, H6.out.2.2⟩
             case measure => simp [intOf]; omega
            exact AllReadyH.nil
           exact AllReadyH.nil
          exact AllReadyH.nil
         exact AllReadyH.nil
        exact AllReadyH.nil
       refine AllReadyH.cons rfl (fun K hK => ?_) ?_
       ·go_simp
        go_at_call 48
        refine (number_any y0 _ (by omega)).mono ?_
        rintro e w4' ⟨a0, rfl, ha0, hb3⟩
        have HL3 := Lib.hid ((HLS.out.below (below_drew _)).below hb3)
        have o2 := cellOf HL3.out.ob (j := 2) rfl
        clear hb3
        go_simp
        refine hK.out _ _ ?_ (fun hHeld => ?_)
        ·first | exact HSB.out _ HLS.out.bl | exact HSB.out _ (HLS.out.below (below_drew _)).bl | exact HSB.out _ HL3.out.bl | exact HSB.out _ HL4.out.bl | exact HSB.out _ (HL4.out.below ((Below.refl _ _).alloc (Nat.le_refl _) _)).bl | exact HSB.out _ hL5.2 | exact HSB.out _ (below_set hL5.2 (p := ⟨O, 2, none⟩) (Nat.le_refl _) _)
        clear hK K
        try simp only [Act.put, sA, sZ, sS]
        refine wpAnyH_ready (rs := [1, 12]) (by kernel_rfl) (by simp) ?_
        refine AllReadyH.cons rfl (fun K hK => ?_) ?_
        ·go_simp
         refine hK.out _ _ ?_ (fun hHeld => ?_)
         ·first | exact HSB.out _ HLS.out.bl | exact HSB.out _ (HLS.out.below (below_drew _)).bl | exact HSB.out _ HL3.out.bl | exact HSB.out _ HL4.out.bl | exact HSB.out _ (HL4.out.below ((Below.refl _ _).alloc (Nat.le_refl _) _)).bl | exact HSB.out _ hL5.2 | exact HSB.out _ (below_set hL5.2 (p := ⟨O, 2, none⟩) (Nat.le_refl _) _)
         clear hK K
         try simp only [Act.put, sA, sZ, sS]
         refine wpAnyH_ready (rs := [12]) (by kernel_rfl) (by simp) ?_
         refine AllReadyH.cons rfl (fun K hK => ?_) ?_
         ·go_simp
          go_at_call 48
          refine (number_any y1 _ (by omega)).mono ?_
          rintro e w4 ⟨a1, rfl, ha1, hb4⟩
          have HL4 := Lib.hid (HL3.out.below hb4)
          have o2 := cellOf HL4.out.ob (j := 2) rfl
          have hO4 := HL4.out.lt'
          clear hb4
          go_simp
          refine hK.out _ _ ?_ (fun hHeld => ?_)
          ·first | exact HSB.out _ HLS.out.bl | exact HSB.out _ (HLS.out.below (below_drew _)).bl | exact HSB.out _ HL3.out.bl | exact HSB.out _ HL4.out.bl | exact HSB.out _ (HL4.out.below ((Below.refl _ _).alloc (Nat.le_refl _) _)).bl | exact HSB.out _ hL5.2 | exact HSB.out _ (below_set hL5.2 (p := ⟨O, 2, none⟩) (Nat.le_refl _) _)
          clear hK K
          try simp only [Act.put, sA, sZ, sS]
          refine wpAnyH_take (i := 18) (v := ?_) rfl (by kernel_rfl) (by kernel_rfl) (by kernel_rfl) (fun _ _ _ h => h) (Or.inl ⟨by rfl, ?_⟩) (by assumption) ?_
          rotate_left
          ·intro w hSw; (try dsimp only at hSw); go_simp; try with_reducible rfl
          try simp only [Act.put, sA, sZ, sS]
          refine wpAnyH_ready (rs := [19]) (by kernel_rfl) (by simp) ?_
          refine AllReadyH.cons rfl (fun K hK => ?_) ?_
          ·go_simp
           refine hK.out _ _ ?_ (fun hHeld => ?_)
           ·first | exact HSB.out _ HLS.out.bl | exact HSB.out _ (HLS.out.below (below_drew _)).bl | exact HSB.out _ HL3.out.bl | exact HSB.out _ HL4.out.bl | exact HSB.out _ (HL4.out.below ((Below.refl _ _).alloc (Nat.le_refl _) _)).bl | exact HSB.out _ hL5.2 | exact HSB.out _ (below_set hL5.2 (p := ⟨O, 2, none⟩) (Nat.le_refl _) _)
           clear hK K
           try simp only [Act.put, sA, sZ, sS]
           refine wpAnyH_ready (rs := [20]) (by kernel_rfl) (by simp) ?_
           refine AllReadyH.cons rfl (fun K hK => ?_) ?_
           ·refine step_append_lies _ (by rfl) (.tmp 62) (.tmp 80) 59 (by rfl) (O + 1) 81 i1 (.agg #[.int .i64 0, .int .i64 0, .string ⟨#[]⟩]) 3 32 Tryz.underlying59 hi1 q0 q1 q2 rfl (by omega) (.slice pv kv cv) rs.length (rqV rs) (by rfl) (by exact HL4.out.own.alloc (.cells #[.int .i64 a0, .int .i64 a1, .string y2] 81)) ⟨w4.heap.size, 0, none⟩ 1 1 [.int .i64 a0, .int .i64 a1, .string y2] (by rfl) (by rfl) (by exact World.news_of_block (w := w4.alloc (.cells #[.int .i64 a0, .int .i64 a1, .string y2] 81)) (cs := #[.int .i64 a0, .int .i64 a1, .string y2]) (t := 81) (fr := (0, 0)) (heap_alloc_new w4 _)) (by simp [Value.oneCell']) (by omega) (by unfold maxLen; omega) (by omega) (by simp; omega) (w4.heap.size + 1) (by simp) ?_
            intro g5 c5 w5 hown5 hgrow hat hlt5
            have hL5 := HL4.out.grown2 hown5 hgrow
            have o2 := cellOf hL5.1 (j := 2) rfl
            have g2 := frozenOf hL5.1 (j := 2)
            refine hK.out _ _ ?_ (fun hHeld => ?_)
            ·first | exact HSB.out _ HLS.out.bl | exact HSB.out _ (HLS.out.below (below_drew _)).bl | exact HSB.out _ HL3.out.bl | exact HSB.out _ HL4.out.bl | exact HSB.out _ (HL4.out.below ((Below.refl _ _).alloc (Nat.le_refl _) _)).bl | exact HSB.out _ hL5.2 | exact HSB.out _ (below_set hL5.2 (p := ⟨O, 2, none⟩) (Nat.le_refl _) _)
            clear hK K
            try simp only [Act.put, sA, sZ, sS]
            refine wpAnyH_take (i := 21) (v := ?_) rfl (by kernel_rfl) (by kernel_rfl) (by kernel_rfl) (fun _ _ _ h => h) (Or.inl ⟨by rfl, ?_⟩) (by assumption) ?_
            rotate_left
            ·intro w hSw; (try dsimp only at hSw); go_simp; try with_reducible rfl
            try simp only [Act.put, sA, sZ, sS]
            refine wpAnyH_ready (rs := [22]) (by kernel_rfl) (by simp) ?_
            refine AllReadyH.cons rfl (fun K hK => ?_) ?_
            ·go_simp
             refine hK.out _ _ ?_ (fun hHeld => ?_)
             ·first | exact HSB.out _ HLS.out.bl | exact HSB.out _ (HLS.out.below (below_drew _)).bl | exact HSB.out _ HL3.out.bl | exact HSB.out _ HL4.out.bl | exact HSB.out _ (HL4.out.below ((Below.refl _ _).alloc (Nat.le_refl _) _)).bl | exact HSB.out _ hL5.2 | exact HSB.out _ (below_set hL5.2 (p := ⟨O, 2, none⟩) (Nat.le_refl _) _)
             clear hK K
             try simp only [Act.put, sA, sZ, sS]
             refine wpAnyH_done (by kernel_rfl) ?_ _
             refine NoPanic.normal ?_
             have hO6 := row3_2 hL5.1 (.slice (some ⟨g5, 0, none⟩) (rs.length + 1) c5)
             have hb6 := below_set hL5.2 (p := ⟨O, 2, none⟩) (Nat.le_refl _) (.slice (some ⟨g5, 0, none⟩) (rs.length + 1) c5)
             have hw6 := own_set hown5 (p := ⟨O, 2, none⟩) (by show O < O + 1; omega) (.slice (some ⟨g5, 0, none⟩) (rs.length + 1) c5)
             have hw7 : (w5.setCell ⟨O, 2, none⟩ (.slice (some ⟨g5, 0, none⟩) (rs.length + 1) c5)).ownsRow (O + 1) 81 3 (.slice (some ⟨g5, 0, none⟩) (rs.length + 1) c5) (rs ++ [(a0, a1, y2)]).length (rqV (rs ++ [(a0, a1, y2)])) := by rw [rqV_append, List.length_append]; exact hw6
             have HA6 := Lib.hid (HALL.out.snoc ha0 ha1 (show y2.size ≤ 1000 by omega))
             have H6 := Lib.hid (And.intro hO6 (And.intro hw7 hb6))
             clear hO6 hb6 hw6 hw7 hown5 hgrow hat hL5 o2 g2
             go_wp2_with fail
             go_roundw
             case rel => exact ⟨i + 3, _, _, _, rs ++ [(a0, a1, y2)], by go_num, by rw [List.length_append]; show _ = 1 + (rs.length + 1) * 3; have := HIR.out; omega, by omega, HA6.out, H6.out.1, H6.out.2.1, H6.out.2.2⟩
             case measure => simp [intOf]; omega
            exact AllReadyH.nil
           exact AllReadyH.nil
          exact AllReadyH.nil
         exact AllReadyH.nil
        refine AllReadyH.cons rfl (fun K hK => ?_) ?_
        ·go_simp
         go_at_call 48
         refine (number_any y1 _ (by omega)).mono ?_
         rintro e w4 ⟨a1, rfl, ha1, hb4⟩
         have HL4 := Lib.hid (HL3.out.below hb4)
         have o2 := cellOf HL4.out.ob (j := 2) rfl
         have hO4 := HL4.out.lt'
         clear hb4
         go_simp
         refine hK.out _ _ ?_ (fun hHeld => ?_)
         ·first | exact HSB.out _ HLS.out.bl | exact HSB.out _ (HLS.out.below (below_drew _)).bl | exact HSB.out _ HL3.out.bl | exact HSB.out _ HL4.out.bl | exact HSB.out _ (HL4.out.below ((Below.refl _ _).alloc (Nat.le_refl _) _)).bl | exact HSB.out _ hL5.2 | exact HSB.out _ (below_set hL5.2 (p := ⟨O, 2, none⟩) (Nat.le_refl _) _)
         clear hK K
         try simp only [Act.put, sA, sZ, sS]
         refine wpAnyH_take (i := 18) (v := ?_) rfl (by kernel_rfl) (by kernel_rfl) (by kernel_rfl) (fun _ _ _ h => h) (Or.inl ⟨by rfl, ?_⟩) (by assumption) ?_
         rotate_left
         ·intro w hSw; (try dsimp only at hSw); go_simp; try with_reducible rfl
         try simp only [Act.put, sA, sZ, sS]
         refine wpAnyH_ready (rs := [1, 19]) (by kernel_rfl) (by simp) ?_
         refine AllReadyH.cons rfl (fun K hK => ?_) ?_
         ·go_simp
          refine hK.out _ _ ?_ (fun hHeld => ?_)
          ·first | exact HSB.out _ HLS.out.bl | exact HSB.out _ (HLS.out.below (below_drew _)).bl | exact HSB.out _ HL3.out.bl | exact HSB.out _ HL4.out.bl | exact HSB.out _ (HL4.out.below ((Below.refl _ _).alloc (Nat.le_refl _) _)).bl | exact HSB.out _ hL5.2 | exact HSB.out _ (below_set hL5.2 (p := ⟨O, 2, none⟩) (Nat.le_refl _) _)
          clear hK K
          try simp only [Act.put, sA, sZ, sS]
          refine wpAnyH_ready (rs := [19]) (by kernel_rfl) (by simp) ?_
          refine AllReadyH.cons rfl (fun K hK => ?_) ?_
          ·go_simp
           refine hK.out _ _ ?_ (fun hHeld => ?_)
           ·first | exact HSB.out _ HLS.out.bl | exact HSB.out _ (HLS.out.below (below_drew _)).bl | exact HSB.out _ HL3.out.bl | exact HSB.out _ HL4.out.bl | exact HSB.out _ (HL4.out.below ((Below.refl _ _).alloc (Nat.le_refl _) _)).bl | exact HSB.out _ hL5.2 | exact HSB.out _ (below_set hL5.2 (p := ⟨O, 2, none⟩) (Nat.le_refl _) _)
           clear hK K
           try simp only [Act.put, sA, sZ, sS]
           refine wpAnyH_ready (rs := [20]) (by kernel_rfl) (by simp) ?_
           refine AllReadyH.cons rfl (fun K hK => ?_) ?_
           ·refine step_append_lies _ (by rfl) (.tmp 62) (.tmp 80) 59 (by rfl) (O + 1) 81 i1 (.agg #[.int .i64 0, .int .i64 0, .string ⟨#[]⟩]) 3 32 Tryz.underlying59 hi1 q0 q1 q2 rfl (by omega) (.slice pv kv cv) rs.length (rqV rs) (by rfl) (by exact HL4.out.own.alloc (.cells #[.int .i64 a0, .int .i64 a1, .string y2] 81)) ⟨w4.heap.size, 0, none⟩ 1 1 [.int .i64 a0, .int .i64 a1, .string y2] (by rfl) (by rfl) (by exact World.news_of_block (w := w4.alloc (.cells #[.int .i64 a0, .int .i64 a1, .string y2] 81)) (cs := #[.int .i64 a0, .int .i64 a1, .string y2]) (t := 81) (fr := (0, 0)) (heap_alloc_new w4 _)) (by simp [Value.oneCell']) (by omega) (by unfold maxLen; omega) (by omega) (by simp; omega) (w4.heap.size + 1) (by simp) ?_
            intro g5 c5 w5 hown5 hgrow hat hlt5
            have hL5 := HL4.out.grown2 hown5 hgrow
            have o2 := cellOf hL5.1 (j := 2) rfl
            have g2 := frozenOf hL5.1 (j := 2)
            refine hK.out _ _ ?_ (fun hHeld => ?_)
            ·first | exact HSB.out _ HLS.out.bl | exact HSB.out _ (HLS.out.below (below_drew _)).bl | exact HSB.out _ HL3.out.bl | exact HSB.out _ HL4.out.bl | exact HSB.out _ (HL4.out.below ((Below.refl _ _).alloc (Nat.le_refl _) _)).bl | exact HSB.out _ hL5.2 | exact HSB.out _ (below_set hL5.2 (p := ⟨O, 2, none⟩) (Nat.le_refl _) _)
            clear hK K
            try simp only [Act.put, sA, sZ, sS]
            refine wpAnyH_take (i := 21) (v := ?_) rfl (by kernel_rfl) (by kernel_rfl) (by kernel_rfl) (fun _ _ _ h => h) (Or.inl ⟨by rfl, ?_⟩) (by assumption) ?_
            rotate_left
            ·intro w hSw; (try dsimp only at hSw); go_simp; try with_reducible rfl
            try simp only [Act.put, sA, sZ, sS]
            refine wpAnyH_ready (rs := [22]) (by kernel_rfl) (by simp) ?_
            refine AllReadyH.cons rfl (fun K hK => ?_) ?_
            ·go_simp
             refine hK.out _ _ ?_ (fun hHeld => ?_)
             ·first | exact HSB.out _ HLS.out.bl | exact HSB.out _ (HLS.out.below (below_drew _)).bl | exact HSB.out _ HL3.out.bl | exact HSB.out _ HL4.out.bl | exact HSB.out _ (HL4.out.below ((Below.refl _ _).alloc (Nat.le_refl _) _)).bl | exact HSB.out _ hL5.2 | exact HSB.out _ (below_set hL5.2 (p := ⟨O, 2, none⟩) (Nat.le_refl _) _)
             clear hK K
             try simp only [Act.put, sA, sZ, sS]
             refine wpAnyH_done (by kernel_rfl) ?_ _
             refine NoPanic.normal ?_
             have hO6 := row3_2 hL5.1 (.slice (some ⟨g5, 0, none⟩) (rs.length + 1) c5)
             have hb6 := below_set hL5.2 (p := ⟨O, 2, none⟩) (Nat.le_refl _) (.slice (some ⟨g5, 0, none⟩) (rs.length + 1) c5)
             have hw6 := own_set hown5 (p := ⟨O, 2, none⟩) (by show O < O + 1; omega) (.slice (some ⟨g5, 0, none⟩) (rs.length + 1) c5)
             have hw7 : (w5.setCell ⟨O, 2, none⟩ (.slice (some ⟨g5, 0, none⟩) (rs.length + 1) c5)).ownsRow (O + 1) 81 3 (.slice (some ⟨g5, 0, none⟩) (rs.length + 1) c5) (rs ++ [(a0, a1, y2)]).length (rqV (rs ++ [(a0, a1, y2)])) := by rw [rqV_append, List.length_append]; exact hw6
             have HA6 := Lib.hid (HALL.out.snoc ha0 ha1 (show y2.size ≤ 1000 by omega))
             have H6 := Lib.hid (And.intro hO6 (And.intro hw7 hb6))
             clear hO6 hb6 hw6 hw7 hown5 hgrow hat hL5 o2 g2
             go_wp2_with fail
             go_roundw
             case rel => exact ⟨i + 3, _, _, _, rs ++ [(a0, a1, y2)], by go_num, by rw [List.length_append]; show _ = 1 + (rs.length + 1) * 3; have := HIR.out; omega, by omega, HA6.out, H6.out.1, H6.out.2.1, H6.out.2.2⟩
             case measure => simp [intOf]; omega
            exact AllReadyH.nil
           exact AllReadyH.nil
          exact AllReadyH.nil
         refine AllReadyH.cons rfl (fun K hK => ?_) ?_
         ·go_simp
          refine hK.out _ _ ?_ (fun hHeld => ?_)
          ·first | exact HSB.out _ HLS.out.bl | exact HSB.out _ (HLS.out.below (below_drew _)).bl | exact HSB.out _ HL3.out.bl | exact HSB.out _ HL4.out.bl | exact HSB.out _ (HL4.out.below ((Below.refl _ _).alloc (Nat.le_refl _) _)).bl | exact HSB.out _ hL5.2 | exact HSB.out _ (below_set hL5.2 (p := ⟨O, 2, none⟩) (Nat.le_refl _) _)
          clear hK K
          try simp only [Act.put, sA, sZ, sS]
          refine wpAnyH_ready (rs := [1]) (by kernel_rfl) (by simp) ?_
          refine AllReadyH.cons rfl (fun K hK => ?_) ?_
          ·go_simp
           refine hK.out _ _ ?_ (fun hHeld => ?_)
           ·first | exact HSB.out _ HLS.out.bl | exact HSB.out _ (HLS.out.below (below_drew _)).bl | exact HSB.out _ HL3.out.bl | exact HSB.out _ HL4.out.bl | exact HSB.out _ (HL4.out.below ((Below.refl _ _).alloc (Nat.le_refl _) _)).bl | exact HSB.out _ hL5.2 | exact HSB.out _ (below_set hL5.2 (p := ⟨O, 2, none⟩) (Nat.le_refl _) _)
           clear hK K
           try simp only [Act.put, sA, sZ, sS]
           refine wpAnyH_ready (rs := [20]) (by kernel_rfl) (by simp) ?_
           refine AllReadyH.cons rfl (fun K hK => ?_) ?_
           ·refine step_append_lies _ (by rfl) (.tmp 62) (.tmp 80) 59 (by rfl) (O + 1) 81 i1 (.agg #[.int .i64 0, .int .i64 0, .string ⟨#[]⟩]) 3 32 Tryz.underlying59 hi1 q0 q1 q2 rfl (by omega) (.slice pv kv cv) rs.length (rqV rs) (by rfl) (by exact HL4.out.own.alloc (.cells #[.int .i64 a0, .int .i64 a1, .string y2] 81)) ⟨w4.heap.size, 0, none⟩ 1 1 [.int .i64 a0, .int .i64 a1, .string y2] (by rfl) (by rfl) (by exact World.news_of_block (w := w4.alloc (.cells #[.int .i64 a0, .int .i64 a1, .string y2] 81)) (cs := #[.int .i64 a0, .int .i64 a1, .string y2]) (t := 81) (fr := (0, 0)) (heap_alloc_new w4 _)) (by simp [Value.oneCell']) (by omega) (by unfold maxLen; omega) (by omega) (by simp; omega) (w4.heap.size + 1) (by simp) ?_
            intro g5 c5 w5 hown5 hgrow hat hlt5
            have hL5 := HL4.out.grown2 hown5 hgrow
            have o2 := cellOf hL5.1 (j := 2) rfl
            have g2 := frozenOf hL5.1 (j := 2)
            refine hK.out _ _ ?_ (fun hHeld => ?_)
            ·first | exact HSB.out _ HLS.out.bl | exact HSB.out _ (HLS.out.below (below_drew _)).bl | exact HSB.out _ HL3.out.bl | exact HSB.out _ HL4.out.bl | exact HSB.out _ (HL4.out.below ((Below.refl _ _).alloc (Nat.le_refl _) _)).bl | exact HSB.out _ hL5.2 | exact HSB.out _ (below_set hL5.2 (p := ⟨O, 2, none⟩) (Nat.le_refl _) _)
            clear hK K
            try simp only [Act.put, sA, sZ, sS]
            refine wpAnyH_take (i := 21) (v := ?_) rfl (by kernel_rfl) (by kernel_rfl) (by kernel_rfl) (fun _ _ _ h => h) (Or.inl ⟨by rfl, ?_⟩) (by assumption) ?_
            rotate_left
            ·intro w hSw; (try dsimp only at hSw); go_simp; try with_reducible rfl
            try simp only [Act.put, sA, sZ, sS]
            refine wpAnyH_ready (rs := [22]) (by kernel_rfl) (by simp) ?_
            refine AllReadyH.cons rfl (fun K hK => ?_) ?_
            ·go_simp
             refine hK.out _ _ ?_ (fun hHeld => ?_)
             ·first | exact HSB.out _ HLS.out.bl | exact HSB.out _ (HLS.out.below (below_drew _)).bl | exact HSB.out _ HL3.out.bl | exact HSB.out _ HL4.out.bl | exact HSB.out _ (HL4.out.below ((Below.refl _ _).alloc (Nat.le_refl _) _)).bl | exact HSB.out _ hL5.2 | exact HSB.out _ (below_set hL5.2 (p := ⟨O, 2, none⟩) (Nat.le_refl _) _)
             clear hK K
             try simp only [Act.put, sA, sZ, sS]
             refine wpAnyH_done (by kernel_rfl) ?_ _
             refine NoPanic.normal ?_
             have hO6 := row3_2 hL5.1 (.slice (some ⟨g5, 0, none⟩) (rs.length + 1) c5)
             have hb6 := below_set hL5.2 (p := ⟨O, 2, none⟩) (Nat.le_refl _) (.slice (some ⟨g5, 0, none⟩) (rs.length + 1) c5)
             have hw6 := own_set hown5 (p := ⟨O, 2, none⟩) (by show O < O + 1; omega) (.slice (some ⟨g5, 0, none⟩) (rs.length + 1) c5)
             have hw7 : (w5.setCell ⟨O, 2, none⟩ (.slice (some ⟨g5, 0, none⟩) (rs.length + 1) c5)).ownsRow (O + 1) 81 3 (.slice (some ⟨g5, 0, none⟩) (rs.length + 1) c5) (rs ++ [(a0, a1, y2)]).length (rqV (rs ++ [(a0, a1, y2)])) := by rw [rqV_append, List.length_append]; exact hw6
             have HA6 := Lib.hid (HALL.out.snoc ha0 ha1 (show y2.size ≤ 1000 by omega))
             have H6 := Lib.hid (And.intro hO6 (And.intro hw7 hb6))
             clear hO6 hb6 hw6 hw7 hown5 hgrow hat hL5 o2 g2
             go_wp2_with fail
             go_roundw
             case rel => exact ⟨i + 3, _, _, _, rs ++ [(a0, a1, y2)], by go_num, by rw [List.length_append]; show _ = 1 + (rs.length + 1) * 3; have := HIR.out; omega, by omega, HA6.out, H6.out.1, H6.out.2.1, H6.out.2.2⟩
             case measure => simp [intOf]; omega
            exact AllReadyH.nil
           exact AllReadyH.nil
          exact AllReadyH.nil
         exact AllReadyH.nil
        exact AllReadyH.nil
       exact AllReadyH.nil
      ·go_wp2_with fail
       go_meet
       obtain ⟨kd, cf, p, k, cap, h1, h2⟩ := decL HD3.out HO.out HOW.out HALL.out HB.out (by omega) (by omega)
       exact ⟨kd, cf, p, k, cap, h1, .inr h2⟩
    ·go_wp2_with fail
     go_meet
     exact ⟨0, 0, none, 0, 0, HD.out, .inl ⟨rfl, rfl, rfl, rfl, rfl⟩⟩
   ·have d3 : ((ln : Int) % 3 == 1) = false := by simp; omega
    go_wp2_with fail
    all_goals
     go_meet
     exact ⟨0, 0, none, 0, 0, HD.out, .inl ⟨rfl, rfl, rfl, rfl, rfl⟩⟩
 case rest =>
  obtain ⟨kd, cf, p, k, cap, hD, hRd⟩ := hcut
  have HE := Lib.hid hD
  have o0 := cellOf hD.ob (j := 0) rfl
  have o1 := cellOf hD.ob (j := 1) rfl
  have o2 := cellOf hD.ob (j := 2) rfl
  clear hD
  rcases hRd with ⟨rfl, rfl, rfl, rfl, rfl⟩ | ⟨rfl, hcf, rfl, rfl, rfl⟩ | ⟨rfl, rfl, rfl, rfl, rfl⟩ | ⟨rfl, rfl, hrq, hk3, hkc⟩
  ·go_upto_if 91 with (go_at_call 49; refine (rvalid0 _).mono ?_; rintro e w3 ⟨rfl, hb3⟩; have HE3 := Lib.hid (HE.out.below hb3); clear hb3)
   have r0 := cellOf HE3.out.rb (j := 0) rfl
   have r1 := cellOf HE3.out.rb (j := 1) rfl
   have r2 := cellOf HE3.out.rb (j := 2) rfl
   have f0 := frozenOf HE3.out.rb (j := 0)
   have f1 := frozenOf HE3.out.rb (j := 1)
   have f2 := frozenOf HE3.out.rb (j := 2)
   go_wp2_with fail
   exact dec_end rfl HE3.out.rb HE3.out.bl (Nat.le_refl _) 0 0 none 0 0 2 (fun h => by omega) _ rfl rfl
  ·go_upto_if 91 with (first
    | (go_at_call 49; refine (rvalidJ_any cf _).mono ?_; rintro e w3 ⟨r, rfl, hr, hb3⟩; have HE3 := Lib.hid (HE.out.below hb3); have HV := Lib.hid hr; have o0 := cellOf HE3.out.ob (j := 0) rfl; have o1 := cellOf HE3.out.ob (j := 1) rfl; have o2 := cellOf HE3.out.ob (j := 2) rfl; clear hb3 hr)
    | (go_at_call 50; obtain ⟨hc0, hc1⟩ := HV.out (by assumption); obtain ⟨c, rfl⟩ := Int.eq_ofNat_of_zero_le hc0; refine (rval_join c (by omega) _).mono ?_; rintro e w4 ⟨rfl, hb4⟩; have HE4 := Lib.hid (HE3.out.below hb4); have o0 := cellOf HE4.out.ob (j := 0) rfl; have o1 := cellOf HE4.out.ob (j := 1) rfl; have o2 := cellOf HE4.out.ob (j := 2) rfl; clear hb4))
   ·have r0 := cellOf HE4.out.rb (j := 0) rfl
    have r1 := cellOf HE4.out.rb (j := 1) rfl
    have r2 := cellOf HE4.out.rb (j := 2) rfl
    have f0 := frozenOf HE4.out.rb (j := 0)
    have f1 := frozenOf HE4.out.rb (j := 1)
    have f2 := frozenOf HE4.out.rb (j := 2)
    go_wp2_with fail
    ·exact dec_end rfl HE4.out.rb HE4.out.bl (Nat.le_refl _) 0 0 none 0 0 2 (fun h => by omega) _ rfl rfl
    ·exact dec_end rfl HE4.out.rb HE4.out.bl (Nat.le_refl _) 2 c none 0 0 0 (fun _ => ⟨fun _ => ⟨c, by omega, ba_eq (by assumption)⟩, fun h => by omega⟩) _ rfl rfl
   ·have r0 := cellOf HE3.out.rb (j := 0) rfl
    have r1 := cellOf HE3.out.rb (j := 1) rfl
    have r2 := cellOf HE3.out.rb (j := 2) rfl
    have f0 := frozenOf HE3.out.rb (j := 0)
    have f1 := frozenOf HE3.out.rb (j := 1)
    have f2 := frozenOf HE3.out.rb (j := 2)
    go_wp2_with fail
    exact dec_end rfl HE3.out.rb HE3.out.bl (Nat.le_refl _) 0 0 none 0 0 2 (fun h => by omega) _ rfl rfl
  ·go_upto_if 91 with (first
    | (go_at_call 49; refine (rvalidF_any _).mono ?_; rintro e w3 ⟨r, rfl, hb3⟩; have HE3 := Lib.hid (HE.out.below hb3); have o0 := cellOf HE3.out.ob (j := 0) rfl; have o1 := cellOf HE3.out.ob (j := 1) rfl; have o2 := cellOf HE3.out.ob (j := 2) rfl; clear hb3)
    | (go_at_call 50; refine (rval_finish _).mono ?_; rintro e w4 ⟨rfl, hb4⟩; have HE4 := Lib.hid (HE3.out.below hb4); have o0 := cellOf HE4.out.ob (j := 0) rfl; have o1 := cellOf HE4.out.ob (j := 1) rfl; have o2 := cellOf HE4.out.ob (j := 2) rfl; clear hb4))
   ·have r0 := cellOf HE4.out.rb (j := 0) rfl
    have r1 := cellOf HE4.out.rb (j := 1) rfl
    have r2 := cellOf HE4.out.rb (j := 2) rfl
    have f0 := frozenOf HE4.out.rb (j := 0)
    have f1 := frozenOf HE4.out.rb (j := 1)
    have f2 := frozenOf HE4.out.rb (j := 2)
    go_wp2_with fail
    ·exact dec_end rfl HE4.out.rb HE4.out.bl (Nat.le_refl _) 0 0 none 0 0 2 (fun h => by omega) _ rfl rfl
    ·exact dec_end rfl HE4.out.rb HE4.out.bl (Nat.le_refl _) 3 0 none 0 0 0 (fun _ => ⟨fun h => by omega, fun _ => ba_eq (by assumption)⟩) _ rfl rfl
   ·have r0 := cellOf HE3.out.rb (j := 0) rfl
    have r1 := cellOf HE3.out.rb (j := 1) rfl
    have r2 := cellOf HE3.out.rb (j := 2) rfl
    have f0 := frozenOf HE3.out.rb (j := 0)
    have f1 := frozenOf HE3.out.rb (j := 1)
    have f2 := frozenOf HE3.out.rb (j := 2)
    go_wp2_with fail
    exact dec_end rfl HE3.out.rb HE3.out.bl (Nat.le_refl _) 0 0 none 0 0 2 (fun h => by omega) _ rfl rfl
  ·have HRq := Lib.hid hrq
   clear hrq
   go_upto_if 91 with (first
    | (go_at_call 49; refine (rvalidB_any p k cap _ hk3 hkc HRq.out).mono ?_; rintro e w3 ⟨r, rfl, hb3⟩; have HE3 := Lib.hid (HE.out.below hb3); have HR3 := Lib.hid (HRq.out.below hb3); have o0 := cellOf HE3.out.ob (j := 0) rfl; have o1 := cellOf HE3.out.ob (j := 1) rfl; have o2 := cellOf HE3.out.ob (j := 2) rfl; clear hb3)
    | (go_at_call 50; refine (rvalueB_any 0 p k cap _ hk3 HR3.out).mono ?_; rintro e w4 ⟨x, hx, rfl, hb4⟩; have HE4 := Lib.hid (HE3.out.below hb4); have o0 := cellOf HE4.out.ob (j := 0) rfl; have o1 := cellOf HE4.out.ob (j := 1) rfl; have o2 := cellOf HE4.out.ob (j := 2) rfl; clear hb4))
   ·have r0 := cellOf HE4.out.rb (j := 0) rfl
    have r1 := cellOf HE4.out.rb (j := 1) rfl
    have r2 := cellOf HE4.out.rb (j := 2) rfl
    have f0 := frozenOf HE4.out.rb (j := 0)
    have f1 := frozenOf HE4.out.rb (j := 1)
    have f2 := frozenOf HE4.out.rb (j := 2)
    go_wp2_with fail
    ·exact dec_end rfl HE4.out.rb HE4.out.bl (Nat.le_refl _) 0 0 none 0 0 2 (fun h => by omega) _ rfl rfl
    ·exact dec_end rfl HE4.out.rb HE4.out.bl (Nat.le_refl _) 1 0 p k cap 0 (fun _ => ⟨fun h => by omega, fun h => by omega⟩) _ rfl rfl
   ·have r0 := cellOf HE3.out.rb (j := 0) rfl
    have r1 := cellOf HE3.out.rb (j := 1) rfl
    have r2 := cellOf HE3.out.rb (j := 2) rfl
    have f0 := frozenOf HE3.out.rb (j := 0)
    have f1 := frozenOf HE3.out.rb (j := 1)
    have f2 := frozenOf HE3.out.rb (j := 2)
    go_wp2_with fail
    exact dec_end rfl HE3.out.rb HE3.out.bl (Nat.le_refl _) 0 0 none 0 0 2 (fun h => by omega) _ rfl rfl
end Go.Proofs.YtmcnpaehmnadeaaGreatDoor
