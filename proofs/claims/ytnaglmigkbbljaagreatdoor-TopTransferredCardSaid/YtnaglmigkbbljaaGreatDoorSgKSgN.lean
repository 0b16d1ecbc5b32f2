/-
  TopTransferred: session.Chunks, session.Root at a valid machine, exactly.
-/
import Derived.Test.YtnaglmigkbbljaaGreatDoorSgISfF
import Derived.Test.YtnaglmigkbbljaaGreatDoorSfG
import Derived.Laws.Bits64b
import Derived.Test.YtnaglmigkbbljaaGreatDoorDcDMaB
import Derived.StillTail
set_option maxHeartbeats 6400000
set_option maxRecDepth 1000000
set_option linter.unusedVariables false
set_option linter.unusedSimpArgs false
namespace Go.Proofs.YtnaglmigkbbljaaGreatDoor
open Go Go.RowKit
theorem Blk.row {W W' : World} {B : Nat} {t T : TypeId} {ys : List Value} {base sz n : Nat} {v : Value} {xs : List Value} (h : Blk W B t ys) (hte : t ≠ T) (ho : W.ownsRow base T sz v n xs) (hg : W.grownBy W' v.ownBlock) : Blk W' B t ys := by
 refine (hg.block B h.lt (fun e => ?_)).trans h
 rcases ho.2 with ⟨rfl, _⟩ | ⟨g, cap, cur, rfl, _, hgb, _⟩
 ·simp [Value.ownBlock] at e
 ·obtain rfl : B = g := by simpa [Value.ownBlock] using e
  have := (show W.heap[B]? = _ from h).symm.trans hgb
  simp at this
  exact hte this.2
theorem cl_news {W : World} {g o : Nat} {l : List ByteArray} (h : StrL W (some ⟨g, o, none⟩) l) : ∀ j u, (strV l)[j]? = some u → W.cell? ((⟨g, o, none⟩ : Addr).add j) = some u := fun j u hu => by
 obtain ⟨hj, rfl⟩ := List.getElem?_eq_some_iff.mp hu
 obtain ⟨b, off, e, _, hc⟩ := CL.at h hj
 injection e with e
 injection e with e1 e2
 subst e1; subst e2
 rw [Addr.add_lit]
 exact hc j hj
theorem ks {W : World} {b : Nat} {t : TypeId} {x y z : Value} (h : Blk W b t [x, y, z]) : W.cell? ⟨b, 0, none⟩ = some x ∧ W.cell? ⟨b, 1, none⟩ = some y ∧ W.cell? ⟨b, 2, none⟩ = some z := ⟨cellOf h rfl, cellOf h rfl, cellOf h rfl⟩
theorem chunks_ex (pv sv : Value) (L : List Par) (S : List Ses) (w : World) (hP : PrV w pv L) (hS : SeV w sv S) (hL : VP L) (hV : VS S) (hn : L.length ≤ 64) (hG : GL w) : Calls Tryz.prog 8 #[.agg #[pv, sv]] w (StrsRet (chunksL S L) w) := by
 obtain ⟨i9, hi9, hz0, hz1, hz2⟩ := info_parts Tryz.info9
 have hsl := ses_len hV
 obtain ⟨p, cp, rfl, hcp, hFL, hpp⟩ := hP
 obtain ⟨ps, cs, rfl, hcs, hFS, hps⟩ := hS
 obtain ⟨np, hN⟩ : ∃ n, n = L.length := ⟨_, rfl⟩
 obtain ⟨ns, hNS⟩ : ∃ n, n = S.length := ⟨_, rfl⟩
 have HST := Lib.hid (fun W (hb : Below w.heap.size w W) => storeChunks_ex p np cp L W hN (by omega) (by omega) hL (hFL.below hb) (hG.below hb))
 have HIT := Lib.hid (fun (m : Nat) (hm : m ≤ 1000000000000) W (hb : Below w.heap.size w W) => itoa_ex m W ⟨by omega, by omega⟩ (hG.below hb))
 have HFS := Lib.hid hFS
 have HV := Lib.hid hV
 have HSZ := Lib.hid (sesL_size hV.2)
 rw [← hN] at hcp ⊢
 rw [← hNS] at hcs hsl ⊢
 have HNS := Lib.hid hNS
 clear hFL hFS hL hV hG hpp hps hNS hN
 go_enter Tryz.func8, Tryz.ntmps8
 go_upto_region 2 with fail
 have HB0 := Lib.hid (heap_alloc_new w (.cells #[.slice p np cp, .slice ps ns cs] 29))
 have HW0 := Lib.hid ((Below.refl _ w).alloc (Nat.le_refl _) (.cells #[.slice p np cp, .slice ps ns cs] 29))
 generalize w.alloc (.cells #[.slice p np cp, .slice ps ns cs] 29) = W0 at HB0 HW0 ⊢
 have c1 := cellOf (v := .slice ps ns cs) HB0.out (j := 1) rfl
 go_wp2_with fail
 clear c1
 go_loopw [3, 11] (fun v i wr => ∃ k : Nat, k ≤ ns ∧ i = .int .i64 k ∧ wr.ownsRow W0.heap.size 9 1 v (k * 3) (strV (sesL (S.take k))) ∧ Below W0.heap.size W0 wr) (fun _ i _ => ns - (intOf i).toNat)
 case atStart => exact ⟨0, Nat.zero_le _, rfl, World.ownsRow_nil _ _ _ _, Below.refl _ _⟩
 case round =>
  obtain ⟨k, hk, rfl, ho, hb⟩ := hrel
  have HO := Lib.hid ho
  have HBW := Lib.hid hb
  have HB := Lib.hid (HW0.out.trans (hb.mono HW0.out.size))
  have hsz := HB.out.size
  have hw0 : w.heap.size + 1 ≤ wr.heap.size := Nat.le_trans (Array.getElem?_eq_some_iff.mp HB0.out).1 hb.size
  clear ho hb
  by_cases hkn : k < ns
  ·obtain ⟨x, hx⟩ : ∃ x, S[k]? = some x := ⟨_, List.getElem?_eq_getElem (by have := HNS.out; omega)⟩
   obtain ⟨bb, off, hpe, hbb, hcs3⟩ := HFS.out.at encS3 (by have := HNS.out; omega)
   subst hpe
   have d1 := (HB.out.cell (p := ⟨bb, off + (k * 3 + 0), none⟩) hbb).trans (hcs3 _ _ ((flat_get encS3 hx (j := 0) (by omega)).trans rfl))
   have d2 := (HB.out.cell (p := ⟨bb, off + (k * 3 + 1), none⟩) hbb).trans (hcs3 _ _ ((flat_get encS3 hx (j := 1) (by omega)).trans rfl))
   have d3 := (HB.out.cell (p := ⟨bb, off + (k * 3 + 2), none⟩) hbb).trans (hcs3 _ _ ((flat_get encS3 hx (j := 2) (by omega)).trans rfl))
   replace d1 : wr.cell? ⟨bb, off + k * 3, none⟩ = some (.int .i64 x.c) := d1
   replace d2 : wr.cell? ⟨bb, off + k * 3 + 1, none⟩ = some (.int .i64 x.n) := d2
   replace d3 : wr.cell? ⟨bb, off + k * 3 + 2, none⟩ = some (.string x.r) := d3
   have hxo := HV.out.2 x (List.mem_of_getElem? hx)
   have HI1 := Lib.hid (HIT.out x.c (by have := hxo.1; omega))
   have HI2 := Lib.hid (HIT.out x.n (by have := hxo.2.2.1; omega))
   have HNX := Lib.hid (show strV (sesL (S.take k)) ++ [.string (itoaB x.c), .string (itoaB x.n), .string x.r] = strV (sesL (S.take (k + 1))) by
    have e : S.take (k + 1) = S.take k ++ [x] := by rw [List.take_add_one, hx]; rfl
    rw [e, sesL_snoc]
    simp [strV])
   clear hx hcs3 hxo
   generalize strV (sesL (S.take k)) = xs at HO HNX
   generalize itoaB (x.c : Int) = sa at HI1 HNX
   generalize itoaB (x.n : Int) = sb at HI2 HNX
   have e0 : (0 : Int) ≤ (k : Int) := by omega
   have e1 : (k : Int) < (ns : Int) := by omega
   go_upto_region 5 with fail
   have HK0 := Lib.hid (show Blk (wr.alloc (.cells #[.int .i64 x.c, .int .i64 x.n, .string x.r] 87)) wr.heap.size 87 [.int .i64 x.c, .int .i64 x.n, .string x.r] from heap_alloc_new wr _)
   have HB1 := Lib.hid (HB.out.alloc hsz (.cells #[.int .i64 x.c, .int .i64 x.n, .string x.r] 87))
   have HBW1 := Lib.hid (HBW.out.alloc HBW.out.size (.cells #[.int .i64 x.c, .int .i64 x.n, .string x.r] 87))
   have HO1 := Lib.hid (HO.out.alloc (.cells #[.int .i64 x.c, .int .i64 x.n, .string x.r] 87))
   have hw1 : w.heap.size + 1 ≤ (wr.alloc (.cells #[.int .i64 x.c, .int .i64 x.n, .string x.r] 87)).heap.size := by simp; omega
   clear d1 d2 d3 HO HB HBW
   obtain ⟨bx, hbx⟩ : ∃ bx, bx = wr.heap.size := ⟨_, rfl⟩
   rw [← hbx] at HK0 ⊢
   clear hbx
   generalize wr.alloc (.cells #[.int .i64 x.c, .int .i64 x.n, .string x.r] 87) = W1 at HK0 HB1 HBW1 HO1 hw1 ⊢
   have HB1d := Lib.hid (show Below w.heap.size w W1.drew from below_drewN HB1.out 1)
   have HBW1d := Lib.hid (show Below W0.heap.size W0 W1.drew from below_drewN HBW1.out 1)
   have hSd : W1.drew.cell? ⟨bx, 0, none⟩ = some (.int .i64 x.c) ∧ W1.drew.cell? ⟨bx, 1, none⟩ = some (.int .i64 x.n) ∧ W1.drew.cell? ⟨bx, 2, none⟩ = some (.string x.r) := ks (show Blk W1.drew bx 87 [.int .i64 x.c, .int .i64 x.n, .string x.r] from HK0.out)
   refine wp_region_noPanic ?_
   refine wp_region_held_drew (S := fun W => W.cell? ⟨bx, 0, none⟩ = some (.int .i64 x.c) ∧ W.cell? ⟨bx, 1, none⟩ = some (.int .i64 x.n) ∧ W.cell? ⟨bx, 2, none⟩ = some (.string x.r)) (by kernel_rfl) ?_ (fun hHeld => ?_)
   ·exact hSd
   refine wpAnyH_take (i := 0) (oi := { dst := some 15, op := _, type := _, pos := _, after := _, guard := _ }) (v := ?_) rfl (by kernel_rfl) (by kernel_rfl) (by kernel_rfl) (fun _ _ _ h => h) (Or.inl ⟨by rfl, ?_⟩) (by assumption) ?_
   rotate_left
   ·intro w hSw
    try dsimp only at hSw
    go_simp
    try with_reducible rfl
   try simp only [Act.put, List.setIfInBounds_toArray, List.set_cons_zero, List.set_cons_succ]
   refine wpAnyH_take (i := 1) (oi := { dst := some 16, op := _, type := _, pos := _, after := _, guard := _ }) (v := ?_) rfl (by kernel_rfl) (by kernel_rfl) (by kernel_rfl) (fun _ _ _ h => h) (Or.inl ⟨by rfl, ?_⟩) (by assumption) ?_
   rotate_left
   ·intro w hSw
    try dsimp only at hSw
    go_simp
    try with_reducible rfl
   try simp only [Act.put, List.setIfInBounds_toArray, List.set_cons_zero, List.set_cons_succ]
   refine wpAnyH_take (i := 2) (oi := { dst := some 17, op := _, type := _, pos := _, after := _, guard := _ }) (v := ?_) rfl (by kernel_rfl) (by kernel_rfl) (by kernel_rfl) (fun _ _ _ h => h) (Or.inl ⟨by rfl, ?_⟩) (by assumption) ?_
   rotate_left
   ·intro w hSw
    try dsimp only at hSw
    go_simp
    try with_reducible rfl
   try simp only [Act.put, List.setIfInBounds_toArray, List.set_cons_zero, List.set_cons_succ]
   refine wpAnyH_take (i := 4) (oi := { dst := some 19, op := _, type := _, pos := _, after := _, guard := _ }) (v := ?_) rfl (by kernel_rfl) (by kernel_rfl) (by kernel_rfl) (fun _ _ _ h => h) (Or.inl ⟨by rfl, ?_⟩) (by assumption) ?_
   rotate_left
   ·intro w hSw
    try dsimp only at hSw
    go_simp
    try with_reducible rfl
   try simp only [Act.put, List.setIfInBounds_toArray, List.set_cons_zero, List.set_cons_succ]
   refine wpAnyH_take (i := 5) (oi := { dst := some 20, op := _, type := _, pos := _, after := _, guard := _ }) (v := ?_) rfl (by kernel_rfl) (by kernel_rfl) (by kernel_rfl) (fun _ _ _ h => h) (Or.inl ⟨by rfl, ?_⟩) (by assumption) ?_
   rotate_left
   ·intro w hSw
    try dsimp only at hSw
    go_simp
    try with_reducible rfl
   try simp only [Act.put, List.setIfInBounds_toArray, List.set_cons_zero, List.set_cons_succ]
   refine wpAnyH_take (i := 7) (oi := { dst := some 22, op := _, type := _, pos := _, after := _, guard := _ }) (v := ?_) rfl (by kernel_rfl) (by kernel_rfl) (by kernel_rfl) (fun _ _ _ h => h) (Or.inl ⟨by rfl, ?_⟩) (by assumption) ?_
   rotate_left
   ·intro w hSw
    try dsimp only at hSw
    go_simp
    try with_reducible rfl
   try simp only [Act.put, List.setIfInBounds_toArray, List.set_cons_zero, List.set_cons_succ]
   refine wpAnyH_take (i := 8) (oi := { dst := some 23, op := _, type := _, pos := _, after := _, guard := _ }) (v := ?_) rfl (by kernel_rfl) (by kernel_rfl) (by kernel_rfl) (fun _ _ _ h => h) (Or.inl ⟨by rfl, ?_⟩) (by assumption) ?_
   rotate_left
   ·intro w hSw
    try dsimp only at hSw
    go_simp
    try with_reducible rfl
   try simp only [Act.put, List.setIfInBounds_toArray, List.set_cons_zero, List.set_cons_succ]
   refine wpAnyH_ready (rs := [3]) (by kernel_rfl) (by simp) ?_
   refine AllReadyH.cons (o := { dst := some 18, op := _, type := _, pos := _, after := _, guard := _ }) rfl (fun K hK => ?_) ?_
   ·go_simp
    go_at_call 34
    (with_reducible refine (HI1.out _ HB1d.out).mono ?_)
    rintro e w2 ⟨rfl, hb2⟩
    have HK2 := Lib.hid (HK0.out.below (W := W1.drew) hb2)
    have HB2 := Lib.hid (HB1d.out.trans (hb2.mono HB1d.out.size))
    have HBW2 := Lib.hid (HBW1d.out.trans (hb2.mono HBW1d.out.size))
    have HO2 := Lib.hid (own_below (w := W1.drew) HO1.out hb2)
    clear hb2
    go_simp
    refine hK.out _ _ ?_ (fun hHeld => ?_)
    ·exact ks HK2.out
    clear hK K
    try simp only [Act.put, List.setIfInBounds_toArray, List.set_cons_zero, List.set_cons_succ]
    refine wpAnyH_ready (rs := [6]) (by kernel_rfl) (by simp) ?_
    refine AllReadyH.cons (o := { dst := some 21, op := _, type := _, pos := _, after := _, guard := _ }) rfl (fun K hK => ?_) ?_
    ·go_simp
     go_at_call 34
     (with_reducible refine (HI2.out _ HB2.out).mono ?_)
     rintro e w3 ⟨rfl, hb3⟩
     have HK3 := Lib.hid (HK2.out.below hb3)
     have HB3 := Lib.hid (HB2.out.trans (hb3.mono HB2.out.size))
     have HBW3 := Lib.hid (HBW2.out.trans (hb3.mono HBW2.out.size))
     have HO3 := Lib.hid (own_below HO2.out hb3)
     clear hb3
     go_simp
     refine hK.out _ _ ?_ (fun hHeld => ?_)
     ·exact ks HK3.out
     clear hK K
     try simp only [Act.put, List.setIfInBounds_toArray, List.set_cons_zero, List.set_cons_succ]
     refine wpAnyH_ready (rs := [9]) (by kernel_rfl) (by simp) ?_
     refine AllReadyH.cons (o := { dst := some 24, op := _, type := _, pos := _, after := _, guard := _ }) rfl (fun K hK => ?_) ?_
     ·go_simp
      refine hK.out _ _ ?_ (fun hHeld => ?_)
      ·exact ks (HK3.out.below ((Below.refl _ _).alloc (Nat.le_refl _) _))
      clear hK K
      try simp only [Act.put, List.setIfInBounds_toArray, List.set_cons_zero, List.set_cons_succ]
      refine wpAnyH_ready (rs := [10]) (by kernel_rfl) (by simp) ?_
      refine AllReadyH.cons (o := { dst := some 25, op := _, type := _, pos := _, after := _, guard := _ }) rfl (fun K hK => ?_) ?_
      ·refine step_append_lies _ (by rfl) _ _ _ (by rfl) W0.heap.size 9 i9 (.string ⟨#[]⟩) 1 16 Tryz.underlying35 hi9 hz0 hz1 hz2 rfl (by omega) u3 (k * 3) xs (by rfl) (HO3.out.alloc _) ⟨w3.heap.size, 0, none⟩ 3 3 [.string sa, .string sb, .string x.r] (by rfl) (by rfl) (World.news_of_block (cs := #[.string sa, .string sb, .string x.r]) (t := 9) (fr := (0, 0)) (heap_alloc_new _ _)) (by simp [Value.oneCell']) (by omega) (by unfold maxLen; omega) (by omega) (by have := HBW3.out.size; simp; omega) (w3.heap.size + 1) (by simp) ?_
       intro g5 c5 w5 hown5 hgrow hat hlt
       have HK5 := Lib.hid ((HK3.out.below ((Below.refl _ _).alloc (Nat.le_refl _) _)).row (by decide) (HO3.out.alloc _) hgrow)
       have HO5 := Lib.hid (show w5.ownsRow W0.heap.size 9 1 (.slice (some ⟨g5, 0, none⟩) (k * 3 + 3) c5) (k * 3 + 3) (strV (sesL (S.take (k + 1)))) by rw [← HNX.out]; exact hown5)
       have HB5 := Lib.hid (below_grown HB3.out HB3.out.size (own_mono HO3.out HW0.out.size) hgrow)
       have HBW5 := Lib.hid (below_grown HBW3.out HBW3.out.size HO3.out hgrow)
       clear hown5 hgrow hat hlt
       refine hK.out _ _ ?_ (fun hHeld => ?_)
       ·exact ks HK5.out
       clear hK K
       try simp only [Act.put, List.setIfInBounds_toArray, List.set_cons_zero, List.set_cons_succ]
       refine wpAnyH_take (i := 11) (oi := { dst := some 3, op := _, type := _, pos := _, after := _, guard := _ }) (v := ?_) rfl (by kernel_rfl) (by kernel_rfl) (by kernel_rfl) (fun _ _ _ h => h) (Or.inl ⟨by rfl, ?_⟩) (by assumption) ?_
       rotate_left
       ·intro w hSw
        try dsimp only at hSw
        go_simp
        try with_reducible rfl
       try simp only [Act.put, List.setIfInBounds_toArray, List.set_cons_zero, List.set_cons_succ]
       refine wpAnyH_done (by kernel_rfl) ?_ _
       refine NoPanic.normal ?_
       go_wp2_with fail
       go_roundw
       case rel => exact ⟨k + 1, by omega, by go_num, by have := HO5.out; rwa [show (k + 1) * 3 = k * 3 + 3 by omega], HBW5.out⟩
       case measure => simp [intOf]; omega
      exact AllReadyH.nil
     exact AllReadyH.nil
    exact AllReadyH.nil
   exact AllReadyH.nil
  ·have hke : k = ns := by omega
   subst hke
   have HO1 := Lib.hid (show wr.ownsRow W0.heap.size 9 1 u3 (k * 3) (strV (sesL S)) by
    have := HO.out
    rwa [List.take_of_length_le (by have := HNS.out; omega)] at this)
   obtain ⟨q, cq, rfl, hcq, hsq⟩ := strs_slice HO1.out
   have HSQ := Lib.hid hsq
   have HLQ := Lib.hid (show (sesL S).length = k * 3 by rw [sesL_len, ← HNS.out])
   have hB : Blk wr w.heap.size 29 [.slice p np cp, .slice ps k cs] := (HBW.out.block _ (Array.getElem?_eq_some_iff.mp HB0.out).1).trans HB0.out
   have c0 := cellOf (v := .slice p np cp) hB (j := 0) rfl
   have e1 : ¬ ((k : Int) < (k : Int)) := by omega
   clear hsq hB HO HO1
   go_upto_region 8 with (go_at_call 35; refine (HST.out _ HB.out).mono ?_; rintro e w2 ⟨v2, rfl, ho2, hb2⟩)
   have HB2 := Lib.hid (HB.out.trans (hb2.mono HB.out.size))
   have HSQ2 := Lib.hid (HSQ.out.below hb2)
   have HPL := Lib.hid (putList_ex q (k * 3) cq (sesL S) w2 HLQ.out (by omega) HSZ.out HSQ2.out)
   have HO2 := Lib.hid (own_mono ho2 HB.out.size)
   clear hb2 c0
   rcases ho2.2 with ⟨hv2, h0⟩ | ⟨g2, cap2, cur2, hv2, hg2, _⟩
   ·subst hv2
    have hnil : storeL L = [] := List.eq_nil_of_length_eq_zero h0
    have HCH := Lib.hid (show chunksL S L = [putB (sesL S)] by unfold chunksL headB; rw [hnil])
    clear ho2 HO2 h0 hnil
    generalize putB (sesL S) = hd at HPL HCH
    go_wp2_with (first
     | (go_at_call 36; refine HPL.out.mono ?_; rintro e w3 ⟨rfl, hb3⟩; have HB3 := Lib.hid (HB2.out.trans (hb3.mono HB2.out.size)); clear hb3)
     | (at_builtin; refine wpList_append_own_none rfl _ _ 35 rfl w.heap.size 9 i9 1 Tryz.underlying35 hi9 (.slice (some ⟨w3.heap.size, 0, none⟩) 1 1) 1 [.string hd] rfl (Blk.own (xs := [.string hd]) (heap_alloc_new w3 _) rfl (show 1 ≤ maxLen by unfold maxLen; decide) HB3.out.size) rfl ?_))
    go_ret
    refine ⟨_, rfl, ?_, HB3.out.alloc HB3.out.size _⟩
    rw [HCH.out]
    exact Blk.own (xs := [.string hd]) (heap_alloc_new w3 _) rfl (show 1 ≤ maxLen by unfold maxLen; decide) HB3.out.size
   ·subst hv2
    obtain ⟨p3, c3, he3, _, hs3⟩ := strs_slice ho2
    injection he3 with he3 _ _
    rw [← he3] at hs3
    have HS3 := Lib.hid hs3
    have HCH := Lib.hid (show [.string (putB (sesL S))] ++ strV (storeL L) = strV (chunksL S L) from rfl)
    have HCL := Lib.hid (show 1 + (storeL L).length = (chunksL S L).length by unfold chunksL; rw [List.length_cons]; omega)
    have hml : (storeL L).length ≤ 64 := by rw [storeL_len]; omega
    clear ho2 HO2 he3 hs3
    generalize storeL L = sl at HS3 hml HCH HCL ⊢
    obtain ⟨m, hm⟩ : ∃ m, m = sl.length := ⟨_, rfl⟩
    rw [← hm] at hml HCL ⊢
    have HM := Lib.hid hm
    clear hm
    generalize putB (sesL S) = hd at HPL HCH ⊢
    go_wp2_with (first
     | (go_at_call 36; refine HPL.out.mono ?_; rintro e w3 ⟨rfl, hb3⟩; have HB3 := Lib.hid (HB2.out.trans (hb3.mono HB2.out.size)); have HS4 := Lib.hid ((HS3.out.below hb3).below ((Below.refl _ w3).alloc (Nat.le_refl _) (.cells #[.string hd] 9))); clear hb3)
     | (at_builtin; go_loud (refine wpList_append_own _ rfl _ _ 35 rfl w.heap.size 9 i9 (.string ⟨#[]⟩) 1 16 Tryz.underlying35 hi9 hz0 hz1 hz2 rfl (by decide) (.slice (some ⟨w3.heap.size, 0, none⟩) 1 1) 1 [.string hd] rfl (Blk.own (xs := [.string hd]) (heap_alloc_new w3 _) rfl (show 1 ≤ maxLen by unfold maxLen; decide) HB3.out.size) ⟨g2, 0, none⟩ m _ (strV sl) rfl (by rw [strV_len]; have := HM.out; omega) (cl_news HS4.out) (by intro u hu; obtain ⟨z, _, rfl⟩ := List.mem_map.mp hu; rfl) (by unfold maxLen; omega) (by omega) (by have := HB3.out.size; simp; omega) ?_); intro v' w5 hown5 hgrow _))
    go_ret
    refine ⟨v', rfl, by rw [← HCL.out, ← HCH.out]; exact hown5, ?_⟩
    exact (HB3.out.alloc HB3.out.size _).grown hgrow (by have := HB3.out.size; simp; omega) (fun k hk => by simp [Value.ownBlock] at hk; have := HB3.out.size; omega)
end Go.Proofs.YtnaglmigkbbljaaGreatDoor
/-
  TopTransferred: session.Root; wire.Get at a number's code, exactly.
-/
namespace Go.Proofs.YtnaglmigkbbljaaGreatDoor
open Go Go.RowKit
theorem rootM_ex (pv sv : Value) (L : List Par) (S : List Ses) (w : World) (hP : PrV w pv L) (hS : SeV w sv S) (hL : VP L) (hV : VS S) (hn : L.length ≤ 64) (hG : GL w) : Calls Tryz.prog 10 #[.agg #[pv, sv]] w (IsS (rootH (chunksL S L)) w) := by
 have hsl := ses_len hV
 have HCH := Lib.hid (fun W (hb : Below w.heap.size w W) => chunks_ex pv sv L S W (hP.below hb) (hS.below hb) hL hV hn (hG.below hb))
 unfold StrsRet at HCH
 have hz : SzL 1000000 (chunksL S L) := fun s hs => Nat.le_trans (chunks_size hV hL (by omega) hn s hs) (by omega)
 have hlen : 1 ≤ (chunksL S L).length ∧ (chunksL S L).length ≤ 64 := by
  unfold chunksL
  rw [List.length_cons, storeL_len]
  omega
 have HRT := Lib.hid (fun q c W (hb : Below w.heap.size w W) (hs : StrL W q (chunksL S L)) => root_ex q (chunksL S L).length c (chunksL S L) W rfl (by omega) hlen.1 hz hs (hG.below hb))
 obtain ⟨p, cp, rfl, hcp, hFL, hpp⟩ := hP
 obtain ⟨ps, cs, rfl, hcs, hFS, hps⟩ := hS
 clear hFL hFS hL hV hG hpp hps hz hlen
 generalize chunksL S L = l at HCH HRT ⊢
 go_enter Tryz.func10, Tryz.ntmps10
 go_upto_region 1 with fail
 have HB0 := Lib.hid (heap_alloc_new w (.cells #[.slice p L.length cp, .slice ps S.length cs] 29))
 have HW0 := Lib.hid ((Below.refl _ w).alloc (Nat.le_refl _) (.cells #[.slice p L.length cp, .slice ps S.length cs] 29))
 generalize w.alloc (.cells #[.slice p L.length cp, .slice ps S.length cs] 29) = W0 at HB0 HW0 ⊢
 have c0 := cellOf (v := .slice p L.length cp) HB0.out (j := 0) rfl
 have c1 := cellOf (v := .slice ps S.length cs) HB0.out (j := 1) rfl
 go_wp2_with (first
  | (go_at_call 8; refine (HCH.out _ HW0.out).mono ?_; rintro e w1 ⟨v1, rfl, ho1, hb1⟩; obtain ⟨q1, c1', rfl, _, hs1⟩ := strs_slice ho1; have HW1 := Lib.hid (HW0.out.trans (hb1.mono HW0.out.size)); have HS1 := Lib.hid hs1; clear ho1 hb1 hs1)
  | (go_at_call 27; refine (HRT.out _ _ _ HW1.out HS1.out).mono ?_; rintro e w2 ⟨rfl, hb2⟩))
 go_ret
 exact ⟨rfl, HW1.out.trans (hb2.mono HW1.out.size)⟩
theorem get_append_left {a r : ByteArray} {i : Nat} (h : i < (a ++ r).size) (h2 : i < a.size) : (a ++ r)[i] = a[i] := by
 show (a ++ r).data[i]'_ = a.data[i]'h2
 simp only [ByteArray.data_append]
 exact Array.getElem_append_left h2
theorem varB_get0 (n : Nat) (r : ByteArray) (hn : n < 16384) (h : 0 < (varB n ++ r).size) : ((varB n ++ r)[0]'h).toNat = if n < 128 then n else n % 128 + 128 := by
 rw [get_append_left h (by have := varB_size2 n; omega)]
 by_cases h1 : n < 128
 ·have e : (varB n) = ⟨#[UInt8.ofNat n]⟩ := by unfold varB; rw [varL_small h1]
  simp only [e, if_pos h1]
  show (UInt8.ofNat n).toNat = n
  rw [UInt8.toNat_ofNat']
  omega
 ·have e : (varB n) = ⟨#[UInt8.ofNat (n % 128 + 128), UInt8.ofNat (n / 128)]⟩ := by unfold varB varL; rw [if_neg h1]
  simp only [e, if_neg h1]
  show (UInt8.ofNat (n % 128 + 128)).toNat = _
  rw [UInt8.toNat_ofNat']
  omega
theorem varB_get1 (n : Nat) (r : ByteArray) (hn : n < 16384) (h1 : ¬ n < 128) (h : 1 < (varB n ++ r).size) : ((varB n ++ r)[1]'h).toNat = n / 128 := by
 rw [get_append_left h (by rw [varB_size, if_neg h1]; omega)]
 have e : (varB n) = ⟨#[UInt8.ofNat (n % 128 + 128), UInt8.ofNat (n / 128)]⟩ := by unfold varB varL; rw [if_neg h1]
 simp only [e]
 show (UInt8.ofNat (n / 128)).toNat = _
 rw [UInt8.toNat_ofNat']
 omega
def andOk127 : Bool := (List.range 128).all fun x => decide (bits BinOp.and IntKind.u8 ((x + 128 : Nat) : Int) 127 = ((x : Nat) : Int))
theorem andOk127_yes : andOk127 = true := by kernel_rfl
theorem and_127 (m : Nat) : bits BinOp.and IntKind.u8 ((m % 128 + 128 : Nat) : Int) 127 = ((m % 128 : Nat) : Int) :=
 of_decide_eq_true (List.all_eq_true.mp andOk127_yes (m % 128) (List.mem_range.mpr (Nat.mod_lt _ (by decide))))
theorem or_hi (n : Nat) (hn : n < 16384) : bits BinOp.or IntKind.u64 ((n % 128 : Nat) : Int) ((n / 128 * 128 : Nat) : Int) = (n : Int) := by
 rw [bits_or_u64_nat _ _ (by omega) (by omega)]
 have h : n / 128 * 128 + n % 128 = n / 128 * 128 ||| n % 128 := by
  have := Nat.shiftLeft_add_eq_or_of_lt (b := n % 128) (i := 7) (Nat.mod_lt _ (by decide)) (n / 128)
  rw [Nat.shiftLeft_eq] at this
  exact this
 rw [Nat.or_comm, ← h]
 omega
theorem or_zero (n : Nat) (hn : n < 16384) : bits BinOp.or IntKind.u64 0 (n : Int) = (n : Int) := by
 have := bits_or_u64_nat 0 n (by omega) (by omega)
 rw [Nat.zero_or] at this
 exact this
def GetE (n : Nat) (w : World) (e : Ending) (w' : World) : Prop := e = .returned (.tuple #[.int .u64 n, .int .i64 (varB n).size, .int .i64 0]) ∧ w' = w
theorem get_ex (n : Nat) (r : ByteArray) (w : World) (hn : n < 16384) (hr : r.size ≤ 1000000) : Calls Tryz.prog 163 #[.string (varB n ++ r)] w (GetE n w) := by
 have hv := varB_size n
 have hsz : (varB n ++ r).size = (varB n).size + r.size := ByteArray.size_append
 have HG0 := Lib.hid (varB_get0 n r hn)
 have HG1 := Lib.hid (fun h1 => varB_get1 n r hn h1)
 unfold GetE
 obtain ⟨k0, hk0⟩ : ∃ k0, k0 = (varB n).size := ⟨_, rfl⟩
 rw [← hk0] at hsz hv ⊢
 have HV := Lib.hid hv
 clear hk0 hv
 generalize varB n ++ r = s at hsz HG0 HG1 ⊢
 have hk12 : k0 = 1 ∧ n < 128 ∨ k0 = 2 ∧ 128 ≤ n := by have := HV.out; split at this <;> omega
 have hs1 : 1 ≤ s.size ∧ (128 ≤ n → 2 ≤ s.size) := by omega
 have hs2 : s.size ≤ 1048576 := by omega
 obtain ⟨M, hM⟩ : ∃ M : Nat, M = min s.size 10 := ⟨_, rfl⟩
 have hM1 : M ≤ s.size := by omega
 have hM4 : 1 ≤ M ∧ (128 ≤ n → 2 ≤ M) := by omega
 have hM3 : min (s.size : Int) 10 = (M : Int) := by omega
 clear hM hsz
 go_enter Tryz.func163, Tryz.ntmps163
 go_wp2
 go_loopw [5, 11] (fun x i wr => ∃ (m k : Nat), (k = 0 ∧ m = 0 ∨ k = 1 ∧ m = n % 128 ∧ 128 ≤ n) ∧ x = .int .u64 m ∧ i = .int .i64 k ∧ wr = w) (fun _ i _ => M - (intOf i).toNat)
 case atStart => exact ⟨0, 0, .inl ⟨rfl, rfl⟩, rfl, rfl, rfl⟩
 case round =>
  obtain ⟨m, k, hmk, rfl, rfl, rfl⟩ := hrel
  have hkn : k < M := by omega
  have e0 : (0 : Int) ≤ (k : Int) := by omega
  have e1 : (k : Int) < (s.size : Int) := by omega
  go_upto_region 6 with fail
  obtain ⟨c, hc⟩ : ∃ c : Nat, c = s[k].toNat := ⟨_, rfl⟩
  have hc1 : c < 256 := by rw [hc]; exact s[k].toNat_lt
  rw [← hc]
  rcases hmk with ⟨rfl, rfl⟩ | ⟨rfl, rfl, hn128⟩
  ·have hcv := HG0.out (by omega)
   rw [← hc] at hcv
   clear hc
   by_cases hlt : n < 128
   ·rw [if_pos hlt] at hcv
    subst hcv
    have hbl : (Lib.bitLen c : Int) ≤ 8 := by have := Lib.bitLen_le8 ⟨c, by omega⟩; exact Int.ofNat_le.mpr this
    have hbl0 : (0 : Int) ≤ (Lib.bitLen c : Int) := by omega
    have hk1 : k0 = 1 := by omega
    subst hk1
    have hor := or_zero c (by omega)
    have hor0 := or_zero 0 (by omega)
    by_cases hcz : c = 0
    ·subst hcz
     go_wp2_with (go_at_call 217; refine (Tryz.bits_Len8 _ _ (by omega) (by omega)).mono ?_; rintro e w1 ⟨rfl, rfl⟩)
     all_goals
      go_ret3
      exact ⟨by first | rfl | (rw [show bits BinOp.or IntKind.u64 0 0 = 0 from hor0]; rfl), rfl⟩
    ·have hcz2 : ¬ ((c : Int) = 0) := by omega
     go_wp2_with (go_at_call 217; refine (Tryz.bits_Len8 _ _ (by omega) (by omega)).mono ?_; rintro e w1 ⟨rfl, rfl⟩)
     all_goals
      go_ret3
      exact ⟨rfl, rfl⟩
   ·rw [if_neg hlt] at hcv
    subst hcv
    have hand : bits BinOp.and IntKind.u8 ((n : Int) % 128 + 128) 127 = (n : Int) % 128 := by
     have := and_127 n
     rw [show ((n % 128 + 128 : Nat) : Int) = (n : Int) % 128 + 128 by omega] at this
     rw [this]; omega
    have hwu : IntKind.u64.wrap ((n : Int) % 128) = (n : Int) % 128 := by rw [IntKind.wrap_u64]; omega
    have hor : bits BinOp.or IntKind.u64 0 ((n : Int) % 128) = (n : Int) % 128 := by
     have := or_zero (n % 128) (by omega)
     rwa [show ((n % 128 : Nat) : Int) = (n : Int) % 128 by omega] at this
    go_wp2_with fail
    go_roundw
    case rel => exact ⟨n % 128, 1, .inr ⟨rfl, rfl, by omega⟩, by go_num, by go_num, by first | rfl | trivial⟩
    case measure => simp [intOf]; omega
  ·have hcv := HG1.out (by omega) (by omega)
   rw [← hc] at hcv
   clear hc
   have hk1 : k0 = 2 := by omega
   subst hk1
   subst hcv
   have hc0 : ¬ ((n : Int) / 128 = 0) := by omega
   have hbl : (Lib.bitLen (n / 128) : Int) ≤ 8 := by have := Lib.bitLen_le8 ⟨n / 128, by omega⟩; exact Int.ofNat_le.mpr this
   have hbl0 : (0 : Int) ≤ (Lib.bitLen (n / 128) : Int) := by omega
   have hw64 : wrap64 ((Lib.bitLen (n / 128) : Int) + 7) = (Lib.bitLen (n / 128) : Int) + 7 := by unfold wrap64; omega
   have h64 : ¬ ((64 : Int) < (Lib.bitLen (n / 128) : Int) + 7) := by omega
   have hor : bits BinOp.or IntKind.u64 ((n : Int) % 128) ((n : Int) / 128 * 128) = (n : Int) := by
    have := or_hi n hn
    rwa [show ((n % 128 : Nat) : Int) = (n : Int) % 128 by omega, show ((n / 128 * 128 : Nat) : Int) = (n : Int) / 128 * 128 by omega] at this
   go_wp2_with (go_at_call 217; refine (Tryz.bits_Len8 _ _ (by omega) (by omega)).mono ?_; rintro e w1 ⟨rfl, rfl⟩)
   all_goals
    go_ret3
    exact ⟨rfl, rfl⟩
end Go.Proofs.YtnaglmigkbbljaaGreatDoor
/-
  TopTransferred: wire.GetString, wire.GetList at a list's code, exactly.
-/
namespace Go.Proofs.YtnaglmigkbbljaaGreatDoor
open Go Go.RowKit
theorem strB_size (x : ByteArray) : (strB x).size = (varB x.size).size + x.size := by unfold strB; rw [ByteArray.size_append]
def GetSE (x : ByteArray) (k : Nat) (w : World) (e : Ending) (w' : World) : Prop := e = .returned (.tuple #[.string x, .int .i64 k, .int .i64 0]) ∧ w' = w
theorem getString_ex (x r : ByteArray) (w : World) (hx : x.size < 16384) (hr : r.size ≤ 900000) : Calls Tryz.prog 117 #[.string (strB x ++ r)] w (GetSE x (strB x).size w) := by
 have e1 : strB x ++ r = varB x.size ++ (x ++ r) := by unfold strB; rw [ByteArray.append_assoc]
 have HG := Lib.hid (fun W => get_ex x.size (x ++ r) W hx (by rw [ByteArray.size_append]; omega))
 have hsz : (varB x.size ++ (x ++ r)).size = (varB x.size).size + (x.size + r.size) := by rw [ByteArray.size_append, ByteArray.size_append]
 have hv := varB_size2 x.size
 have hxt : (varB x.size ++ (x ++ r)).extract (varB x.size).size ((varB x.size).size + x.size) = x := by
  apply bytes_ext
  rw [bl_ext, bl_app, bl_app, ← bl_len (varB x.size), List.drop_left, Nat.add_sub_cancel_left, ← bl_len x, List.take_left]
 unfold GetSE
 rw [strB_size, e1]
 unfold GetE at HG
 obtain ⟨k0, hk0⟩ : ∃ k0, k0 = (varB x.size).size := ⟨_, rfl⟩
 rw [← hk0] at HG hsz hv hxt ⊢
 clear hk0 e1
 generalize varB x.size ++ (x ++ r) = s at HG hsz hxt ⊢
 have hs2 : s.size ≤ 1048576 := by omega
 obtain ⟨nx, hnx⟩ : ∃ nx, nx = x.size := ⟨_, rfl⟩
 rw [← hnx] at HG hsz hxt hx ⊢
 have b1 : (0 : Int) ≤ (k0 : Int) := by omega
 have b2 : (k0 : Int) ≤ (k0 : Int) + (nx : Int) := by omega
 have b3 : (k0 : Int) + (nx : Int) ≤ (s.size : Int) := by omega
 have w1 : IntKind.i64.wrap ((s.size : Int) - (k0 : Int)) = (s.size : Int) - (k0 : Int) := by rw [IntKind.wrap_i64]; omega
 have w2 : IntKind.u64.wrap ((s.size : Int) - (k0 : Int)) = (s.size : Int) - (k0 : Int) := by rw [IntKind.wrap_u64]; omega
 have w3 : IntKind.i64.wrap (nx : Int) = (nx : Int) := by rw [IntKind.wrap_i64]; omega
 have w4 : IntKind.i64.wrap ((k0 : Int) + (nx : Int)) = (k0 : Int) + (nx : Int) := by rw [IntKind.wrap_i64]; omega
 have b4 : ¬ ((s.size : Int) - (k0 : Int) < (nx : Int)) := by omega
 have b5 : ((k0 : Int) + (nx : Int)).toNat = k0 + nx := by omega
 have HSZ := Lib.hid hsz
 clear hsz hnx
 go_enter Tryz.func117, Tryz.ntmps117
 go_wp2_with (go_at_call 163; refine (HG.out _).mono ?_; rintro e w5 ⟨rfl, hw⟩; obtain rfl := hw.symm)
 go_ret3
 exact ⟨rfl, rfl⟩
theorem put_cut (l : List ByteArray) (k : Nat) (x : ByteArray) (hx : l[k]? = some x) :
  ∃ r, putB l = (varB l.length ++ catB ((l.take k).map strB)) ++ (strB x ++ r) ∧ (varB l.length ++ catB ((l.take (k + 1)).map strB)).size = (varB l.length ++ catB ((l.take k).map strB)).size + (strB x).size := by
 have e : l.take (k + 1) = l.take k ++ [x] := by rw [List.take_add_one, hx]; rfl
 have hk := (List.getElem?_eq_some_iff.mp hx).1
 have e2 : l = l.take k ++ x :: l.drop (k + 1) := by
  have h1 : l.drop k = l[k] :: l.drop (k + 1) := List.drop_eq_getElem_cons hk
  have h2 := (List.getElem?_eq_some_iff.mp hx).2
  rw [h2] at h1
  rw [← h1, List.take_append_drop]
 have cat_app : ∀ A B : List ByteArray, catB (A ++ B) = catB A ++ catB B := fun A B => by
  unfold catB
  rw [List.foldl_append, catB_from]
  rfl
 refine ⟨catB ((l.drop (k + 1)).map strB), ?_, ?_⟩
 ·unfold putB
  conv => lhs; rw [e2]
  rw [List.map_append, List.map_cons, cat_app, catB_cons, ← e2]
  simp only [ByteArray.append_assoc]
 ·rw [e, List.map_append, show ([x].map strB) = [strB x] from rfl, catB_snoc, ← ByteArray.append_assoc, ByteArray.size_append]
def ListRet (l : List ByteArray) (k : Nat) (w : World) (e : Ending) (w' : World) : Prop := ∃ v, e = .returned (.tuple #[v, .int .i64 k, .int .i64 0]) ∧ w'.ownsRow w.heap.size 9 1 v l.length (strV l) ∧ Below w.heap.size w w'
theorem list_ex (l : List ByteArray) (w : World) (hn : l.length ≤ 100) (hz : SzL 400 l) : Calls Tryz.prog 149 #[.string (putB l), .func (.func 117) #[] #[]] w (ListRet l (putB l).size w) := by
 obtain ⟨i9, hi9, hz0, hz1, hz2⟩ := info_parts Tryz.info9
 have hps : (putB l).size ≤ 100000 := by
  have h1 := putB_len l hz l.length l.length (by omega)
  have h2 := catB_size 402 (l.map strB) (fun y hy => by
   obtain ⟨x, hx, rfl⟩ := List.mem_map.mp hy
   have := hz x hx
   have := varB_size2 x.size
   rw [strB_size]
   omega)
  have h3 := varB_size2 l.length
  rw [List.length_map] at h2
  unfold putB
  rw [ByteArray.size_append]
  have := Nat.mul_le_mul_right 402 hn
  omega
 have HG := Lib.hid (fun W => get_ex l.length (catB (l.map strB)) W (by omega) (by unfold putB at hps; rw [ByteArray.size_append] at hps; omega))
 have HCUT := Lib.hid (put_cut l)
 have HZ := Lib.hid hz
 have hv := varB_size2 l.length
 have HEND := Lib.hid (show (varB l.length ++ catB ((l.take l.length).map strB)) = putB l by rw [List.take_length]; rfl)
 have H0 := Lib.hid (show (varB l.length ++ catB ((l.take 0).map strB)).size = (varB l.length).size by rw [ByteArray.size_append]; rfl)
 rw [show varB l.length ++ catB (l.map strB) = putB l from rfl] at HG
 unfold GetE at HG
 obtain ⟨n, hN⟩ : ∃ n, n = l.length := ⟨_, rfl⟩
 rw [← hN] at HG HCUT hv hn HEND H0
 have HN := Lib.hid hN
 obtain ⟨at', hat⟩ : ∃ at' : Nat → Nat, at' = fun k => (varB n ++ catB ((l.take k).map strB)).size := ⟨_, rfl⟩
 have HAT := Lib.hid hat
 have HE := Lib.hid (show at' n = (putB l).size by rw [hat, ← HEND.out])
 have HA0 := Lib.hid (show (varB n).size = at' 0 by rw [hat]; exact H0.out.symm)
 rw [HA0.out] at HG
 clear hN hat hz HEND H0
 have HSS := Lib.hid (show ∀ k x, l[k]? = some x → ∃ r, (putB l).extract (at' k) (putB l).size = strB x ++ r ∧ at' (k + 1) = at' k + (strB x).size ∧ at' k ≤ (putB l).size ∧ r.size ≤ (putB l).size from fun k x hx => by
  obtain ⟨r, h1, h2⟩ := HCUT.out k x hx
  refine ⟨r, ?_, ?_, ?_, ?_⟩
  ·rw [HAT.out]
   conv => lhs; rw [h1]
   exact ext_post _ _ rfl rfl
  ·rw [HAT.out]; exact h2
  ·have e := congrFun HAT.out k
   rw [e, h1]; simp only [ByteArray.size_append]; omega
  ·rw [h1]; simp only [ByteArray.size_append]; omega)
 unfold ListRet
 rw [← HE.out, ← HN.out]
 generalize putB l = s at HG HE HSS hps ⊢
 have hs2 : s.size ≤ 1048576 := by omega
 clear HCUT
 go_enter Tryz.func149, Tryz.ntmps149
 go_wp2_with (go_at_call 163; refine (HG.out _).mono ?_; rintro e w5 ⟨rfl, hw⟩; obtain rfl := hw.symm)
 go_loopw [10, 8, 24] (fun v a i wr => ∃ k : Nat, k ≤ n ∧ i = .int .u64 k ∧ a = .int .i64 (at' k) ∧ wr.ownsRow w.heap.size 9 1 v k (strV (l.take k)) ∧ Below w.heap.size w wr) (fun _ _ i _ => n - (intOf i).toNat)
 case atStart => exact ⟨0, Nat.zero_le _, rfl, rfl, World.ownsRow_nil _ _ _ _, Below.refl _ _⟩
 case round =>
  obtain ⟨k, hk, rfl, rfl, ho, hb⟩ := hrel
  have HO := Lib.hid ho
  have HB := Lib.hid hb
  have hsz := hb.size
  clear ho hb
  by_cases hkn : k < n
  ·obtain ⟨x, hx⟩ : ∃ x, l[k]? = some x := ⟨_, List.getElem?_eq_getElem (by have := HN.out; omega)⟩
   obtain ⟨r, h1, h2, h3, h4⟩ := HSS.out k x hx
   have hxz := HZ.out x (List.mem_of_getElem? hx)
   have HGS := Lib.hid (fun W => getString_ex x r W (by omega) (by omega))
   unfold GetSE at HGS
   have HNX := Lib.hid (show strV (l.take k) ++ [.string x] = strV (l.take (k + 1)) by
    rw [List.take_add_one, hx]
    simp [strV])
   rw [← h1] at HGS
   have HX := Lib.hid h1
   have HAK := Lib.hid h2
   have hb1 : (strB x).size ≤ 402 := by rw [strB_size]; have := varB_size2 x.size; omega
   clear hx h1 h2
   generalize (strB x).size = kx at HGS HAK hb1
   generalize strV (l.take k) = xs at HO HNX
   have HAK2 := HAK.out
   obtain ⟨ak, hak⟩ : ∃ ak, ak = at' k := ⟨_, rfl⟩
   rw [← hak] at HAK HGS h3 ⊢
   clear hak HAK2
   have e0 : (0 : Int) ≤ (ak : Int) := by omega
   have e1 : (ak : Int) ≤ (s.size : Int) := by omega
   have e2 : (k : Int) < (n : Int) := by omega
   have w1 : IntKind.i64.wrap ((ak : Int) + (kx : Int)) = (ak : Int) + (kx : Int) := by rw [IntKind.wrap_i64]; omega
   have w2 : IntKind.u64.wrap ((k : Int) + 1) = (k : Int) + 1 := by rw [IntKind.wrap_u64]; omega
   go_wp2_with (first
    | (go_at_call 117; refine (HGS.out _).mono ?_; rintro e w6 ⟨rfl, hw⟩; obtain rfl := hw.symm)
    | (at_builtin; refine wpList_append_own _ rfl _ _ 35 rfl w.heap.size 9 i9 (.string ⟨#[]⟩) 1 16 Tryz.underlying35 hi9 hz0 hz1 hz2 rfl (by decide) _ _ _ rfl (HO.out.alloc _) ⟨_, 0, none⟩ 1 1 [.string x] rfl rfl (one_new _ _ _) (by intro u hu; simp at hu; subst hu; rfl) (by unfold maxLen; omega) (by omega) (by simp; omega) ?_; intro v' w7 hown7 hgrow _))
   have hb7 := below_grown HB.out HB.out.size HO.out hgrow
   have HO7 := Lib.hid (show w7.ownsRow w.heap.size 9 1 v' (k + 1) (strV (l.take (k + 1))) by rw [← HNX.out]; exact hown7)
   go_roundw
   case rel => exact ⟨k + 1, by omega, by go_num, by rw [HAK.out]; go_num, HO7.out, hb7⟩
   case measure => simp [intOf]; omega
  ·have hke : k = n := by omega
   subst hke
   have e2 : ¬ ((k : Int) < (k : Int)) := by omega
   go_wp2_with fail
   go_ret3
   refine ⟨_, rfl, ?_, HB.out⟩
   have := HO.out
   rwa [List.take_of_length_le (by have := HN.out; omega)] at this
end Go.Proofs.YtnaglmigkbbljaaGreatDoor
/-
  TopTransferred: a region whose last operations wait for all others: what is known of the world need not hold behind them.
-/
namespace Go.Proofs.YtnaglmigkbbljaaGreatDoor
open Go Go.RowKit
section
variable {P : Program} {ops : Array Oper} {Q : Exit → Act → World → Prop} {md : Region.Mode} {S : World → Prop} {L : Nat}
def wpAnyY (P : Program) (md : Region.Mode) (ops : Array Oper) (Q : Exit → Act → World → Prop) (S : World → Prop) (L : Nat) : Nat → Array Bool → Act → World → Prop
 | 0, l, a, w => Region.ready md ops l = [] ∧ Q .normal a w
 | f + 1, l, a, w => (Region.ready md ops l = [] → Q .normal a w) ∧
   ∀ i ∈ Region.ready md ops l, wpOp P ops Q i (fun a' w' => (L ≤ i ∨ S w') ∧ wpAnyY P md ops Q S L f (l.setIfInBounds i true) a' w') a w
theorem wpAny_of_y : ∀ (f : Nat) (l : Array Bool) (a : Act) (w : World), wpAnyY P md ops Q S L f l a w → wpAny P md ops Q f l a w
 | 0, _, _, _, h => h
 | f + 1, _, _, _, h => ⟨h.1, fun i hi => wpOp_mono (fun a' w' h' => wpAny_of_y f _ a' w' h'.2) (h.2 i hi)⟩
theorem wpAnyY_take {i : Nat} {oi : Oper} {v : Value} {f : Nat} {l : Array Bool} {a : Act} {w : World} (hi : ops[i]? = some oi)
  (hs : Region.noSelect ops = true) (hL : ((List.range ops.size).all fun j => decide (j < L) || Region.waitsFor md ops j i) = true) (hf : Region.free md ops l i = true) (hr : (Region.ready md ops l).contains i = true)
  (hQ : ∀ c a w, Q (.panic c) (a.put oi.dst v) w → Q (.panic c) a w) (hy : YieldsIf P ops S oi v a) (hS : S w)
  (h : wpAnyY P md ops Q S L f (l.setIfInBounds i true) (a.put oi.dst v) w) : wpAnyY P md ops Q S L (f + 1) l a w := by
 have hsel := Region.noSelect_spec hs
 replace hf := Region.free_spec hi hf
 replace hr : i ∈ Region.ready md ops l := by simpa using hr
 -- an operation that is there, and has come up, is not awaited
 have keyL : ∀ {l : Array Bool} {j : Nat}, j ∈ Region.ready md ops l → l.getD i true = false → ¬ L ≤ j := by
  intro l j hj hun hjL
  obtain ⟨_, oj, hoj, hall⟩ := mem_ready.1 hj
  have hjs : j < ops.size := (Array.getElem?_eq_some_iff.mp hoj).1
  have hw := List.all_eq_true.mp hL j (by simpa using hjs)
  rw [decide_eq_false (by omega), Bool.false_or] at hw
  obtain ⟨oL, hoL, e0, he0, hb0, hon⟩ := Region.waitsFor_spec hw
  obtain rfl : oj = oL := Option.some.inj (hoj.symm.trans hoL)
  have h1 := hall e0 he0 hb0
  rw [hon, getD_both hun] at h1
  cases h1
 induction f generalizing l a w with
 | zero =>
  refine ⟨fun h0 => (by rw [h0] at hr; cases hr), fun j hj => ?_⟩
  by_cases hji : j = i
  ·subst hji
   exact hy.wpOp hi hS ⟨.inr hS, h⟩
  ·have h1 := ready_mono hj hji
   rw [h.1] at h1
   cases h1
 | succ f ih =>
  have hun := (mem_ready.1 hr).1
  refine ⟨fun h0 => (by rw [h0] at hr; cases hr), fun j hj => ?_⟩
  by_cases hji : j = i
  ·subst hji
   exact hy.wpOp hi hS ⟨.inr hS, h⟩
  ·have hjL := keyL hj hun
   have h1 := h.2 j (ready_mono hj hji)
   obtain ⟨hjun, oj, hoj, hall⟩ := mem_ready.1 hj
   have hnot : ∀ e ∈ oj.after, Region.binds md e = true → e.on ≠ i := fun e he hb heq => by
    have h2 := hall e he hb
    rw [heq, getD_both hun] at h2
    cases h2
   refine wpOp_mono (fun a' w' h3 => ?_) (wpOp_putIf hoj (hf j oj hoj hji hjun hnot) (fun cs b => hsel i oi cs b hi) (fun cs b => hsel j oj cs b hoj) hQ hy h1)
   obtain ⟨hy', hS', h4⟩ := h3
   have hS2 : S w' := hS'.resolve_left hjL
   refine ⟨.inr hS2, ih hy' hS2 (by rw [Array.setIfInBounds_comm _ _ hji]; exact h4) (fun k ok hk hki hun' hno => ?_) (ready_mono hr (Ne.symm hji))⟩
   refine hf k ok hk hki ?_ hno
   by_cases hjk : j = k
   ·subst hjk; exact hjun
   ·rw [getD_set_ne true hjk] at hun'; exact hun'
def AllReadyY (P : Program) (md : Region.Mode) (ops : Array Oper) (Q : Exit → Act → World → Prop) (S : World → Prop) (L f : Nat) (l : Array Bool) (a : Act) (w : World) (rs : List Nat) : Prop :=
 ∀ i ∈ rs, wpOp P ops Q i (fun a' w' => (L ≤ i ∨ S w') ∧ wpAnyY P md ops Q S L f (l.setIfInBounds i true) a' w') a w
theorem AllReadyY.nil {f : Nat} {l : Array Bool} {a : Act} {w : World} : AllReadyY P md ops Q S L f l a w [] := fun _ h => by cases h
theorem AllReadyY.cons {f : Nat} {l : Array Bool} {a : Act} {w : World} {i : Nat} {o : Oper} {rs : List Nat} (ho : ops[i]? = some o)
  (h : ∀ K' : Act → World → Prop, Shut (∀ a w, S w → (S w → wpAnyY P md ops Q S L f (l.setIfInBounds i true) a w) → K' a w) → if Region.wanted o (yielded ops a.tmps) = true then Oper.wp P o a w K' Q else K' (a.put o.dst undef) w)
  (hs : AllReadyY P md ops Q S L f l a w rs) : AllReadyY P md ops Q S L f l a w (i :: rs) := fun j hj => by
 rcases List.mem_cons.1 hj with rfl | hj
 ·exact wpOp_step ho (fun K' hK => h K' (fun a w hS hW => hK a w ⟨.inr hS, hW hS⟩))
 ·exact hs j hj
theorem AllReadyY.last {f : Nat} {l : Array Bool} {a : Act} {w : World} {i : Nat} {o : Oper} {rs : List Nat} (hi : L ≤ i) (ho : ops[i]? = some o)
  (h : ∀ K' : Act → World → Prop, Shut (∀ a w, wpAnyY P md ops Q S L f (l.setIfInBounds i true) a w → K' a w) → if Region.wanted o (yielded ops a.tmps) = true then Oper.wp P o a w K' Q else K' (a.put o.dst undef) w)
  (hs : AllReadyY P md ops Q S L f l a w rs) : AllReadyY P md ops Q S L f l a w (i :: rs) := fun j hj => by
 rcases List.mem_cons.1 hj with rfl | hj
 ·exact wpOp_step ho (fun K' hK => h K' (fun a w hW => hK a w ⟨.inl hi, hW⟩))
 ·exact hs j hj
theorem wpAnyY_ready {rs : List Nat} {f : Nat} {l : Array Bool} {a : Act} {w : World} (hr : Region.ready md ops l = rs) (hne : rs ≠ [])
  (h : AllReadyY P md ops Q S L f l a w rs) : wpAnyY P md ops Q S L (f + 1) l a w :=
 ⟨fun h0 => absurd (hr ▸ h0) hne, hr ▸ h⟩
theorem wpAnyY_done {l : Array Bool} {a : Act} {w : World} (hr : Region.ready md ops l = []) (h : Q .normal a w) : ∀ f, wpAnyY P md ops Q S L f l a w
 | 0 => ⟨hr, h⟩
 | _ + 1 => ⟨fun _ => h, by rw [hr]; simp⟩
theorem wp_region_y (L : Nat) (S : World → Prop) {id : Nat} {a : Act} {w : World} (hm : P.follows .mixedOrders = true)
  (hS : S w.drew)
  (h : S w.drew → wpAnyY P .any ops Q S L ops.size (Array.replicate ops.size false) a w.drew) : (Code.region id ops true).wp P Q a w :=
 wp_region_any hm (wpAny_of_y _ _ _ _ (h hS))
end
end Go.Proofs.YtnaglmigkbbljaaGreatDoor
/-
  TopTransferred: a drawn region in a round, by what is shown outside of one; wire.GetList; session.number.
-/
namespace Go.Proofs.YtnaglmigkbbljaaGreatDoor
open Go Go.RowKit Go.Shelf
section
variable {P : Program} {ops : Array Oper} {Q : Exit → Act → World → Prop} {md : Region.Mode}
theorem rowsIn_wide' {n l : Nat} {row : String} {args : Array Value} {w : World} {R : Value → World → Prop} (h : Rows P row args w R) : RowsIn (Fence.wide.inRound l) n P row args w R :=
 fun c cs _ => let ⟨v, w', r, s⟩ := h c cs; ⟨v, w', r, stepsIn_wide.2 s⟩
theorem oper_in {o : Oper} {a : Act} {w : World} {K : Act → World → Prop} {l n : Nat} (hnd : ∀ c, o.op ≠ .defer c) (h : o.wp P a w K Q) : o.wpIn (Fence.wide.inRound l) n P a w K Q := by
 unfold Oper.wp at h
 refine ⟨fun _ _ => trivial, ?_⟩
 rw [Oper.semAt_plain (Fence.wide.inRound l) _ _ hnd]
 cases hr : (execOp a.eval o).run P w with
 | ok nx w' =>
  rw [hr] at h
  cases nx with
  | value v => exact h
  | skip => exact h
  | defer d => exact h
  | enter f args => exact ⟨fun h0 => (nomatch h0), CallsIn.inRound l (callsIn_wide.2 h)⟩
  | row r args => exact ⟨fun h0 => (nomatch h0), rowsIn_wide' h⟩
  | _ => exact (h : False).elim
 | halt hh w' =>
  rw [hr] at h
  cases hh with
  | panic v => exact h
  | _ => exact (h : False).elim
theorem anyIn_of_any {lp n : Nat} (hnd : ∀ o ∈ ops.toList, ∀ c, o.op ≠ .defer c) (hQ : ¬ LetsOut Q) : ∀ (f : Nat) (l : Array Bool) (a : Act) (w : World), wpAny P md ops Q f l a w → wpAnyIn (Fence.wide.inRound lp) n P md ops Q f l a w
 | 0, _, _, _, h => h
 | f + 1, l, a, w, h => ⟨h.1, fun i hi => by
   have h2 := h.2 i hi
   unfold wpOp at h2
   unfold wpOpIn
   cases ho : ops[i]? with
   | none =>
    rw [ho] at h2
    exact anyIn_of_any hnd hQ f _ _ _ h2
   | some o =>
    rw [ho] at h2
    dsimp only at h2 ⊢
    have hm : o ∈ ops.toList := by
     obtain ⟨h1, h2⟩ := Array.getElem?_eq_some_iff.mp ho
     rw [← h2]
     exact Array.mem_toList_iff.mpr (Array.getElem_mem h1)
    by_cases hw : Region.wanted o (yielded ops a.tmps) = true
    ·rw [if_pos hw] at h2 ⊢
     rcases h2 with h2 | ⟨_, h2⟩
     ·exact oper_in (hnd o hm) (Oper.wp_mono (fun a' w' h' => anyIn_of_any hnd hQ f _ _ _ h') h2)
     ·exact absurd h2 hQ
    ·rw [if_neg hw] at h2 ⊢
     exact ⟨fun _ _ => trivial, anyIn_of_any hnd hQ f _ _ _ h2⟩⟩
theorem wpIn_region_y {lp n : Nat} (L : Nat) (S : World → Prop) {id : Nat} {a : Act} {w : World} (hnd : ∀ o ∈ ops.toList, ∀ c, o.op ≠ .defer c) (hQ : ¬ LetsOut Q) (hm : P.follows .mixedOrders = true) (hS : S w.drew)
  (h : S w.drew → wpAnyY P .any ops Q S L ops.size (Array.replicate ops.size false) a w.drew) : (Code.region id ops true).wpIn (Fence.wide.inRound lp) n P Q a w :=
 wpIn_region_any hm (anyIn_of_any hnd hQ _ _ _ _ (wpAny_of_y _ _ _ _ (h hS)))
end
theorem getList_ex (l : List ByteArray) (w : World) (hn : l.length ≤ 100) (hz : SzL 400 l) : Calls Tryz.prog 102 #[.string (putB l)] w (ListRet l (putB l).size w) := by
 have H := Lib.hid (list_ex l w hn hz)
 unfold ListRet at H ⊢
 clear hn hz
 generalize putB l = s at H ⊢
 go_enter Tryz.func102, Tryz.ntmps102
 go_wp2_with (go_at_call 149; refine H.out.mono ?_; rintro e w1 ⟨v, rfl, ho, hb⟩)
 go_ret3
 exact ⟨v, rfl, ho, hb⟩
def NumRet (n : Nat) (w : World) (e : Ending) (w' : World) : Prop := e = .returned (.tuple #[.int .i64 n, .bool true]) ∧ Below w.heap.size w w'
theorem number_ex (n : Nat) (w : World) (hn : n ≤ 1000000000000) (hG : GL w) : Calls Tryz.prog 104 #[.string (itoaB n)] w (NumRet n w) := by
 have hsz := itoa_digits n hn
 have HA := Lib.hid (Tryz.strconv_Atoi_ok (itoaB n) (by omega) n (atoi_itoa n (by omega)) w)
 have HI := Lib.hid (fun W (hb : Below w.heap.size w W) => itoa_ex n W ⟨by omega, by omega⟩ (hG.below hb))
 unfold NumRet
 clear hG
 generalize itoaB (n : Int) = s at hsz HA HI ⊢
 have hq : (s.toList == s.toList) = true := beq_str rfl
 go_enter Tryz.func104, Tryz.ntmps104
 go_wp2_with (first
  | (go_at_call 151; refine HA.out.mono ?_; rintro e w1 ⟨rfl, hw1⟩; go_loud (have HB1 := Lib.hid (show Below w.heap.size w w1 by rcases hw1 with h | ⟨t, h⟩; (rw [h]; exact Below.refl _ _); (rw [h]; exact Lib.bytesWorld_below _ _ _))); clear hw1)
  | (go_at_call 34; refine (HI.out _ HB1.out).mono ?_; rintro e w2 ⟨rfl, hb2⟩))
 go_ret2
 exact ⟨rfl, HB1.out.trans (hb2.mono HB1.out.size)⟩
end Go.Proofs.YtnaglmigkbbljaaGreatDoor
