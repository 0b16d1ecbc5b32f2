/-
  LeaseTake: the law, over what its calls answer.
-/
import Derived.Test.YtoigjpkdcadlnaaGreatDoorLzE
import Derived.Deep.RegionLaw
import Derived.Deep.DeepCutAuto
namespace Go.Proofs.YtoigjpkdcadlnaaGreatDoor
open Go Go.RowKit

theorem lmA {w : World} {H : Nat} {pa : Option Addr} {na ca : Nat} {pb : Option Addr} {nb cb : Nat} {hv : Int} {L : List (Int × Int)} {M : Nat} {cs : List Value} {W : World} (h : LM w H pa na ca pb nb cb hv L M cs W) :
    W.cell? ⟨H, 0, none⟩ = some (.int .i64 hv) ∧ W.cell? ⟨H, 1, none⟩ = some (.slice pa na ca) ∧ LM w H pa na ca pb nb cb hv L M cs W := ⟨cellOf h.1.a rfl, cellOf h.1.a rfl, h⟩

/-- Clone, in a round -/
def CloneRet (w : World) (H : Nat) (pa : Option Addr) (na ca : Nat) (pb : Option Addr) (nb cb : Nat) (hv : Int) (L : List (Int × Int)) (M : Nat) (cs : List Value) (W : World) (e : Ending) (w' : World) : Prop :=
  ∃ p' cap', e = .returned (.slice p' na cap') ∧ GrP w' p' na cap' L ∧ LM w H pa na ca pb nb cb hv L M cs w' ∧ Below W.heap.size W w'
theorem cloneM {w : World} {H : Nat} {pa : Option Addr} {na ca : Nat} {pb : Option Addr} {nb cb : Nat} {hv : Int} {L : List (Int × Int)} {M : Nat} {cs : List Value} {W : World} (h : LM w H pa na ca pb nb cb hv L M cs W) :
    Calls Tryz.prog 7 #[.slice pa na ca] W (CloneRet w H pa na ca pb nb cb hv L M cs W) :=
  (clone_any pa na ca L W (by have := h.1.n12; omega) h.1.ga).mono fun _ _ ⟨p', cap', h1, h2, _, h4⟩ => ⟨p', cap', h1, h2, h.below h4, h4⟩

theorem newT {W w4 : World} {c0 c1 : Value} (hb : Below (W.alloc (.cells #[c0, c1] 26)).heap.size (W.alloc (.cells #[c0, c1] 26)) w4) : w4.cell? ⟨W.heap.size, 0, none⟩ = some c0 ∧ w4.cell? ⟨W.heap.size, 1, none⟩ = some c1 ∧ w4.frozen? ⟨W.heap.size, 0, none⟩ = false ∧ w4.frozen? ⟨W.heap.size, 1, none⟩ = false ∧ w4.heap[W.heap.size]? = some (.cells #[c0, c1] 26 (0, 0)) := by
  have h : w4.heap[W.heap.size]? = some (.cells #[c0, c1] 26 (0, 0)) := (hb.block W.heap.size (by rw [World.size_alloc]; omega)).trans (heap_alloc_new W _)
  exact ⟨cellOf h rfl, cellOf h rfl, frozenOf h, frozenOf h, h⟩

theorem lawS {w : World} {H : Nat} {pa : Option Addr} {na ca : Nat} {pb : Option Addr} {nb cb : Nat} {hv hv' : Int} {L L' : List (Int × Int)} {M : Nat} {cs : List Value} {W W' : World} {p : Option Addr} {n cap N : Nat} (h : LM w H pa na ca pb nb cb hv L M cs W) (hg : GrP W p n cap L') (hN : W.heap[N]? = some (.cells #[.int .i64 hv', .slice p n cap] 26 (0, 0))) (hb : Below W.heap.size W W') :
    W'.cell? ⟨N, 0, none⟩ = some (.int .i64 hv') ∧ W'.cell? ⟨N, 1, none⟩ = some (.slice p n cap) ∧ W'.cell? ⟨H, 0, none⟩ = some (.int .i64 hv) ∧ W'.cell? ⟨H, 1, none⟩ = some (.slice pa na ca) ∧ W'.cell? ⟨H + 1, 0, none⟩ = some (.int .i64 hv) ∧ W'.cell? ⟨H + 1, 1, none⟩ = some (.slice pb nb cb) ∧
    W'.frozen? ⟨H, 0, none⟩ = false ∧ W'.frozen? ⟨H, 1, none⟩ = false ∧ W'.frozen? ⟨H + 1, 0, none⟩ = false ∧ W'.frozen? ⟨H + 1, 1, none⟩ = false ∧ GrP W' p n cap L' := by
  have h' := h.below hb
  have hN' := (hb.block N (Array.getElem?_eq_some_iff.mp hN).1).trans hN
  exact ⟨cellOf hN' rfl, cellOf hN' rfl, cellOf h'.1.a rfl, cellOf h'.1.a rfl, cellOf h'.1.b rfl, cellOf h'.1.b rfl, frozenOf h'.1.a, frozenOf h'.1.a, frozenOf h'.1.b, frozenOf h'.1.b, hg.below hb⟩

set_option maxHeartbeats 6400000 in
set_option maxRecDepth 1000000 in
theorem law_take (hA : Awake) (b off n cap : Nat) (mc : Nat → List Value) (nxV : Nat → Int → Int) (nxL : Nat → Int → List (Int × Int) → List (Int × Int)) (w : World) (hn : n ≤ 12) (hb : b < w.heap.size)
    (hsz : ∀ k, k < n → (mc k).length = 21) (hone : ∀ k, k < n → ∀ v ∈ mc k, v.oneCell' = true) (hat : ∀ k, k < n → w.rangeAt b (off + k * 21) (mc k))
    (hfew : ∀ k, k < n → ∀ W, Below w.heap.size w W → Calls Tryz.prog 6 #[.agg (mc k).toArray] W (BoolRet W))
    (ht : ∀ k, k < n → ∀ W hv L p m c, Below w.heap.size w W → GrP W p m c L → HOk hv L → Calls Tryz.prog 8 #[.agg #[.int .i64 hv, .slice p m c], .agg (mc k).toArray] W (NewRet (nxV k hv) (nxL k hv L) W))
    (hr : ∀ k, k < n → ∀ W hv L p m c, Below w.heap.size w W → GrP W p m c L → HOk hv L → Calls Tryz.prog 10 #[.agg #[.int .i64 hv, .slice p m c], .agg (mc k).toArray] W (NewRet (nxV k hv) (nxL k hv L) W))
    (hnx : ∀ k, k < n → ∀ hv L, HOk hv L → HOk (nxV k hv) (nxL k hv L)) :
    Calls Tryz.prog 3 #[.slice (some ⟨b, off, none⟩) n cap] w (TrueRet w) := by
  have HA := Lib.hid hA
  have HSZ := Lib.hid hsz
  have HONE := Lib.hid hone
  have HAT := Lib.hid hat
  have HFEW := Lib.hid hfew
  have HTK := Lib.hid ht
  have HRF := Lib.hid hr
  have HNX := Lib.hid hnx
  clear hA hsz hone hat hfew ht hr hnx
  go_enter Tryz.func3, Tryz.ntmps3
  go_upto_region 3 with (go_at_call 5; refine (HA.out _).mono ?_; rintro e w1 ⟨rfl, hb1⟩)
  have hLW : LW w w1.heap.size none 0 0 none 0 0 0 [] ((w1.alloc (.cells #[.int .i64 0, .slice none 0 0] 26)).alloc (.cells #[.int .i64 0, .slice none 0 0] 26)) :=
    ⟨heap_alloc2_old _ _ _, heap_alloc2_new _ _ _, ⟨rfl, .inl ⟨rfl, rfl, rfl⟩⟩, ⟨rfl, .inl ⟨rfl, rfl, rfl⟩⟩, ⟨by omega, by omega, fun _ => rfl, trivial, fun _ h => (by cases h)⟩, (hb1.alloc hb1.size _).alloc (by have := hb1.size; rw [World.size_alloc]; omega) _, hb1.size⟩
  have HL0 := Lib.hid hLW
  clear hLW hb1
  go_wp2_with fail
  generalize (w1.alloc (.cells #[.int .i64 0, .slice none 0 0] 26)).alloc (.cells #[.int .i64 0, .slice none 0 0] 26) = W3 at HL0 ⊢
  generalize w1.heap.size = H at HL0 ⊢
  go_loopw [19] (fun i wr => ∃ (k : Nat) (pa : Option Addr) (na ca : Nat) (pb : Option Addr) (nb cb : Nat) (hv : Int) (L : List (Int × Int)), k ≤ n ∧ i = .int .i64 k ∧ LW w H pa na ca pb nb cb hv L wr) (fun i _ => n - (intOf i).toNat)
  case atStart => exact ⟨0, none, 0, 0, none, 0, 0, 0, [], Nat.zero_le _, rfl, HL0.out⟩
  case round =>
    obtain ⟨k, pa, na, ca, pb, nb, cb, hv, L, hk, rfl, hLW⟩ := hrel
    have HLW := Lib.hid hLW
    by_cases hkn : k < n
    · have hrg : wr.rangeAt b (off + k * 21) (mc k) := fun j v hj => (hLW.bl.cell (by exact hb)).trans (HAT.out k hkn j v hj)
      have HRG := Lib.hid hrg
      have hs37 : (Tryz.prog.info? 37).map (·.size) = some (mc k).length := by rw [HSZ.out k hkn]; exact Tryz.size37
      have HS37 := Lib.hid hs37
      clear hrg hLW hs37
      go_upto_region 7 with (first
        | (refine wpList_load_mid rfl 37 _ rfl b (off + k * 21) rfl (mc k) _ HRG.out Tryz.underlying37 rfl HS37.out ?_)
        | (refine wpList_store_fresh rfl 37 _ _ rfl wr (mc k).toArray rfl rfl 37 _ rfl (by rw [List.size_toArray]; exact HS37.out) (by show 21 = (mc k).toArray.size; rw [List.size_toArray, HSZ.out k hkn]) (all_oneCell_toArray (HONE.out k hkn)) ?_; intro w2 hM hb2))
      have hM2 : LM w H pa na ca pb nb cb hv L wr.heap.size (mc k) w2 := ⟨HLW.out.below hb2, hM⟩
      have HM := Lib.hid hM2
      clear hM2 hM hb2 HRG
      have hMsz : H + 1 < wr.heap.size := HLW.out.lt
      clear HLW
      generalize wr.heap.size = M at HM hMsz ⊢
      go_upto_if 25 with (first
        | (refine wpList_load_mid rfl 37 _ rfl M 0 rfl (mc k) _ HM.out.rg Tryz.underlying37 rfl HS37.out ?_)
        | (go_at_call 6; refine (HFEW.out k hkn _ HM.out.1.bl).mono ?_; rintro e w3 ⟨c, rfl, hb3⟩))
      have HM3 := Lib.hid (HM.out.below hb3)
      clear hb3 HM
      cases c with
      | false =>
        go_wp2_with fail
        go_ret
        exact ⟨rfl, HM3.out.1.bl⟩
      | true =>
        have hM3 := HM3.out.lt
        go_upto_region 9 with fail
        go_cut [7] (fun t wx => ∃ T p' cap', t = .pointer (some ⟨T, 0, none⟩) ∧ wx.heap[T]? = some (.cells #[.int .i64 hv, .slice p' na cap'] 26 (0, 0)) ∧ GrP wx p' na cap' L ∧ LM w H pa na ca pb nb cb hv L M (mc k) wx)
        case first =>
          go_region_held3 (fun W => W.cell? ⟨H, 0, none⟩ = some (.int .i64 hv) ∧ W.cell? ⟨H, 1, none⟩ = some (.slice pa na ca) ∧ LM w H pa na ca pb nb cb hv L M (mc k) W)
            (first | exact lmA HM3.out | exact lmA HM3.out.drew | exact lmA (HM3.out.alloc _) | exact lmA (HM3.out.drew.alloc _) | exact lmA hM4 | exact lmA (hM4.alloc _) | exact lmA (hM4.set2 t5 hM3 hMsz _ _ _ _))
            ((go_at_call 7; refine (cloneM (by first | exact HM3.out | exact HM3.out.drew | exact HM3.out.alloc _ | exact HM3.out.drew.alloc _)).mono ?_; rintro e w4 ⟨p', cap', rfl, hg4, hM4, hb4⟩; (first | (have tt : w4.cell? ⟨w3.heap.size, 0, none⟩ = some (.int .i64 0) ∧ w4.cell? ⟨w3.heap.size, 1, none⟩ = some (.slice none 0 0) ∧ w4.frozen? ⟨w3.heap.size, 0, none⟩ = false ∧ w4.frozen? ⟨w3.heap.size, 1, none⟩ = false ∧ w4.heap[w3.heap.size]? = some (.cells #[.int .i64 0, .slice none 0 0] 26 (0, 0)) := newT (W := w3.drew) hb4; obtain ⟨t1, t2, t3, t4, t5⟩ := tt) | skip)))
          · go_wp2_with fail
            go_meet
            exact ⟨w4.heap.size, p', cap', rfl, heap_alloc_new w4 _, hg4.below (below_al w4 _), hM4.alloc _⟩
          · go_wp2_with fail
            go_meet
            exact ⟨w3.heap.size, p', cap', rfl, row_set2 t5 _ _, grP_set2 hg4 t5 _ _ _ _, hM4.set2 t5 hM3 hMsz _ _ _ _⟩
        case rest =>
          obtain ⟨T, p', cap', rfl, hT, hgT, hMc⟩ := hcut
          have HT := Lib.hid hT
          have HGT := Lib.hid hgT
          have HMc := Lib.hid hMc
          have a0 := cellOf hMc.1.a (j := 0) rfl
          have a1 := cellOf hMc.1.a (j := 1) rfl
          clear hT hgT hMc HM3
          go_upto_region 11 with (first
            | (refine wpList_load_mid rfl 37 _ rfl M 0 rfl (mc k) _ HMc.out.rg Tryz.underlying37 rfl HS37.out ?_)
            | (go_at_call 8; refine (HTK.out k hkn _ hv L pa na ca HMc.out.1.bl HMc.out.1.ga HMc.out.1.ok).mono ?_; rintro e w5 ⟨p5, n5, cap5, rfl, hg5, hb5⟩))
          clear a0 a1
          have hM5 := (HMc.out.below hb5).alloc (.cells #[.int .i64 (nxV k hv), .slice p5 n5 cap5] 26)
          have hG5 := hg5.below (below_al w5 (.cells #[.int .i64 (nxV k hv), .slice p5 n5 cap5] 26))
          have hbb := (below_trans hb5 (below_al w5 (.cells #[.int .i64 (nxV k hv), .slice p5 n5 cap5] 26)))
          have hT5 := (hbb.block T (Array.getElem?_eq_some_iff.mp HT.out).1).trans HT.out
          have hGT5 := HGT.out.below hbb
          have hN5 := heap_alloc_new w5 (.cells #[.int .i64 (nxV k hv), .slice p5 n5 cap5] 26)
          clear hg5 hb5 hbb HMc HT HGT
          revert hM5 hG5 hT5 hGT5 hN5
          generalize w5.alloc (.cells #[.int .i64 (nxV k hv), .slice p5 n5 cap5] 26) = w6
          generalize w5.heap.size = N
          intro hM5 hG5 hT5 hGT5 hN5
          have HM6 := Lib.hid hM5
          have HG6 := Lib.hid hG5
          have HGT6 := Lib.hid hGT5
          have HN6 := Lib.hid hN5
          have a0 := cellOf hM5.1.a (j := 0) rfl
          have a1 := cellOf hM5.1.a (j := 1) rfl
          have b0 := cellOf hT5 (j := 0) rfl
          have b1 := cellOf hT5 (j := 1) rfl
          clear hM5 hG5 hT5 hGT5 hN5
          go_upto_region 13 with (go_at_call 9; refine (equal_any hv pa p' na na ca cap' L _ (by have := HM6.out.1.n12; omega) HM6.out.1.ga HGT6.out).mono ?_; rintro e w7 ⟨rfl, hb7⟩)
          have hM7 := HM6.out.below hb7
          have hG7 := HG6.out.below hb7
          have hN7 := (hb7.block N (Array.getElem?_eq_some_iff.mp HN6.out).1).trans HN6.out
          have HM7 := Lib.hid hM7
          have HG7 := Lib.hid hG7
          have HN7 := Lib.hid hN7
          have hok' := HNX.out k hkn hv L hM7.1.ok
          have HOK' := Lib.hid hok'
          clear a0 a1 b0 b1 HM6 HG6 HGT6 HN6 hG7 hb7 hok'
          go_cut [2] (fun r wx => r = u2 ∧ ∃ pb' nb' cb', LW w H p5 n5 cap5 pb' nb' cb' (nxV k hv) (nxL k hv L) wx)
          case first =>
            have c0 : w7.drew.cell? ⟨N, 0, none⟩ = _ := cellOf hN7 (j := 0) rfl
            have c1 : w7.drew.cell? ⟨N, 1, none⟩ = _ := cellOf hN7 (j := 1) rfl
            have c2 : w7.drew.cell? ⟨H + 1, 0, none⟩ = _ := cellOf hM7.1.b (j := 0) rfl
            have c3 : w7.drew.cell? ⟨H + 1, 1, none⟩ = _ := cellOf hM7.1.b (j := 1) rfl
            have hr7 : w7.drew.rangeAt M 0 (mc k) := hM7.drew.rg
            have hld : ∀ W : World, W.rangeAt M 0 (mc k) → (Instr.loadAt 37 (.pointer (some ⟨M, 0, none⟩))).run Tryz.prog W = .ok (.agg (mc k).toArray) W := fun W h => run_loadAt_mid W M 0 37 (mc k) _ h Tryz.underlying37 rfl HS37.out
            clear hM7 hN7
            have HR7 := Lib.hid hr7
            clear hr7 hld
            -- REGION13
            refine wp_region_any (by kernel_rfl) ?_
            change wpAny _ _ _ _ _ _ _ (World.drew _)
            refine wpAny_ready (rs := [0, 1, 2]) (by kernel_rfl) (by simp) ?_
            refine AllReady.cons rfl (fun K hK => ?_) ?_
            · go_simp
              refine hK _ _ ?_
              clear hK K
              refine wpAny_ready (rs := [1, 2]) (by kernel_rfl) (by simp) ?_
              refine AllReady.cons rfl (fun K hK => ?_) ?_
              · go_simp
                refine hK _ _ ?_
                clear hK K
                refine wpAny_ready (rs := [2]) (by kernel_rfl) (by simp) ?_
                refine AllReady.cons rfl (fun K hK => ?_) ?_
                · rw [if_pos (by rfl)]
                  refine wp_load_mid 37 _ rfl M 0 rfl (mc k) _ HR7.out Tryz.underlying37 rfl HS37.out ?_
                  simp only [Act.put]
                  refine hK _ _ ?_
                  clear hK K
                  refine wpAny_ready (rs := [3]) (by kernel_rfl) (by simp) ?_
                  refine AllReady.cons rfl (fun K hK => ?_) ?_
                  · go_simp
                    go_at_call 10
                    refine (HRF.out k hkn _ hv L pb nb cb HM7.out.drew.1.bl HM7.out.drew.1.gb HM7.out.1.ok).mono ?_
                    rintro e w8 ⟨p8, n8, cap8, rfl, hg8, hb8⟩
                    obtain ⟨d0, d1, d2, d3, d4, d5, d6, d7, d8, d9, hG8⟩ := lawS HM7.out HG7.out HN7.out (below_trans (below_drew _) hb8)
                    go_simp
                    refine hK _ _ ?_
                    clear hK K
                    refine wpAny_ready (rs := [4]) (by kernel_rfl) (by simp) ?_
                    refine AllReady.cons rfl (fun K hK => ?_) ?_
                    · go_simp
                      refine hK _ _ ?_
                      clear hK K
                      refine wpAny_ready (rs := [5]) (by kernel_rfl) (by simp) ?_
                      refine AllReady.cons rfl (fun K hK => ?_) ?_
                      · go_simp
                        refine hK _ _ ?_
                        clear hK K
                        refine wpAny_done (by kernel_rfl) ?_ _
                        go_wp2_with fail
                        go_meet
                        exact ⟨rfl, p8, n8, cap8, lawE HM7.out HG7.out HOK'.out hg8 hb8⟩
                      exact AllReady.nil
                    exact AllReady.nil
                  exact AllReady.nil
                exact AllReady.nil
              refine AllReady.cons rfl (fun K hK => ?_) ?_
              · rw [if_pos (by rfl)]
                refine wp_load_mid 37 _ rfl M 0 rfl (mc k) _ HR7.out Tryz.underlying37 rfl HS37.out ?_
                simp only [Act.put]
                refine hK _ _ ?_
                clear hK K
                refine wpAny_ready (rs := [1]) (by kernel_rfl) (by simp) ?_
                refine AllReady.cons rfl (fun K hK => ?_) ?_
                · go_simp
                  refine hK _ _ ?_
                  clear hK K
                  refine wpAny_ready (rs := [3]) (by kernel_rfl) (by simp) ?_
                  refine AllReady.cons rfl (fun K hK => ?_) ?_
                  · go_simp
                    go_at_call 10
                    refine (HRF.out k hkn _ hv L pb nb cb HM7.out.drew.1.bl HM7.out.drew.1.gb HM7.out.1.ok).mono ?_
                    rintro e w8 ⟨p8, n8, cap8, rfl, hg8, hb8⟩
                    obtain ⟨d0, d1, d2, d3, d4, d5, d6, d7, d8, d9, hG8⟩ := lawS HM7.out HG7.out HN7.out (below_trans (below_drew _) hb8)
                    go_simp
                    refine hK _ _ ?_
                    clear hK K
                    refine wpAny_ready (rs := [4]) (by kernel_rfl) (by simp) ?_
                    refine AllReady.cons rfl (fun K hK => ?_) ?_
                    · go_simp
                      refine hK _ _ ?_
                      clear hK K
                      refine wpAny_ready (rs := [5]) (by kernel_rfl) (by simp) ?_
                      refine AllReady.cons rfl (fun K hK => ?_) ?_
                      · go_simp
                        refine hK _ _ ?_
                        clear hK K
                        refine wpAny_done (by kernel_rfl) ?_ _
                        go_wp2_with fail
                        go_meet
                        exact ⟨rfl, p8, n8, cap8, lawE HM7.out HG7.out HOK'.out hg8 hb8⟩
                      exact AllReady.nil
                    exact AllReady.nil
                  exact AllReady.nil
                exact AllReady.nil
              exact AllReady.nil
            refine AllReady.cons rfl (fun K hK => ?_) ?_
            · go_simp
              refine hK _ _ ?_
              clear hK K
              refine wpAny_ready (rs := [0, 2]) (by kernel_rfl) (by simp) ?_
              refine AllReady.cons rfl (fun K hK => ?_) ?_
              · go_simp
                refine hK _ _ ?_
                clear hK K
                refine wpAny_ready (rs := [2]) (by kernel_rfl) (by simp) ?_
                refine AllReady.cons rfl (fun K hK => ?_) ?_
                · rw [if_pos (by rfl)]
                  refine wp_load_mid 37 _ rfl M 0 rfl (mc k) _ HR7.out Tryz.underlying37 rfl HS37.out ?_
                  simp only [Act.put]
                  refine hK _ _ ?_
                  clear hK K
                  refine wpAny_ready (rs := [3]) (by kernel_rfl) (by simp) ?_
                  refine AllReady.cons rfl (fun K hK => ?_) ?_
                  · go_simp
                    go_at_call 10
                    refine (HRF.out k hkn _ hv L pb nb cb HM7.out.drew.1.bl HM7.out.drew.1.gb HM7.out.1.ok).mono ?_
                    rintro e w8 ⟨p8, n8, cap8, rfl, hg8, hb8⟩
                    obtain ⟨d0, d1, d2, d3, d4, d5, d6, d7, d8, d9, hG8⟩ := lawS HM7.out HG7.out HN7.out (below_trans (below_drew _) hb8)
                    go_simp
                    refine hK _ _ ?_
                    clear hK K
                    refine wpAny_ready (rs := [4]) (by kernel_rfl) (by simp) ?_
                    refine AllReady.cons rfl (fun K hK => ?_) ?_
                    · go_simp
                      refine hK _ _ ?_
                      clear hK K
                      refine wpAny_ready (rs := [5]) (by kernel_rfl) (by simp) ?_
                      refine AllReady.cons rfl (fun K hK => ?_) ?_
                      · go_simp
                        refine hK _ _ ?_
                        clear hK K
                        refine wpAny_done (by kernel_rfl) ?_ _
                        go_wp2_with fail
                        go_meet
                        exact ⟨rfl, p8, n8, cap8, lawE HM7.out HG7.out HOK'.out hg8 hb8⟩
                      exact AllReady.nil
                    exact AllReady.nil
                  exact AllReady.nil
                exact AllReady.nil
              refine AllReady.cons rfl (fun K hK => ?_) ?_
              · rw [if_pos (by rfl)]
                refine wp_load_mid 37 _ rfl M 0 rfl (mc k) _ HR7.out Tryz.underlying37 rfl HS37.out ?_
                simp only [Act.put]
                refine hK _ _ ?_
                clear hK K
                refine wpAny_ready (rs := [0, 3]) (by kernel_rfl) (by simp) ?_
                refine AllReady.cons rfl (fun K hK => ?_) ?_
                · go_simp
                  refine hK _ _ ?_
                  clear hK K
                  refine wpAny_ready (rs := [3]) (by kernel_rfl) (by simp) ?_
                  refine AllReady.cons rfl (fun K hK => ?_) ?_
                  · go_simp
                    go_at_call 10
                    refine (HRF.out k hkn _ hv L pb nb cb HM7.out.drew.1.bl HM7.out.drew.1.gb HM7.out.1.ok).mono ?_
                    rintro e w8 ⟨p8, n8, cap8, rfl, hg8, hb8⟩
                    obtain ⟨d0, d1, d2, d3, d4, d5, d6, d7, d8, d9, hG8⟩ := lawS HM7.out HG7.out HN7.out (below_trans (below_drew _) hb8)
                    go_simp
                    refine hK _ _ ?_
                    clear hK K
                    refine wpAny_ready (rs := [4]) (by kernel_rfl) (by simp) ?_
                    refine AllReady.cons rfl (fun K hK => ?_) ?_
                    · go_simp
                      refine hK _ _ ?_
                      clear hK K
                      refine wpAny_ready (rs := [5]) (by kernel_rfl) (by simp) ?_
                      refine AllReady.cons rfl (fun K hK => ?_) ?_
                      · go_simp
                        refine hK _ _ ?_
                        clear hK K
                        refine wpAny_done (by kernel_rfl) ?_ _
                        go_wp2_with fail
                        go_meet
                        exact ⟨rfl, p8, n8, cap8, lawE HM7.out HG7.out HOK'.out hg8 hb8⟩
                      exact AllReady.nil
                    exact AllReady.nil
                  exact AllReady.nil
                refine AllReady.cons rfl (fun K hK => ?_) ?_
                · go_simp
                  go_at_call 10
                  refine (HRF.out k hkn _ hv L pb nb cb HM7.out.drew.1.bl HM7.out.drew.1.gb HM7.out.1.ok).mono ?_
                  rintro e w8 ⟨p8, n8, cap8, rfl, hg8, hb8⟩
                  obtain ⟨d0, d1, d2, d3, d4, d5, d6, d7, d8, d9, hG8⟩ := lawS HM7.out HG7.out HN7.out (below_trans (below_drew _) hb8)
                  go_simp
                  refine hK _ _ ?_
                  clear hK K
                  refine wpAny_ready (rs := [0]) (by kernel_rfl) (by simp) ?_
                  refine AllReady.cons rfl (fun K hK => ?_) ?_
                  · go_simp
                    refine hK _ _ ?_
                    clear hK K
                    refine wpAny_ready (rs := [4]) (by kernel_rfl) (by simp) ?_
                    refine AllReady.cons rfl (fun K hK => ?_) ?_
                    · go_simp
                      refine hK _ _ ?_
                      clear hK K
                      refine wpAny_ready (rs := [5]) (by kernel_rfl) (by simp) ?_
                      refine AllReady.cons rfl (fun K hK => ?_) ?_
                      · go_simp
                        refine hK _ _ ?_
                        clear hK K
                        refine wpAny_done (by kernel_rfl) ?_ _
                        go_wp2_with fail
                        go_meet
                        exact ⟨rfl, p8, n8, cap8, lawE HM7.out HG7.out HOK'.out hg8 hb8⟩
                      exact AllReady.nil
                    exact AllReady.nil
                  exact AllReady.nil
                exact AllReady.nil
              exact AllReady.nil
            refine AllReady.cons rfl (fun K hK => ?_) ?_
            · rw [if_pos (by rfl)]
              refine wp_load_mid 37 _ rfl M 0 rfl (mc k) _ HR7.out Tryz.underlying37 rfl HS37.out ?_
              simp only [Act.put]
              refine hK _ _ ?_
              clear hK K
              refine wpAny_ready (rs := [0, 1]) (by kernel_rfl) (by simp) ?_
              refine AllReady.cons rfl (fun K hK => ?_) ?_
              · go_simp
                refine hK _ _ ?_
                clear hK K
                refine wpAny_ready (rs := [1]) (by kernel_rfl) (by simp) ?_
                refine AllReady.cons rfl (fun K hK => ?_) ?_
                · go_simp
                  refine hK _ _ ?_
                  clear hK K
                  refine wpAny_ready (rs := [3]) (by kernel_rfl) (by simp) ?_
                  refine AllReady.cons rfl (fun K hK => ?_) ?_
                  · go_simp
                    go_at_call 10
                    refine (HRF.out k hkn _ hv L pb nb cb HM7.out.drew.1.bl HM7.out.drew.1.gb HM7.out.1.ok).mono ?_
                    rintro e w8 ⟨p8, n8, cap8, rfl, hg8, hb8⟩
                    obtain ⟨d0, d1, d2, d3, d4, d5, d6, d7, d8, d9, hG8⟩ := lawS HM7.out HG7.out HN7.out (below_trans (below_drew _) hb8)
                    go_simp
                    refine hK _ _ ?_
                    clear hK K
                    refine wpAny_ready (rs := [4]) (by kernel_rfl) (by simp) ?_
                    refine AllReady.cons rfl (fun K hK => ?_) ?_
                    · go_simp
                      refine hK _ _ ?_
                      clear hK K
                      refine wpAny_ready (rs := [5]) (by kernel_rfl) (by simp) ?_
                      refine AllReady.cons rfl (fun K hK => ?_) ?_
                      · go_simp
                        refine hK _ _ ?_
                        clear hK K
                        refine wpAny_done (by kernel_rfl) ?_ _
                        go_wp2_with fail
                        go_meet
                        exact ⟨rfl, p8, n8, cap8, lawE HM7.out HG7.out HOK'.out hg8 hb8⟩
                      exact AllReady.nil
                    exact AllReady.nil
                  exact AllReady.nil
                exact AllReady.nil
              refine AllReady.cons rfl (fun K hK => ?_) ?_
              · go_simp
                refine hK _ _ ?_
                clear hK K
                refine wpAny_ready (rs := [0, 3]) (by kernel_rfl) (by simp) ?_
                refine AllReady.cons rfl (fun K hK => ?_) ?_
                · go_simp
                  refine hK _ _ ?_
                  clear hK K
                  refine wpAny_ready (rs := [3]) (by kernel_rfl) (by simp) ?_
                  refine AllReady.cons rfl (fun K hK => ?_) ?_
                  · go_simp
                    go_at_call 10
                    refine (HRF.out k hkn _ hv L pb nb cb HM7.out.drew.1.bl HM7.out.drew.1.gb HM7.out.1.ok).mono ?_
                    rintro e w8 ⟨p8, n8, cap8, rfl, hg8, hb8⟩
                    obtain ⟨d0, d1, d2, d3, d4, d5, d6, d7, d8, d9, hG8⟩ := lawS HM7.out HG7.out HN7.out (below_trans (below_drew _) hb8)
                    go_simp
                    refine hK _ _ ?_
                    clear hK K
                    refine wpAny_ready (rs := [4]) (by kernel_rfl) (by simp) ?_
                    refine AllReady.cons rfl (fun K hK => ?_) ?_
                    · go_simp
                      refine hK _ _ ?_
                      clear hK K
                      refine wpAny_ready (rs := [5]) (by kernel_rfl) (by simp) ?_
                      refine AllReady.cons rfl (fun K hK => ?_) ?_
                      · go_simp
                        refine hK _ _ ?_
                        clear hK K
                        refine wpAny_done (by kernel_rfl) ?_ _
                        go_wp2_with fail
                        go_meet
                        exact ⟨rfl, p8, n8, cap8, lawE HM7.out HG7.out HOK'.out hg8 hb8⟩
                      exact AllReady.nil
                    exact AllReady.nil
                  exact AllReady.nil
                refine AllReady.cons rfl (fun K hK => ?_) ?_
                · go_simp
                  go_at_call 10
                  refine (HRF.out k hkn _ hv L pb nb cb HM7.out.drew.1.bl HM7.out.drew.1.gb HM7.out.1.ok).mono ?_
                  rintro e w8 ⟨p8, n8, cap8, rfl, hg8, hb8⟩
                  obtain ⟨d0, d1, d2, d3, d4, d5, d6, d7, d8, d9, hG8⟩ := lawS HM7.out HG7.out HN7.out (below_trans (below_drew _) hb8)
                  go_simp
                  refine hK _ _ ?_
                  clear hK K
                  refine wpAny_ready (rs := [0]) (by kernel_rfl) (by simp) ?_
                  refine AllReady.cons rfl (fun K hK => ?_) ?_
                  · go_simp
                    refine hK _ _ ?_
                    clear hK K
                    refine wpAny_ready (rs := [4]) (by kernel_rfl) (by simp) ?_
                    refine AllReady.cons rfl (fun K hK => ?_) ?_
                    · go_simp
                      refine hK _ _ ?_
                      clear hK K
                      refine wpAny_ready (rs := [5]) (by kernel_rfl) (by simp) ?_
                      refine AllReady.cons rfl (fun K hK => ?_) ?_
                      · go_simp
                        refine hK _ _ ?_
                        clear hK K
                        refine wpAny_done (by kernel_rfl) ?_ _
                        go_wp2_with fail
                        go_meet
                        exact ⟨rfl, p8, n8, cap8, lawE HM7.out HG7.out HOK'.out hg8 hb8⟩
                      exact AllReady.nil
                    exact AllReady.nil
                  exact AllReady.nil
                exact AllReady.nil
              exact AllReady.nil
            exact AllReady.nil
            -- END13
          case rest =>
            obtain ⟨rfl, pb', nb', cb', hLW'⟩ := hcut
            have HLW' := Lib.hid hLW'
            have a0 := cellOf hLW'.a (j := 0) rfl
            have a1 := cellOf hLW'.a (j := 1) rfl
            have b0 := cellOf hLW'.b (j := 0) rfl
            have b1 := cellOf hLW'.b (j := 1) rfl
            clear hLW' HM7 HG7 HN7 hM7 hN7
            go_wp2_with (first
              | (go_at_call 9; refine (equal_any (nxV k hv) p5 pb' n5 nb' cap5 cb' (nxL k hv L) _ (by have := HLW'.out.n12; omega) HLW'.out.ga HLW'.out.gb).mono ?_; rintro e w9 ⟨rfl, hb9⟩; have HL9 := Lib.hid (HLW'.out.below hb9); have e0 := cellOf HL9.out.a (j := 0) rfl; have e1 := cellOf HL9.out.a (j := 1) rfl; clear hb9)
              | (go_at_call 11; refine (valid_true HL9.out.ga HL9.out.ok).mono ?_; rintro e w10 ⟨rfl, hb10⟩; have HL10 := Lib.hid (HL9.out.below hb10); clear hb10))
            go_roundw
            case rel => exact ⟨k + 1, p5, n5, cap5, pb', nb', cb', nxV k hv, nxL k hv L, by omega, by go_num, HL10.out⟩
            case measure => simp [intOf]; omega
    · go_wp2_with fail
      go_ret
      exact ⟨rfl, HLW.out.bl⟩
end Go.Proofs.YtoigjpkdcadlnaaGreatDoor
