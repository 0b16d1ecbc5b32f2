/-
  TopTransferred: store.FromChunks reads a store's chunks back.
-/
import Derived.Test.YtnaglmigkbbljaaGreatDoorSgOSgQ0
import Derived.Test.YtnaglmigkbbljaaGreatDoorMaGSeA
set_option maxHeartbeats 6400000
set_option maxRecDepth 1000000
set_option linter.unusedVariables false
set_option linter.unusedSimpArgs false
namespace Go.Proofs.YtnaglmigkbbljaaGreatDoor
open Go Go.RowKit Go.Shelf
attribute [local go_sem] Oper.semAt_some
def FCRet (L : List Par) (w : World) (e : Ending) (w' : World) : Prop := ∃ v, e = .returned (.tuple #[v, .int .i64 0]) ∧ w'.ownsRow w.heap.size 115 3 v L.length (flat encP L) ∧ Below w.heap.size w w'
def LinesRet (s : ByteArray) (w : World) (e : Ending) (w' : World) : Prop := e = .returned (.func (.func 152) #[] #[.pointer (some ⟨w.heap.size, 0, none⟩)]) ∧ w' = w.alloc (.cells #[.string s] 9)
theorem linesM_ex (s : ByteArray) (w : World) : Calls Tryz.prog 105 #[.string s] w (LinesRet s w) := by
 unfold LinesRet
 go_enter Tryz.func105, Tryz.ntmps105
 go_wp2_with fail
 go_ret
 exact ⟨rfl, rfl⟩
theorem fromChunks_ex (p : Option Addr) (n c : Nat) (L : List Par) (w : World) (hV : VP L) (hn : L.length ≤ 64) (hl : n = (storeL L).length) (hs : StrL w p (storeL L)) (hG : GL w) : Calls Tryz.prog 50 #[.slice p n c] w (FCRet L w) := by
 obtain ⟨i115, hi115, hz0, hz1, hz2⟩ := info_parts Tryz.info115
 have HS := Lib.hid hs
 have HV := Lib.hid hV
 have HPR := Lib.hid (fun x (hx : x ∈ L) W (hb : Below w.heap.size w W) => pair_ex x W (hV.2 x hx) (hG.below hb))
 obtain ⟨m, hm⟩ : ∃ m, m = L.length := ⟨_, rfl⟩
 have hnm : n = (m + 7) / 8 := by rw [hl, storeL_len, hm]
 rw [← hm] at hn
 have HM := Lib.hid hm
 have HNM := Lib.hid hnm
 clear hs hV hG hl hm hnm
 have hn9 : n ≤ 9 := by have := HNM.out; omega
 refine (callsIn_wide (n := 9)).1 ?_
 refine callsIn_of_wp_marks Tryz.func50 rfl trivial ?_ rfl
 simp only [Tryz.ntmps50, List.size_toArray, List.length_cons, List.length_nil, Nat.reduceAdd, Nat.reduceSub, Array.replicate_succ, Array.replicate_zero, List.push_toArray, List.append_toArray, List.nil_append, List.cons_append]
 have hmx : Tryz.prog.follows .mixedOrders = true := by kernel_rfl
 gi_wp2
 obtain ⟨w0, hw0⟩ : ∃ w0, w0 = ((w.alloc (.cells #[.slice none 0 0] 26)).alloc (.cells #[.int .i64 0] 40)).alloc (.cells #[.slice none 0 0] 26) := ⟨_, rfl⟩
 rw [← hw0]
 have hsz0 : w0.heap.size = w.heap.size + 3 := by rw [hw0]; simp
 have HBW0 := Lib.hid (show Below w.heap.size w w0 by rw [hw0]; exact (((Below.refl _ w).alloc (Nat.le_refl _) _).alloc (by simp) _).alloc (by simp; omega) _)
 have HX2 := Lib.hid (show Boxed w0 w.heap.size 26 (.slice none 0 0) by rw [hw0]; exact ((Boxed.new w 26 _).alloc _).alloc _)
 have HX3 := Lib.hid (show Boxed w0 (w.heap.size + 1) 40 (.int .i64 0) by
  rw [hw0]
  have := Boxed.new (w.alloc (.cells #[.slice none 0 0] 26)) 40 (.int .i64 0)
  rw [World.size_alloc] at this
  exact this.alloc _)
 have HX4 := Lib.hid (show Boxed w0 (w.heap.size + 1 + 1) 26 (.slice none 0 0) by
  rw [hw0]
  have := Boxed.new ((w.alloc (.cells #[.slice none 0 0] 26)).alloc (.cells #[.int .i64 0] 40)) 26 (.slice none 0 0)
  rwa [World.size_alloc, World.size_alloc] at this)
 have hsw : w.heap.size < w0.heap.size ∧ w.heap.size + 1 < w0.heap.size ∧ w.heap.size + 1 + 1 < w0.heap.size := by omega
 clear hw0 hsz0
 refine wpIn_loop (fun a' W => ∃ (k : Nat) (ds : List Deferred) (v : Value) (u1 u5 u6 u7 u8 u9 u10 u14 u15 u16 u17 u18 u19 u20 u21 u22 u23 u24 u25 u26 u27 u28 u29 u30 u31 u32 u33 u34 u35 u36 u37 u38 u39 : Value), k ≤ n ∧ Boxed W (w.heap.size + 1 + 1) 26 v ∧ W.ownsRow w0.heap.size 115 3 v (min (k * 8) m) (flat encP (L.take (k * 8))) ∧ Below w.heap.size w W ∧ OldI w0 (w.heap.size + 1 + 1) (fun _ => False) W ∧ Marks w0.heap.size W.heap.size ds W ∧ a' = { tmps := #[.slice p n c, u1, .pointer (some ⟨w.heap.size, 0, none⟩), .pointer (some ⟨w.heap.size + 1, 0, none⟩), .pointer (some ⟨w.heap.size + 1 + 1, 0, none⟩), u5, u6, u7, u8, u9, u10, .slice p n c, .int .i64 n, .int .i64 k, u14, u15, u16, u17, u18, u19, u20, u21, u22, u23, u24, u25, u26, u27, u28, u29, u30, u31, u32, u33, u34, u35, u36, u37, u38, u39], defers := ds }) (fun a' _ => n - (intOf (a'.tmps.getD 13 undef)).toNat) ?start ?round
 case start => exact ⟨0, [], .slice none 0 0, undef, undef, undef, undef, undef, undef, undef, undef, undef, undef, undef, undef, undef, undef, undef, undef, undef, undef, undef, undef, undef, undef, undef, undef, undef, undef, undef, undef, undef, undef, undef, undef, undef, Nat.zero_le _, HX4.out, by rw [Nat.zero_mul, Nat.zero_min]; exact World.ownsRow_nil _ _ _ _, HBW0.out, ⟨Nat.le_refl _, fun _ _ _ _ => rfl⟩, ⟨List.Pairwise.nil, fun d hd => by cases hd⟩, rfl⟩
 case round =>
  rintro a' W ⟨k, ds, v, u1, u5, u6, u7, u8, u9, u10, u14, u15, u16, u17, u18, u19, u20, u21, u22, u23, u24, u25, u26, u27, u28, u29, u30, u31, u32, u33, u34, u35, u36, u37, u38, u39, hk, hv, ho, hb, hold, hm, rfl⟩
  have HV1 := Lib.hid hv
  have HO1 := Lib.hid ho
  have HB1 := Lib.hid hb
  have HOL := Lib.hid hold
  have HMK := Lib.hid hm
  have hszW := hold.1
  clear hv ho hb hold hm
  by_cases hkn : k < n
  ·have hk8 : k * 8 < m := by have := HNM.out; omega
   have hsk : (storeL L)[k]? = some (chunkP ((L.drop (k * 8)).take 8)) := by
    unfold storeL
    rw [List.getElem?_map, partsP_at _ _ _ (Nat.le_refl _) (by have := HM.out; omega)]
    rfl
   obtain ⟨part, hpart⟩ : ∃ part, part = (L.drop (k * 8)).take 8 := ⟨_, rfl⟩
   rw [← hpart] at hsk
   have hpl : part.length = min 8 (m - k * 8) := by rw [hpart, List.length_take, List.length_drop, HM.out]
   have hpm : ∀ x ∈ part, x ∈ L := fun x hx => by rw [hpart] at hx; exact List.mem_of_mem_drop (List.mem_of_mem_take hx)
   have hpi : ∀ i, i < part.length → part[i]? = L[k * 8 + i]? := fun i hi => by rw [hpart, List.getElem?_take, if_pos (by omega), List.getElem?_drop]
   have HPI := Lib.hid hpi
   have HPL := Lib.hid hpl
   obtain ⟨g, off, rfl, hg, hcs⟩ := HS.out.at (List.getElem?_eq_some_iff.mp hsk).1
   have d0 := (HB1.out.cell (p := ⟨g, off + k, none⟩) hg).trans (hcs k (List.getElem?_eq_some_iff.mp hsk).1)
   rw [(List.getElem?_eq_some_iff.mp hsk).2] at d0
   have hlines : ∀ x ∈ part.map lineP, ∃ y, x = y ++ nlS ∧ (10 : UInt8) ∉ y.data.toList := fun x hx => by
    obtain ⟨z, hz, rfl⟩ := List.mem_map.mp hx
    exact ⟨bodyP z, line_body z, body_no (HV.out.2 z (hpm z hz))⟩
   have hcsz : (catB (part.map lineP)).size ≤ 1048576 := by
    have h1 := catB_size 340 (part.map lineP) (fun y hy => by
     obtain ⟨z, hz, rfl⟩ := List.mem_map.mp hy
     exact line_size (HV.out.2 z (hpm z hz)))
    rw [List.length_map] at h1
    have : part.length ≤ 8 := by omega
    have := Nat.mul_le_mul_right 340 this
    omega
   have hpos : 0 < (catB (part.map lineP)).size := by
    have h0 : 0 < part.length := by omega
    cases hp : part with
    | nil => rw [hp] at h0; simp at h0
    | cons x t =>
     rw [List.map_cons, catB_cons, ByteArray.size_append, line_body, ByteArray.size_append]
     have : nlS.size = 1 := rfl
     omega
   have hse := empty_no hpos
   have hcc : chunkP part = catB (part.map lineP) := rfl
   rw [hcc] at d0
   obtain ⟨s, hs⟩ : ∃ s, s = catB (part.map lineP) := ⟨_, rfl⟩
   rw [← hs] at d0 hse hcsz
   have HSS := Lib.hid hs
   have e0 : (0 : Int) ≤ (k : Int) := by omega
   have e1 : (k : Int) < (n : Int) := by omega
   clear hcs hsk hcc hpart hpi hpl hpos hs
   gi_wp2_with (refine ⟨trivial, ?_⟩; gi_at_call 105; refine (callsIn_wide.2 (linesM_ex s W)).mono ?_; rintro e w2 ⟨rfl, hw2⟩; have HW2e := Lib.hid hw2; clear hw2)
   have hw2 := HW2e.out
   obtain ⟨b, hb⟩ : ∃ b, b = W.heap.size := ⟨_, rfl⟩
   have hb2 : Blk w2 b 9 [.string s] := by rw [hw2, hb]; exact heap_alloc_new W _
   have hsz2 : w2.heap.size = b + 1 := by rw [hw2, hb]; simp
   have hb12 : Below W.heap.size W w2 := by rw [hw2]; exact (Below.refl _ W).alloc (Nat.le_refl _) _
   have hbB : w0.heap.size ≤ b := by rw [hb]; exact HOL.out.1
   rw [HSS.out] at hb2
   have hseq := lines_seq 8 (by decide) b (part.map lineP) hlines (by rw [← HSS.out]; exact hcsz) w2 hb2
   have hbN : b < w2.heap.size := by omega
   have hstart : HoldJ w w0 w2.heap.size (w.heap.size + 1 + 1) b 26 115 3 ds (fun i => k * 8 + i) (fun i => flat encP (L.take (k * 8 + i))) 0 w2 := by
    refine ⟨v, (hb12.block _ HV1.out.lt).trans HV1.out, ?_, HB1.out.trans (hb12.mono HB1.out.size), Nat.le_refl _, ?_, ⟨Nat.le_trans HOL.out.1 hb12.size, fun c hc hnc hcB => (hb12.block c (by omega)).trans (HOL.out.2 c hc hnc hcB)⟩, ?_⟩
    ·have := own_below HO1.out hb12
     rw [Nat.min_eq_left (by omega)] at this
     exact this
    ·intro e
     rcases HO1.out.2 with ⟨rfl, _⟩ | ⟨g', cap, cur, rfl, _, hgb, _⟩
     ·simp [Value.ownBlock] at e
     ·simp [Value.ownBlock] at e
      have := (Array.getElem?_eq_some_iff.1 hgb).1
      omega
    ·have := HMK.out
     rw [← hb] at this
     exact this.keep (fun D h1 h2 h3 => (hb12.block D (by omega)).trans h3)
   have hbe : b = W.heap.size := hb
   rw [← hbe]
   clear hw2 HW2e hb2 hsz2 hb12 HV1 HO1 HB1 HOL HMK d0 hbe hb
   refine wpIn_rangeY (n := 9) rfl (by decide) rfl trivial (enters_of Tryz.func152 (by kernel_rfl) rfl) hseq (fun r hr => by rw [hr]; exact hbN) (fun _ => rfl) _ (holdJ_own hbN (by omega) (by omega) hbB) hstart ?A ?assign ?body ?done
   case assign =>
    intro l i W1 K hK
    gi_wp2
    exact hK
   case body =>
    rintro l i W1 hl ⟨v1, hv, ho, hb, hnW, hvb, hold, hm⟩ hi
    dsimp only at ho
    have hil : i < part.length := by rw [List.length_map] at hi; exact hi
    obtain ⟨x, hx⟩ : ∃ x, part[i]? = some x := ⟨_, List.getElem?_eq_getElem hil⟩
    have hxL : L[k * 8 + i]? = some x := by rw [← HPI.out i hil]; exact hx
    have hgd : (Option.map lineP part[i]?).getD ⟨#[]⟩ = lineP x := by rw [hx]; rfl
    rw [hgd]
    have HNX := Lib.hid (show flat encP (L.take (k * 8 + i)) ++ [.string x.k, .string x.v, .int .i64 x.ver] = flat encP (L.take (k * 8 + (i + 1))) by
     have e : L.take (k * 8 + (i + 1)) = L.take (k * 8 + i) ++ [x] := by rw [← Nat.add_assoc, List.take_add_one, hxL]; rfl
     rw [e, flat_append]
     rfl)
    have HPX := Lib.hid (HPR.out x (List.mem_of_getElem? hxL))
    have HV1 := Lib.hid hv
    have HO1 := Lib.hid ho
    have HB1 := Lib.hid hb
    have HOL := Lib.hid hold
    have HMK := Lib.hid hm
    have hq64 : k * 8 + i ≤ 64 := by have := (List.getElem?_eq_some_iff.mp hxL).1; have := HM.out; omega
    obtain ⟨pv, cv, rfl, hcv, _⟩ := fl_of_own ho
    have c4 := hv.cell
    have hB4 : w.heap.size + 1 + 1 < W1.heap.size := HV1.out.lt
    obtain ⟨q, hq⟩ : ∃ q, q = k * 8 + i := ⟨_, rfl⟩
    rw [← hq] at c4 hcv hq64 HO1 HV1 hvb HNX
    have HQ := Lib.hid hq
    clear hv ho hb hold hm hx hxL hgd hq
    generalize lineP x = ln at HPX ⊢
    generalize hxs : flat encP (L.take q) = xs at HO1 HNX
    have HXS := Lib.hid hxs
    clear hxs
    gi_wp2_with (first
     | (refine ⟨trivial, ?_⟩; gi_at_call 106; refine (CallsIn.inRound l (callsIn_wide.2 (HPX.out W1 HB1.out))).mono ?_; rintro e w5 ⟨rfl, hb5⟩; have HB5 := Lib.hid hb5; have c6 := cell_new (x := .cells #[.string x.k, .string x.v, .int .i64 x.ver] 115) ((hb5.cell (p := ⟨w.heap.size + 1 + 1, 0, none⟩) hB4).trans c4); have hsz5 := hb5.size; clear hb5)
     | (gi_at_builtin; go_loud (refine wpListIn_append_own_at _ rfl _ _ 26 rfl w0.heap.size 115 i115 (.agg #[.string ⟨#[]⟩, .string ⟨#[]⟩, .int .i64 0]) 3 40 Tryz.underlying26 hi115 hz0 hz1 hz2 rfl (by decide) (.slice pv q cv) q xs rfl (((own_below HO1.out HB5.out).alloc _).alloc _) ⟨(w5.alloc (.cells #[.string x.k, .string x.v, .int .i64 x.ver] 115)).heap.size, 0, none⟩ 1 1 [.string x.k, .string x.v, .int .i64 x.ver] (by simp [go_sem]) rfl (World.news_of_block (cs := #[.string x.k, .string x.v, .int .i64 x.ver]) (t := 115) (fr := (0, 0)) (heap_alloc_new _ _)) (by simp [Value.oneCell']) (by unfold maxLen; omega) (by omega) (by simp; omega) ?_); intro v' w7 hown7 hgrow7 hat7; go_loud (obtain ⟨g7, c7', rfl⟩ := own_some hown7 (by omega); have hb5' : Boxed w5 (w.heap.size + 1 + 1) 26 (.slice pv q cv) := (HB5.out.block _ HV1.out.lt).trans HV1.out; have hb6' := (hb5'.alloc (.cells #[.string x.k, .string x.v, .int .i64 x.ver] 115)).alloc (.cells #[.string x.k, .string x.v, .int .i64 x.ver] 115); have HV7 := Lib.hid (hb6'.kept hgrow7 (hb6'.not_row (by decide) (((own_below HO1.out HB5.out).alloc _).alloc _))); clear hb5' hb6'; have HOW7 := Lib.hid hown7; have HGR7 := Lib.hid hgrow7; have HAT7 := Lib.hid hat7; clear hown7 hgrow7 hat7; have cc7 := HV7.out.cell; have ff7 := HV7.out.frozen)))
    have hown : w7.ownsRow w0.heap.size 115 3 (.slice (some ⟨g7, 0, none⟩) (q + 1) c7') (k * 8 + (i + 1)) (flat encP (L.take (k * 8 + (i + 1)))) := by
     have h := HOW7.out
     rw [HNX.out] at h
     have e : k * 8 + (i + 1) = q + 1 := by have := HQ.out; omega
     rw [e] at h ⊢
     exact h
    have hpre : W1.ownsRow w0.heap.size 115 3 (.slice pv q cv) (k * 8 + i) (flat encP (L.take (k * 8 + i))) := by
     have h := HO1.out
     rw [← HXS.out] at h
     have e : k * 8 + i = q := by have := HQ.out; omega
     rw [e]
     exact h
    exact holdJ_step (ds := ds) (k := fun i => k * 8 + i) (f := fun i => flat encP (L.take (k * 8 + i))) (i := i) hbN (by omega) (by omega) hbB (by omega) (by decide) HV1.out hpre HB1.out hnW hvb HOL.out HMK.out ((show Below W1.heap.size W1 w5 from HB5.out).alloc HB5.out.size (.cells #[.string x.k, .string x.v, .int .i64 x.ver] 115)) hown HGR7.out HAT7.out
   case done =>
    rintro D W2 hD ⟨v2, hv, ho, hb, hnW, hvb, hold, hm⟩ hK
    dsimp only at ho
    have hown : W2.ownsRow w0.heap.size 115 3 v2 (min ((k + 1) * 8) m) (flat encP (L.take ((k + 1) * 8))) := by
     have e1 : k * 8 + (part.map lineP).length = min ((k + 1) * 8) m := by rw [List.length_map, HPL.out]; omega
     have e2 : L.take (k * 8 + (part.map lineP).length) = L.take ((k + 1) * 8) := by
      rw [e1]
      by_cases h8 : (k + 1) * 8 ≤ m
      ·rw [Nat.min_eq_left h8]
      ·rw [Nat.min_eq_right (by omega), List.take_of_length_le (by have := HM.out; omega), List.take_of_length_le (by have := HM.out; omega)]
     rw [← e1, ← e2]
     exact ho
    have hmk : Marks w0.heap.size W2.heap.size ({ target := .collected D, args := #[] } :: ds) W2 := by
     refine ⟨List.pairwise_cons.mpr ⟨fun d hd => ?_, hm.1⟩, fun d hd => ?_⟩
     ·obtain ⟨D', q1, q2, q3, _⟩ := hm.2 d hd
      rw [q1]
      intro e
      injection e with e
      omega
     ·rcases List.mem_cons.mp hd with rfl | hd
      ·exact ⟨D, rfl, by omega, (Array.getElem?_eq_some_iff.1 hK).1, hK⟩
      ·obtain ⟨D', q1, q2, q3, q4⟩ := hm.2 d hd
       exact ⟨D', q1, q2, by omega, q4⟩
    have HV1 := Lib.hid hv
    have HO1 := Lib.hid hown
    have HB1 := Lib.hid hb
    have HOL := Lib.hid hold
    have HMK := Lib.hid hmk
    clear hv ho hb hold hm hown hmk
    gi_wp2
    refine ⟨⟨k + 1, { target := .collected D, args := #[] } :: ds, v2, _, _, _, _, _, _, _, _, _, _, _, _, _, _, _, _, _, _, _, _, _, _, _, _, _, _, _, _, _, _, _, _, _, hkn, HV1.out, HO1.out, HB1.out, HOL.out, HMK.out, rfl⟩, by simp [intOf]; omega⟩
  ·have hkk : k = n := by omega
   subst hkk
   have e1 : ¬ ((k : Int) < (k : Int)) := by omega
   have ho := HO1.out
   have hmin : min (k * 8) m = m := by have := HNM.out; omega
   have htk : L.take (k * 8) = L := List.take_of_length_le (by have := HNM.out; have := HM.out; omega)
   rw [hmin, htk] at ho
   obtain ⟨pv, cv, rfl, _, hFL⟩ := fl_of_own ho
   clear HO1
   have HO1 := Lib.hid ho
   have HC := Lib.hid (validP_ex pv m cv L W HM.out hn HV.out hFL)
   have HY2 := Lib.hid (show Blk W w.heap.size 26 [.slice none 0 0] from (HOL.out.2 w.heap.size hsw.1 (fun h => h) (by omega)).trans HX2.out)
   have HY3 := Lib.hid (show Blk W (w.heap.size + 1) 40 [.int .i64 0] from (HOL.out.2 (w.heap.size + 1) hsw.2.1 (fun h => h) (by omega)).trans HX3.out)
   have cB := HV1.out.cell
   clear ho hmin htk hFL
   gi_wp2_with (refine ⟨trivial, ?_⟩; gi_at_call 87; refine (callsIn_wide.2 HC.out).mono ?_; rintro e w3 ⟨rfl, hb3⟩; have HB3 := Lib.hid hb3; have HZ2 := Lib.hid (show Blk w3 w.heap.size 26 [.slice none 0 0] from (hb3.block _ (by omega)).trans HY2.out); have HZ3 := Lib.hid (show Blk w3 (w.heap.size + 1) 40 [.int .i64 0] from (hb3.block _ (by omega)).trans HY3.out); have c2 := cellOf (v := .slice none 0 0) HZ2.out (j := 0) rfl; have c3 := cellOf (v := .int .i64 0) HZ3.out (j := 0) rfl; have f2 := HZ2.out.frozen 0; have f3 := HZ3.out.frozen 0; have cB3 := (hb3.cell (p := ⟨w.heap.size + 1 + 1, 0, none⟩) HV1.out.lt).trans cB; clear hb3)
   obtain ⟨W4, hW4⟩ : ∃ W4, W4 = (w3.setCell ⟨w.heap.size, 0, none⟩ (.slice pv m cv)).setCell ⟨w.heap.size + 1, 0, none⟩ (.int .i64 0) := ⟨_, rfl⟩
   have hsz4 : W4.heap.size = w3.heap.size := by rw [hW4]; simp [World.setCell]
   have z2 : Blk W4 w.heap.size 26 [.slice pv m cv] := by rw [hW4]; exact (HZ2.out.set 0 (.slice pv m cv)).other (by omega)
   have z3 : Blk W4 (w.heap.size + 1) 40 [.int .i64 0] := by rw [hW4]; exact (HZ3.out.other (by omega)).set 0 (.int .i64 0)
   have zo : W4.ownsRow w0.heap.size 115 3 (.slice pv m cv) m (flat encP L) := by
    rw [hW4]
    exact own_set (own_set (own_below HO1.out HB3.out) (p := ⟨w.heap.size, 0, none⟩) hsw.1 (.slice pv m cv)) (p := ⟨w.heap.size + 1, 0, none⟩) hsw.2.1 (.int .i64 0)
   have zb : Below w.heap.size w W4 := by
    rw [hW4]
    exact below_set (below_set (HB1.out.trans (HB3.out.mono HB1.out.size)) (p := ⟨w.heap.size, 0, none⟩) (Nat.le_refl _) (.slice pv m cv)) (p := ⟨w.heap.size + 1, 0, none⟩) (Nat.le_succ _) (.int .i64 0)
   have zm : Marks w0.heap.size W.heap.size ds W4 := HMK.out.keep (fun D h1 h2 h3 => by
    have e3 := (HB3.out.block D h2).trans h3
    rw [hW4]
    exact (KeepsOthers.setCell (w3.setCell ⟨w.heap.size, 0, none⟩ (.slice pv m cv)) ⟨w.heap.size + 1, 0, none⟩ (.int .i64 0)).same D _ ((KeepsOthers.setCell w3 ⟨w.heap.size, 0, none⟩ (.slice pv m cv)).same D _ e3 rfl) rfl)
   rw [← hW4]
   refine leaves_marks (lo := w0.heap.size) (hi := W.heap.size) ds W4 zm (fun W5 q1 q2 q3 q4 q5 q6 => ?_)
   refine ⟨_, results_two rfl _ _ ⟨w.heap.size, 0, none⟩ ⟨w.heap.size + 1, 0, none⟩ _ _ rfl rfl (cellOf (v := .slice pv m cv) (q6 _ _ z2 rfl) (j := 0) rfl) (cellOf (v := .int .i64 0) (q6 _ _ z3 rfl) (j := 0) rfl) Tryz.isAgg26 Tryz.isAgg40, .slice pv m cv, rfl, ?_, ?_⟩
   ·rw [← HM.out]
    refine own_mono (N := w0.heap.size) ⟨zo.1, ?_⟩ (by omega)
    rcases zo.2 with h0 | ⟨g, cap, cur, h1, h2, h3, h4⟩
    ·exact .inl h0
    ·exact .inr ⟨g, cap, cur, h1, h2, q6 g _ h3 rfl, h4⟩
   ·exact ⟨q1.trans zb.os, q2.trans zb.tape, q3.trans zb.output, by rw [q4]; exact zb.size, fun b hb => (q5 b (by omega)).trans (zb.block b hb)⟩
end Go.Proofs.YtnaglmigkbbljaaGreatDoor
/-
  TopTransferred: session.Restore gives back the machine whose chunks it is handed.
-/
namespace Go.Proofs.YtnaglmigkbbljaaGreatDoor
open Go Go.RowKit Go.Shelf
theorem strL_tail {W : World} {g o : Nat} {a : ByteArray} {l : List ByteArray} (h : StrL W (some ⟨g, o, none⟩) (a :: l)) : StrL W (some ⟨g, o + 1, none⟩) l := by
 by_cases h0 : l = []
 ·subst h0; exact .inl rfl
 ·obtain ⟨b, off, e, hb, hc⟩ := StrL.at h (j := 0) (by simp)
  injection e with e
  injection e with e1 e2
  subst e1; subst e2
  refine .inr ⟨g, o + 1, rfl, hb, fun i hi => ?_⟩
  have hi' : i < l.length := by rw [strV_len] at hi; exact hi
  have := hc (i + 1) (by simp; omega)
  rw [strV_at, show o + 1 + i = o + (i + 1) by omega, this]
  rfl
theorem strL_cells {W : World} {g o : Nat} {l : List ByteArray} (h : StrL W (some ⟨g, o, none⟩) l) : ∀ j, j < l.length → W.cell? ⟨g, o + j, none⟩ = some (.string (l.getD j ByteArray.empty)) := fun j hj => by
 obtain ⟨b, off, e, hb, hc⟩ := StrL.at h hj
 injection e with e
 injection e with e1 e2
 subst e1; subst e2
 rw [hc j hj, List.getD_eq_getElem?_getD, List.getElem?_eq_getElem hj]
 rfl
theorem equal_strs (p : Option Addr) (n c g off m d : Nat) (l : List ByteArray) (w : World) (hn : n = l.length) (hm : m = l.length) (h0 : 0 < m) (h10 : m ≤ 10) (h1 : StrL w p l) (h2 : StrL w (some ⟨g, off, none⟩) l) :
  Calls Tryz.prog 51 #[.slice p n c, .slice (some ⟨g, off, none⟩) m d] w (fun e w' => e = .returned (.bool true) ∧ Below w.heap.size w w') := by
 obtain ⟨b, o, rfl, hb, _⟩ := StrL.at h1 (j := 0) (by omega)
 have := Tryz.slices_Equal_string b o n c g off m d l l w (by omega) (by omega) (by omega) (by omega) (strL_cells h1) (strL_cells h2)
 refine this.mono ?_
 rintro e w' ⟨rfl, q, rfl⟩
 refine ⟨?_, below_drewN (Below.refl _ w) q⟩
 rw [hn, ← hm, hm]
 simp
def RestRet (L : List Par) (S : List Ses) (w : World) (e : Ending) (w' : World) : Prop := ∃ pv sv, e = .returned (.tuple #[.agg #[pv, sv], .int .i64 0]) ∧ PrV w' pv L ∧ SeV w' sv S ∧ Below w.heap.size w w'
theorem restore_ex (g off n c : Nat) (L : List Par) (S : List Ses) (w : World) (hV : VP L) (hVS : VS S) (hL : L.length ≤ 64) (hn : n = (chunksL S L).length) (hnc : n ≤ c) (hs : StrL w (some ⟨g, off, none⟩) (chunksL S L)) (hG : GL w) :
  Calls Tryz.prog 19 #[.slice (some ⟨g, off, none⟩) n c] w (RestRet L S w) := by
 obtain ⟨m, hm⟩ : ∃ m, m = (storeL L).length := ⟨_, rfl⟩
 have hnm : n = m + 1 := by rw [hn, hm]; rfl
 have hm9 : m ≤ 9 := by rw [hm, storeL_len]; omega
 obtain ⟨_, _, e, hg, hc0⟩ := StrL.at hs (j := 0) (by unfold chunksL; simp)
 injection e with e
 injection e with e1 e2
 subst e1; subst e2
 have d0 := hc0 0 (by unfold chunksL; simp)
 have e00 : (chunksL S L)[0]'(by unfold chunksL; simp) = headB S := rfl
 rw [e00, Nat.add_zero] at d0
 have HSE := Lib.hid (fun W (hb : Below w.heap.size w W) => sessions_ex S W hVS (hG.below hb))
 have HFC := Lib.hid (fun p c' W (hb : Below w.heap.size w W) (h : StrL w p (storeL L)) => fromChunks_ex p m c' L W hV hL hm (h.below hb) (hG.below hb))
 have HT := Lib.hid (strL_tail hs)
 have HT0 := Lib.hid (fun (h : c = 1) => show StrL w (some ⟨g, off, none⟩) (storeL L) from .inl (by have h0 : storeL L = [] := List.eq_nil_of_length_eq_zero (by omega); rw [h0]; rfl))
 have HCH := Lib.hid (fun pv sv W (hb : Below w.heap.size w W) (hP : PrV W pv L) (hS : SeV W sv S) => chunks_ex pv sv L S W hP hS hV hVS hL (hG.below hb))
 have HS := Lib.hid hs
 have HN := Lib.hid hn
 have hn0 : ¬ ((n : Int) = 0) := by omega
 have hn1 : 0 < n := by omega
 have hn11 : 1 ≤ n := by omega
 have hc1 : n ≤ 10 := by omega
 have e1 : n - 1 = m := by omega
 clear hs hV hVS hL hn hG hm hc0 hnm hm9
 go_enter Tryz.func19, Tryz.ntmps19
 go_wp2_with (first
  | (go_at_call 49; (with_reducible refine (HSE.out _ ((Below.refl _ w).alloc (Nat.le_refl _) _)).mono ?_); go_loud (rintro e w1 ⟨v1, rfl, ho1, hb1⟩; obtain ⟨p1, q1, rfl, hq1, _⟩ := fl_of_own ho1; rw [World.size_alloc] at ho1; have HO1 := Lib.hid ho1; have HB1 := Lib.hid (((Below.refl _ w).alloc (Nat.le_refl _) _).trans (hb1.mono (by simp))); have hsz1 : w.heap.size + 1 ≤ w1.heap.size := (by have h := hb1.size; rw [World.size_alloc] at h; exact h); have HR1 := Lib.hid ((hb1.block w.heap.size (by simp)).trans (heap_alloc_new w _)); clear ho1 hb1))
  | (go_at_call 50; (first | (with_reducible refine (HFC.out (some ⟨g, off + 1, none⟩) (c - 1) _ HB1.out HT.out).mono ?_) | (with_reducible refine (HFC.out (some ⟨g, off, none⟩) 0 _ HB1.out (HT0.out (by omega))).mono ?_)); go_loud (rintro e w2 ⟨v2, rfl, ho2, hb2⟩; obtain ⟨p2, q2, rfl, hq2, _⟩ := fl_of_own ho2; have HO2 := Lib.hid ho2; have HOS := Lib.hid (own_below HO1.out hb2); have HB2 := Lib.hid (HB1.out.trans (hb2.mono HB1.out.size)); have hsz2 := hb2.size; have HR2 := Lib.hid ((hb2.block w.heap.size (by omega)).trans HR1.out); have hn3 : w.heap.size < w2.heap.size := (by omega); clear ho2 hb2))
  | (go_at_call 8; (with_reducible refine (HCH.out _ _ _ (HB2.out.alloc HB2.out.size _) ((prv_of_own HO2.out).below ((Below.refl _ w2).alloc (Nat.le_refl _) _)) ((sev_of_own HOS.out).below ((Below.refl _ w2).alloc (Nat.le_refl _) _))).mono ?_); go_loud (rintro e w3 ⟨v3, rfl, ho3, hb3⟩; obtain ⟨p3, q3, rfl, hq3, hs3⟩ := strs_slice ho3; have HS3 := Lib.hid hs3; have HB3 := Lib.hid hb3; clear ho3 hb3))
  | (go_at_call 51; (with_reducible refine (equal_strs p3 (chunksL S L).length q3 g off n _ (chunksL S L) w3 rfl HN.out hn1 hc1 HS3.out (HS.out.below (HB2.out.trans ((((Below.refl _ w2).alloc (Nat.le_refl _) _).trans (HB3.out.mono (by simp))).mono HB2.out.size)))).mono ?_); go_loud (rintro e w4 ⟨rfl, hb4⟩; have hrow : Blk w4 w2.heap.size 29 [.slice p2 L.length q2, .slice p1 S.length q1] := (hb4.block _ (by have := HB3.out.size; simp at this; omega)).trans ((HB3.out.block _ (by simp)).trans (heap_alloc_new w2 _)); have hres : Blk w4 w.heap.size 29 [.slice none 0 0, .slice none 0 0] := (hb4.block _ (by have := HB3.out.size; simp at this; omega)).trans ((HB3.out.block _ (by simp; omega)).trans (((Below.refl w2.heap.size w2).alloc (Nat.le_refl _) _).block _ hn3 |>.trans HR2.out)); have k1 := cellOf (v := .slice p2 L.length q2) hrow (j := 0) rfl; have k2 := cellOf (v := .slice p1 S.length q1) hrow (j := 1) rfl; have k3 := cellOf (v := .slice none 0 0) hres (j := 0) rfl; have k4 := cellOf (v := .slice none 0 0) hres (j := 1) rfl; have f3 := hres.frozen 0; have f4 := hres.frozen 1; have HRES := Lib.hid hres; have HB4 := Lib.hid hb4; clear hb4 hrow hres)))
 all_goals
  have hB : Below w.heap.size w w4 := HB2.out.trans ((((Below.refl _ w2).alloc (Nat.le_refl _) _).trans (HB3.out.mono (by simp))).mono HB2.out.size |>.trans (HB4.out.mono (by have := HB3.out.size; simp at this; omega)))
  have hlt : w.heap.size < w1.heap.size := by omega
  have zo2 := own_set (own_set (own_below (own_below (HO2.out.alloc _) HB3.out) HB4.out) (p := ⟨w.heap.size, 0, none⟩) hlt (.slice p2 L.length q2)) (p := ⟨w.heap.size, 1, none⟩) hlt (.slice p1 S.length q1)
  have zo1 := own_set (own_set (own_below (own_below (HOS.out.alloc _) HB3.out) HB4.out) (p := ⟨w.heap.size, 0, none⟩) (Nat.lt_succ_self _) (.slice p2 L.length q2)) (p := ⟨w.heap.size, 1, none⟩) (Nat.lt_succ_self _) (.slice p1 S.length q1)
  have zr : Blk ((w4.setCell ⟨w.heap.size, 0, none⟩ (.slice p2 L.length q2)).setCell ⟨w.heap.size, 1, none⟩ (.slice p1 S.length q1)) w.heap.size 29 [.slice p2 L.length q2, .slice p1 S.length q1] := (HRES.out.set 0 _).set 1 _
  refine bodyPost_ret (results_row_tmp rfl _ _ w.heap.size 29 _ (0, 0) _ rfl zr Tryz.underlying29 rfl Tryz.info29) rfl ?_
  exact ⟨_, _, rfl, prv_of_own zo2, sev_of_own zo1, below_set (below_set hB (p := ⟨w.heap.size, 0, none⟩) (Nat.le_refl _) _) (p := ⟨w.heap.size, 1, none⟩) (Nat.le_refl _) _⟩
end Go.Proofs.YtnaglmigkbbljaaGreatDoor
/-
  TopTransferred: transfer.valid, transfer.Put, exactly.
-/
namespace Go.Proofs.YtnaglmigkbbljaaGreatDoor
open Go Go.RowKit
def setR {α : Type} : List α → Nat → List α → List α
 | l, _, [] => l
 | l, i, x :: xs => setR (l.set i x) (i + 1) xs
theorem setR_len {α : Type} : ∀ (xs : List α) (l : List α) (i : Nat), (setR l i xs).length = l.length
 | [], _, _ => rfl
 | x :: xs, l, i => by rw [setR, setR_len xs, List.length_set]
theorem setR_snoc {α : Type} : ∀ (xs : List α) (l : List α) (i : Nat) (x : α), setR l i (xs ++ [x]) = (setR l i xs).set (i + xs.length) x
 | [], l, i, x => rfl
 | y :: xs, l, i, x => by
  rw [List.cons_append, setR, setR_snoc xs, setR, List.length_cons]
  congr 1
  omega
theorem setR_get {α : Type} : ∀ (xs : List α) (l : List α) (i j : Nat), i + xs.length ≤ l.length → (setR l i xs)[j]? = if i ≤ j ∧ j < i + xs.length then xs[j - i]? else l[j]?
 | [], l, i, j, _ => by
  rw [setR, if_neg]
  simp only [List.length_nil]
  omega
 | x :: xs, l, i, j, h => by
  simp only [List.length_cons] at h
  rw [setR, setR_get xs _ _ _ (by rw [List.length_set]; omega)]
  simp only [List.length_cons]
  by_cases h1 : i + 1 ≤ j ∧ j < i + 1 + xs.length
  ·rw [if_pos h1, if_pos (by omega), show j - i = (j - (i + 1)) + 1 by omega, List.getElem?_cons_succ]
  ·rw [if_neg h1]
   by_cases h2 : j = i
   ·subst h2
    rw [if_pos (by omega), List.getElem?_set_self (by omega), Nat.sub_self]
    rfl
   ·rw [if_neg (by omega), List.getElem?_set_ne (by omega)]
theorem valid_ex (root : ByteArray) (n : Nat) (cp : Option Addr) (cc : Nat) (hp : Option Addr) (hc : Nat) (w : World) (hn : n ≤ 400) : Calls Tryz.prog 39 #[fetV root n cp cc hp hc] w (IsB true w) := by
 have a0 : (0 : Int) ≤ (n : Int) := by omega
 have a1 : (n : Int) ≤ 400 := by omega
 have a2 : ((n : Int) == (n : Int)) = true := by simp
 unfold fetV
 go_enter Tryz.func39, Tryz.ntmps39
 go_upto_region 1 with fail
 have r1 := heap_alloc_new w (.cells #[.string root, .int .i64 n, .slice cp n cc, .slice hp n hc] 39)
 have hb1 := (Below.refl _ w).alloc (Nat.le_refl _) (.cells #[.string root, .int .i64 n, .slice cp n cc, .slice hp n hc] 39)
 generalize w.alloc (.cells #[.string root, .int .i64 n, .slice cp n cc, .slice hp n hc] 39) = w1 at r1 hb1 ⊢
 have c0 := cellOf r1 (j := 0) rfl; have c1 := cellOf r1 (j := 1) rfl; have c2 := cellOf r1 (j := 2) rfl; have c3 := cellOf r1 (j := 3) rfl
 clear r1
 go_wp2_with fail
 go_ret
 exact ⟨rfl, hb1⟩
structure PW (w : World) (f0 f1 f2 f3 : Value) (W : World) : Prop where
 arg : Blk W w.heap.size 39 [f0, f1, f2, f3]
 res : Blk W (w.heap.size + 1) 39 [.string ⟨#[]⟩, .int .i64 0, .slice none 0 0, .slice none 0 0]
 bl : Below w.heap.size w W
theorem PW.below {w W W' : World} {f0 f1 f2 f3 : Value} (h : PW w f0 f1 f2 f3 W) (hb : Below W.heap.size W W') : PW w f0 f1 f2 f3 W' := ⟨h.arg.below hb, h.res.below hb, h.bl.trans (hb.mono h.bl.size)⟩
theorem PW.first (w : World) (f0 f1 f2 f3 : Value) : PW w f0 f1 f2 f3 ((w.alloc (.cells #[f0, f1, f2, f3] 39)).alloc (.cells #[.string ⟨#[]⟩, .int .i64 0, .slice none 0 0, .slice none 0 0] 39)) := by
 have h1 := heap_alloc_new w (.cells #[f0, f1, f2, f3] 39)
 have h2 := heap_alloc_new (w.alloc (.cells #[f0, f1, f2, f3] 39)) (.cells #[.string ⟨#[]⟩, .int .i64 0, .slice none 0 0, .slice none 0 0] 39)
 rw [World.size_alloc] at h2
 have b1 := (Below.refl _ w).alloc (Nat.le_refl _) (.cells #[f0, f1, f2, f3] 39)
 have b2 := (Below.refl _ (w.alloc (.cells #[f0, f1, f2, f3] 39))).alloc (Nat.le_refl _) (.cells #[.string ⟨#[]⟩, .int .i64 0, .slice none 0 0, .slice none 0 0] 39)
 exact ⟨(b2.block _ (by simp)).trans h1, h2, b1.trans (b2.mono b1.size)⟩
theorem PW.arg4 {w W : World} {f0 f1 f2 f3 : Value} (h : PW w f0 f1 f2 f3 W) : W.cell? ⟨w.heap.size, 0, none⟩ = some f0 ∧ W.cell? ⟨w.heap.size, 1, none⟩ = some f1 ∧ W.cell? ⟨w.heap.size, 2, none⟩ = some f2 ∧ W.cell? ⟨w.heap.size, 3, none⟩ = some f3 :=
 ⟨cellOf h.arg rfl, cellOf h.arg rfl, cellOf h.arg rfl, cellOf h.arg rfl⟩
theorem two_set {W : World} {b o o' b' j : Nat} {x y v : Value} (h : W.cell? ⟨b, o, none⟩ = some x ∧ W.cell? ⟨b, o', none⟩ = some y) (hne : b ≠ b') : (W.setCell ⟨b', j, none⟩ v).cell? ⟨b, o, none⟩ = some x ∧ (W.setCell ⟨b', j, none⟩ v).cell? ⟨b, o', none⟩ = some y :=
 ⟨(World.cell?_setCell_far W ⟨b', j, none⟩ ⟨b, o, none⟩ v (Ne.symm hne)).trans h.1, (World.cell?_setCell_far W ⟨b', j, none⟩ ⟨b, o', none⟩ v (Ne.symm hne)).trans h.2⟩
theorem own_set2 {w : World} {base e sz n g c : Nat} {xs : List Value} (h : w.ownsRow base e sz (.slice (some ⟨g, 0, none⟩) n c) n xs) {p : Addr} (hp : p.block ≠ g) {u : Value} : (w.setCell p u).ownsRow base e sz (.slice (some ⟨g, 0, none⟩) n c) n xs := by
 refine ⟨h.1, ?_⟩
 rcases h.2 with h0 | ⟨g', cap, cur, h1, h2, h3, h4⟩
 ·exact .inl h0
 ·injection h1 with h1 _ h5
  injection h1 with h1
  injection h1 with h1
  subst h1 h5
  exact .inr ⟨g, c, cur, rfl, h2, (Below.heap_setCell w p u g (by omega)).trans h3, h4⟩
theorem own_setc {w : World} {base e n g c : Nat} {xs : List Value} (h : w.ownsRow base e 1 (.slice (some ⟨g, 0, none⟩) n c) n xs) {j : Nat} (u : Value) : (w.setCell ⟨g, j, none⟩ u).ownsRow base e 1 (.slice (some ⟨g, 0, none⟩) n c) n (xs.set j u) := by
 rcases h.2 with ⟨h0, _⟩ | ⟨g', cap, cur, h1, h2, h3, h4, h5, h6, h7⟩
 ·cases h0
 ·injection h1 with h1 _ h8
  injection h1 with h1
  injection h1 with h1
  subst h1 h8
  refine ⟨by rw [List.length_set]; exact h.1, .inr ⟨g, c, cur.setIfInBounds j u, rfl, h2, ?_, h4, h5, by simpa using h6, ?_⟩⟩
  ·unfold World.setCell
   simp only [Array.getElem?_modify, h3, if_true, Option.map_some]
   rfl
  ·rw [← h7, Array.toList_setIfInBounds, List.take_set]
theorem own_cellj {w : World} {base e n g c : Nat} {xs : List Value} (h : w.ownsRow base e 1 (.slice (some ⟨g, 0, none⟩) n c) n xs) {j : Nat} (hj : j < n) : ∃ x, xs[j]? = some x ∧ w.cell? ⟨g, j, none⟩ = some x ∧ w.frozen? ⟨g, j, none⟩ = false := by
 have hl : j < xs.length := by rw [h.1]; omega
 refine ⟨xs[j], List.getElem?_eq_getElem hl, ?_, ?_⟩
 ·have := World.ownsRow.cells h rfl j _ (List.getElem?_eq_getElem hl)
  have hadd : (⟨g, 0, none⟩ : Addr).add j = ⟨g, j, none⟩ := by unfold Addr.add; split <;> simp_all
  rwa [hadd] at this
 ·rcases h.2 with ⟨h0, _⟩ | ⟨g', cap, cur, h1, h2, h3, h4⟩
  ·cases h0
  ·injection h1 with h1 _ h5
   injection h1 with h1
   injection h1 with h1
   subst h1
   exact frozenOf h3
theorem PW.far {w W : World} {f0 f1 f2 f3 : Value} (h : PW w f0 f1 f2 f3 W) {b j : Nat} {v : Value} (h2 : w.heap.size + 1 < b) : PW w f0 f1 f2 f3 (W.setCell ⟨b, j, none⟩ v) :=
 ⟨h.arg.other (by omega), h.res.other (by omega), below_set h.bl (p := ⟨b, j, none⟩) (by show _ ≤ b; omega) v⟩
theorem own_cap {w : World} {base e n g c : Nat} {xs : List Value} (h : w.ownsRow base e 1 (.slice (some ⟨g, 0, none⟩) n c) n xs) : n ≤ c := by
 rcases h.2 with ⟨h0, _⟩ | ⟨g', cap, cur, h1, h2, h3, h4, _⟩
 ·cases h0
 ·injection h1 with _ _ h5
  omega
structure QW (w : World) (B g6 c6 g7 c7 n : Nat) (f0 f1 f2 f3 f6 f7 : Value) (cs : List ByteArray) (hv : List Bool) (W : World) : Prop where
 out : Blk W B 39 [f0, f1, f6, f7]
 own6 : W.ownsRow (w.heap.size + 2) 9 1 (.slice (some ⟨g6, 0, none⟩) n c6) n (strV cs)
 own7 : W.ownsRow (w.heap.size + 2) 4 1 (.slice (some ⟨g7, 0, none⟩) n c7) n (boolV hv)
 pw : PW w f0 f1 f2 f3 W
theorem QW.below {w W W' : World} {B g6 c6 g7 c7 n : Nat} {f0 f1 f2 f3 f6 f7 : Value} {cs : List ByteArray} {hv : List Bool} (h : QW w B g6 c6 g7 c7 n f0 f1 f2 f3 f6 f7 cs hv W) (hb : Below W.heap.size W W') : QW w B g6 c6 g7 c7 n f0 f1 f2 f3 f6 f7 cs hv W' :=
 ⟨h.out.below hb, own_below h.own6 hb, own_below h.own7 hb, h.pw.below hb⟩
theorem QW.put {w W : World} {B g6 c6 g7 c7 n : Nat} {f0 f1 f2 f3 f6 f7 : Value} {cs : List ByteArray} {hv : List Bool} (h : QW w B g6 c6 g7 c7 n f0 f1 f2 f3 f6 f7 cs hv W) {j : Nat} (s : ByteArray) (h6 : B ≠ g6) (h7 : B ≠ g7) (h67 : g6 ≠ g7) (hw6 : w.heap.size + 1 < g6) (hw7 : w.heap.size + 1 < g7) :
  QW w B g6 c6 g7 c7 n f0 f1 f2 f3 f6 f7 (cs.set j s) (hv.set j true) ((W.setCell ⟨g6, j, none⟩ (.string s)).setCell ⟨g7, j, none⟩ (.bool true)) := by
 refine ⟨(h.out.other h6).other h7, ?_, ?_, (h.pw.far hw6).far hw7⟩
 ·have := own_set2 (own_setc (j := j) h.own6 (.string s)) (p := ⟨g7, j, none⟩) (by show g7 ≠ g6; omega) (u := .bool true)
  unfold strV at *
  rw [List.map_set]
  exact this
 ·have := own_setc (own_set2 h.own7 (p := ⟨g6, j, none⟩) (by show g6 ≠ g7; omega) (u := .string s)) (j := j) (.bool true)
  unfold boolV at *
  rw [List.map_set]
  exact this
def PutRet (b : Bool) (root : ByteArray) (n : Nat) (cs : List ByteArray) (hv : List Bool) (w : World) (e : Ending) (w' : World) : Prop :=
 ∃ v c, e = .returned (.tuple #[v, .int .i64 c]) ∧ Below w.heap.size w w' ∧ (b = false → c = 16 ∧ v = fetV ⟨#[]⟩ 0 none 0 none 0) ∧ (b = true → c = 0 ∧ ∃ g6 cc g7 hc, w.heap.size ≤ g6 ∧ w.heap.size ≤ g7 ∧ v = fetV root n (some ⟨g6, 0, none⟩) cc (some ⟨g7, 0, none⟩) hc ∧ FetL w' n (some ⟨g6, 0, none⟩) cc (some ⟨g7, 0, none⟩) hc cs hv)
theorem put_ex (root : ByteArray) (n : Nat) (cp : Option Addr) (cc : Nat) (hp : Option Addr) (hc : Nat) (cs : List ByteArray) (hv : List Bool) (i : Nat) (p : Option Addr) (m cap : Nat) (l : List ByteArray) (q : Option Addr) (mq cq : Nat) (pf : List ByteArray) (w : World) (hn : n ≤ 400) (hF : FetL w n cp cc hp hc cs hv)
  (hi : i < n) (hl : l.length = m) (h1 : 1 ≤ m) (hm : m ≤ n - i) (hz : SzL 1000000 l) (h : StrL w p l) (hq : pf.length = mq) (hmq : mq ≤ 4000000) (hmc : mq ≤ cq) (hdq : DigL pf) (hp' : StrL w q pf) (hG : GL w) :
  Calls Tryz.prog 12 #[fetV root n cp cc hp hc, .int .i64 i, .slice p m cap, .slice q mq cq] w (PutRet (verifyB root n i l pf) root n (setR cs i l) (setR hv i (List.replicate m true)) w) := by
 have HV := Lib.hid (fun W (hb : Below w.heap.size w W) => verify_ex root n i p m cap l q mq cq pf W (by omega) hi hl h1 hm hz (h.below hb) hq hmq hmc hdq (hp'.below hb) (hG.below hb))
 generalize verifyB root n i l pf = R at HV ⊢
 have HF := Lib.hid hF
 have HL := Lib.hid h
 have HN := Lib.hid hl
 have a0 : ¬ (i : Int) < 0 := by omega
 have a1 : ¬ (i : Int) > (n : Int) := by omega
 have a2 : ((m : Int) == 0) = false := by simp; omega
 have a3 : IntKind.i64.wrap ((n : Int) - (i : Int)) = (n : Int) - (i : Int) := by rw [IntKind.wrap_i64]; omega
 have a4 : ¬ (m : Int) > (n : Int) - (i : Int) := by omega
 have a5 : decide ((i : Int) < 0) = false := by simp
 have a6 : decide ((n : Int) - (i : Int) < (m : Int)) = false := by simp; omega
 have HVA := Lib.hid (fun W => valid_ex root n cp cc hp hc W hn)
 unfold fetV at HVA
 unfold fetV
 clear hF h hz hq hmq hmc hdq hp' hG hl
 go_enter Tryz.func12, Tryz.ntmps12
 go_upto_block 0 with fail
 have HW1 := Lib.hid (PW.first w (.string root) (.int .i64 n) (.slice cp n cc) (.slice hp n hc))
 generalize (w.alloc (.cells #[.string root, .int .i64 n, .slice cp n cc, .slice hp n hc] 39)).alloc (.cells #[.string ⟨#[]⟩, .int .i64 0, .slice none 0 0, .slice none 0 0] 39) = w1 at HW1 ⊢
 obtain ⟨x0, x1, x2, x3⟩ := HW1.out.arg4
 go_upto_region 5 with (go_at_call 39; refine (HVA.out _).mono ?_; rintro e w2 ⟨rfl, hb2⟩; have HW2 := Lib.hid (HW1.out.below hb2); obtain ⟨y0, y1, y2, y3⟩ := HW2.out.arg4; clear hb2)
 clear x0 x1 x2 x3 a0 a1 a2 a3 a4 a5 a6
 cases R with
 | false =>
  go_wp2_with (go_at_call 40; refine (HV.out _ HW2.out.bl).mono ?_; rintro e w3 ⟨rfl, hb3⟩; have HW3 := Lib.hid (HW2.out.below hb3); have z0 := cellOf HW3.out.res (j := 0) rfl; have z1 := cellOf HW3.out.res (j := 1) rfl; have z2 := cellOf HW3.out.res (j := 2) rfl; have z3 := cellOf HW3.out.res (j := 3) rfl; have v0 := frozenOf HW3.out.res (j := 0); have v1 := frozenOf HW3.out.res (j := 1); have v2 := frozenOf HW3.out.res (j := 2); have v3 := frozenOf HW3.out.res (j := 3); clear hb3)
  refine bodyPost_ret (results_row_tmp rfl _ _ (w.heap.size + 1) 39 _ (0, 0) _ rfl (beg_blk HW3.out.res) Tryz.underlying39 rfl Tryz.info39) rfl ?_
  exact ⟨_, 16, rfl, below_set (below_set (below_set (below_set HW3.out.bl (p := ⟨w.heap.size + 1, 0, none⟩) (Nat.le_succ _) _) (p := ⟨w.heap.size + 1, 1, none⟩) (Nat.le_succ _) _) (p := ⟨w.heap.size + 1, 2, none⟩) (Nat.le_succ _) _) (p := ⟨w.heap.size + 1, 3, none⟩) (Nat.le_succ _) _, fun _ => ⟨rfl, rfl⟩, fun h => by cases h⟩
 | true =>
  go_upto_region 7 with (go_at_call 40; refine (HV.out _ HW2.out.bl).mono ?_; rintro e w3 ⟨rfl, hb3⟩; have HW3 := Lib.hid (HW2.out.below hb3); obtain ⟨z0, z1, z2, z3⟩ := HW3.out.arg4; clear hb3)
  clear y0 y1 y2 y3 HV HVA
  go_upto_region 8 with fail
  have hb4 := (Below.refl _ w3).alloc (Nat.le_refl _) (.cells #[.string root, .int .i64 n, .slice cp n cc, .slice hp n hc] 39)
  have HW4 := Lib.hid (HW3.out.below hb4)
  have HB4 := Lib.hid (show Blk (w3.alloc (.cells #[.string root, .int .i64 n, .slice cp n cc, .slice hp n hc] 39)) w3.heap.size 39 [.string root, .int .i64 n, .slice cp n cc, .slice hp n hc] from heap_alloc_new w3 _)
  obtain ⟨B, hB⟩ : ∃ B, B = w3.heap.size := ⟨_, rfl⟩
  have hBw : w.heap.size + 1 < B := by have := HW3.out.res.lt; omega
  rw [← hB] at HB4 ⊢
  generalize w3.alloc (.cells #[.string root, .int .i64 n, .slice cp n cc, .slice hp n hc] 39) = w4 at HW4 HB4 ⊢
  clear hb4 HW2 HW3 z0 z1 z2 z3 hB
  obtain ⟨cb, co, rfl, hcb, hcc⟩ := HF.out.cl.at (j := 0) (by rw [HF.out.lc]; omega)
  obtain ⟨hb, ho, rfl, hhb, hhc⟩ := CL.at HF.out.bl (j := 0) (by rw [boolV_len, HF.out.lh]; omega)
  obtain ⟨i0, hi0, hz0, hz1, hz2⟩ := info_parts Tryz.info9
  obtain ⟨i4, hi4, hy0, hy1, hy2⟩ := info_parts Tryz.info4
  have HC1 := Lib.hid (fun W (hw : Below w.heap.size w W) => Tryz.slices_Clone_f41 i0 (.string ⟨#[]⟩) 1 16 hi0 hz0 hz1 hz2 rfl (by decide) (fun W => Tryz.sizeOf9 W) cb co n cc (strV cs) W (by rw [strV_len, HF.out.lc]; omega) (by unfold maxLen; omega) (by omega) (fun j u hu => by
   have hj : j < cs.length := by have := (List.getElem?_eq_some_iff.mp hu).1; rwa [strV_len] at this
   refine ((hw.cell (p := ⟨cb, co + j, none⟩) hcb).trans (hcc j hj)).trans ?_
   rw [← hu]; simp [strV, hj]) (by intro u hu; obtain ⟨z, _, rfl⟩ := List.mem_map.mp hu; rfl))
  have HC2 := Lib.hid (fun W (hw : Below w.heap.size w W) => Tryz.slices_Clone_f42 i4 (.bool false) 1 1 hi4 hy0 hy1 hy2 rfl (by decide) (fun W => Tryz.sizeOf4 W) hb ho n hc (boolV hv) W (by rw [boolV_len, HF.out.lh]; omega) (by unfold maxLen; omega) (by omega) (fun j u hu => by
   have hj : j < hv.length := by have := (List.getElem?_eq_some_iff.mp hu).1; rwa [boolV_len] at this
   refine ((hw.cell (p := ⟨hb, ho + j, none⟩) hhb).trans (hhc j (by rw [boolV_len]; exact hj))).trans ?_
   rw [← hu]; simp [boolV, hj]) (by intro u hu; obtain ⟨z, _, rfl⟩ := List.mem_map.mp hu; rfl))
  clear hcc hhc
  have hS4 := two_cells (w := w4) HW4.out.arg.lt HW4.out.arg.lt HW4.out.arg4.2.2.1 HW4.out.arg4.2.2.2 (below_drew w4)
  go_region_held3 (fun W => W.cell? ⟨w.heap.size, 2, none⟩ = some (.slice (some ⟨cb, co, none⟩) n cc) ∧ W.cell? ⟨w.heap.size, 3, none⟩ = some (.slice (some ⟨hb, ho, none⟩) n hc))
   (first | exact hS4 | exact ⟨HW6.out.arg4.2.2.1, HW6.out.arg4.2.2.2⟩ | exact ⟨HW7.out.arg4.2.2.1, HW7.out.arg4.2.2.2⟩ | exact two_set (two_set ⟨HW7.out.arg4.2.2.1, HW7.out.arg4.2.2.2⟩ (by omega)) (by omega) | exact two_set ⟨HW7.out.arg4.2.2.1, HW7.out.arg4.2.2.2⟩ (by omega))
   (first
    | (go_at_call 41; refine (HC1.out _ (below_drewN HW4.out.bl 1)).mono ?_; rintro e w6 ⟨v6, rfl, ho6, hn6, hb6⟩; obtain ⟨g6, c6, rfl, hg6, hg6'⟩ := ho6.form (by omega); have hb6 : Below w4.heap.size w4 w6 := (below_drew w4).trans hb6; have HW6 := Lib.hid (HW4.out.below hb6); have HB6 := Lib.hid (HB4.out.below hb6); have HO6 := Lib.hid ho6; clear ho6)
    | (go_at_call 42; refine (HC2.out _ HW6.out.bl).mono ?_; rintro e w7 ⟨v7, rfl, ho7, hn7, hb7⟩; obtain ⟨g7, c7, rfl, hg7, hg7'⟩ := ho7.form (by omega); have HW7 := Lib.hid (HW6.out.below hb7); have HB7 := Lib.hid (HB6.out.below hb7); have HO7 := Lib.hid (own_below HO6.out hb7); have HP7 := Lib.hid ho7; have t2 : w7.cell? ⟨B, 2, none⟩ = some (.slice (some ⟨cb, co, none⟩) n cc) := cellOf HB7.out (j := 2) rfl; have t3 : w7.cell? ⟨B, 3, none⟩ = some (.slice (some ⟨hb, ho, none⟩) n hc) := cellOf HB7.out (j := 3) rfl; have k2 := HB7.out.frozen 2; have k3 := HB7.out.frozen 3; clear ho7))
  have hB67 : B < w7.heap.size := HB7.out.lt
  have hg6 : w4.heap.size ≤ g6 := hg6
  have hsz46 := hb6.size
  have hBlt4 := HB4.out.lt
  have hne6 : ¬ B = g6 := by omega
  have hne7 : ¬ B = g7 := by omega
  have hne67 : ¬ g6 = g7 := by omega
  have HQ0 := Lib.hid (show QW w B g6 c6 g7 c7 n (.string root) (.int .i64 n) (.slice (some ⟨cb, co, none⟩) n cc) (.slice (some ⟨hb, ho, none⟩) n hc) (.slice (some ⟨g6, 0, none⟩) n c6) (.slice (some ⟨g7, 0, none⟩) n c7) cs hv ((w7.setCell ⟨B, 2, none⟩ (.slice (some ⟨g6, 0, none⟩) n c6)).setCell ⟨B, 3, none⟩ (.slice (some ⟨g7, 0, none⟩) n c7)) from
   ⟨(HB7.out.set 2 _).set 3 _, (own_base (own_set2 (own_set2 HO7.out (by show B ≠ g6; omega)) (by show B ≠ g6; omega)) (by show w.heap.size + 2 ≤ w4.heap.size; omega)), (own_base (own_set2 (own_set2 HP7.out (by show B ≠ g7; omega)) (by show B ≠ g7; omega)) (by show w.heap.size + 2 ≤ w6.heap.size; omega)), (HW7.out.far (by omega)).far (by omega)⟩)
  have hw6 : w.heap.size + 1 < g6 := by omega
  have hw7 : w.heap.size + 1 < g7 := by omega
  generalize (w7.setCell ⟨B, 2, none⟩ (.slice (some ⟨g6, 0, none⟩) n c6)).setCell ⟨B, 3, none⟩ (.slice (some ⟨g7, 0, none⟩) n c7) = w8 at HQ0 ⊢
  clear t2 t3 k2 k3 HO6 HP7 HO7 HB7 HW7 HB6 HW6 hS4 HC1 HC2 HB4 HW4
  have hc6 : n ≤ c6 := own_cap HQ0.out.own6
  have hc7 : n ≤ c7 := own_cap HQ0.out.own7
  go_wp2_with fail
  go_loopw [64] (fun v wr => ∃ k : Nat, k ≤ m ∧ v = .int .i64 k ∧ QW w B g6 c6 g7 c7 n (.string root) (.int .i64 n) (.slice (some ⟨cb, co, none⟩) n cc) (.slice (some ⟨hb, ho, none⟩) n hc) (.slice (some ⟨g6, 0, none⟩) n c6) (.slice (some ⟨g7, 0, none⟩) n c7) (setR cs i (l.take k)) (setR hv i (List.replicate k true)) wr) (fun v _ => m - (intOf v).toNat)
  case atStart => exact ⟨0, by omega, rfl, HQ0.out⟩
  case round =>
   clear HQ0
   obtain ⟨k, hk, rfl, hQ⟩ := hrel
   have HQ := Lib.hid hQ
   clear hQ
   by_cases hkm : k < m
   ·have hkl : k < l.length := by rw [HN.out]; exact hkm
    obtain ⟨lb, lo, rfl, hlb, hlc⟩ := HL.out.at hkl
    have hck := (HQ.out.pw.bl.cell (p := ⟨lb, lo + k, none⟩) hlb).trans (hlc k hkl)
    have HSN := Lib.hid (show setR cs i (l.take (k + 1)) = (setR cs i (l.take k)).set (i + k) l[k] by
     have := setR_snoc (l.take k) cs i l[k]
     rw [snoc_at (List.getElem?_eq_getElem hkl), List.length_take, Nat.min_eq_left (by omega)] at this
     exact this)
    have HHN := Lib.hid (show setR hv i (List.replicate (k + 1) true) = (setR hv i (List.replicate k true)).set (i + k) true by
     rw [List.replicate_succ', setR_snoc, List.length_replicate])
    clear hlc
    generalize l[k] = s at hck HSN
    generalize setR cs i (l.take k) = cs1 at HQ HSN
    generalize setR hv i (List.replicate k true) = hv1 at HQ HHN
    obtain ⟨a, ha⟩ : ∃ a, a = i + k := ⟨_, rfl⟩
    rw [← ha] at HSN HHN
    have ea : (i : Int) + (k : Int) = (a : Int) := by omega
    have ewa : IntKind.i64.wrap (a : Int) = (a : Int) := by rw [IntKind.wrap_i64]; omega
    have ea0 : (0 : Int) ≤ (a : Int) := by omega
    have ea1 : (a : Int) < (n : Int) := by omega
    have ek0 : (0 : Int) ≤ (k : Int) := by omega
    have ek1 : (k : Int) < (m : Int) := by omega
    have han : a < n := by omega
    clear ha
    go_upto_region 12 with fail
    obtain ⟨u6, _, hu6, hf6⟩ := own_cellj HQ.out.own6 han
    obtain ⟨u7, _, hu7, hf7⟩ := own_cellj HQ.out.own7 han
    have hS := two_cells (w := wr) HQ.out.out.lt HQ.out.out.lt (cellOf HQ.out.out (j := 2) rfl) (cellOf HQ.out.out (j := 3) rfl) (below_drew wr)
    go_region_held3 (fun W => W.cell? ⟨B, 2, none⟩ = some (.slice (some ⟨g6, 0, none⟩) n c6) ∧ W.cell? ⟨B, 3, none⟩ = some (.slice (some ⟨g7, 0, none⟩) n c7))
     (first | exact hS | exact two_set hS (by omega) | exact two_set (two_set hS (by omega)) (by omega))
     (first | fail)
    all_goals
     have HQ5 := Lib.hid ((HQ.out.put (j := a) s (by omega) (by omega) (by omega) hw6 hw7).below (below_drew _))
     rw [← HSN.out, ← HHN.out] at HQ5
     clear hS hu6 hf6 hu7 hf7 hck HQ
     generalize ((wr.setCell ⟨g6, a, none⟩ (.string s)).setCell ⟨g7, a, none⟩ (.bool true)).drew = w9 at HQ5 ⊢
     clear ea ewa
     go_wp2_with fail
     go_roundw
     case rel => exact ⟨k + 1, by omega, by go_num, HQ5.out⟩
     case measure => simp [intOf]; omega
   ·have hkm2 : k = m := by omega
    have HQ5 := Lib.hid (show QW w B g6 c6 g7 c7 n (.string root) (.int .i64 n) (.slice (some ⟨cb, co, none⟩) n cc) (.slice (some ⟨hb, ho, none⟩) n hc) (.slice (some ⟨g6, 0, none⟩) n c6) (.slice (some ⟨g7, 0, none⟩) n c7) (setR cs i l) (setR hv i (List.replicate m true)) wr by
     have := HQ.out
     rw [hkm2, ← HN.out, List.take_length, HN.out] at this
     exact this)
    have hlc := setR_len l cs i
    have hlh := setR_len (List.replicate m true) hv i
    have x0 := cellOf HQ5.out.out (j := 0) rfl; have x1 := cellOf HQ5.out.out (j := 1) rfl; have x2 := cellOf HQ5.out.out (j := 2) rfl; have x3 := cellOf HQ5.out.out (j := 3) rfl
    have y0 := cellOf HQ5.out.pw.res (j := 0) rfl; have y1 := cellOf HQ5.out.pw.res (j := 1) rfl; have y2 := cellOf HQ5.out.pw.res (j := 2) rfl; have y3 := cellOf HQ5.out.pw.res (j := 3) rfl
    have v0 := frozenOf HQ5.out.pw.res (j := 0); have v1 := frozenOf HQ5.out.pw.res (j := 1); have v2 := frozenOf HQ5.out.pw.res (j := 2); have v3 := frozenOf HQ5.out.pw.res (j := 3)
    clear HQ hkm2
    obtain ⟨cs2, hcs2⟩ : ∃ x, x = setR cs i l := ⟨_, rfl⟩
    obtain ⟨hv2, hhv2⟩ : ∃ x, x = setR hv i (List.replicate m true) := ⟨_, rfl⟩
    rw [← hcs2] at HQ5 hlc
    rw [← hhv2] at HQ5 hlh
    have HEQ := Lib.hid (And.intro hcs2 hhv2)
    clear hcs2 hhv2
    go_wp2_with fail
    refine bodyPost_ret (results_row_tmp rfl _ _ (w.heap.size + 1) 39 _ (0, 0) _ rfl (beg_blk HQ5.out.pw.res) Tryz.underlying39 rfl Tryz.info39) rfl ?_
    have o6 := own_set2 (own_set2 (own_set2 (own_set2 HQ5.out.own6 (p := ⟨w.heap.size + 1, 0, none⟩) (by show _ + 1 ≠ g6; omega) (u := .string root)) (p := ⟨w.heap.size + 1, 1, none⟩) (by show _ + 1 ≠ g6; omega) (u := .int .i64 n)) (p := ⟨w.heap.size + 1, 2, none⟩) (by show _ + 1 ≠ g6; omega) (u := .slice (some ⟨g6, 0, none⟩) n c6)) (p := ⟨w.heap.size + 1, 3, none⟩) (by show _ + 1 ≠ g6; omega) (u := .slice (some ⟨g7, 0, none⟩) n c7)
    have o7 := own_set2 (own_set2 (own_set2 (own_set2 HQ5.out.own7 (p := ⟨w.heap.size + 1, 0, none⟩) (by show _ + 1 ≠ g7; omega) (u := .string root)) (p := ⟨w.heap.size + 1, 1, none⟩) (by show _ + 1 ≠ g7; omega) (u := .int .i64 n)) (p := ⟨w.heap.size + 1, 2, none⟩) (by show _ + 1 ≠ g7; omega) (u := .slice (some ⟨g6, 0, none⟩) n c6)) (p := ⟨w.heap.size + 1, 3, none⟩) (by show _ + 1 ≠ g7; omega) (u := .slice (some ⟨g7, 0, none⟩) n c7)
    obtain ⟨p6, d6, e6, _, s6⟩ := cl_of_own o6
    obtain ⟨p7, d7, e7, _, s7⟩ := cl_of_own o7
    injection e6 with e6 _ _
    injection e7 with e7 _ _
    subst e6 e7
    obtain ⟨q1, q2⟩ := HEQ.out
    refine ⟨_, 0, rfl, below_set (below_set (below_set (below_set HQ5.out.pw.bl (p := ⟨w.heap.size + 1, 0, none⟩) (Nat.le_succ _) _) (p := ⟨w.heap.size + 1, 1, none⟩) (Nat.le_succ _) _) (p := ⟨w.heap.size + 1, 2, none⟩) (Nat.le_succ _) _) (p := ⟨w.heap.size + 1, 3, none⟩) (Nat.le_succ _) _, (fun h => by cases h), fun _ => ⟨rfl, g6, c6, g7, c7, by omega, by omega, rfl, ?_⟩⟩
    rw [← q1, ← q2]
    exact ⟨by rw [hlc, HF.out.lc], by rw [hlh, HF.out.lh], hc6, hc7, s6, s7⟩
end Go.Proofs.YtnaglmigkbbljaaGreatDoor
