/-
  TopTransferred: store.Chunks at a valid store, exactly.
-/
import Derived.Test.YtnaglmigkbbljaaGreatDoorSgH
import Derived.Test.YtnaglmigkbbljaaGreatDoorSgI0
import Derived.Test.YtnaglmigkbbljaaGreatDoorSaAMaC
import Derived.Test.YtnaglmigkbbljaaGreatDoorSfD
set_option maxHeartbeats 6400000
set_option maxRecDepth 1000000
set_option linter.unusedVariables false
set_option linter.unusedSimpArgs false
namespace Go.Proofs.YtnaglmigkbbljaaGreatDoor
open Go Go.RowKit Go.Shelf
def ChunkMRet (f t : Nat) (p : Option Addr) (n c k : Nat) (w : World) (e : Ending) (w' : World) : Prop :=
 e = .returned (.func (.func f) #[] #[.pointer (some ⟨w.heap.size, 0, none⟩), .pointer (some ⟨w.heap.size + 1, 0, none⟩)]) ∧ w' = (w.alloc (.cells #[.slice p n c] t)).alloc (.cells #[.int .i64 k] 3)
theorem chunkM_ex (p : Option Addr) (n c : Nat) (w : World) : Calls Tryz.prog 88 #[.slice p n c, .int .i64 8] w (ChunkMRet 142 26 p n c 8 w) := by
 unfold ChunkMRet
 go_enter Tryz.func88, Tryz.ntmps88
 go_upto_region 1 with fail
 have hb := heap_alloc_new (w.alloc (.cells #[.slice p n c] 26)) (.cells #[.int .i64 8] 3)
 rw [World.size_alloc] at hb
 have c0 := cellOf (v := .int .i64 8) hb (j := 0) rfl
 obtain ⟨W, hW⟩ : ∃ W, W = (w.alloc (.cells #[.slice p n c] 26)).alloc (.cells #[.int .i64 8] 3) := ⟨_, rfl⟩
 rw [← hW] at c0 ⊢
 have HW := Lib.hid hW
 clear hb hW
 go_wp2_with fail
 go_ret
 exact ⟨rfl, HW.out⟩
theorem chunkT_ex (p : Option Addr) (n c : Nat) (w : World) : Calls Tryz.prog 103 #[.slice p n c, .int .i64 3] w (ChunkMRet 150 35 p n c 3 w) := by
 unfold ChunkMRet
 go_enter Tryz.func103, Tryz.ntmps103
 go_upto_region 1 with fail
 have hb := heap_alloc_new (w.alloc (.cells #[.slice p n c] 35)) (.cells #[.int .i64 3] 3)
 rw [World.size_alloc] at hb
 have c0 := cellOf (v := .int .i64 3) hb (j := 0) rfl
 obtain ⟨W, hW⟩ : ∃ W, W = (w.alloc (.cells #[.slice p n c] 35)).alloc (.cells #[.int .i64 3] 3) := ⟨_, rfl⟩
 rw [← hW] at c0 ⊢
 have HW := Lib.hid hW
 clear hb hW
 go_wp2_with fail
 go_ret
 exact ⟨rfl, HW.out⟩
attribute [local go_sem] Oper.semAt_some
def StoreRet (l : List ByteArray) (w : World) (e : Ending) (w' : World) : Prop := ∃ v, e = .returned (.tuple #[v, .int .i64 0]) ∧ w'.ownsRow w.heap.size 9 1 v l.length (strV l) ∧ Below w.heap.size w w'
theorem storeChunks_ex (p : Option Addr) (n c : Nat) (L : List Par) (w : World) (hl : n = L.length) (hn : n ≤ 64) (hnc : n ≤ c) (hV : VP L) (h : FL encP w p L) (hG : GL w) : Calls Tryz.prog 35 #[.slice p n c, .int .i64 8] w (StoreRet (storeL L) w) := by
 obtain ⟨i9, hi9, hz0, hz1, hz2⟩ := info_parts Tryz.info9
 have HVA := Lib.hid (validP_ex p n c L w hl hn hV h)
 have HF := Lib.hid h
 have HV := Lib.hid hV
 have HL := Lib.hid hl
 have HLN := Lib.hid (fun x (hx : x ∈ L) W (hb : Below w.heap.size w W) => line_ex x W (hV.2 x hx) (hG.below hb))
 clear h hV hl hG
 refine (callsIn_wide (n := 9)).1 ?_
 refine callsIn_of_wp_marks Tryz.func35 rfl trivial ?_ rfl
 simp only [Tryz.ntmps35, List.size_toArray, List.length_cons, List.length_nil, Nat.reduceAdd, Nat.reduceSub, Array.replicate_succ, Array.replicate_zero, List.push_toArray, List.append_toArray, List.nil_append, List.cons_append]
 have hmx : Tryz.prog.follows .mixedOrders = true := by kernel_rfl
 gi_wp2_with (first
  | (refine ⟨trivial, ?_⟩; gi_at_call 87; refine (callsIn_wide.2 HVA.out).mono ?_; rintro e w1 ⟨rfl, hb1⟩; have HB1 := Lib.hid hb1; clear hb1)
  | (refine ⟨trivial, ?_⟩; gi_at_call 88; refine (callsIn_wide.2 (chunkM_ex p n c _)).mono ?_; rintro e w2 ⟨rfl, hw2⟩; have HW2e := Lib.hid hw2; clear hw2))
 have hw2 := HW2e.out
 have hbB : Boxed w2 w1.heap.size 35 (.slice none 0 0) := by rw [hw2]; exact ((Boxed.new w1 35 (.slice none 0 0)).alloc _).alloc _
 have hb1 : Blk w2 (w1.heap.size + 1) 26 [.slice p n c] := by
  rw [hw2]
  have := heap_alloc_new (w1.alloc (.cells #[.slice none 0 0] 35)) (.cells #[.slice p n c] 26)
  rw [World.size_alloc] at this
  exact (show Blk ((w1.alloc (.cells #[.slice none 0 0] 35)).alloc (.cells #[.slice p n c] 26)) (w1.heap.size + 1) 26 [.slice p n c] from this).below ((Below.refl _ _).alloc (Nat.le_refl _) _)
 have hb2 : Blk w2 (w1.heap.size + 1 + 1) 3 [.int .i64 8] := by
  rw [hw2]
  have := heap_alloc_new ((w1.alloc (.cells #[.slice none 0 0] 35)).alloc (.cells #[.slice p n c] 26)) (.cells #[.int .i64 8] 3)
  rwa [World.size_alloc, World.size_alloc] at this
 have hsz2 : w2.heap.size = w1.heap.size + 3 := by rw [hw2]; simp
 have HB2 := Lib.hid (show Below w.heap.size w w2 by
  rw [hw2]
  exact ((HB1.out.alloc HB1.out.size _).alloc (by have := HB1.out.size; simp; omega) _).alloc (by have := HB1.out.size; simp; omega) _)
 have hsw := HB1.out.size
 clear hw2 HW2e
 obtain ⟨g, off, hp, hgl, hcs⟩ : ∃ g off, (0 < n → p = some ⟨g, off, none⟩) ∧ (0 < n → g < w.heap.size) ∧ (0 < n → ∀ j u, (flat encP L)[j]? = some u → w.cell? ⟨g, off + j, none⟩ = some u) := by
  by_cases h0 : 0 < n
  ·obtain ⟨g, off, h1, h2, h3⟩ := HF.out.at encP3 (by have := HL.out; omega)
   exact ⟨g, off, fun _ => h1, fun _ => h2, fun _ => h3⟩
  ·exact ⟨0, 0, fun h => absurd h h0, fun h => absurd h h0, fun h => absurd h h0⟩
 obtain ⟨Bs, hBse⟩ : ∃ Bs : Nat → Prop, Bs = fun r => r = w1.heap.size + 1 ∨ r = w1.heap.size + 1 + 1 := ⟨_, rfl⟩
 have hseq := chunkP_seq 8 (by decide) _ _ g off n c p hp hnc (by omega) w2 hb1 hb2
 rw [← hBse] at hseq
 have HBS := Lib.hid (show ∀ b, Bs b → b < w2.heap.size ∧ b ≠ w1.heap.size ∧ w.heap.size ≤ b from fun b hb => by rw [hBse] at hb; omega)
 have HPP := Lib.hid (And.intro hgl hcs)
 have hsz3 : w1.heap.size < w2.heap.size := by omega
 clear hBse hb1 hb2 hgl hcs hsz2
 refine wpIn_rangeY (n := 9) rfl (by decide) rfl trivial (enters_of Tryz.func142 (by kernel_rfl) rfl) hseq (fun b hb => (HBS.out b hb).1) (fun _ => rfl)
  (HoldI w w2.heap.size w1.heap.size 35 9 1 (fun i => i) (fun i => strV ((storeL L).take i))) (hold_own HBS.out (by omega) (by omega)) ⟨_, hbB, World.ownsRow_nil _ _ _ _, HB2.out, Nat.le_refl _⟩
  ?A ?assign ?body ?done
 case assign =>
  intro l i W K hK
  gi_wp2
  exact hK
 case body =>
  rintro l i W hl ⟨v, hv, ho, hb, hnW⟩ hi
  have hi8 : i * 8 < n := by omega
  have HV1 := Lib.hid hv
  have HO1 := Lib.hid ho
  have HB3 := Lib.hid hb
  have hgl := HPP.out.1 (by omega)
  have HC := Lib.hid (HPP.out.2 (by omega))
  have hc1 := hv.cell
  have hf1 := hv.frozen
  have HNX := Lib.hid (show strV ((storeL L).take i) ++ [.string (chunkP ((L.drop (i * 8)).take 8))] = strV ((storeL L).take (i + 1)) by
   have e : (storeL L)[i]? = some (chunkP ((L.drop (i * 8)).take 8)) := by
    unfold storeL
    rw [List.getElem?_map, partsP_at _ _ _ (Nat.le_refl _) (by have := HL.out; omega)]
    rfl
   have e2 : (storeL L).take (i + 1) = (storeL L).take i ++ [chunkP ((L.drop (i * 8)).take 8)] := by
    rw [List.take_add_one, e]
    rfl
   rw [e2]
   simp [strV])
  obtain ⟨a, ha⟩ : ∃ a, a = i * 8 := ⟨_, rfl⟩
  obtain ⟨m, hm⟩ : ∃ m, m = min 8 (n - a) := ⟨_, rfl⟩
  rw [← ha] at HNX hi8 ⊢
  rw [← hm]
  have hm2 : m ≤ 8 ∧ a + m ≤ n := by omega
  have HTK := Lib.hid (show (L.drop a).take 8 = (L.drop a).take m by
   have := HL.out
   rw [hm]
   by_cases h8 : 8 ≤ n - a
   ·rw [Nat.min_eq_left h8]
   ·rw [Nat.min_eq_right (by omega), List.take_of_length_le (by rw [List.length_drop]; omega), List.take_of_length_le (by rw [List.length_drop]; omega)])
  clear hv ho hb ha hm
  gi_wp2
  gi_loopw [9, 29] (fun s j wr => ∃ q : Nat, q ≤ m ∧ j = .int .i64 q ∧ s = .string (chunkP ((L.drop a).take q)) ∧ Below W.heap.size W wr) (fun _ j _ => m - (intOf j).toNat)
  case atStart => exact ⟨0, Nat.zero_le _, rfl, rfl, Below.refl _ _⟩
  case round =>
   obtain ⟨q, hq, rfl, rfl, hbr⟩ := hrel
   have HBR := Lib.hid hbr
   have HBW := Lib.hid (HB3.out.trans (hbr.mono HB3.out.size))
   clear hbr
   by_cases hqm : q < m
   ·obtain ⟨x, hx⟩ : ∃ x, L[a + q]? = some x := ⟨_, List.getElem?_eq_getElem (by have := HL.out; omega)⟩
    have d1 := (HBW.out.cell (p := ⟨g, off + ((a + q) * 3 + 0), none⟩) hgl).trans (HC.out _ _ ((flat_get encP3 hx (j := 0) (by omega)).trans rfl))
    have d2 := (HBW.out.cell (p := ⟨g, off + ((a + q) * 3 + 1), none⟩) hgl).trans (HC.out _ _ ((flat_get encP3 hx (j := 1) (by omega)).trans rfl))
    have d3 := (HBW.out.cell (p := ⟨g, off + ((a + q) * 3 + 2), none⟩) hgl).trans (HC.out _ _ ((flat_get encP3 hx (j := 2) (by omega)).trans rfl))
    rw [show off + ((a + q) * 3 + 0) = off + a * 3 + q * 3 by omega] at d1
    rw [show off + ((a + q) * 3 + 1) = off + a * 3 + q * 3 + 1 by omega] at d2
    rw [show off + ((a + q) * 3 + 2) = off + a * 3 + q * 3 + 2 by omega] at d3
    replace d1 : wr.cell? ⟨g, off + a * 3 + q * 3, none⟩ = some (.string x.k) := d1
    replace d2 : wr.cell? ⟨g, off + a * 3 + q * 3 + 1, none⟩ = some (.string x.v) := d2
    replace d3 : wr.cell? ⟨g, off + a * 3 + q * 3 + 2, none⟩ = some (.int .i64 x.ver) := d3
    have HLX := Lib.hid (HLN.out x (List.mem_of_getElem? hx))
    have hxs := line_size (HV.out.2 x (List.mem_of_getElem? hx))
    have hss : (chunkP ((L.drop a).take q)).size ≤ 64 * 340 := by
     have h1 := catB_size 340 (((L.drop a).take q).map lineP) (fun y hy => by
      obtain ⟨z, hz, rfl⟩ := List.mem_map.mp hy
      exact line_size (HV.out.2 z (List.mem_of_mem_drop (List.mem_of_mem_take hz))))
     rw [List.length_map, List.length_take] at h1
     unfold chunkP
     have : min q (L.drop a).length ≤ 64 := by omega
     exact Nat.le_trans h1 (Nat.mul_le_mul_right _ this)
    have HST := Lib.hid (show chunkP ((L.drop a).take q) ++ lineP x = chunkP ((L.drop a).take (q + 1)) by
     unfold chunkP
     rw [List.take_add_one, show (L.drop a)[q]? = some x by rw [List.getElem?_drop]; exact hx, List.map_append]
     exact (catB_snoc _ _).symm)
    obtain ⟨s2, hs2⟩ : ∃ s2, s2 = chunkP ((L.drop a).take (q + 1)) := ⟨_, rfl⟩
    have HS2 := Lib.hid hs2
    rw [← hs2] at HST
    clear hx hs2
    generalize chunkP ((L.drop a).take q) = s at hss HST ⊢
    generalize lineP x = ln at HLX hxs HST
    have ov : ¬ (9223372036854775807 < s.size + ln.size) := by omega
    have e0 : (0 : Int) ≤ (q : Int) := by omega
    have e1 : (q : Int) < (m : Int) := by omega
    have e2 : (q : Int) + 1 ≤ 1000 := by omega
    gi_wp2_with (refine ⟨trivial, ?_⟩; gi_at_call 89; refine (CallsIn.inRound l (callsIn_wide.2 (HLX.out _ (HBW.out.alloc HBW.out.size _)))).mono ?_; rintro e w5 ⟨rfl, hb5⟩)
    have hb6 := HBR.out.trans (((Below.refl _ wr).alloc (Nat.le_refl _) (.cells #[.string x.k, .string x.v, .int .i64 x.ver] 115)).trans (hb5.mono (by simp)) |>.mono HBR.out.size)
    go_roundw
    case rel => exact ⟨q + 1, by omega, by go_num, by rw [HST.out, HS2.out], hb6⟩
    case measure => simp [intOf]; omega
   ·have hqe : q = m := by omega
    subst hqe
    have e1 : ¬ ((q : Int) < (q : Int)) := by omega
    have HO5 := Lib.hid (own_below HO1.out HBR.out)
    have HV5 := Lib.hid (show Boxed wr w1.heap.size 35 v from (HBR.out.block _ HV1.out.lt).trans HV1.out)
    have c5 := HV5.out.cell
    have hsz5 := HBR.out.size
    obtain ⟨s, hs⟩ : ∃ s, s = chunkP ((L.drop a).take q) := ⟨_, rfl⟩
    have HNY := Lib.hid (show strV ((storeL L).take i) ++ [.string s] = strV ((storeL L).take (i + 1)) by rw [hs, ← HTK.out]; exact HNX.out)
    rw [← hs]
    clear hs hc1 hf1
    gi_wp2_with (gi_at_builtin; refine wpListIn_append_own _ rfl _ _ 35 rfl w2.heap.size 9 i9 (.string ⟨#[]⟩) 1 16 Tryz.underlying35 hi9 hz0 hz1 hz2 rfl (by decide) _ _ _ rfl (HO5.out.alloc _) ⟨wr.heap.size, 0, none⟩ 1 1 [.string s] rfl rfl (cell_one_new _ _ _) (by simp [Value.oneCell']) (by unfold maxLen; omega) (by omega) (by simp; omega) ?_; intro v' w6 hown6 hgrow6 _; obtain ⟨g', cap', rfl⟩ := ownsRow_succ hown6; have HV6 := Lib.hid ((HV5.out.alloc _).kept hgrow6 (HV5.out.not_row (by decide) HO5.out)); have HOW6 := Lib.hid hown6; have HGR6 := Lib.hid hgrow6; clear hown6 hgrow6; have c6 := HV6.out.cell; have f6 := HV6.out.frozen)
    exact hold_step (k := fun i => i) (f := fun i => strV ((storeL L).take i)) HBS.out (by omega) (by omega) hsw (by decide) HV1.out HO1.out HB3.out hnW HBR.out (by rw [← HNY.out]; exact HOW6.out) HGR6.out
 case done =>
  rintro D W hD ⟨v, hv, ho, hb, hnW⟩ hK
  have c5 := hv.cell
  have HO5 := Lib.hid ho
  have HB5 := Lib.hid hb
  clear hv ho hb
  have hlen : (storeL L).length = (n + 7) / 8 := by rw [storeL_len, HL.out]
  have HO6 := Lib.hid (show W.ownsRow w.heap.size 9 1 v (storeL L).length (strV (storeL L)) by
   have h1 := own_mono HO5.out (M := w.heap.size) (by omega)
   dsimp only at h1
   rw [List.take_of_length_le (by omega)] at h1
   rw [hlen]
   exact h1)
  have HKK := Lib.hid hK
  clear hlen HO5
  gi_wp2
  refine ⟨by simp, .inl ⟨_, _, rfl, run_takeDeferred hK, ?_⟩⟩
  exact ⟨_, results_tmp2 rfl _ _ _, v, rfl, ownsRow_putObj HO6.out _ hK rfl, HB5.out.trans (belowK_b (w := w2) (n₀ := w.heap.size) (by omega) W D _ _ hD hK rfl rfl)⟩
end Go.Proofs.YtnaglmigkbbljaaGreatDoor
/-
  TopTransferred: wire.put, wire.PutList, exactly.
-/
namespace Go.Proofs.YtnaglmigkbbljaaGreatDoor
open Go Go.RowKit
theorem byteCells_snoc' (l : List UInt8) (c : Nat) (hc : c < 256) : Lib.byteCells l ++ [.int .u8 (c : Int)] = Lib.byteCells (l ++ [UInt8.ofNat c]) := by
 simp [Lib.byteCells]
 omega
theorem byteCells_len' (l : List UInt8) : (Lib.byteCells l).length = l.length := by simp [Lib.byteCells]
def orOk : Bool := (List.range 256).all fun x => decide (bits BinOp.or IntKind.u8 (x : Int) 128 = ((x % 128 + 128 : Nat) : Int))
theorem orOk_yes : orOk = true := by kernel_rfl
theorem or_byte (m : Nat) : bits BinOp.or IntKind.u8 ((m : Int) % 256) 128 = ((m % 128 + 128 : Nat) : Int) := by
 have h := List.all_eq_true.mp orOk_yes (m % 256) (List.mem_range.mpr (Nat.mod_lt _ (by decide)))
 have h2 := of_decide_eq_true h
 rw [show ((m % 256 : Nat) : Int) = (m : Int) % 256 by omega] at h2
 rw [h2]
 congr 2
 omega
theorem varL_big {m : Nat} (h : 128 ≤ m) (h2 : m < 16384) : varL m = UInt8.ofNat (m % 128 + 128) :: varL (m / 128) := by
 unfold varL
 rw [if_neg (by omega), if_pos (by omega)]
theorem varL_small {m : Nat} (h : m < 128) : varL m = [UInt8.ofNat m] := by unfold varL; rw [if_pos h]
theorem varL_len (m : Nat) : (varL m).length ≤ 2 := by unfold varL; split <;> simp
def BldE (B b : Nat) (l : List UInt8) (w : World) (e : Ending) (w' : World) : Prop := e = .returned (.tuple #[]) ∧ Lib.IsBuilder 175 5 B b (Lib.byteCells l) w' ∧ Below B w w'
theorem putN_ex (B b n : Nat) (l : List UInt8) (w : World) (hn : n < 16384) (hl : l.length ≤ 1000000000) (h : Lib.IsBuilder 175 5 B b (Lib.byteCells l) w) (hB : B ≤ w.heap.size) :
  Calls Tryz.prog 90 #[.pointer (some ⟨b, 0, none⟩), .int .u64 n] w (BldE B b (l ++ varL n) w) := by
 have H := Lib.hid h
 clear h
 go_enter Tryz.func90, Tryz.ntmps90
 go_wp2_with fail
 go_loopw [1] (fun x wr => ∃ (m : Nat) (lk : List UInt8), x = .int .u64 m ∧ m < 16384 ∧ lk ++ varL m = l ++ varL n ∧ lk.length ≤ l.length + 4 ∧ Lib.IsBuilder 175 5 B b (Lib.byteCells lk) wr ∧ Below B w wr) (fun x _ => (intOf x).toNat)
 case atStart => exact ⟨n, l, rfl, hn, rfl, by omega, H.out, Below.refl _ _⟩
 case round =>
  obtain ⟨m, lk, rfl, hm, he, hlk, hI, hb⟩ := hrel
  have HI := Lib.hid hI
  have HB := Lib.hid hb
  have HE := Lib.hid he
  have hsz := hb.size
  have hlk2 : lk.length ≤ l.length + 2 := by
   have h1 := congrArg List.length he
   rw [List.length_append, List.length_append] at h1
   have := varL_len n
   omega
  clear hI hb he
  by_cases hge : 128 ≤ m
  ·go_wp2_with (go_at_call 143; refine (Tryz.Builder_WriteByte B b _ _ _ HI.out (by rw [byteCells_len']; omega) (by omega)).mono ?_; rintro e w1 ⟨rfl, hA, hb1⟩; have HA := Lib.hid hA; have HB1 := Lib.hid hb1; clear hA hb1)
   rw [or_byte, byteCells_snoc' _ _ (by omega)] at HA
   exact ⟨⟨m / 128, lk ++ [UInt8.ofNat (m % 128 + 128)], by simp, by omega, by rw [List.append_assoc, ← HE.out, varL_big hge hm]; rfl, by rw [List.length_append]; show lk.length + 1 ≤ _; omega, .inr HA.out, HB.out.trans HB1.out⟩, by simp [intOf]; omega⟩
  ·go_wp2_with (go_at_call 143; refine (Tryz.Builder_WriteByte B b _ _ _ HI.out (by rw [byteCells_len']; omega) (by omega)).mono ?_; rintro e w1 ⟨rfl, hA, hb1⟩; have HA := Lib.hid hA; have HB1 := Lib.hid hb1; clear hA hb1)
   rw [byteCells_snoc' _ _ (by omega)] at HA
   go_end0
   exact ⟨rfl, by rw [← HE.out, varL_small (by omega)]; exact .inr HA.out, HB.out.trans HB1.out⟩
theorem putB_step (l : List ByteArray) (k : Nat) (x : ByteArray) (hx : l[k]? = some x) (n : Nat) :
  (varB n ++ catB ((l.take k).map strB)).data.toList ++ varL x.size ++ x.data.toList = (varB n ++ catB ((l.take (k + 1)).map strB)).data.toList := by
 have e : l.take (k + 1) = l.take k ++ [x] := by rw [List.take_add_one, hx]; rfl
 rw [e, List.map_append, show ([x].map strB) = [strB x] from rfl, catB_snoc]
 simp only [bl_app, strB, varB, List.append_assoc]
theorem putB_len (l : List ByteArray) (hz : SzL 400 l) (n k : Nat) (hk : k ≤ 1000) : (varB n ++ catB ((l.take k).map strB)).data.toList.length ≤ 2 + 402 * 1000 := by
 rw [bl_len, ByteArray.size_append]
 have h1 := varB_size2 n
 have h2 := catB_size 402 ((l.take k).map strB) (fun y hy => by
  obtain ⟨x, hx, rfl⟩ := List.mem_map.mp hy
  have := hz x (List.mem_of_mem_take hx)
  have := varB_size2 x.size
  unfold strB
  rw [ByteArray.size_append]
  omega)
 rw [List.length_map, List.length_take] at h2
 have : min k l.length ≤ 1000 := by omega
 have := Nat.mul_le_mul_right 402 this
 omega
theorem putList_ex (p : Option Addr) (n cap : Nat) (l : List ByteArray) (w : World) (hl : l.length = n) (hn : n ≤ 1000) (hz : SzL 400 l) (h : StrL w p l) : Calls Tryz.prog 36 #[.slice p n cap] w (IsS (putB l) w) := by
 have H := Lib.hid h
 have HZ := Lib.hid hz
 have HL := Lib.hid hl
 have hf := Lib.fresh_isBuilder 175 5 w
 have HF := Lib.hid hf
 clear h hf hz hl
 go_enter Tryz.func36, Tryz.ntmps36
 go_upto_region 3 with (go_at_call 90; refine (putN_ex w.heap.size w.heap.size n [] _ (by omega) (by simp) HF.out (by simp)).mono ?_; rintro e w1 ⟨rfl, hI1, hb1⟩)
 have hbw : Below w.heap.size w w1 := ((Below.refl _ _).alloc (Nat.le_refl _) _).trans hb1
 have HI1 := Lib.hid hI1
 have HB1 := Lib.hid hbw
 clear hI1 hb1 hbw
 go_wp2_with fail
 go_loopw [12] (fun i wr => ∃ (k : Nat), k ≤ n ∧ i = .int .i64 k ∧ Lib.IsBuilder 175 5 w.heap.size w.heap.size (Lib.byteCells (varB n ++ catB ((l.take k).map strB)).data.toList) wr ∧ Below w.heap.size w wr) (fun i _ => n - (intOf i).toNat)
 case atStart => exact ⟨0, Nat.zero_le _, rfl, by have := HI1.out; simpa [varB, catB, bl_app] using this, HB1.out⟩
 case round =>
  obtain ⟨k, hk, rfl, hI, hb⟩ := hrel
  have HI := Lib.hid hI
  have HB := Lib.hid hb
  have hsz := hb.size
  have hlen := putB_len l HZ.out n k (by omega)
  by_cases hkn : k < n
  ·have hkl : k < l.length := by have := HL.out; omega
   obtain ⟨b, off, rfl, hbk, hcell⟩ := H.out.at hkl
   have hc1 := (hb.cell (p := ⟨b, off + k, none⟩) (by exact hbk)).trans (hcell k hkl)
   have HX := Lib.hid (List.getElem?_eq_getElem hkl)
   have hx := HZ.out _ (List.getElem_mem hkl)
   have HST := Lib.hid (putB_step l k _ HX.out n)
   have hlen2 := putB_len l HZ.out n (k + 1) (by omega)
   generalize l[k] = x at hc1 HX hx HST
   obtain ⟨l3, hl3⟩ : ∃ l3, l3 = (varB n ++ catB ((l.take (k + 1)).map strB)).data.toList := ⟨_, rfl⟩
   have HL3 := Lib.hid hl3
   rw [← hl3] at HST hlen2
   clear hl3 hcell hI hb
   generalize (varB n ++ catB ((l.take k).map strB)).data.toList = lk at HI hlen HST
   have hvl := varL_len x.size
   have e0 : (0 : Int) ≤ (k : Int) := by omega
   have e1 : (k : Int) < (n : Int) := by omega
   go_wp2_with (first
    | (go_at_call 90; refine (putN_ex w.heap.size w.heap.size x.size lk _ (by omega) (by omega) HI.out (by omega)).mono ?_; rintro e w2 ⟨rfl, hI2, hb2⟩; have HI2 := Lib.hid hI2; have HB2 := Lib.hid hb2; have hsz2 := hb2.size; clear hI2 hb2)
    | (go_at_call 91; refine (Tryz.Builder_WriteString w.heap.size w.heap.size _ x _ HI2.out (by rw [byteCells_len', List.length_append]; omega) (by omega)).mono ?_; rintro e w3 ⟨rfl, hA, hb3⟩; have HA := Lib.hid hA; have HB3 := Lib.hid hb3; clear hA hb3))
   have hA' : Lib.IsBuilder 175 5 w.heap.size w.heap.size (Lib.byteCells l3) w3 := by
    rw [← HST.out, Lib.byteCells_append]; exact .inr HA.out
   go_roundw
   case rel => exact ⟨k + 1, by omega, by go_num, by rw [← HL3.out]; exact hA', (HB.out.trans HB2.out).trans HB3.out⟩
   case measure => simp [intOf]; omega
  ·obtain rfl : k = n := by omega
   clear hI hb
   go_wp2_with (go_at_call 92; refine (Tryz.Builder_String_any w.heap.size w.heap.size _ _ HI.out (by omega)).mono ?_; rintro e w2 ⟨rfl, hb2⟩; have HB2 := Lib.hid hb2; clear hb2)
   go_ret
   refine ⟨?_, HB.out.trans HB2.out⟩
   rw [List.take_of_length_le (by rw [List.length_map]; have := HL.out; omega)]
   unfold putB
   rw [HL.out]
   rfl
end Go.Proofs.YtnaglmigkbbljaaGreatDoor
/-
  TopTransferred: session.right, New, Few; what session.Apply works on.
-/
namespace Go.Proofs.YtnaglmigkbbljaaGreatDoor
open Go Go.RowKit
def SeV (W : World) (v : Value) (S : List Ses) : Prop := ∃ p c, v = .slice p S.length c ∧ S.length ≤ c ∧ FL encS W p S ∧ (p = none ∨ ∃ b off, p = some ⟨b, off, none⟩ ∧ b < W.heap.size)
theorem SeV.below {W W' : World} {v : Value} {S : List Ses} (h : SeV W v S) (hb : Below W.heap.size W W') : SeV W' v S := by
 obtain ⟨p, c, h1, h2, h3, h4⟩ := h
 refine ⟨p, c, h1, h2, h3.below hb, ?_⟩
 rcases h4 with h4 | ⟨b, off, h4, h5⟩
 ·exact .inl h4
 ·exact .inr ⟨b, off, h4, Nat.lt_of_lt_of_le h5 hb.size⟩
theorem sev_of_own {w : World} {base n : Nat} {v : Value} {S : List Ses} (h : w.ownsRow base 87 3 v n (flat encS S)) : SeV w v S := by
 have hn : S.length = n := by have := h.1; rw [flat_length encS3] at this; omega
 obtain ⟨p, cap, rfl, hc, hf⟩ := fl_of_own h
 subst hn
 refine ⟨p, cap, rfl, hc, hf, ?_⟩
 rcases h.2 with ⟨h1, _⟩ | ⟨g, cap', cur, h1, _, h2, _⟩
 ·injection h1 with h1; exact .inl h1
 ·injection h1 with h1; exact .inr ⟨g, 0, h1, (Array.getElem?_eq_some_iff.mp h2).1⟩
def rightB (c n : Int) : Bool := decide (0 ≤ c) && (decide (c < 6) && (decide (1 ≤ n) && decide (n ≤ 1000000)))
theorem right_ex (c n : Int) (w : World) : Calls Tryz.prog 28 #[.int .i64 c, .int .i64 n] w (OneB (rightB c n) w) := by
 unfold OneB rightB
 by_cases h1 : 0 ≤ c
 ·by_cases h2 : c < 6
  ·by_cases h3 : 1 ≤ n
   ·by_cases h4 : n ≤ 1000000
    ·go_enter Tryz.func28, Tryz.ntmps28
     go_wp2_with fail
     go_ret
     simp <;> omega
    ·go_enter Tryz.func28, Tryz.ntmps28
     go_wp2_with fail
     go_ret
     simp <;> omega
   ·go_enter Tryz.func28, Tryz.ntmps28
    go_wp2_with fail
    go_ret
    simp <;> omega
  ·go_enter Tryz.func28, Tryz.ntmps28
   go_wp2_with fail
   go_ret
   simp <;> omega
 ·go_enter Tryz.func28, Tryz.ntmps28
  go_wp2_with fail
  go_ret
  simp <;> omega
theorem Tryz.info29 : (Tryz.prog.info? 29).map (·.size) = some 2 := by kernel_rfl
def NewMRet (w : World) (e : Ending) (w' : World) : Prop := e = .returned (.agg #[.slice none 0 0, .slice none 0 0]) ∧ Below w.heap.size w w'
theorem newM_ex (w : World) : Calls Tryz.prog 6 #[] w (NewMRet w) := by
 have HB0 := Lib.hid (heap_alloc_new w (.cells #[.slice none 0 0, .slice none 0 0] 29))
 go_enter Tryz.func6, Tryz.ntmps6
 go_wp2_with fail
 refine bodyPost_ret (results_cell_row rfl _ _ w.heap.size 29 _ (0, 0) _ rfl HB0.out Tryz.underlying29 rfl Tryz.info29) rfl ?_
 exact ⟨rfl, (Below.refl _ w).alloc (Nat.le_refl _) _⟩
structure Req where
 c : Int
 n : Int
 op : ByteArray
def encQ (x : Req) : List Value := [.int .i64 x.c, .int .i64 x.n, .string x.op]
theorem encQ3 : Enc3 encQ := ⟨fun _ => rfl, fun x u hu => by
 simp only [encQ, List.mem_cons, List.not_mem_nil, or_false] at hu
 rcases hu with rfl | rfl | rfl <;> rfl⟩
def fewB (l : List Req) : Bool := l.all fun x => decide (x.op.size ≤ 300)
end Go.Proofs.YtnaglmigkbbljaaGreatDoor
/-
  TopTransferred: session.Apply keeps a machine valid (printed by mkSfF.py).
-/
namespace Go.Proofs.YtnaglmigkbbljaaGreatDoor
open Go Go.RowKit
structure MW (w : World) (pv sv r0 r1 c n : Value) (op : ByteArray) (W : World) : Prop where
 m : Blk W w.heap.size 29 [pv, sv]
 q : Blk W (w.heap.size + 1) 32 [c, n, .string op]
 r : Blk W (w.heap.size + 2) 29 [r0, r1]
 bl : Below w.heap.size w W
theorem MW.below {w W W' : World} {pv sv r0 r1 c n : Value} {op : ByteArray} (h : MW w pv sv r0 r1 c n op W) (hb : Below W.heap.size W W') : MW w pv sv r0 r1 c n op W' :=
 ⟨h.m.below hb, h.q.below hb, h.r.below hb, h.bl.trans (hb.mono h.bl.size)⟩
theorem MW.drew {w W : World} {pv sv r0 r1 c n : Value} {op : ByteArray} (h : MW w pv sv r0 r1 c n op W) : MW w pv sv r0 r1 c n op W.drew := ⟨h.m, h.q, h.r, below_drewN h.bl 1⟩
theorem MW.setP {w W : World} {pv sv r0 r1 c n : Value} {op : ByteArray} (h : MW w pv sv r0 r1 c n op W) (v : Value) : MW w v sv r0 r1 c n op (W.setCell ⟨w.heap.size, 0, none⟩ v) :=
 ⟨h.m.set 0 v, h.q.other (by omega), h.r.other (by omega), below_set h.bl (p := ⟨w.heap.size, 0, none⟩) (Nat.le_refl _) v⟩
theorem MW.setS {w W : World} {pv sv r0 r1 c n : Value} {op : ByteArray} (h : MW w pv sv r0 r1 c n op W) (v : Value) : MW w pv v r0 r1 c n op (W.setCell ⟨w.heap.size, 1, none⟩ v) :=
 ⟨h.m.set 1 v, h.q.other (by omega), h.r.other (by omega), below_set h.bl (p := ⟨w.heap.size, 1, none⟩) (Nat.le_refl _) v⟩
theorem MW.res {w W : World} {pv sv r0 r1 c n : Value} {op : ByteArray} (h : MW w pv sv r0 r1 c n op W) (a b : Value) :
  ((W.setCell ⟨w.heap.size + 2, 0, none⟩ a).setCell ⟨w.heap.size + 2, 1, none⟩ b).heap[w.heap.size + 2]? = some (.cells #[a, b] 29 (0, 0)) := (h.r.set 0 a).set 1 b
theorem MW.resbl {w W : World} {pv sv r0 r1 c n : Value} {op : ByteArray} (h : MW w pv sv r0 r1 c n op W) (a b : Value) :
  Below w.heap.size w ((W.setCell ⟨w.heap.size + 2, 0, none⟩ a).setCell ⟨w.heap.size + 2, 1, none⟩ b) :=
 below_set (below_set h.bl (p := ⟨w.heap.size + 2, 0, none⟩) (by simp) a) (p := ⟨w.heap.size + 2, 1, none⟩) (by simp) b
def ApplyRet (m : Nat) (w : World) (e : Ending) (w' : World) : Prop :=
 ∃ pv sv L S s, e = .returned (.tuple #[.agg #[pv, sv], .string s]) ∧ PrV w' pv L ∧ SeV w' sv S ∧ VP L ∧ VS S ∧ L.length ≤ m ∧ Below w.heap.size w w'
theorem ses_len {S : List Ses} (h : VS S) : S.length ≤ 6 := by
 have h1 : ∀ (i : Nat) (x : Ses), S[i]? = some x → i ≤ x.c := by
  intro i
  induction i with
  | zero => intro x _; omega
  | succ i ih =>
   intro x hx
   have hlt := (List.getElem?_eq_some_iff.mp hx).1
   have hy : S[i]? = some S[i] := List.getElem?_eq_getElem (by omega)
   have h2 := ih _ hy
   have h3 := pw_get h.1 hy hx (by omega)
   omega
 rcases Nat.eq_zero_or_pos S.length with h0 | h0
 ·omega
 ·have hy : S[S.length - 1]? = some S[S.length - 1] := List.getElem?_eq_getElem (by omega)
  have h2 := h1 _ _ hy
  have h3 := (h.2 _ (List.mem_of_getElem? hy)).1
  omega
theorem apply_bad (pv sv : Value) (L : List Par) (S : List Ses) (rc rn : Int) (op : ByteArray) (w : World) (hP : PrV w pv L) (hS : SeV w sv S) (hL : VP L) (hV : VS S) (hop : op.size ≤ 1048576) (hbad : rightB rc rn = false ∨ op.size = 0 ∨ 200 < op.size) :
    Calls Tryz.prog 7 #[.agg #[pv, sv], .agg #[.int .i64 rc, .int .i64 rn, .string op]] w (ApplyRet (L.length + 1) w) := by
  have HR := Lib.hid (fun W => right_ex rc rn W)
  unfold OneB at HR
  have HP := Lib.hid hP
  have HS := Lib.hid hS
  have HLV := Lib.hid (And.intro hL hV)
  obtain ⟨p, cp, rfl, hcp, hFL, hpp⟩ := hP
  obtain ⟨ps, cs, rfl, hcs, hFS, hps⟩ := hS
  obtain ⟨np, hN⟩ : ∃ n, n = L.length := ⟨_, rfl⟩
  obtain ⟨ns, hNS⟩ : ∃ n, n = S.length := ⟨_, rfl⟩
  rw [← hN] at HP ⊢
  rw [← hNS] at HS ⊢
  have HN := Lib.hid hN
  clear hFL hFS hpp hps hL hV hN hNS
  go_enter Tryz.func7, Tryz.ntmps7
  go_upto_region 1 with fail
  have HM := Lib.hid (show MW w (.slice p np cp) (.slice ps ns cs) (.slice none 0 0) (.slice none 0 0) (.int .i64 rc) (.int .i64 rn) op (((w.alloc (.cells #[Value.slice p np cp, Value.slice ps ns cs] 29)).alloc (.cells #[.int .i64 rc, .int .i64 rn, .string op] 32)).alloc (.cells #[.slice none 0 0, .slice none 0 0] 29)) from
    ⟨((show Blk (w.alloc (.cells #[Value.slice p np cp, Value.slice ps ns cs] 29)) w.heap.size 29 [Value.slice p np cp, Value.slice ps ns cs] from heap_alloc_new w _).below ((Below.refl _ _).alloc (Nat.le_refl _) _)).below ((Below.refl _ _).alloc (Nat.le_refl _) _),
     (show Blk ((w.alloc (.cells #[Value.slice p np cp, Value.slice ps ns cs] 29)).alloc (.cells #[.int .i64 rc, .int .i64 rn, .string op] 32)) (w.heap.size + 1) 32 [.int .i64 rc, .int .i64 rn, .string op] by have := heap_alloc_new (w.alloc (.cells #[Value.slice p np cp, Value.slice ps ns cs] 29)) (.cells #[.int .i64 rc, .int .i64 rn, .string op] 32); rwa [World.size_alloc] at this).below ((Below.refl _ _).alloc (Nat.le_refl _) _),
     (by have := heap_alloc_new ((w.alloc (.cells #[Value.slice p np cp, Value.slice ps ns cs] 29)).alloc (.cells #[.int .i64 rc, .int .i64 rn, .string op] 32)) (.cells #[.slice none 0 0, .slice none 0 0] 29); rwa [World.size_alloc, World.size_alloc] at this),
     (((Below.refl _ w).alloc (Nat.le_refl _) _).alloc (by simp) _).alloc (by simp; omega) _⟩)
  generalize ((w.alloc (.cells #[Value.slice p np cp, Value.slice ps ns cs] 29)).alloc (.cells #[.int .i64 rc, .int .i64 rn, .string op] 32)).alloc (.cells #[.slice none 0 0, .slice none 0 0] 29) = W0 at HM ⊢
  have q0 := HM.out.q.cell (j := 0) (show 0 < 3 by decide); have q1 := HM.out.q.cell (j := 1) (show 1 < 3 by decide); have q2 := HM.out.q.cell (j := 2) (show 2 < 3 by decide)
  have m0 := HM.out.m.cell (j := 0) (show 0 < 2 by decide); have m1 := HM.out.m.cell (j := 1) (show 1 < 2 by decide)
  have r0 := HM.out.r.cell (j := 0) (show 0 < 2 by decide); have r1 := HM.out.r.cell (j := 1) (show 1 < 2 by decide)
  have f0 := HM.out.r.frozen 0; have f1 := HM.out.r.frozen 1
  simp only [List.getElem_cons_zero, List.getElem_cons_succ] at q0 q1 q2 m0 m1 r0 r1
  cases hr : rightB rc rn with
  | false =>
    rw [hr] at HR
    go_wp2_with (go_at_call 28; refine (HR.out _).mono ?_; rintro e w1 ⟨rfl, hw⟩; obtain rfl := hw.symm)
    refine bodyPost_ret (results_row_tmp rfl _ _ (w.heap.size + 2) 29 _ (0, 0) _ rfl (HM.out.res (.slice p np cp) (.slice ps ns cs)) Tryz.underlying29 rfl Tryz.info29) rfl ?_
    exact ⟨_, _, L, S, _, rfl, HP.out.below (HM.out.resbl _ _), HS.out.below (HM.out.resbl _ _), HLV.out.1, HLV.out.2, by have := HN.out; omega, HM.out.resbl _ _⟩
  | true =>
    rw [hr] at HR hbad
    have hb2 : op.size = 0 ∨ 200 < op.size := by simpa using hbad
    by_cases h0 : op.size = 0
    · have hr0 := size0 (r := op) h0
      subst hr0
      go_wp2_with (go_at_call 28; refine (HR.out _).mono ?_; rintro e w1 ⟨rfl, hw⟩; obtain rfl := hw.symm)
      refine bodyPost_ret (results_row_tmp rfl _ _ (w.heap.size + 2) 29 _ (0, 0) _ rfl (HM.out.res (.slice p np cp) (.slice ps ns cs)) Tryz.underlying29 rfl Tryz.info29) rfl ?_
      exact ⟨_, _, L, S, _, rfl, HP.out.below (HM.out.resbl _ _), HS.out.below (HM.out.resbl _ _), HLV.out.1, HLV.out.2, by have := HN.out; omega, HM.out.resbl _ _⟩
    · have hse := empty_no (s := op) (by omega)
      have h2 : (200 : Int) < (op.size : Int) := by omega
      go_wp2_with (go_at_call 28; refine (HR.out _).mono ?_; rintro e w1 ⟨rfl, hw⟩; obtain rfl := hw.symm)
      refine bodyPost_ret (results_row_tmp rfl _ _ (w.heap.size + 2) 29 _ (0, 0) _ rfl (HM.out.res (.slice p np cp) (.slice ps ns cs)) Tryz.underlying29 rfl Tryz.info29) rfl ?_
      exact ⟨_, _, L, S, _, rfl, HP.out.below (HM.out.resbl _ _), HS.out.below (HM.out.resbl _ _), HLV.out.1, HLV.out.2, by have := HN.out; omega, HM.out.resbl _ _⟩
end Go.Proofs.YtnaglmigkbbljaaGreatDoor
