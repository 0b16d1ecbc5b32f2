/-
  TopTransferred: SHA-256, exactly: the digits; digest.Hex.
-/
import Derived.Test.YtnaglmigkbbljaaGreatDoorDcC
set_option maxHeartbeats 6400000
set_option maxRecDepth 1000000
namespace Go.Proofs.YtnaglmigkbbljaaGreatDoor
open Go Go.RowKit
def hexS : ByteArray := ⟨#[48, 49, 50, 51, 52, 53, 54, 55, 56, 57, 97, 98, 99, 100, 101, 102]⟩
theorem idx106 (cs : Array Value) (j : Nat) (v : Int) (W : World) (hj : j < 32) (hc : cs[j]? = some (.int .u8 v)) : (Instr.index 106 (.agg cs) (.int .i64 (j:Int))).run Tryz.prog W = .ok (.int .u8 v) W := by
 have h1 : (0 : Int) ≤ (j : Int) := by omega
 simp [Instr.index, go_sem, Tryz.sizeOf5, Tryz.isAgg5, h1, hc]
 intro h
 omega
theorem hex_at (x : Nat) (W : World) (hx : x < 16) : (Instr.index 9 (.string hexS) (.int .u8 (x : Int))).run Tryz.prog W = .ok (.int .u8 ((hexS[x]'hx).toNat : Int)) W := by
 have h1 : (0 : Int) ≤ (x : Int) := by omega
 have h2 : x < hexS.size := hx
 simp [Instr.index, go_sem, h1, h2]
 rfl
def IsS (s : ByteArray) (w : World) (e : Ending) (w' : World) : Prop := e = .returned (.string s) ∧ Below w.heap.size w w'
theorem below_grown' {w wr w1 : World} {base : Nat} {o : Obj} {e : TypeId} {sz n : Nat} {v : Value} {xs : List Value} (hbl : Below w.heap.size w wr) (hown : wr.ownsRow base e sz v n xs) (hB : w.heap.size ≤ base) (hg : (wr.alloc o).drew.grownBy w1 v.ownBlock) : Below w.heap.size w w1 := by
 have h1 : Below w.heap.size w (wr.alloc o) := hbl.alloc hbl.size o
 refine ⟨hg.os.trans h1.os, hg.tape.trans h1.tape, hg.output.trans h1.output, Nat.le_trans h1.size hg.size, fun i hi => ?_⟩
 refine (hg.block i (by have := h1.size; exact Nat.lt_of_lt_of_le hi this) fun e => ?_).trans (h1.block i hi)
 rcases hown.2 with ⟨rfl, _⟩ | ⟨g, cap, cur, rfl, hbg, _⟩
 ·cases e
 ·simp [Value.ownBlock] at e; omega
def andOk : Bool := (List.range 256).all fun x => decide (0 ≤ bits BinOp.and IntKind.u8 (x : Int) 15) && decide (bits BinOp.and IntKind.u8 (x : Int) 15 < 16)
theorem andOk_yes : andOk = true := by kernel_rfl
theorem and_lt (x : Int) (h0 : 0 ≤ x) (h1 : x < 256) : 0 ≤ bits BinOp.and IntKind.u8 x 15 ∧ bits BinOp.and IntKind.u8 x 15 < 16 := by
 obtain ⟨n, rfl⟩ : ∃ n : Nat, x = (n : Int) := ⟨x.toNat, by omega⟩
 have := List.all_eq_true.mp andOk_yes n (List.mem_range.mpr (by omega))
 simpa using this
def hexD (x : Nat) : UInt8 := hexS.data.getD x 0
theorem hexD_at (x : Nat) (h : x < 16) : hexS[x]'h = hexD x := by
 have : x < hexS.data.size := h
 unfold hexD
 rw [Array.getD_eq_getD_getElem?, Array.getElem?_eq_getElem this]
 rfl
def digF (l : List Int) : Nat → List UInt8
 | 0 => []
 | k + 1 => digF l k ++ [hexD (at0 l k / 16).toNat, hexD (bits BinOp.and IntKind.u8 (at0 l k) 15).toNat]
theorem digF_len (l : List Int) : ∀ k, (digF l k).length = 2 * k
 | 0 => rfl
 | k + 1 => by simp [digF, digF_len l k]; omega
theorem conv_own {w : World} {base g n cap : Nat} {E : List UInt8} (h : w.ownsRow base 5 1 (.slice (some ⟨g, 0, none⟩) n cap) n (u8V E)) (c : Nat) :
  Sem.run Tryz.prog (convert 23 9 (.slice (some ⟨g, 0, none⟩) n c)) w = .ok (.string ⟨E.toArray⟩) w := by
 have hl : E.length = n := by have := h.1; simpa [u8V] using this
 have hc : ∀ j (hj : j < E.length), w.cell? ((⟨g, 0, none⟩ : Addr).add j) = some (.int .u8 (E[j].toNat : Int)) := fun j hj =>
  World.ownsRow.cells h rfl j _ (by simp [u8V, hj])
 have := run_convert_bytes_back (P := Tryz.prog) w 23 9 5 ⟨g, 0, none⟩ c E Tryz.underlying23 Tryz.underlying5 Tryz.underlying9 hc
 rw [hl] at this
 exact this
theorem digits_ex (l : List Int) (w : World) (hl : l.length = 32) (hx : ∀ x ∈ l, 0 ≤ x ∧ x < 256) : Calls Tryz.prog 46 #[.agg (u8I l).toArray] w (IsS ⟨(digF l 32).toArray⟩ w) := by
 obtain ⟨i0, hi, hz0, hz1, hz2⟩ := info_parts Tryz.info5
 obtain ⟨ca, hca⟩ : ∃ ca, ca = (u8I l).toArray := ⟨_, rfl⟩
 have hcs : ca.size = 32 := by rw [hca]; simp [u8I, hl]
 rw [← hca]
 have HCA := Lib.hid hca
 clear hca
 go_enter Tryz.func46, Tryz.ntmps46
 go_upto_region 2 with (at_make; refine wpList_make_own _ rfl _ _ 23 rfl w.heap.size 5 i0 (.int .u8 0) 1 Tryz.underlying23 hi hz0 hz1 .i64 .i64 64 64 rfl rfl rfl (by rw [hz2]; decide) (by unfold maxLen; omega) (by simp) ?_; intro w2 hown2 hgr2)
 have hb2 : Below w.heap.size w w2 := ((Below.refl _ w).alloc (Nat.le_refl _) (.cells ca 106)).trans (((Below.refl _ _).grown hgr2 (Nat.le_refl _) (fun k hk => by cases hk)).mono (by simp))
 have hT : w2.heap[w.heap.size]? = some (.cells ca 106 (0, 0)) := (hgr2.block _ (by simp) (by simp)).trans (heap_alloc_new w _)
 have hown3 : w2.ownsRow (w.heap.size + 1) 5 1 (.slice (some ⟨w.heap.size + 1, 0, none⟩) 0 64) 0 [] := by
  have h3 : (w.alloc (.cells ca 106)).heap.size = w.heap.size + 1 := by simp
  rw [h3] at hown2
  refine ⟨rfl, .inr ?_⟩
  rcases hown2.2 with ⟨h0, _⟩ | ⟨g, cap, cur, h1, hg, hr⟩
  ·cases h0
  ·injection h1 with h1 h4 h5
   injection h1 with h1
   injection h1 with h1
   subst h1 h5
   exact ⟨_, _, _, rfl, by omega, hr⟩
 have HO2 := Lib.hid hown3
 have HT2 := Lib.hid hT
 have HB2 := Lib.hid hb2
 clear hown2 hgr2 hown3 hT hb2
 go_upto_block 0 with (refine wpList_load_row rfl 106 (.tmp 1) rfl w.heap.size rfl 106 ca (0, 0) _ HT2.out Tryz.underlying106 rfl (by rw [hcs]; exact Tryz.info106) ?_)
 go_wp2_with fail
 go_loopw [3, 8] (fun v i wr => ∃ k : Nat, k ≤ 32 ∧ i = .int .i64 k ∧ wr.ownsRow (w.heap.size + 1) 5 1 v (2 * k) (u8V (digF l k)) ∧ Below w.heap.size w wr ∧ w.heap.size + 1 ≤ wr.heap.size) (fun _ i _ => 32 - (intOf i).toNat)
 case atStart => exact ⟨0, by omega, rfl, HO2.out, HB2.out, (Array.getElem?_eq_some_iff.mp HT2.out).1⟩
 case round =>
  clear HO2 HT2 HB2
  obtain ⟨k, hk, rfl, ho, hb, hs⟩ := hrel
  have HO := Lib.hid ho
  have HB := Lib.hid hb
  clear ho hb
  by_cases hkn : k < 32
  ·have hidx := fun W => idx106 ca k (at0 l k) W hkn (by rw [HCA.out]; simp [u8I, at0, hl, hkn])
   have hxk := hx (at0 l k) (by unfold at0; rw [List.getElem?_eq_getElem (by omega)]; exact List.getElem_mem _)
   have hand := and_lt (at0 l k) hxk.1 hxk.2
   have HDN := Lib.hid (show digF l (k + 1) = digF l k ++ [hexD (at0 l k / 16).toNat, hexD (bits BinOp.and IntKind.u8 (at0 l k) 15).toNat] from rfl)
   generalize at0 l k = x at hidx hxk hand HDN
   obtain ⟨a1, ha1⟩ : ∃ a : Nat, x / 16 = (a : Int) := ⟨(x / 16).toNat, by omega⟩
   obtain ⟨a2, ha2⟩ : ∃ a : Nat, bits BinOp.and IntKind.u8 x 15 = (a : Int) := ⟨(bits BinOp.and IntKind.u8 x 15).toNat, by omega⟩
   have hx0 := hxk.1
   have hx1 := hxk.2
   have h1 : a1 < 16 := by omega
   have h2 : a2 < 16 := by omega
   have hh1 : ∀ W, (Instr.index 9 (.string ⟨#[48, 49, 50, 51, 52, 53, 54, 55, 56, 57, 97, 98, 99, 100, 101, 102]⟩) (.int .u8 (a1 : Int))).run Tryz.prog W = .ok (.int .u8 ((hexD a1).toNat : Int)) W := fun W => by have := hex_at a1 W h1; rwa [hexD_at] at this
   have hh2 : ∀ W, (Instr.index 9 (.string ⟨#[48, 49, 50, 51, 52, 53, 54, 55, 56, 57, 97, 98, 99, 100, 101, 102]⟩) (.int .u8 (a2 : Int))).run Tryz.prog W = .ok (.int .u8 ((hexD a2).toNat : Int)) W := fun W => by have := hex_at a2 W h2; rwa [hexD_at] at this
   rw [ha1, ha2] at HDN
   generalize digF l k = D at HO HDN
   have HDN := Lib.hid (show digF l (k + 1) = D ++ [hexD a1, hexD a2] from HDN.out)
   generalize hexD a1 = d1 at hh1 HDN
   generalize hexD a2 = d2 at hh2 HDN
   go_upto_region 5 with fail
   clear hidx
   go_region_held3 (fun _ => True)
    (first | trivial)
    (first | (refine step_append_lies _ (by rfl) _ _ _ (by rfl) (w.heap.size + 1) 5 i0 (.int .u8 0) 1 1 Tryz.underlying23 hi hz0 hz1 hz2 rfl (by omega) u3 (2 * k) (u8V D) (by rfl) (HO.out.alloc _) ⟨wr.heap.size, 0, none⟩ 2 2 [.int .u8 (d1.toNat : Int), .int .u8 (d2.toNat : Int)] (by rfl) (by rfl) (World.news_of_block (cs := #[.int .u8 (d1.toNat : Int), .int .u8 (d2.toNat : Int)]) (t := 5) (fr := (0, 0)) (heap_alloc_new _ _)) (by simp [Value.oneCell']) (by omega) (by unfold maxLen; omega) (by omega) (by simp; omega) (wr.heap.size + 1) (by simp) ?_; intro g5 c5 w5 hown5 hgrow hat hlt))
   all_goals
    have hb5 : Below w.heap.size w w5 := below_grown' HB.out HO.out (by omega) hgrow
    have HO5 := Lib.hid (show w5.ownsRow (w.heap.size + 1) 5 1 (.slice (some ⟨g5, 0, none⟩) (2 * k + 2) c5) (2 * k + 2) (u8V (digF l (k + 1))) by rw [HDN.out, u8V_append]; exact hown5)
    have hs5 : w.heap.size + 1 ≤ w5.heap.size := by have := hgrow.size; simp at this; omega
    clear hown5 hgrow hat hlt HO
    go_wp2_with fail
    go_roundw
    case rel => exact ⟨k + 1, by omega, by go_num, HO5.out, hb5, hs5⟩
    case measure => simp [intOf]; omega
  ·have hk32 : k = 32 := by omega
   have HO3 := Lib.hid (show wr.ownsRow (w.heap.size + 1) 5 1 u3 64 (u8V (digF l 32)) by have := HO.out; rwa [hk32] at this)
   clear HO hk32
   obtain ⟨g, cap, hv, _⟩ := HO3.out.form (by omega)
   subst hv
   have hconv := conv_own HO3.out
   go_wp2_with fail
   go_ret
   exact ⟨rfl, HB.out⟩
end Go.Proofs.YtnaglmigkbbljaaGreatDoor
/-
  TopTransferred: SHA-256, exactly: digest.Sum, digest.Hex.
-/
namespace Go.Proofs.YtnaglmigkbbljaaGreatDoor
open Go Go.RowKit
def sumOf (s : ByteArray) : List Int := sumF (stF startL (ByteArray.empty ++ s) ((ByteArray.empty ++ s).size / 64)) (rF (ByteArray.empty ++ s) ((ByteArray.empty ++ s).size / 64)) (0 + s.size)
def hexF (s : ByteArray) : ByteArray := ⟨(digF (sumOf s) 32).toArray⟩
theorem outF_lt (f : List Int) : ∀ k, ∀ x ∈ outF f k, 0 ≤ x ∧ x < 256
 | 0, x, hx => by
  simp [outF] at hx
  omega
 | k + 1, x, hx => by
  rcases List.mem_or_eq_of_mem_set hx with h | h
  ·exact outF_lt f k x h
  ·subst h
   exact ⟨Int.emod_nonneg _ (by decide), Int.emod_lt_of_pos _ (by decide)⟩
theorem sumOf_lt (s : ByteArray) : ∀ x ∈ sumOf s, 0 ≤ x ∧ x < 256 := by
 unfold sumOf sumF
 generalize (32 : Nat) = k
 exact outF_lt _ k
theorem sumOf_len (s : ByteArray) : (sumOf s).length = 32 := by
 unfold sumOf sumF
 rw [outF_len]
theorem hexF_data (s : ByteArray) : ∃ k, k = 32 ∧ (hexF s).data.toList = digF (sumOf s) k := by
 obtain ⟨k, hk⟩ : ∃ k, k = 32 := ⟨_, rfl⟩
 refine ⟨k, hk, ?_⟩
 unfold hexF
 rw [← hk]
theorem hexF_size (s : ByteArray) : (hexF s).size = 64 := by
 obtain ⟨k, hk, h⟩ := hexF_data s
 have : (hexF s).size = (hexF s).data.toList.length := by simp
 rw [this, h, digF_len, hk]
theorem hexD_hex : ∀ x, x < 16 → (hexS.data.toList.contains (hexD x)) = true := by decide
theorem digF_hex (l : List Int) (hl : ∀ x ∈ l, 0 ≤ x ∧ x < 256) : ∀ k, k ≤ l.length → ∀ d ∈ digF l k, (hexS.data.toList.contains d) = true
 | 0, _, d, hd => by cases hd
 | k + 1, hk, d, hd => by
  have hx := hl (at0 l k) (by unfold at0; rw [List.getElem?_eq_getElem (by omega)]; exact List.getElem_mem _)
  have ha := and_lt _ hx.1 hx.2
  unfold digF at hd
  rcases List.mem_append.mp hd with h | h
  ·exact digF_hex l hl k (by omega) d h
  ·simp only [List.mem_cons, List.not_mem_nil, or_false] at h
   rcases h with rfl | rfl
   ·exact hexD_hex _ (by omega)
   ·exact hexD_hex _ (by omega)
theorem hexF_hex (s : ByteArray) : ∀ d ∈ (hexF s).data.toList, (hexS.data.toList.contains d) = true := fun d hd => by
 obtain ⟨k, hk, h⟩ := hexF_data s
 rw [h] at hd
 exact digF_hex _ (sumOf_lt s) k (by rw [sumOf_len]; omega) d hd
theorem sum0_ex (s : ByteArray) (w : World) (hs : s.size ≤ 1048576) : Calls Tryz.prog 47 #[.string s] w (SumRet (sumOf s) w) := by
 obtain ⟨q, hq⟩ : ∃ q, q = stF startL (ByteArray.empty ++ s) ((ByteArray.empty ++ s).size / 64) := ⟨_, rfl⟩
 obtain ⟨R, hR⟩ : ∃ R, R = rF (ByteArray.empty ++ s) ((ByteArray.empty ++ s).size / 64) := ⟨_, rfl⟩
 have hql : q.length = 8 := by rw [hq]; exact stF_len _ rfl _
 have hRs : R.size ≤ 1048576 := by
  have h1 := rF_size (ByteArray.empty ++ s) ((ByteArray.empty ++ s).size / 64) (by omega)
  have h2 : (ByteArray.empty ++ s).size = s.size := by rw [ByteArray.size_append]; simp
  rw [hR]
  omega
 have HSE := Lib.hid (show sumF q R (0 + s.size) = sumOf s by unfold sumOf; rw [hq, hR])
 have HWE := Lib.hid (fun (W : World) (b : Nat) (h : Wrote W b startL (ByteArray.empty ++ s) (0 + s.size)) => show HashAt W b q R (0 + s.size) by unfold Wrote at h; rw [hq, hR]; exact h)
 have hLl := sumOf_len s
 clear hq hR
 generalize sumOf s = L at HSE hLl ⊢
 go_enter Tryz.func47, Tryz.ntmps47
 go_upto_region 1 with fail
 have hb1 := (Below.refl _ w).alloc (Nat.le_refl _) (.cells (u8I (List.replicate 32 0)).toArray 106)
 have HR := Lib.hid (show (w.alloc (.cells (u8I (List.replicate 32 0)).toArray 106)).heap[w.heap.size]? = some (.cells (u8I (List.replicate 32 0)).toArray 106 (0, 0)) from heap_alloc_new w _)
 change Code.wp _ _ _ _ (w.alloc (.cells (u8I (List.replicate 32 0)).toArray 106))
 have B1 := Lib.hid hb1
 clear hb1
 have hlt := (Array.getElem?_eq_some_iff.mp HR.out).1
 generalize w.alloc (.cells (u8I (List.replicate 32 0)).toArray 106) = w1 at HR B1 hlt ⊢
 obtain ⟨ca, hca⟩ : ∃ ca, ca = (u8I L).toArray := ⟨_, rfl⟩
 have hcs : ca.size = 32 := by rw [hca]; simp [u8I, hLl]
 have hco : ca.all (·.oneCell') = true := by rw [hca]; simp [u8I, Value.oneCell']
 have HCA := Lib.hid hca
 clear hca
 go_upto_region 2 with (go_at_call 98; refine (new_ex _).mono ?_; rintro e w2 ⟨b, rfl, hb, hh, hb2⟩)
 have HH := Lib.hid hh
 have HB2 := Lib.hid (B1.out.trans (hb2.mono B1.out.size))
 have HR2 := Lib.hid ((hb2.block _ hlt).trans HR.out)
 clear hh hb2 B1 HR
 go_upto_region 3 with (go_at_call 99; refine (write_ex b startL ByteArray.empty s 0 _ rfl HH.out (by omega) (by decide) hs).mono ?_; rintro e w3 ⟨⟨v, rfl⟩, hw3, hg3⟩)
 have HW3 := Lib.hid (HWE.out w3 b hw3)
 have hsz2 := HB2.out.size
 have HB3 := Lib.hid (show Below w.heap.size w w3 from ⟨hg3.os.trans HB2.out.os, hg3.tape.trans HB2.out.tape, hg3.output.trans HB2.out.output, Nat.le_trans HB2.out.size hg3.size, fun i hi => (hg3.block i (by omega) (fun e => by injection e with e; omega)).trans (HB2.out.block i hi)⟩)
 have HR3 := Lib.hid ((hg3.block _ (Array.getElem?_eq_some_iff.mp HR2.out).1 (fun e => by injection e with e; omega)).trans HR2.out)
 clear hw3 hg3 HB2 HR2 HH
 have HSUM := Lib.hid (sum_ex b q R (0 + s.size) w3 hql HW3.out (by omega) hRs)
 rw [HSE.out] at HSUM
 go_wp2_with (first
  | (go_at_call 100; refine HSUM.out.mono ?_; rintro e w4 ⟨rfl, hb4⟩; have HR4 := Lib.hid ((hb4.block _ (Array.getElem?_eq_some_iff.mp HR3.out).1).trans HR3.out); have HB4 := Lib.hid (HB3.out.trans (hb4.mono HB3.out.size)); clear hb4)
  | (refine wpList_store_row rfl 106 (.tmp 2) (.tmp 9) rfl w.heap.size ca rfl (by rw [HCA.out]; rfl) 106 _ HR4.out (by rw [hcs]; exact Tryz.info106) (by rw [hcs]; simp [u8I]) hco ?_))
 refine bodyPost_ret (results_cell_row rfl _ _ w.heap.size 106 ca (0, 0) _ rfl (setRow_heap _ _ _ _ _ _ HR4.out) Tryz.underlying106 rfl (by rw [hcs]; exact Tryz.info106)) rfl ⟨?_, ?_⟩
 ·rw [HCA.out]
 ·exact ⟨HB4.out.os, HB4.out.tape, HB4.out.output, by have := HB4.out.size; simpa using this, fun i hi => (setRow_other _ _ _ _ (by omega)).trans (HB4.out.block i hi)⟩
theorem hex_ex (s : ByteArray) (w : World) (hs : s.size ≤ 1048576) : Calls Tryz.prog 15 #[.string s] w (IsS (hexF s) w) := by
 have HL := sumOf_len s
 have HX := Lib.hid (sumOf_lt s)
 have HD := Lib.hid (show hexF s = ⟨(digF (sumOf s) 32).toArray⟩ from rfl)
 have H1 := Lib.hid (sum0_ex s w hs)
 generalize sumOf s = l at HL HX HD H1
 go_enter Tryz.func15, Tryz.ntmps15
 go_wp2_with (first
  | (go_at_call 47; refine H1.out.mono ?_; rintro e w1 ⟨rfl, hb1⟩; have HB1 := Lib.hid hb1; clear hb1)
  | (go_at_call 46; refine (digits_ex l _ HL HX.out).mono ?_; rintro e w2 ⟨rfl, hb2⟩; have HB2 := Lib.hid hb2; clear hb2))
 go_ret
 exact ⟨by rw [HD.out]; rfl, HB1.out.trans (HB2.out.mono HB1.out.size)⟩
end Go.Proofs.YtnaglmigkbbljaaGreatDoor
/-
  TopTransferred: rows of cells that came in; the strings of which digests are taken; merkle.first.
-/
namespace Go.Proofs.YtnaglmigkbbljaaGreatDoor
open Go Go.RowKit
def CL (W : World) (p : Option Addr) (xs : List Value) : Prop := xs = [] ∨ ∃ b off, p = some ⟨b, off, none⟩ ∧ b < W.heap.size ∧ ∀ i (h : i < xs.length), W.cell? ⟨b, off + i, none⟩ = some xs[i]
theorem CL.below {W W' : World} {p : Option Addr} {xs : List Value} (h : CL W p xs) (hb : Below W.heap.size W W') : CL W' p xs := by
 rcases h with h | ⟨b, off, h1, h2, h3⟩
 ·exact .inl h
 ·exact .inr ⟨b, off, h1, Nat.lt_of_lt_of_le h2 hb.size, fun i hi => (hb.cell (p := ⟨b, off + i, none⟩) h2).trans (h3 i hi)⟩
theorem CL.at {W : World} {p : Option Addr} {xs : List Value} (h : CL W p xs) {j : Nat} (hj : j < xs.length) : ∃ b off, p = some ⟨b, off, none⟩ ∧ b < W.heap.size ∧ ∀ i (h : i < xs.length), W.cell? ⟨b, off + i, none⟩ = some xs[i] := by
 rcases h with h | h
 ·subst h; cases hj
 ·exact h
theorem CL.nil (W : World) (p : Option Addr) : CL W p [] := .inl rfl
theorem CL.drop {W : World} {b off : Nat} {xs : List Value} (h : CL W (some ⟨b, off, none⟩) xs) (k : Nat) : CL W (some ⟨b, off + k, none⟩) (xs.drop k) := by
 rcases h with h | ⟨b', off', h1, h2, h3⟩
 ·left; rw [h]; simp
 ·injection h1 with h1
  injection h1 with h4 h5
  subst h4 h5
  refine .inr ⟨b, off + k, rfl, h2, fun i hi => ?_⟩
  have hi' : k + i < xs.length := by rw [List.length_drop] at hi; omega
  rw [Nat.add_assoc, h3 (k + i) hi', List.getElem_drop]
theorem CL.take {W : World} {p : Option Addr} {xs : List Value} (h : CL W p xs) (k : Nat) : CL W p (xs.take k) := by
 rcases h with h | ⟨b, off, h1, h2, h3⟩
 ·left; rw [h]; simp
 ·refine .inr ⟨b, off, h1, h2, fun i hi => ?_⟩
  have hi' : i < xs.length := by rw [List.length_take] at hi; omega
  rw [h3 i hi', List.getElem_take]
theorem cl_of_own {w : World} {base e n : Nat} {v : Value} {xs : List Value} (h : w.ownsRow base e 1 v n xs) : ∃ p cap, v = .slice p n cap ∧ n ≤ cap ∧ CL w p xs := by
 have hl := h.1
 rcases h.2 with ⟨rfl, h0⟩ | ⟨g, cap, cur, rfl, _, hc, hcap, _, hsz, hx⟩
 ·subst h0
  exact ⟨none, 0, rfl, Nat.le_refl _, .inl (List.eq_nil_of_length_eq_zero (by simpa using hl))⟩
 ·have hg : g < w.heap.size := (Array.getElem?_eq_some_iff.mp hc).1
  refine ⟨_, cap, rfl, hcap, .inr ⟨g, 0, rfl, hg, fun i hi => ?_⟩⟩
  have hj2 : (cur.toList.take (n * 1))[i]? = some xs[i] := by rw [hx]; simp
  rw [List.getElem?_take] at hj2
  split at hj2
  ·simp [World.cell?, hc]
   simpa using hj2
  ·cases hj2
def strV (l : List ByteArray) : List Value := l.map fun s => Value.string s
theorem strV_len (l : List ByteArray) : (strV l).length = l.length := by simp [strV]
theorem strV_snoc (l : List ByteArray) (s : ByteArray) : strV l ++ [.string s] = strV (l ++ [s]) := by simp [strV]
theorem strV_at (l : List ByteArray) {i : Nat} (h : i < (strV l).length) : (strV l)[i] = .string (l[i]'(by rw [strV_len] at h; exact h)) := by simp [strV]
def StrL (W : World) (p : Option Addr) (l : List ByteArray) : Prop := CL W p (strV l)
theorem StrL.below {W W' : World} {p : Option Addr} {l : List ByteArray} (h : StrL W p l) (hb : Below W.heap.size W W') : StrL W' p l := CL.below h hb
theorem StrL.at {W : World} {p : Option Addr} {l : List ByteArray} (h : StrL W p l) {j : Nat} (hj : j < l.length) : ∃ b off, p = some ⟨b, off, none⟩ ∧ b < W.heap.size ∧ ∀ i (h : i < l.length), W.cell? ⟨b, off + i, none⟩ = some (.string l[i]) := by
 obtain ⟨b, off, h1, h2, h3⟩ := CL.at h (j := j) (by rw [strV_len]; exact hj)
 exact ⟨b, off, h1, h2, fun i hi => by rw [h3 i (by rw [strV_len]; exact hi), strV_at]⟩
def SzL (n : Nat) (l : List ByteArray) : Prop := ∀ s ∈ l, s.size ≤ n
def StrsRet (l : List ByteArray) (w : World) (e : Ending) (w' : World) : Prop := ∃ v, e = .returned v ∧ w'.ownsRow w.heap.size 9 1 v l.length (strV l) ∧ Below w.heap.size w w'
theorem strs_slice {l : List ByteArray} {w' : World} {base n : Nat} {v : Value} (h : w'.ownsRow base 9 1 v n (strV l)) : ∃ p cap, v = .slice p n cap ∧ n ≤ cap ∧ StrL w' p l := cl_of_own h
def leafT (s : ByteArray) : ByteArray := ⟨#[108, 101, 97, 102]⟩ ++ s
def nodeT (a b : ByteArray) : ByteArray := ⟨#[110, 111, 100, 101]⟩ ++ a ++ b
theorem leafT_size (s : ByteArray) : (leafT s).size = s.size + 4 := by unfold leafT; rw [ByteArray.size_append]; show 4 + _ = _; omega
theorem nodeT_size (a b : ByteArray) : (nodeT a b).size = a.size + b.size + 4 := by unfold nodeT; rw [ByteArray.size_append, ByteArray.size_append]; show 4 + _ + _ = _; omega
def SameS (s : ByteArray) (w : World) (e : Ending) (w' : World) : Prop := e = .returned (.string s) ∧ w' = w
theorem leaf_ex (s : ByteArray) (w : World) (hs : s.size ≤ 1048576) : Calls Tryz.prog 93 #[.string s] w (SameS (leafT s) w) := by
 go_enter Tryz.func93, Tryz.ntmps93
 go_wp2_with fail
 go_ret
 exact ⟨rfl, rfl⟩
theorem inner_ex (a b : ByteArray) (w : World) (ha : a.size ≤ 1048576) (hb : b.size ≤ 1048576) : Calls Tryz.prog 94 #[.string a, .string b] w (SameS (nodeT a b) w) := by
 go_enter Tryz.func94, Tryz.ntmps94
 go_wp2_with fail
 go_ret
 exact ⟨rfl, rfl⟩
def leafH (s : ByteArray) : ByteArray := hexF (leafT s)
def nodeH (a b : ByteArray) : ByteArray := hexF (nodeT a b)
def Blk (W : World) (b : Nat) (t : TypeId) (xs : List Value) : Prop := W.heap[b]? = some (.cells xs.toArray t (0, 0))
theorem Blk.lt {W : World} {b : Nat} {t : TypeId} {xs : List Value} (h : Blk W b t xs) : b < W.heap.size := (Array.getElem?_eq_some_iff.mp h).1
theorem Blk.below {W W' : World} {b : Nat} {t : TypeId} {xs : List Value} (h : Blk W b t xs) (hb : Below W.heap.size W W') : Blk W' b t xs := (hb.block b h.lt).trans h
theorem Blk.cell {W : World} {b : Nat} {t : TypeId} {xs : List Value} (h : Blk W b t xs) {j : Nat} (hj : j < xs.length) : W.cell? ⟨b, j, none⟩ = some xs[j] := cellOf h (by simp [hj])
theorem Blk.frozen {W : World} {b : Nat} {t : TypeId} {xs : List Value} (h : Blk W b t xs) (j : Nat) : W.frozen? ⟨b, j, none⟩ = false := frozenOf h
theorem Blk.set {W : World} {b : Nat} {t : TypeId} {xs : List Value} (h : Blk W b t xs) (j : Nat) (x : Value) : Blk (W.setCell ⟨b, j, none⟩ x) b t (xs.set j x) := by
 unfold Blk at *
 unfold World.setCell
 simp only [Array.getElem?_modify, h, if_true, Option.map_some]
 simp
theorem Blk.other {W : World} {b b' j : Nat} {t : TypeId} {xs : List Value} {v : Value} (h : Blk W b t xs) (hne : b ≠ b') : Blk (W.setCell ⟨b', j, none⟩ v) b t xs := by
 unfold Blk at *
 unfold World.setCell
 simp only [Array.getElem?_modify]
 rw [if_neg (by omega), h]
theorem Blk.cl {W : World} {b : Nat} {t : TypeId} {xs : List Value} (h : Blk W b t xs) : CL W (some ⟨b, 0, none⟩) xs :=
 .inr ⟨b, 0, rfl, h.lt, fun i hi => by rw [Nat.zero_add]; exact h.cell hi⟩
theorem Blk.own {W : World} {b : Nat} {t : TypeId} {xs : List Value} {n base : Nat} (h : Blk W b t xs) (hn : xs.length = n) (hm : n ≤ maxLen) (hb : base ≤ b) : W.ownsRow base t 1 (.slice (some ⟨b, 0, none⟩) n n) n xs := by
 subst hn
 exact ⟨by simp, .inr ⟨b, _, _, rfl, hb, h, Nat.le_refl _, hm, by simp, by simp⟩⟩
theorem blk_of_made {W : World} {base e g n : Nat} {z : Value} (h : W.ownsRow base e 1 (.slice (some ⟨g, 0, none⟩) n n) n (madeCells #[z] (n * 1)).toList) : Blk W g e (List.replicate n z) := by
 rcases h.2 with ⟨h0, _⟩ | ⟨g', cap, cur, h1, hg, hc, _, _, hsz, hx⟩
 ·cases h0
 ·injection h1 with h1 _ h2
  injection h1 with h1
  injection h1 with h1
  subst h1 h2
  unfold Blk
  rw [hc]
  congr 2
  have h3 : cur.toList = List.replicate n z := by
   rw [List.take_of_length_le (by simp [hsz])] at hx
   rw [hx]
   refine List.ext_getElem? fun i => ?_
   simp [madeCells, Nat.mod_one, List.getElem?_replicate]
   by_cases hi : i < n <;> simp [hi]
  rw [← h3]
def firstL (l : List ByteArray) (k : Nat) : List ByteArray := (l.take k).map leafH ++ List.replicate (l.length - k) ⟨#[]⟩
theorem firstL_zero (l : List ByteArray) : firstL l 0 = List.replicate l.length ⟨#[]⟩ := by simp [firstL]
theorem firstL_all (l : List ByteArray) : firstL l l.length = l.map leafH := by simp [firstL]
theorem firstL_len (l : List ByteArray) {k : Nat} (hk : k ≤ l.length) : (firstL l k).length = l.length := by simp [firstL]; omega
theorem firstL_set (l : List ByteArray) {k : Nat} (hk : k < l.length) : (firstL l k).set k (leafH l[k]) = firstL l (k + 1) := by
 unfold firstL
 have h1 : ((l.take k).map leafH).length = k := by simp; omega
 rw [List.set_append_right _ _ (by omega), h1, Nat.sub_self, show l.length - k = (l.length - (k + 1)) + 1 by omega, List.replicate_succ, List.set_cons_zero, List.take_succ_eq_append_getElem hk, List.map_append, List.append_assoc]
 rfl
theorem Tryz.info9 : (Tryz.prog.info? 9).map (fun i => (i.zero, i.size, i.bytes)) = some (some (.string ⟨#[]⟩), 1, 16) := by kernel_rfl
theorem first_ex (p : Option Addr) (n cap : Nat) (l : List ByteArray) (w : World) (hl : l.length = n) (hn : n ≤ 1048576) (hz : SzL 1000000 l) (h : StrL w p l) : Calls Tryz.prog 37 #[.slice p n cap] w (StrsRet (l.map leafH) w) := by
 obtain ⟨i0, hi, hz0, hz1, hz2⟩ := info_parts Tryz.info9
 have HL := Lib.hid h
 have HZ := Lib.hid hz
 have HN := Lib.hid hl
 clear h hz hl
 go_enter Tryz.func37, Tryz.ntmps37
 go_upto_block 0 with (at_make; refine wpList_make_full _ rfl _ _ 35 rfl w.heap.size 9 i0 (.string ⟨#[]⟩) 1 Tryz.underlying35 hi hz0 hz1 .i64 .i64 _ _ n rfl rfl rfl rfl (by rw [hz2]; omega) (by unfold maxLen; omega) (Nat.le_refl _) ?_; intro w2 hown2 hgr2)
 have HB2 := Lib.hid (show Below w.heap.size w w2 from (Below.refl _ _).grown hgr2 (Nat.le_refl _) (fun k hk => by cases hk))
 have HK2 := Lib.hid (show Blk w2 w.heap.size 9 (strV (firstL l 0)) by rw [firstL_zero, HN.out]; have := blk_of_made hown2; simpa [strV] using this)
 clear hown2 hgr2
 go_wp2_with fail
 go_loopw [11] (fun i wr => ∃ k : Nat, k ≤ n ∧ i = .int .i64 k ∧ Blk wr w.heap.size 9 (strV (firstL l k)) ∧ Below w.heap.size w wr) (fun i _ => n - (intOf i).toNat)
 case atStart => exact ⟨0, by omega, rfl, HK2.out, HB2.out⟩
 case round =>
  clear HK2 HB2
  obtain ⟨k, hk, rfl, hb, hw⟩ := hrel
  have HK := Lib.hid hb
  have HB := Lib.hid hw
  clear hb hw
  by_cases hkn : k < n
  ·have hkl : k < l.length := by have := HN.out; omega
   obtain ⟨b, off, rfl, hb, hc⟩ := HL.out.at hkl
   have hck := (HB.out.cell (p := ⟨b, off + k, none⟩) hb).trans (hc k hkl)
   have hsk : l[k].size ≤ 1000000 := HZ.out _ (List.getElem_mem _)
   have HFS := Lib.hid (firstL_set l hkl)
   clear hc
   generalize l[k] = s at hck hsk HFS
   have e0 : (0 : Int) ≤ (k : Int) := by omega
   have e1 : (k : Int) < (n : Int) := by omega
   have hls : (leafT s).size ≤ 1048576 := by rw [leafT_size]; omega
   have HX := Lib.hid (show hexF (leafT s) = leafH s from rfl)
   go_wp2_with (first
    | (go_at_call 93; refine (leaf_ex s _ (by omega)).mono ?_; rintro e w3 ⟨rfl, rfl⟩)
    | (go_at_call 15; refine (hex_ex (leafT s) _ hls).mono ?_; rw [HX.out]; rintro e w4 ⟨rfl, hb4⟩; have HK4 := Lib.hid (HK.out.below hb4); have HB4 := Lib.hid (HB.out.trans (hb4.mono HB.out.size)); have hck4 := HK4.out.cell (j := k) (by rw [strV_len, firstL_len _ (by omega)]; exact hkl); have hf4 := HK4.out.frozen k; clear hb4))
   go_roundw
   case rel => exact ⟨k + 1, by omega, by go_num, by have := HK4.out.set k (.string (leafH s)); rw [← HFS.out]; unfold strV at *; rw [List.map_set]; exact this, below_set HB4.out (p := ⟨w.heap.size, k, none⟩) (Nat.le_refl _) _⟩
   case measure => simp [intOf]; omega
  ·have hkn2 : k = n := by omega
   have HK3 := Lib.hid (show Blk wr w.heap.size 9 (strV (l.map leafH)) by have := HK.out; rwa [hkn2, ← HN.out, firstL_all] at this)
   clear HK hkn2
   go_wp2_with fail
   go_ret
   exact ⟨_, rfl, by rw [List.length_map, HN.out]; exact HK3.out.own (by rw [strV_len, List.length_map, HN.out]) (by unfold maxLen; omega) (Nat.le_refl _), HB.out⟩
end Go.Proofs.YtnaglmigkbbljaaGreatDoor
/-
  TopTransferred, the plain part on hash trees: what a range proof of a list leads to, and what two different leaves with one root come to. No program in sight.
-/
namespace Go.Proofs.Mk
variable {B : Type} (N : B → B → B)
def above : List B → List B
 | a :: b :: t => N a b :: above t
 | l => l
theorem above_length : ∀ l : List B, (above N l).length = (l.length + 1) / 2
 | [] => by simp [above]
 | [_] => by simp [above]
 | a :: b :: t => by simp only [above, List.length_cons, above_length t]; omega
theorem above_get : ∀ (l : List B) (j : Nat), j < (l.length + 1) / 2 →
  (above N l)[j]? = if 2 * j + 1 < l.length then (match l[2 * j]?, l[2 * j + 1]? with | some a, some b => some (N a b) | _, _ => none) else l[2 * j]?
 | [], j, h => by simp at h
 | [a], 0, _ => rfl
 | [a], j + 1, h => by simp at h
 | a :: b :: t, 0, _ => by simp [above]
 | a :: b :: t, j + 1, h => by
  have := above_get t j (by simp at h; omega)
  have e1 : 2 * (j + 1) = 2 * j + 1 + 1 := by omega
  have e2 : 2 * (j + 1) + 1 = 2 * j + 1 + 1 + 1 := by omega
  simp only [above, List.getElem?_cons_succ, e1, List.length_cons]
  rw [this]
  by_cases h2 : 2 * j + 1 < t.length
  ·rw [if_pos h2, if_pos (by omega)]
  ·rw [if_neg h2, if_neg (by omega)]
def part (l : List B) (i k : Nat) : List B := (l.take k).drop i
theorem part_length (l : List B) {i k : Nat} (h : k ≤ l.length) : (part l i k).length = k - i := by
 simp [part]; omega
theorem part_get (l : List B) {i k j : Nat} (h : j < k - i) : (part l i k)[j]? = l[i + j]? := by
 simp only [part, List.getElem?_drop]
 rw [List.getElem?_take_of_lt (by omega)]
theorem part_ext (l m : List B) {i k : Nat} (h : k ≤ l.length) (hl : m.length = k - i) (hg : ∀ j, j < k - i → m[j]? = l[i + j]?) : part l i k = m := by
 refine List.ext_getElem? fun j => ?_
 by_cases hj : j < k - i
 ·rw [part_get l hj, hg j hj]
 ·rw [List.getElem?_eq_none (by rw [part_length l h]; omega), List.getElem?_eq_none (by omega)]
theorem above_part (l : List B) {i k : Nat} (hik : i ≤ k) (hk : k ≤ l.length) (hi : i % 2 = 0) (hk2 : k % 2 = 0 ∨ k = l.length) :
  above N (part l i k) = part (above N l) (i / 2) ((k + 1) / 2) := by
 have hlen := above_length N l
 refine (part_ext _ _ (by omega) ?_ fun j hj => ?_).symm
 ·rw [above_length, part_length l hk]; omega
 ·have hp := part_length l (i := i) hk
  rw [above_get N _ j (by rw [hp]; omega), above_get N l (i / 2 + j) (by omega), hp]
  have e : i + 2 * j = 2 * (i / 2 + j) := by omega
  by_cases h1 : 2 * j + 1 < k - i
  ·rw [if_pos h1, if_pos (by omega), part_get l (by omega), part_get l h1]
   have e2 : i + (2 * j + 1) = 2 * (i / 2 + j) + 1 := by omega
   rw [e, e2]
  ·rw [if_neg h1, if_neg (by omega), part_get l (by omega), e]
def proofR : Nat → List B → Nat → Nat → List B
 | 0, _, _, _ => []
 | f + 1, l, i, k =>
  if l.length ≤ 1 then [] else
  (if i % 2 = 1 then (l[i - 1]?).toList else []) ++ ((if k % 2 = 1 ∧ k < l.length then (l[k]?).toList else []) ++ proofR f (above N l) (i / 2) ((k + 1) / 2))
def top : Nat → List B → List B
 | 0, l => l
 | f + 1, l => if l.length ≤ 1 then l else top f (above N l)
def step (size i : Nat) (lv pf : List B) : Option (List B × List B) :=
 match (if i % 2 = 1 then (match pf with | [] => none | p :: r => some (p :: lv, r)) else some (lv, pf)) with
 | none => none
 | some (lv1, pf1) =>
  if (i - i % 2 + lv1.length) % 2 = 1 ∧ i - i % 2 + lv1.length < size then (match pf1 with | [] => none | p :: r => some (above N (lv1 ++ [p]), r)) else some (above N lv1, pf1)
def verify : Nat → Nat → Nat → List B → List B → Option (List B × List B)
 | 0, _, _, lv, pf => some (lv, pf)
 | f + 1, size, i, lv, pf =>
  if size ≤ 1 then some (lv, pf) else
  match step N size i lv pf with
  | none => none
  | some (lv1, pf1) => verify f ((size + 1) / 2) (i / 2) lv1 pf1
theorem step_right {l : List B} {i k : Nat} (hik : i < k) (hk : k ≤ l.length) (pf : List B) :
  step N l.length i (part l i k) ((if i % 2 = 1 then (l[i - 1]?).toList else []) ++ ((if k % 2 = 1 ∧ k < l.length then (l[k]?).toList else []) ++ pf))
   = some (part (above N l) (i / 2) ((k + 1) / 2), pf) := by
 have key : ∀ (i0 : Nat), i0 % 2 = 0 → i0 < k → i0 / 2 = i / 2 →
   (if (i0 + (part l i0 k).length) % 2 = 1 ∧ i0 + (part l i0 k).length < l.length then
    (match ((if k % 2 = 1 ∧ k < l.length then (l[k]?).toList else []) ++ pf) with | [] => none | p :: r => some (above N (part l i0 k ++ [p]), r))
    else some (above N (part l i0 k), ((if k % 2 = 1 ∧ k < l.length then (l[k]?).toList else []) ++ pf)))
   = some (part (above N l) (i / 2) ((k + 1) / 2), pf) := by
  intro i0 h0 h0k h2
  have hp := part_length l (i := i0) hk
  have e : i0 + (part l i0 k).length = k := by omega
  rw [e]
  by_cases hc : k % 2 = 1 ∧ k < l.length
  ·rw [if_pos hc, if_pos hc]
   obtain ⟨x, hx⟩ : ∃ x, l[k]? = some x := ⟨_, List.getElem?_eq_getElem hc.2⟩
   rw [hx]
   have : part l i0 k ++ [x] = part l i0 (k + 1) := by
    refine (part_ext l _ (by omega) (by simp [hp]; omega) fun j hj => ?_).symm
    by_cases hj' : j < k - i0
    ·rw [List.getElem?_append_left (by omega), part_get l hj']
    ·have : j = k - i0 := by omega
     subst this
     rw [List.getElem?_append_right (by omega), hp]
     have : i0 + (k - i0) = k := by omega
     rw [this, hx]; simp
   simp only [Option.toList, List.cons_append, List.nil_append, this]
   rw [above_part N l (by omega) (by omega) h0 (.inl (by omega)), h2]
   have : (k + 1 + 1) / 2 = (k + 1) / 2 := by omega
   rw [this]
  ·rw [if_neg hc, if_neg hc, above_part N l (by omega) hk h0 (by omega), h2]
   simp
 by_cases hi : i % 2 = 1
 ·obtain ⟨x, hx⟩ : ∃ x, l[i - 1]? = some x := ⟨_, List.getElem?_eq_getElem (by omega)⟩
  have hp : x :: part l i k = part l (i - 1) k := by
   refine (part_ext l _ hk (by simp [part_length l hk]; omega) fun j hj => ?_).symm
   cases j with
   | zero => simp [hx]
   | succ j => rw [List.getElem?_cons_succ, part_get l (by omega)]; congr 1; omega
  have := key (i - 1) (by omega) (by omega) (by omega)
  unfold step
  simp only [if_pos hi, hx, Option.toList, List.cons_append, List.nil_append, hp]
  have e : i - i % 2 = i - 1 := by omega
  rw [e]
  exact this
 ·have := key i (by omega) hik rfl
  unfold step
  simp only [if_neg hi, List.nil_append]
  have e : i - i % 2 = i := by omega
  rw [e]
  exact this
theorem verify_proof : ∀ (f : Nat) (l : List B) (i k : Nat), i < k → k ≤ l.length → l.length ≤ f + 1 →
  verify N f l.length i (part l i k) (proofR N f l i k) = some (top N f l, [])
 | 0, l, i, k, hik, hk, hf => by
  have : l.length = 1 := by omega
  have hi : i = 0 := by omega
  have hk1 : k = 1 := by omega
  subst hi hk1
  match l, this with
  | [a], _ => rfl
 | f + 1, l, i, k, hik, hk, hf => by
  by_cases h1 : l.length ≤ 1
  ·have : l.length = 1 := by omega
   have hi : i = 0 := by omega
   have hk1 : k = 1 := by omega
   subst hi hk1
   match l, this with
   | [a], _ => simp [verify, proofR, top, part]
  ·unfold verify proofR top
   rw [if_neg h1, if_neg h1, if_neg h1, step_right N hik hk]
   have hl := above_length N l
   have := verify_proof f (above N l) (i / 2) ((k + 1) / 2) (by omega) (by omega) (by omega)
   rw [hl] at this
   exact this
/-! ### one leaf -/
def steps : Nat → Nat → Nat → Nat
 | 0, _, _ => 0
 | f + 1, n, i => if n ≤ 1 then 0 else (if i % 2 = 1 ∨ i + 1 < n then 1 else 0) + steps f ((n + 1) / 2) (i / 2)
def climb : Nat → Nat → Nat → B → List B → List (B × B) × B
 | 0, _, _, x, _ => ([], x)
 | f + 1, n, i, x, pf =>
  if n ≤ 1 then ([], x) else
  match pf with
  | [] => if i % 2 = 1 ∨ i + 1 < n then ([], x) else climb f ((n + 1) / 2) (i / 2) x []
  | p :: r =>
   if i % 2 = 1 then (let c := climb f ((n + 1) / 2) (i / 2) (N p x) r; ((p, x) :: c.1, c.2))
   else if i + 1 < n then (let c := climb f ((n + 1) / 2) (i / 2) (N x p) r; ((x, p) :: c.1, c.2))
   else climb f ((n + 1) / 2) (i / 2) x (p :: r)
theorem climb_succ (f n i : Nat) (x : B) (pf : List B) : climb N (f + 1) n i x pf =
  (if n ≤ 1 then ([], x) else
  match pf with
  | [] => if i % 2 = 1 ∨ i + 1 < n then ([], x) else climb N f ((n + 1) / 2) (i / 2) x []
  | p :: r =>
   if i % 2 = 1 then (let c := climb N f ((n + 1) / 2) (i / 2) (N p x) r; ((p, x) :: c.1, c.2))
   else if i + 1 < n then (let c := climb N f ((n + 1) / 2) (i / 2) (N x p) r; ((x, p) :: c.1, c.2))
   else climb N f ((n + 1) / 2) (i / 2) x (p :: r)) := rfl
theorem step_one (size i : Nat) (hi : i < size) (x : B) (pf : List B) : step N size i [x] pf =
  if i % 2 = 1 ∨ i + 1 < size then (match pf with | [] => none | p :: r => some ([if i % 2 = 1 then N p x else N x p], r)) else some ([x], pf) := by
 unfold step
 by_cases h1 : i % 2 = 1
 ·rw [if_pos h1, if_pos (.inl h1)]
  cases pf with
  | nil => rfl
  | cons p r =>
   simp only [List.length_cons, List.length_nil]
   rw [if_neg (by omega), if_pos h1]
   rfl
 ·rw [if_neg h1]
  simp only [List.length_cons, List.length_nil]
  by_cases h2 : i + 1 < size
  ·rw [if_pos (by omega), if_pos (.inr h2)]
   cases pf with
   | nil => rfl
   | cons p r => simp only [if_neg h1]; rfl
  ·rw [if_neg (by omega), if_neg (by omega)]
   rfl
theorem half_lt {i n : Nat} (h : i < n) : i / 2 < (n + 1) / 2 := by omega
theorem verify_one : ∀ (f n i : Nat) (x : B) (pf : List B) (lv r : List B), i < n → verify N f n i [x] pf = some (lv, r) → r = [] →
  pf.length = steps f n i ∧ lv = [(climb N f n i x pf).2]
 | 0, n, i, x, pf, lv, r, _, h, hr => by
  simp only [verify, Option.some.injEq, Prod.mk.injEq] at h
  obtain ⟨rfl, rfl⟩ := h
  subst hr
  exact ⟨rfl, rfl⟩
 | f + 1, n, i, x, pf, lv, r, hi, h, hr => by
  unfold verify at h
  by_cases h1 : n ≤ 1
  ·rw [if_pos h1] at h
   simp only [Option.some.injEq, Prod.mk.injEq] at h
   obtain ⟨rfl, rfl⟩ := h
   subst hr
   simp [steps, climb, h1]
  ·rw [if_neg h1, step_one N n i hi] at h
   have hh := half_lt hi
   by_cases h2 : i % 2 = 1 ∨ i + 1 < n
   ·rw [if_pos h2] at h
    cases pf with
    | nil => simp at h
    | cons p q =>
     simp only at h
     obtain ⟨e1, e2⟩ := verify_one f _ _ _ q lv r hh h hr
     refine ⟨by unfold steps; rw [if_neg h1, if_pos h2, List.length_cons, e1]; omega, ?_⟩
     rw [e2, climb_succ, if_neg h1]
     by_cases h3 : i % 2 = 1
     ·simp only [if_pos h3]
     ·simp only [if_neg h3]
      rw [if_pos (by omega)]
   ·rw [if_neg h2] at h
    simp only at h
    obtain ⟨e1, e2⟩ := verify_one f _ _ _ pf lv r hh h hr
    refine ⟨by unfold steps; rw [if_neg h1, if_neg h2, e1]; omega, ?_⟩
    rw [e2, climb_succ N f n, if_neg h1]
    cases pf with
    | nil => simp only [if_neg h2]
    | cons p q =>
     have h3 : ¬ i % 2 = 1 := fun e => h2 (.inl e)
     have h4 : ¬ i + 1 < n := fun e => h2 (.inr e)
     simp only [if_neg h3, if_neg h4]
theorem climb_steps : ∀ (f n i : Nat) (x y : B) (pf : List B), i < n → (climb N f n i x pf).1.length = (climb N f n i y pf).1.length
 | 0, _, _, _, _, _, _ => rfl
 | f + 1, n, i, x, y, pf, hi => by
  rw [climb_succ, climb_succ]
  by_cases h1 : n ≤ 1
  ·rw [if_pos h1, if_pos h1]
  rw [if_neg h1, if_neg h1]
  cases pf with
  | nil =>
   simp only
   split
   ·rfl
   ·exact climb_steps f _ _ x y [] (half_lt hi)
  | cons p r =>
   simp only
   split
   ·simp only [List.length_cons]; rw [climb_steps f _ _ (N p x) (N p y) r (half_lt hi)]
   ·split
    ·simp only [List.length_cons]; rw [climb_steps f _ _ (N x p) (N y p) r (half_lt hi)]
    ·exact climb_steps f _ _ x y (p :: r) (half_lt hi)
theorem climb_meet (D : B → Prop) (hN : ∀ a b, D (N a b)) : ∀ (f n i : Nat) (x y : B) (pf : List B), i < n → D x → D y → (∀ p ∈ pf, D p) → x ≠ y →
  (climb N f n i x pf).2 = (climb N f n i y pf).2 →
  ∃ (k : Nat) (a b c d : B), (climb N f n i x pf).1[k]? = some (a, b) ∧ (climb N f n i y pf).1[k]? = some (c, d) ∧ (a, b) ≠ (c, d) ∧ N a b = N c d ∧ D a ∧ D b ∧ D c ∧ D d
 | 0, _, _, x, y, _, _, _, _, _, hxy, h => absurd h hxy
 | f + 1, n, i, x, y, pf, hi, hx, hy, hp, hxy, h => by
  rw [climb_succ, climb_succ] at h
  rw [climb_succ, climb_succ]
  by_cases h1 : n ≤ 1
  ·rw [if_pos h1, if_pos h1] at h; exact absurd h hxy
  rw [if_neg h1, if_neg h1] at h
  rw [if_neg h1, if_neg h1]
  cases pf with
  | nil =>
   simp only at h ⊢
   by_cases h2 : i % 2 = 1 ∨ i + 1 < n
   ·rw [if_pos h2, if_pos h2] at h; exact absurd h hxy
   ·rw [if_neg h2, if_neg h2] at h
    rw [if_neg h2, if_neg h2]
    exact climb_meet D hN f _ _ x y [] (half_lt hi) hx hy hp hxy h
  | cons p r =>
   simp only at h ⊢
   have hpp := hp p (List.mem_cons_self ..)
   have hr : ∀ q ∈ r, D q := fun q hq => hp q (List.mem_cons_of_mem _ hq)
   by_cases h2 : i % 2 = 1
   ·rw [if_pos h2, if_pos h2] at h
    rw [if_pos h2, if_pos h2]
    by_cases he : N p x = N p y
    ·exact ⟨0, p, x, p, y, rfl, rfl, fun e => hxy (by cases e; rfl), he, hpp, hx, hpp, hy⟩
    ·obtain ⟨k, a, b, c, d, e1, e2, rest⟩ := climb_meet D hN f _ _ (N p x) (N p y) r (half_lt hi) (hN _ _) (hN _ _) hr he h
     exact ⟨k + 1, a, b, c, d, by simpa using e1, by simpa using e2, rest⟩
   ·rw [if_neg h2, if_neg h2] at h
    rw [if_neg h2, if_neg h2]
    by_cases h3 : i + 1 < n
    ·rw [if_pos h3, if_pos h3] at h
     rw [if_pos h3, if_pos h3]
     by_cases he : N x p = N y p
     ·exact ⟨0, x, p, y, p, rfl, rfl, fun e => hxy (by cases e; rfl), he, hx, hpp, hy, hpp⟩
     ·obtain ⟨k, a, b, c, d, e1, e2, rest⟩ := climb_meet D hN f _ _ (N x p) (N y p) r (half_lt hi) (hN _ _) (hN _ _) hr he h
      exact ⟨k + 1, a, b, c, d, by simpa using e1, by simpa using e2, rest⟩
    ·rw [if_neg h3, if_neg h3] at h
     rw [if_neg h3, if_neg h3]
     exact climb_meet D hN f _ _ x y (p :: r) (half_lt hi) hx hy hp hxy h
end Go.Proofs.Mk
/-
  TopTransferred: merkle.above, exactly.
-/
namespace Go.Proofs.YtnaglmigkbbljaaGreatDoor
open Go Go.RowKit
def aboveH (l : List ByteArray) : List ByteArray := Mk.above nodeH l
theorem aboveH_len (l : List ByteArray) : (aboveH l).length = (l.length + 1) / 2 := Mk.above_length _ l
theorem aboveH_two (l : List ByteArray) {j : Nat} (h : 2 * j + 1 < l.length) : (aboveH l)[j]? = some (nodeH (l[2 * j]'(by omega)) (l[2 * j + 1])) := by
 unfold aboveH
 rw [Mk.above_get nodeH l j (by omega), if_pos h, List.getElem?_eq_getElem (show 2 * j < l.length by omega), List.getElem?_eq_getElem h]
theorem aboveH_one (l : List ByteArray) {j : Nat} (h : ¬ 2 * j + 1 < l.length) (h1 : 2 * j < l.length) : (aboveH l)[j]? = some l[2 * j] := by
 unfold aboveH
 rw [Mk.above_get nodeH l j (by omega), if_neg h, List.getElem?_eq_getElem h1]
theorem snoc_at {α : Type} {l : List α} {j : Nat} {x : α} (h : l[j]? = some x) : l.take j ++ [x] = l.take (j + 1) := by
 obtain ⟨h1, h2⟩ := List.getElem?_eq_some_iff.mp h
 subst h2
 exact (List.take_succ_eq_append_getElem h1).symm
theorem two_kept {w W : World} {b o o' : Nat} {x y : Value} (hb : b < w.heap.size) (h1 : w.cell? ⟨b, o, none⟩ = some x) (h2 : w.cell? ⟨b, o', none⟩ = some y) (hB : Below w.heap.size w W) : W.cell? ⟨b, o, none⟩ = some x ∧ W.cell? ⟨b, o', none⟩ = some y :=
 ⟨(hB.cell (p := ⟨b, o, none⟩) hb).trans h1, (hB.cell (p := ⟨b, o', none⟩) hb).trans h2⟩
theorem above_ex (p : Option Addr) (n cap : Nat) (l : List ByteArray) (w : World) (hl : l.length = n) (hn : n ≤ 1048576) (hz : SzL 500000 l) (h : StrL w p l) : Calls Tryz.prog 38 #[.slice p n cap] w (StrsRet (aboveH l) w) := by
 obtain ⟨i0, hi, hz0, hz1, hz2⟩ := info_parts Tryz.info9
 have HL := Lib.hid h
 have HZ := Lib.hid hz
 have HN := Lib.hid hl
 have HA := Lib.hid (aboveH_len l)
 clear h hz hl
 go_enter Tryz.func38, Tryz.ntmps38
 go_wp2_with fail
 go_loopw [3, 4] (fun v i wr => ∃ j m : Nat, m = 2 * j ∧ j ≤ (n + 1) / 2 ∧ i = .int .i64 m ∧ wr.ownsRow w.heap.size 9 1 v j (strV ((aboveH l).take j)) ∧ Below w.heap.size w wr) (fun _ i _ => n + 1 - (intOf i).toNat)
 case atStart => exact ⟨0, 0, rfl, by omega, rfl, World.ownsRow_nil _ _ _ _, Below.refl _ _⟩
 case round =>
  obtain ⟨j, m, hm, hj, rfl, ho, hb⟩ := hrel
  have HO := Lib.hid ho
  have HB := Lib.hid hb
  have hsz := hb.size
  have HM := Lib.hid hm
  clear ho hb
  by_cases hmn : m < n
  ·have hml : m < l.length := by have := HN.out; omega
   obtain ⟨b, off, rfl, hbb, hc⟩ := HL.out.at hml
   have hc0 := hc m hml
   have hs0 : l[m].size ≤ 500000 := HZ.out _ (List.getElem_mem _)
   have e0 : (0 : Int) ≤ (m : Int) := by omega
   have e1 : (m : Int) < (n : Int) := by omega
   have ew : IntKind.i64.wrap ((m : Int) + 1) = (m : Int) + 1 := by rw [IntKind.wrap_i64]; omega
   have e3 : (0 : Int) ≤ (m : Int) + 1 := by omega
   by_cases h2 : m + 1 < n
   ·have hml2 : m + 1 < l.length := by have := HN.out; omega
    have hc1 := hc (m + 1) hml2
    have hs1 : l[m + 1].size ≤ 500000 := HZ.out _ (List.getElem_mem _)
    have HAB := Lib.hid (show strV ((aboveH l).take j) ++ [.string (nodeH l[m] l[m + 1])] = strV ((aboveH l).take (j + 1)) by
     subst hm
     rw [strV_snoc, snoc_at (aboveH_two l hml2)])
    clear hc
    generalize l[m] = x at hc0 hs0 HAB
    generalize l[m + 1] = y at hc1 hs1 HAB
    have HC := Lib.hid (show w.cell? ⟨b, off + m, none⟩ = some (.string x) ∧ w.cell? ⟨b, off + (m + 1), none⟩ = some (.string y) from ⟨hc0, hc1⟩)
    have e2 : (m : Int) + 1 < (n : Int) := by omega
    have hls : (nodeT x y).size ≤ 1048576 := by rw [nodeT_size]; omega
    have HX := Lib.hid (show hexF (nodeT x y) = nodeH x y from rfl)
    have hS := two_kept hbb HC.out.1 HC.out.2 HB.out
    clear hc0 hc1 hm
    go_upto_region 6 with fail
    go_region_held3 (fun W => W.cell? ⟨b, off + m, none⟩ = some (.string x) ∧ W.cell? ⟨b, off + (m + 1), none⟩ = some (.string y))
     (first | exact hS | exact two_kept hbb HC.out.1 HC.out.2 HB4.out | exact two_kept hbb HC.out.1 HC.out.2 (HB4.out.alloc HB4.out.size _) | exact two_kept hbb HC.out.1 HC.out.2 hb5)
     (first
      | (go_at_call 94; refine (inner_ex x y _ (by omega) (by omega)).mono ?_; rintro e w3 ⟨rfl, rfl⟩)
      | (go_at_call 15; refine (hex_ex (nodeT x y) _ hls).mono ?_; rw [HX.out]; rintro e w4 ⟨rfl, hb4⟩; have HB4 := Lib.hid ((below_drewN HB.out 1).trans (hb4.mono HB.out.size)); have HO4 := Lib.hid (own_below (w := wr.drew) HO.out hb4); clear hb4)
      | (refine step_append_lies _ (by rfl) _ _ _ (by rfl) w.heap.size 9 i0 (.string ⟨#[]⟩) 1 16 Tryz.underlying35 hi hz0 hz1 hz2 rfl (by omega) u3 j (strV ((aboveH l).take j)) (by rfl) (HO4.out.alloc _) ⟨w4.heap.size, 0, none⟩ 1 1 [.string (nodeH x y)] (by rfl) (by rfl) (World.news_of_block (cs := #[.string (nodeH x y)]) (t := 9) (fr := (0, 0)) (heap_alloc_new _ _)) (by simp [Value.oneCell']) (by omega) (by unfold maxLen; omega) (by omega) (by have := HB4.out.size; simp; omega) (w4.heap.size + 1) (by simp) ?_; intro g5 c5 w5 hown5 hgrow hat hlt; have hb5 := below_grown HB4.out HB4.out.size HO4.out hgrow))
    have HO5 := Lib.hid (show w5.ownsRow w.heap.size 9 1 (.slice (some ⟨g5, 0, none⟩) (j + 1) c5) (j + 1) (strV ((aboveH l).take (j + 1))) by rw [← HAB.out]; exact hown5)
    clear hown5 hgrow hat hlt HO HO4
    go_wp2_with fail
    go_roundw
    case rel => exact ⟨j + 1, m + 2, by have := HM.out; omega, by have := HM.out; omega, by go_num, HO5.out, hb5⟩
    case measure => simp [intOf]; omega
   ·have HAB := Lib.hid (show strV ((aboveH l).take j) ++ [.string l[m]] = strV ((aboveH l).take (j + 1)) by
     subst hm
     rw [strV_snoc, snoc_at (aboveH_one l (by have := HN.out; omega) hml)])
    clear hc
    generalize l[m] = x at hc0 hs0 HAB
    have hc1 := (HB.out.cell (p := ⟨b, off + m, none⟩) hbb).trans hc0
    have e2 : ¬ (m : Int) + 1 < (n : Int) := by omega
    clear hc0 hm
    go_wp2_with (at_builtin; refine wpList_append_own _ rfl _ _ 35 rfl w.heap.size 9 i0 (.string ⟨#[]⟩) 1 16 Tryz.underlying35 hi hz0 hz1 hz2 rfl (by decide) _ _ _ rfl (HO.out.alloc _) ⟨wr.heap.size, 0, none⟩ 1 1 [.string x] rfl rfl (one_new _ _ _) (by intro u hu; simp at hu; subst hu; rfl) (by unfold maxLen; omega) (by omega) (by simp; omega) ?_; intro v' w5 hown5 hgrow _)
    have hb5 := below_grown HB.out HB.out.size HO.out hgrow
    have HO5 := Lib.hid (show w5.ownsRow w.heap.size 9 1 v' (j + 1) (strV ((aboveH l).take (j + 1))) by rw [← HAB.out]; exact hown5)
    clear hown5 hgrow HO
    go_wp2_with fail
    go_roundw
    case rel => exact ⟨j + 1, m + 2, by have := HM.out; omega, by have := HM.out; omega, by go_num, HO5.out, hb5⟩
    case measure => simp [intOf]; omega
  ·have hjn : j = (n + 1) / 2 := by omega
   have HO3 := Lib.hid (show wr.ownsRow w.heap.size 9 1 u3 (aboveH l).length (strV (aboveH l)) by
    have h1 := HO.out
    have h2 : (aboveH l).length = j := by rw [HA.out, HN.out, hjn]
    rw [← h2, List.take_length] at h1
    exact h1)
   clear HO hjn hm
   obtain ⟨p3, c3, hv, hc3, hp3⟩ := cl_of_own HO3.out
   subst hv
   go_wp2_with fail
   go_ret
   exact ⟨_, rfl, HO3.out, HB.out⟩
end Go.Proofs.YtnaglmigkbbljaaGreatDoor
