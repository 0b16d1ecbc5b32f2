/-
  TopTransferred: transfer.Missing, transfer.Done, sederuntref03.Same.
-/
import Derived.Test.YtnaglmigkbbljaaGreatDoorSgQTfB
import Derived.Test.YtnaglmigkbbljaaGreatDoorSgISfF
set_option maxHeartbeats 6400000
set_option maxRecDepth 1000000
set_option linter.unusedVariables false
set_option linter.unusedSimpArgs false
namespace Go.Proofs.YtnaglmigkbbljaaGreatDoor
open Go Go.RowKit
def missL (hv : List Bool) (k : Nat) : List Nat := (List.range k).filter fun j => hv[j]? == some false
theorem missL_yes {hv : List Bool} {k : Nat} (h : hv[k]? = some false) : missL hv (k + 1) = missL hv k ++ [k] := by simp [missL, List.range_succ, List.filter_append, h]
theorem missL_no {hv : List Bool} {k : Nat} (h : hv[k]? = some true) : missL hv (k + 1) = missL hv k := by simp [missL, List.range_succ, List.filter_append, h]
theorem missL_len (hv : List Bool) (k : Nat) : (missL hv k).length ≤ k := by
 have := List.length_filter_le (fun j => hv[j]? == some false) (List.range k)
 simpa [missL] using this
def IntsRet (l : List Nat) (w : World) (e : Ending) (w' : World) : Prop := ∃ v, e = .returned v ∧ w'.ownsRow w.heap.size 3 1 v l.length (inV l) ∧ Below w.heap.size w w'
theorem boolV_at (l : List Bool) {i : Nat} (h : i < (boolV l).length) : (boolV l)[i] = .bool (l[i]'(by rw [boolV_len] at h; exact h)) := by simp [boolV]
theorem missing_ex (root : ByteArray) (n : Nat) (cp : Option Addr) (cc : Nat) (hp : Option Addr) (hc : Nat) (cs : List ByteArray) (hv : List Bool) (w : World) (hn : n ≤ 400) (hF : FetL w n cp cc hp hc cs hv) : Calls Tryz.prog 16 #[fetV root n cp cc hp hc] w (IntsRet (missL hv n) w) := by
 obtain ⟨i3, hi3, hz0, hz1, hz2⟩ := info_parts Tryz.info3
 have HF := Lib.hid hF
 clear hF
 unfold fetV
 go_enter Tryz.func16, Tryz.ntmps16
 go_upto_region 1 with fail
 have r1 := heap_alloc_new w (.cells #[.string root, .int .i64 n, .slice cp n cc, .slice hp n hc] 39)
 have HB1 := Lib.hid ((Below.refl _ w).alloc (Nat.le_refl _) (.cells #[.string root, .int .i64 n, .slice cp n cc, .slice hp n hc] 39))
 generalize w.alloc (.cells #[.string root, .int .i64 n, .slice cp n cc, .slice hp n hc] 39) = w1 at r1 HB1 ⊢
 have c3 := cellOf r1 (j := 3) rfl
 clear r1
 go_wp2_with fail
 clear c3
 go_loopw [3, 9] (fun v i wr => ∃ k : Nat, k ≤ n ∧ i = .int .i64 k ∧ wr.ownsRow w.heap.size 3 1 v (missL hv k).length (inV (missL hv k)) ∧ Below w.heap.size w wr) (fun _ i _ => n - (intOf i).toNat)
 case atStart => exact ⟨0, Nat.zero_le _, rfl, World.ownsRow_nil _ _ _ _, HB1.out⟩
 case round =>
  clear HB1
  obtain ⟨k, hk, rfl, ho, hb⟩ := hrel
  have HO := Lib.hid ho
  have HB := Lib.hid hb
  have hsz := hb.size
  clear ho hb
  by_cases hkn : k < n
  ·have hkh : k < hv.length := by rw [HF.out.lh]; exact hkn
   obtain ⟨b, off, rfl, hbb, hcx⟩ := CL.at HF.out.bl (j := k) (by rw [boolV_len]; exact hkh)
   have hck := (HB.out.cell (p := ⟨b, off + k, none⟩) hbb).trans (hcx k (by rw [boolV_len]; exact hkh))
   rw [boolV_at] at hck
   have HK := Lib.hid (List.getElem?_eq_getElem hkh)
   clear hcx
   generalize hv[k] = x at hck HK
   have e0 : (0 : Int) ≤ (k : Int) := by omega
   have e1 : (k : Int) < (n : Int) := by omega
   have hml := missL_len hv k
   cases x with
   | true =>
    have HM := Lib.hid (missL_no HK.out)
    go_wp2_with fail
    go_roundw
    case rel => exact ⟨k + 1, by omega, by go_num, by rw [HM.out]; exact HO.out, HB.out⟩
    case measure => simp [intOf]; omega
   | false =>
    have HM := Lib.hid (show inV (missL hv k) ++ [.int .i64 (k : Int)] = inV (missL hv (k + 1)) by rw [inV_snoc, missL_yes HK.out])
    have HML := Lib.hid (show (missL hv (k + 1)).length = (missL hv k).length + 1 by rw [missL_yes HK.out, List.length_append]; rfl)
    generalize missL hv k = ml at HO HM HML hml
    go_wp2_with (at_builtin; refine wpList_append_own _ rfl _ _ 51 rfl w.heap.size 3 i3 (.int .i64 0) 1 8 Tryz.underlying51 hi3 hz0 hz1 hz2 rfl (by decide) _ _ _ rfl (HO.out.alloc _) ⟨wr.heap.size, 0, none⟩ 1 1 [.int .i64 (k : Int)] rfl rfl (one_new _ _ _) (by intro u hu; simp at hu; subst hu; rfl) (by unfold maxLen; omega) (by omega) (by simp; omega) ?_; intro v' w5 hown5 hgrow _)
    have hb5 := below_grown HB.out HB.out.size HO.out hgrow
    have HO5 := Lib.hid (show w5.ownsRow w.heap.size 3 1 v' (missL hv (k + 1)).length (inV (missL hv (k + 1))) by rw [← HM.out, HML.out]; exact hown5)
    clear hown5 hgrow HO
    go_wp2_with fail
    go_roundw
    case rel => exact ⟨k + 1, by omega, by go_num, HO5.out, hb5⟩
    case measure => simp [intOf]; omega
  ·have hkn2 : k = n := by omega
   have HO3 := Lib.hid (show wr.ownsRow w.heap.size 3 1 u3 (missL hv n).length (inV (missL hv n)) by have := HO.out; rwa [hkn2] at this)
   clear HO hkn2
   go_wp2_with fail
   go_ret
   exact ⟨u3, rfl, HO3.out, HB.out⟩
theorem index_none (p : Option Addr) (n cap : Nat) (hv : List Bool) (w : World) (hl : hv.length = n) (hn : n ≤ 400) (hd : ∀ b ∈ hv, b = true) (h : BoolL w p hv) : Calls Tryz.prog 101 #[.slice p n cap, .bool false] w (fun e w' => e = .returned (.int .i64 (-1)) ∧ w' = w) := by
 have HL := Lib.hid h
 have HD := Lib.hid hd
 clear h hd
 go_enter Tryz.func101, Tryz.ntmps101
 go_wp2_with fail
 go_loopw [8] (fun v wr => ∃ k : Nat, k ≤ n ∧ v = .int .i64 k ∧ wr = w) (fun v _ => n - (intOf v).toNat)
 case atStart => exact ⟨0, by omega, rfl, rfl⟩
 case round =>
  obtain ⟨k, hk, rfl, rfl⟩ := hrel
  by_cases hkn : k < n
  ·have hkl : k < hv.length := by omega
   obtain ⟨b, off, rfl, hbb, hc⟩ := CL.at HL.out (j := k) (by rw [boolV_len]; exact hkl)
   have hck := hc k (by rw [boolV_len]; exact hkl)
   rw [boolV_at, HD.out _ (List.getElem_mem _)] at hck
   clear hc
   have e0 : (0 : Int) ≤ (k : Int) := by omega
   have e1 : (k : Int) < (n : Int) := by omega
   go_wp2_with fail
   go_roundw
   case rel => exact ⟨k + 1, by omega, by go_num, by first | rfl | trivial⟩
   case measure => simp [intOf]; omega
  ·go_wp2_with fail
   go_ret
   exact ⟨rfl, rfl⟩
theorem containsF_no (p : Option Addr) (n cap : Nat) (hv : List Bool) (w : World) (hl : hv.length = n) (hn : n ≤ 400) (hd : ∀ b ∈ hv, b = true) (h : BoolL w p hv) : Calls Tryz.prog 48 #[.slice p n cap, .bool false] w (fun e w' => e = .returned (.bool false) ∧ w' = w) := by
 have HI := Lib.hid (index_none p n cap hv w hl hn hd h)
 clear h hd hl
 go_enter Tryz.func48, Tryz.ntmps48
 go_wp2_with (go_at_call 101; refine HI.out.mono ?_; rintro e w1 ⟨rfl, hw⟩; obtain rfl := hw.symm)
 go_ret
 exact ⟨rfl, rfl⟩
theorem clone_strs (b off n c : Nat) (l : List ByteArray) (w : World) (hl : l.length = n) (hn : n ≤ 1000000) (h : StrL w (some ⟨b, off, none⟩) l) : Calls Tryz.prog 41 #[.slice (some ⟨b, off, none⟩) n c] w (StrsRet l w) := by
 obtain ⟨i0, hi0, hz0, hz1, hz2⟩ := info_parts Tryz.info9
 refine (Tryz.slices_Clone_f41 i0 (.string ⟨#[]⟩) 1 16 hi0 hz0 hz1 hz2 rfl (by decide) (fun W => Tryz.sizeOf9 W) b off n c (strV l) w (by rw [strV_len]; omega) (by unfold maxLen; omega) (by omega) (fun j u hu => by
  have hj : j < l.length := by have := (List.getElem?_eq_some_iff.mp hu).1; rwa [strV_len] at this
  rw [h.cell hj, ← hu]; simp [strV, hj]) (by intro u hu; obtain ⟨z, _, rfl⟩ := List.mem_map.mp hu; rfl)).mono ?_
 rintro e w' ⟨v', rfl, ho, _, hb⟩
 exact ⟨v', rfl, by rw [hl]; exact ho, hb⟩
def DoneRet (cs : List ByteArray) (w : World) (e : Ending) (w' : World) : Prop := ∃ v, e = .returned (.tuple #[v, .int .i64 0]) ∧ w'.ownsRow w.heap.size 9 1 v cs.length (strV cs) ∧ Below w.heap.size w w'
theorem done_ex (root : ByteArray) (n : Nat) (cp : Option Addr) (cc : Nat) (hp : Option Addr) (hc : Nat) (cs : List ByteArray) (hv : List Bool) (w : World) (hn : n ≤ 400) (h1 : 1 ≤ n) (hF : FetL w n cp cc hp hc cs hv) (hz : SzL 1000000 cs) (hd : ∀ b ∈ hv, b = true) (hr : rootH cs = root) (hG : GL w) :
  Calls Tryz.prog 17 #[fetV root n cp cc hp hc] w (DoneRet cs w) := by
 have HF := Lib.hid hF
 have HG := Lib.hid hG
 have HVA := Lib.hid (fun W => valid_ex root n cp cc hp hc W hn)
 unfold fetV at HVA
 unfold fetV
 obtain ⟨cb, co, rfl, hcb, _⟩ := hF.cl.at (j := 0) (by rw [hF.lc]; omega)
 have HC := Lib.hid (fun W (hb : Below w.heap.size w W) => containsF_no hp n hc hv W HF.out.lh hn hd (CL.below HF.out.bl hb))
 have HR := Lib.hid (fun W (hb : Below w.heap.size w W) => root_ex (some ⟨cb, co, none⟩) n cc cs W HF.out.lc (by omega) h1 hz (HF.out.cl.below hb) (HG.out.below hb))
 have HK := Lib.hid (fun W (hb : Below w.heap.size w W) => clone_strs cb co n cc cs W HF.out.lc (by omega) (HF.out.cl.below hb))
 rw [hr] at HR
 clear hF hG hz hd hr
 have hbq : (root.toList == root.toList) = true := beq_str rfl
 go_enter Tryz.func17, Tryz.ntmps17
 go_upto_block 0 with fail
 have HB1 := Lib.hid (heap_alloc_new w (.cells #[.string root, .int .i64 n, .slice (some ⟨cb, co, none⟩) n cc, .slice hp n hc] 39))
 have HW1 := Lib.hid ((Below.refl _ w).alloc (Nat.le_refl _) (.cells #[.string root, .int .i64 n, .slice (some ⟨cb, co, none⟩) n cc, .slice hp n hc] 39))
 generalize w.alloc (.cells #[.string root, .int .i64 n, .slice (some ⟨cb, co, none⟩) n cc, .slice hp n hc] 39) = w1 at HB1 HW1 ⊢
 have c0 := cellOf HB1.out (j := 0) rfl; have c1 := cellOf HB1.out (j := 1) rfl; have c2 := cellOf HB1.out (j := 2) rfl; have c3 := cellOf HB1.out (j := 3) rfl
 go_upto_region 5 with (first
  | (go_at_call 39; refine (HVA.out _).mono ?_; rintro e w2 ⟨rfl, hb2⟩; have HB2 := Lib.hid ((hb2.block _ (Array.getElem?_eq_some_iff.mp HB1.out).1).trans HB1.out); have HW2 := Lib.hid (HW1.out.trans (hb2.mono HW1.out.size)); have c3 := cellOf HB2.out (j := 3) rfl; clear hb2)
  | (go_at_call 48; refine (HC.out _ HW2.out).mono ?_; rintro e w3 ⟨rfl, hw3⟩; obtain rfl := hw3.symm))
 have hS := two_cells (w := w2) (Array.getElem?_eq_some_iff.mp HB2.out).1 (Array.getElem?_eq_some_iff.mp HB2.out).1 (cellOf HB2.out (j := 2) rfl) (cellOf HB2.out (j := 0) rfl) (below_drew w2)
 go_region_held3 (fun W => W.cell? ⟨w.heap.size, 2, none⟩ = some (.slice (some ⟨cb, co, none⟩) n cc) ∧ W.cell? ⟨w.heap.size, 0, none⟩ = some (.string root))
  (first | exact hS | exact hS5)
  (first | (go_at_call 27; refine (HR.out _ (below_drewN HW2.out 1)).mono ?_; rintro e w5 ⟨rfl, hb5⟩; have hb5 : Below w2.heap.size w2 w5 := (below_drew w2).trans hb5; have HB5 := Lib.hid ((hb5.block _ (Array.getElem?_eq_some_iff.mp HB2.out).1).trans HB2.out); have HW5 := Lib.hid (HW2.out.trans (hb5.mono HW2.out.size)); have hS5 := two_cells (w := w5) (Array.getElem?_eq_some_iff.mp HB5.out).1 (Array.getElem?_eq_some_iff.mp HB5.out).1 (cellOf HB5.out (j := 2) rfl) (cellOf HB5.out (j := 0) rfl) (Below.refl _ _)))
 have c2' := cellOf HB5.out (j := 2) rfl
 go_wp2_with (go_at_call 41; refine (HK.out _ HW5.out).mono ?_; rintro e w6 ⟨v6, rfl, ho6, hb6⟩)
 go_ret2
 exact ⟨v6, rfl, own_base ho6 HW5.out.size, HW5.out.trans (hb6.mono HW5.out.size)⟩
theorem same_yes (p : Option Addr) (n c : Nat) (q : Option Addr) (d : Nat) (l : List ByteArray) (w : World) (hl : l.length = n) (hn : n ≤ 1000000) (h : StrL w p l) (h' : StrL w q l) : Calls Tryz.prog 18 #[.slice p n c, .slice q n d] w (IsB true w) := by
 have HP := Lib.hid h
 have HQ := Lib.hid h'
 have HN := Lib.hid hl
 have hne : ((n : Int) == (n : Int)) = true := by simp
 clear h h' hl
 go_enter Tryz.func18, Tryz.ntmps18
 go_wp2_with fail
 go_loopw [5] (fun v wr => ∃ k : Nat, k ≤ n ∧ v = .int .i64 k ∧ Below w.heap.size w wr) (fun v _ => n - (intOf v).toNat)
 case atStart => exact ⟨0, by omega, rfl, Below.refl _ _⟩
 case round =>
  obtain ⟨k, hk, rfl, hb⟩ := hrel
  have HB := Lib.hid hb
  clear hb
  by_cases hkn : k < n
  ·have hkl : k < l.length := by rw [HN.out]; exact hkn
   obtain ⟨b, off, rfl, hbb, hc⟩ := HP.out.at hkl
   obtain ⟨b2, off2, rfl, hbb2, hc2⟩ := HQ.out.at hkl
   have h1 := (HB.out.cell (p := ⟨b, off + k, none⟩) hbb).trans (hc k hkl)
   have h2 := (HB.out.cell (p := ⟨b2, off2 + k, none⟩) hbb2).trans (hc2 k hkl)
   clear hc hc2
   generalize l[k] = s at h1 h2
   have hbq : (s.toList == s.toList) = true := beq_str rfl
   have e0 : (0 : Int) ≤ (k : Int) := by omega
   have e1 : (k : Int) < (n : Int) := by omega
   go_upto_region 6 with fail
   go_quiet (fail)
   go_wp2_with fail
   go_roundw
   case rel => exact ⟨k + 1, by omega, by go_num, below_drewN HB.out nq⟩
   case measure => simp [intOf]; omega
  ·go_wp2_with fail
   go_ret
   exact ⟨rfl, HB.out⟩
end Go.Proofs.YtnaglmigkbbljaaGreatDoor
/-
  TopTransferred: session.Equal at equal machines.
-/
namespace Go.Proofs.YtnaglmigkbbljaaGreatDoor
open Go Go.RowKit
theorem equalP_yes (p : Option Addr) (n c : Nat) (q : Option Addr) (d : Nat) (L : List Par) (w : World) (hl : L.length = n) (hn : n ≤ 1000) (h : FL encP w p L) (h' : FL encP w q L) : Calls Tryz.prog 52 #[.slice p n c, .slice q n d] w (IsB true w) := by
 have HP := Lib.hid h
 have HQ := Lib.hid h'
 have HN := Lib.hid hl
 clear h h' hl
 go_enter Tryz.func52, Tryz.ntmps52
 go_wp2_with fail
 go_loopw [13] (fun v wr => ∃ k : Nat, k ≤ n ∧ v = .int .i64 k ∧ Below w.heap.size w wr) (fun v _ => n - (intOf v).toNat)
 case atStart => exact ⟨0, by omega, rfl, Below.refl _ _⟩
 case round =>
  obtain ⟨k, hk, rfl, hb⟩ := hrel
  have HB := Lib.hid hb
  clear hb
  by_cases hkn : k < n
  ·obtain ⟨x, hx⟩ : ∃ x, L[k]? = some x := ⟨_, List.getElem?_eq_getElem (by have := HN.out; omega)⟩
   obtain ⟨b1, o1, rfl, hb1, hc1⟩ := HP.out.at encP3 (by have := HN.out; omega)
   obtain ⟨b2, o2, rfl, hb2, hc2⟩ := HQ.out.at encP3 (by have := HN.out; omega)
   have d0 := (HB.out.cell (p := ⟨b1, o1 + (k * 3 + 0), none⟩) hb1).trans (hc1 _ _ ((flat_get encP3 hx (j := 0) (by omega)).trans rfl))
   have e0 := (HB.out.cell (p := ⟨b2, o2 + (k * 3 + 0), none⟩) hb2).trans (hc2 _ _ ((flat_get encP3 hx (j := 0) (by omega)).trans rfl))
   have d1 := (HB.out.cell (p := ⟨b1, o1 + (k * 3 + 1), none⟩) hb1).trans (hc1 _ _ ((flat_get encP3 hx (j := 1) (by omega)).trans rfl))
   have e1 := (HB.out.cell (p := ⟨b2, o2 + (k * 3 + 1), none⟩) hb2).trans (hc2 _ _ ((flat_get encP3 hx (j := 1) (by omega)).trans rfl))
   have d2 := (HB.out.cell (p := ⟨b1, o1 + (k * 3 + 2), none⟩) hb1).trans (hc1 _ _ ((flat_get encP3 hx (j := 2) (by omega)).trans rfl))
   have e2 := (HB.out.cell (p := ⟨b2, o2 + (k * 3 + 2), none⟩) hb2).trans (hc2 _ _ ((flat_get encP3 hx (j := 2) (by omega)).trans rfl))
   replace d0 : wr.cell? ⟨b1, o1 + k * 3, none⟩ = some (.string x.k) := d0
   replace e0 : wr.cell? ⟨b2, o2 + k * 3, none⟩ = some (.string x.k) := e0
   replace d1 : wr.cell? ⟨b1, o1 + k * 3 + 1, none⟩ = some (.string x.v) := d1
   replace e1 : wr.cell? ⟨b2, o2 + k * 3 + 1, none⟩ = some (.string x.v) := e1
   replace d2 : wr.cell? ⟨b1, o1 + k * 3 + 2, none⟩ = some (.int .i64 x.ver) := d2
   replace e2 : wr.cell? ⟨b2, o2 + k * 3 + 2, none⟩ = some (.int .i64 x.ver) := e2
   clear hc1 hc2 hx
   have hq0 : (x.k.toList == x.k.toList) = true := beq_str rfl
   have hq1 : (x.v.toList == x.v.toList) = true := beq_str rfl
   have i0 : (0 : Int) ≤ (k : Int) := by omega
   have i1 : (k : Int) < (n : Int) := by omega
   go_upto_region 6 with fail
   go_quiet (fail)
   go_wp2_with fail
   go_roundw
   case rel => exact ⟨k + 1, by omega, by go_num, below_drewN HB.out nq⟩
   case measure => simp [intOf]; omega
  ·go_wp2_with fail
   go_ret
   exact ⟨rfl, HB.out⟩
theorem equalS_yes (p : Option Addr) (n c : Nat) (q : Option Addr) (d : Nat) (L : List Ses) (w : World) (hl : L.length = n) (hn : n ≤ 1000) (h : FL encS w p L) (h' : FL encS w q L) : Calls Tryz.prog 53 #[.slice p n c, .slice q n d] w (IsB true w) := by
 have HP := Lib.hid h
 have HQ := Lib.hid h'
 have HN := Lib.hid hl
 clear h h' hl
 go_enter Tryz.func53, Tryz.ntmps53
 go_wp2_with fail
 go_loopw [13] (fun v wr => ∃ k : Nat, k ≤ n ∧ v = .int .i64 k ∧ Below w.heap.size w wr) (fun v _ => n - (intOf v).toNat)
 case atStart => exact ⟨0, by omega, rfl, Below.refl _ _⟩
 case round =>
  obtain ⟨k, hk, rfl, hb⟩ := hrel
  have HB := Lib.hid hb
  clear hb
  by_cases hkn : k < n
  ·obtain ⟨x, hx⟩ : ∃ x, L[k]? = some x := ⟨_, List.getElem?_eq_getElem (by have := HN.out; omega)⟩
   obtain ⟨b1, o1, rfl, hb1, hc1⟩ := HP.out.at encS3 (by have := HN.out; omega)
   obtain ⟨b2, o2, rfl, hb2, hc2⟩ := HQ.out.at encS3 (by have := HN.out; omega)
   have d0 := (HB.out.cell (p := ⟨b1, o1 + (k * 3 + 0), none⟩) hb1).trans (hc1 _ _ ((flat_get encS3 hx (j := 0) (by omega)).trans rfl))
   have e0 := (HB.out.cell (p := ⟨b2, o2 + (k * 3 + 0), none⟩) hb2).trans (hc2 _ _ ((flat_get encS3 hx (j := 0) (by omega)).trans rfl))
   have d1 := (HB.out.cell (p := ⟨b1, o1 + (k * 3 + 1), none⟩) hb1).trans (hc1 _ _ ((flat_get encS3 hx (j := 1) (by omega)).trans rfl))
   have e1 := (HB.out.cell (p := ⟨b2, o2 + (k * 3 + 1), none⟩) hb2).trans (hc2 _ _ ((flat_get encS3 hx (j := 1) (by omega)).trans rfl))
   have d2 := (HB.out.cell (p := ⟨b1, o1 + (k * 3 + 2), none⟩) hb1).trans (hc1 _ _ ((flat_get encS3 hx (j := 2) (by omega)).trans rfl))
   have e2 := (HB.out.cell (p := ⟨b2, o2 + (k * 3 + 2), none⟩) hb2).trans (hc2 _ _ ((flat_get encS3 hx (j := 2) (by omega)).trans rfl))
   replace d0 : wr.cell? ⟨b1, o1 + k * 3, none⟩ = some (.int .i64 x.c) := d0
   replace e0 : wr.cell? ⟨b2, o2 + k * 3, none⟩ = some (.int .i64 x.c) := e0
   replace d1 : wr.cell? ⟨b1, o1 + k * 3 + 1, none⟩ = some (.int .i64 x.n) := d1
   replace e1 : wr.cell? ⟨b2, o2 + k * 3 + 1, none⟩ = some (.int .i64 x.n) := e1
   replace d2 : wr.cell? ⟨b1, o1 + k * 3 + 2, none⟩ = some (.string x.r) := d2
   replace e2 : wr.cell? ⟨b2, o2 + k * 3 + 2, none⟩ = some (.string x.r) := e2
   clear hc1 hc2 hx
   have hq0 : (x.r.toList == x.r.toList) = true := beq_str rfl
   have i0 : (0 : Int) ≤ (k : Int) := by omega
   have i1 : (k : Int) < (n : Int) := by omega
   go_upto_region 6 with fail
   go_quiet (fail)
   go_wp2_with fail
   go_roundw
   case rel => exact ⟨k + 1, by omega, by go_num, below_drewN HB.out nq⟩
   case measure => simp [intOf]; omega
  ·go_wp2_with fail
   go_ret
   exact ⟨rfl, HB.out⟩
theorem equalM_yes (pv sv pv' sv' : Value) (L : List Par) (S : List Ses) (w : World) (hP : PrV w pv L) (hS : SeV w sv S) (hP' : PrV w pv' L) (hS' : SeV w sv' S) (hL : L.length ≤ 1000) (hSl : S.length ≤ 1000) : Calls Tryz.prog 20 #[.agg #[pv, sv], .agg #[pv', sv']] w (IsB true w) := by
 obtain ⟨p, cp, rfl, _, hp, _⟩ := hP
 obtain ⟨q, cq, rfl, _, hq, _⟩ := hS
 obtain ⟨p', cp', rfl, _, hp', _⟩ := hP'
 obtain ⟨q', cq', rfl, _, hq', _⟩ := hS'
 have HE := Lib.hid (fun W (hb : Below w.heap.size w W) => equalP_yes p L.length cp p' cp' L W rfl hL (hp.below hb) (hp'.below hb))
 have HF := Lib.hid (fun W (hb : Below w.heap.size w W) => equalS_yes q S.length cq q' cq' S W rfl hSl (hq.below hb) (hq'.below hb))
 clear hp hq hp' hq'
 go_enter Tryz.func20, Tryz.ntmps20
 go_upto_region 1 with fail
 have h1 := heap_alloc_new w (.cells #[.slice p L.length cp, .slice q S.length cq] 29)
 have h2 := heap_alloc_new (w.alloc (.cells #[.slice p L.length cp, .slice q S.length cq] 29)) (.cells #[.slice p' L.length cp', .slice q' S.length cq'] 29)
 rw [World.size_alloc] at h2
 have hB := ((Below.refl _ w).alloc (Nat.le_refl _) (.cells #[.slice p L.length cp, .slice q S.length cq] 29)).alloc (by simp) (.cells #[.slice p' L.length cp', .slice q' S.length cq'] 29)
 have h3 : Blk ((w.alloc (.cells #[.slice p L.length cp, .slice q S.length cq] 29)).alloc (.cells #[.slice p' L.length cp', .slice q' S.length cq'] 29)) w.heap.size 29 [.slice p L.length cp, .slice q S.length cq] := (((Below.refl _ _).alloc (Nat.le_refl _) _).block w.heap.size (by simp)).trans h1
 generalize (w.alloc (.cells #[.slice p L.length cp, .slice q S.length cq] 29)).alloc (.cells #[.slice p' L.length cp', .slice q' S.length cq'] 29) = W at h2 h3 hB ⊢
 have a0 := cellOf (v := .slice p L.length cp) h3 (j := 0) rfl
 have a1 := cellOf (v := .slice q S.length cq) h3 (j := 1) rfl
 have b0 := cellOf (v := .slice p' L.length cp') h2 (j := 0) rfl
 have b1 := cellOf (v := .slice q' S.length cq') h2 (j := 1) rfl
 have HB := Lib.hid hB
 have H3 := Lib.hid h3
 have H2 := Lib.hid h2
 have hz : w.heap.size + 1 < W.heap.size := (Array.getElem?_eq_some_iff.mp h2).1
 clear hB h1 h2 h3
 go_wp2_with (first
  | (go_at_call 52; (with_reducible refine (HE.out _ HB.out).mono ?_); go_loud (rintro e w2 ⟨rfl, hb2⟩; have HB2 := Lib.hid (HB.out.trans (hb2.mono HB.out.size)); have a1 := cellOf (v := .slice q S.length cq) ((hb2.block _ (by omega)).trans H3.out) (j := 1) rfl; have b1 := cellOf (v := .slice q' S.length cq') ((hb2.block _ (by omega)).trans H2.out) (j := 1) rfl; clear hb2))
  | (go_at_call 53; (with_reducible refine (HF.out _ HB2.out).mono ?_); go_loud (rintro e w3 ⟨rfl, hb3⟩; have HB3 := Lib.hid (HB2.out.trans (hb3.mono HB2.out.size)); clear hb3)))
 go_ret
 exact ⟨rfl, HB3.out⟩
end Go.Proofs.YtnaglmigkbbljaaGreatDoor
/-
  TopTransferred, the plain law: honest pieces are accepted, what has come is right, and at last all has come. No program in sight.
-/
namespace Go.Proofs.YtnaglmigkbbljaaGreatDoor
open Go Go.RowKit
theorem mem_opt {l : List ByteArray} {j : Nat} {s : ByteArray} (h : s ∈ (l[j]?).toList) : s ∈ l := by
 cases hj : l[j]? with
 | none => rw [hj] at h; cases h
 | some x =>
  rw [hj] at h
  have : s = x := by simpa using h
  rw [this]
  exact List.mem_of_getElem? hj
theorem opt_len (o : Option ByteArray) : o.toList.length ≤ 1 := by cases o <;> simp
theorem proofR_dig : ∀ (f : Nat) (l : List ByteArray) (i k : Nat), DigL l → DigL (Mk.proofR nodeH f l i k)
 | 0, l, i, k, _ => fun s hs => by simp [Mk.proofR] at hs
 | f + 1, l, i, k, h => by
  by_cases h1 : l.length ≤ 1
  ·rw [proofR_one _ h1]; intro s hs; cases hs
  ·rw [proofR_step h1]
   intro s hs
   rcases List.mem_append.mp hs with hs | hs
   ·split at hs
    ·exact h s (mem_opt hs)
    ·cases hs
   rcases List.mem_append.mp hs with hs | hs
   ·split at hs
    ·exact h s (mem_opt hs)
    ·cases hs
   ·exact proofR_dig f _ _ _ (dig_above h) s hs
theorem proofR_len : ∀ (f : Nat) (l : List ByteArray) (i k : Nat), (Mk.proofR nodeH f l i k).length ≤ 2 * f
 | 0, l, i, k => by simp [Mk.proofR]
 | f + 1, l, i, k => by
  by_cases h1 : l.length ≤ 1
  ·rw [proofR_one _ h1]; simp
  ·rw [proofR_step h1, List.length_append, List.length_append]
   have h2 := proofR_len f (aboveH l) (i / 2) ((k + 1) / 2)
   have h3 : (if i % 2 = 1 then (l[i - 1]?).toList else []).length ≤ 1 := by
    split
    ·exact opt_len _
    ·simp
   have h4 : (if k % 2 = 1 ∧ k < l.length then (l[k]?).toList else []).length ≤ 1 := by
    split
    ·exact opt_len _
    ·simp
   omega
theorem proof_dig (l : List ByteArray) (i k : Nat) : DigL (proofH l i k) := proofR_dig _ _ _ _ (dig_leaf l)
theorem proof_len (l : List ByteArray) (i k : Nat) : (proofH l i k).length ≤ 2 * l.length := proofR_len _ _ _ _
theorem honest (l : List ByteArray) (i k : Nat) (hik : i < k) (hk : k ≤ l.length) : verifyB (rootH l) l.length i (Mk.part l i k) (proofH l i k) = true := by
 have h1 : (Mk.part l i k).map leafH = Mk.part (l.map leafH) i k := by simp [Mk.part, List.map_drop, List.map_take]
 have h2 := Mk.verify_proof nodeH l.length (l.map leafH) i k hik (by simpa using hk) (by simp)
 rw [List.length_map] at h2
 unfold verifyB verH proofH
 rw [h1, h2]
 unfold finB rootH topS
 simp
theorem accepted {root : ByteArray} {n i : Nat} {s : ByteArray} {pf : List ByteArray} (hi : i < n) (h : verifyB root n i [s] pf = true) : pf.length = Mk.steps n n i ∧ hexF (rootT n (topOf n i s pf)) = root := by
 unfold verifyB verH at h
 cases hv : Mk.verify nodeH n n i (List.map leafH [s]) pf with
 | none => rw [hv] at h; cases h
 | some p =>
  obtain ⟨lv, r⟩ := p
  rw [hv] at h
  cases r with
  | cons a t => cases h
  | nil =>
   obtain ⟨h1, h2⟩ := Mk.verify_one nodeH n n i (leafH s) pf lv [] hi hv rfl
   subst h2
   refine ⟨h1, ?_⟩
   unfold finB at h
   exact of_decide_eq_true h
theorem part_one (l : List ByteArray) {i : Nat} {s : ByteArray} (h : l[i]? = some s) : Mk.part l i (i + 1) = [s] := by
 have hi := (List.getElem?_eq_some_iff.mp h).1
 refine Mk.part_ext l [s] (by omega) (by simp) fun j hj => ?_
 have : j = 0 := by omega
 subst this
 rw [Nat.add_zero, h]
 rfl
theorem forged {l : List ByteArray} {i : Nat} {s t : ByteArray} (h : l[i]? = some s) (hv : verifyB (rootH l) l.length i [t] (proofH l i (i + 1)) = true) :
  (proofH l i (i + 1)).length = Mk.steps l.length l.length i ∧ hexF (rootT l.length (topOf l.length i s (proofH l i (i + 1)))) = hexF (rootT l.length (topOf l.length i t (proofH l i (i + 1)))) := by
 have hi := (List.getElem?_eq_some_iff.mp h).1
 have h1 := honest l i (i + 1) (by omega) (by omega)
 rw [part_one l h] at h1
 have h2 := accepted hi h1
 have h3 := accepted hi hv
 exact ⟨h2.1, h2.2.trans h3.2.symm⟩
structure Got (cs cs' : List ByteArray) (hv : List Bool) : Prop where
 lc : cs'.length = cs.length
 lh : hv.length = cs.length
 ok : ∀ j : Nat, hv[j]? = some true → cs'[j]? = cs[j]?
theorem Got.first (cs : List ByteArray) : Got cs (List.replicate cs.length ByteArray.empty) (List.replicate cs.length false) := by
 refine ⟨by simp, by simp, fun j hj => ?_⟩
 have := List.mem_of_getElem? hj
 simp at this
theorem Got.put {cs cs' : List ByteArray} {hv : List Bool} (h : Got cs cs' hv) {i k m : Nat} (hik : i < k) (hk : k ≤ cs.length) (hm : m = k - i) : Got cs (setR cs' i (Mk.part cs i k)) (setR hv i (List.replicate m true)) := by
 have hp := Mk.part_length cs (i := i) hk
 refine ⟨by rw [setR_len]; exact h.lc, by rw [setR_len]; exact h.lh, fun j hj => ?_⟩
 rw [setR_get _ _ _ _ (by rw [List.length_replicate, h.lh]; omega), List.length_replicate] at hj
 rw [setR_get _ _ _ _ (by rw [hp, h.lc]; omega), hp]
 by_cases hc : i ≤ j ∧ j < i + (k - i)
 ·rw [if_pos hc, Mk.part_get cs (by omega), show i + (j - i) = j by omega]
 ·rw [if_neg hc]
  rw [if_neg (by omega)] at hj
  exact h.ok j hj
theorem Got.all {cs cs' : List ByteArray} {hv : List Bool} (h : Got cs cs' hv) (ha : ∀ b ∈ hv, b = true) : cs' = cs := by
 refine List.ext_getElem? fun j => ?_
 by_cases hj : j < cs.length
 ·refine h.ok j ?_
  have hj2 : j < hv.length := by rw [h.lh]; exact hj
  rw [List.getElem?_eq_getElem hj2, ha _ (List.getElem_mem hj2)]
 ·rw [List.getElem?_eq_none (by rw [h.lc]; omega), List.getElem?_eq_none (by omega)]
def Left (hv : List Bool) (ms : List Nat) (k : Nat) : Prop := ∀ j, j < hv.length → hv[j]? = some true ∨ ∃ t, k ≤ t ∧ ms[t]? = some j
theorem Left.first (hv : List Bool) : Left hv (missL hv hv.length) 0 := fun j hj => by
 cases hb : hv[j] with
 | true => exact .inl (by rw [List.getElem?_eq_getElem hj, hb])
 | false =>
  have : j ∈ missL hv hv.length := by
   unfold missL
   rw [List.mem_filter]
   exact ⟨List.mem_range.mpr hj, by rw [List.getElem?_eq_getElem hj, hb]; rfl⟩
  obtain ⟨t, ht, e⟩ := List.getElem_of_mem this
  exact .inr ⟨t, Nat.zero_le _, by rw [List.getElem?_eq_getElem ht, e]⟩
theorem Left.step {hv : List Bool} {ms : List Nat} {k j : Nat} (h : Left hv ms k) (hj : ms[k]? = some j) (hl : j < hv.length) : Left (setR hv j (List.replicate 1 true)) ms (k + 1) := fun i hi => by
 rw [setR_len] at hi
 rw [setR_get _ _ _ _ (by simp; omega)]
 by_cases hc : i = j
 ·subst hc
  refine .inl ?_
  rw [if_pos (by simp), Nat.sub_self]
  rfl
 ·rw [if_neg (by simp; omega)]
  rcases h i hi with h1 | ⟨t, h1, h2⟩
  ·exact .inl h1
  ·refine .inr ⟨t, ?_, h2⟩
   by_cases ht : t = k
   ·subst ht
    rw [hj] at h2
    injection h2 with h2
    exact absurd h2.symm hc
   ·omega
theorem Left.done {hv : List Bool} {ms : List Nat} (h : Left hv ms ms.length) : ∀ b ∈ hv, b = true := fun b hb => by
 obtain ⟨j, hj, rfl⟩ := List.getElem_of_mem hb
 rcases h j hj with h1 | ⟨t, h1, h2⟩
 ·rw [List.getElem?_eq_getElem hj] at h1
  injection h1
 ·have := (List.getElem?_eq_some_iff.mp h2).1
  omega
theorem missL_lt {hv : List Bool} {n j t : Nat} (h : (missL hv n)[t]? = some j) : j < n := by
 have := List.mem_of_getElem? h
 unfold missL at this
 exact List.mem_range.mp (List.mem_filter.mp this).1
theorem strL_part {W : World} {g o : Nat} {l : List ByteArray} (h : StrL W (some ⟨g, o, none⟩) l) {i k : Nat} (hik : i < k) (hk : k ≤ l.length) : StrL W (some ⟨g, o + i, none⟩) (Mk.part l i k) := by
 obtain ⟨b, off, e, hb, hc⟩ := StrL.at h (j := 0) (by omega)
 injection e with e
 injection e with e1 e2
 subst e1; subst e2
 have hp := Mk.part_length l (i := i) hk
 refine .inr ⟨g, o + i, rfl, hb, fun j hj => ?_⟩
 have hj' : j < (Mk.part l i k).length := by rw [strV_len] at hj; exact hj
 have := hc (i + j) (by omega)
 rw [strV_at, show o + i + j = o + (i + j) by omega, this]
 have h1 := Mk.part_get l (i := i) (k := k) (j := j) (by omega)
 rw [List.getElem?_eq_getElem hj', List.getElem?_eq_getElem (by omega)] at h1
 injection h1 with h1
 rw [h1]
end Go.Proofs.YtnaglmigkbbljaaGreatDoor
