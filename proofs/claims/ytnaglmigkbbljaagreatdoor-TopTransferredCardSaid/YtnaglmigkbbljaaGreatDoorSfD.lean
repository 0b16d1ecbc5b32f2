/-
  TopTransferred: store.Execute keeps a store valid (printed by mkSfD.py).
-/
import Derived.Test.YtnaglmigkbbljaaGreatDoorSfASfC
set_option maxHeartbeats 6400000
set_option maxRecDepth 1000000
set_option linter.unusedVariables false
set_option linter.unusedSimpArgs false
namespace Go.Proofs.YtnaglmigkbbljaaGreatDoor
open Go Go.RowKit
theorem kOK_key {k : Int} {a b c : ByteArray} (h : kOK k a b c = true) (hk : kX k = true) : grB a 64 = true := by
 unfold kOK at h
 simp only [Bool.and_eq_true] at h
 have := h.1.1.2
 rw [hk] at this
 exact this
theorem kOK_new {k : Int} {a b c : ByteArray} (h : kOK k a b c = true) (hk : kZ k = true) : grB c 64 = true := by
 unfold kOK at h
 simp only [Bool.and_eq_true] at h
 have := h.2
 rw [hk] at this
 exact this
theorem gr_more {s : ByteArray} (h : grB s 64 = true) : grB s 256 = true := by
 unfold grB at h ⊢
 simp only [Bool.and_eq_true, decide_eq_true_eq] at h ⊢
 exact ⟨h.1, h.2.1, by omega⟩
theorem gr_app {s t : ByteArray} (h : grB s 256 = true) (h' : grB t 64 = true) (hl : s.size + t.size ≤ 256) : grB (s ++ t) 256 = true := by
 unfold grB at h h' ⊢
 simp only [Bool.and_eq_true, decide_eq_true_eq] at h h' ⊢
 refine ⟨?_, ?_, ?_⟩
 ·rw [show (s ++ t).data.toList = s.data.toList ++ t.data.toList by simp, List.all_append, h.1, h'.1]; rfl
 ·rw [ByteArray.size_append]; omega
 ·rw [ByteArray.size_append]; exact hl
theorem found_some {L : List Par} {k : ByteArray} {i : Nat} (hf : foundPar L k i = true) : ∃ x, L[i]? = some x ∧ x.k = k := by
 unfold foundPar at hf
 cases hx : L[i]? with
 | none => rw [hx] at hf; simp at hf
 | some x => rw [hx] at hf; exact ⟨x, rfl, key_eq (of_decide_eq_true hf)⟩
theorem gr_size2 {s : ByteArray} {m : Nat} (h : grB s m = true) : 0 < s.size ∧ s.size ≤ m := by
 unfold grB at h
 simp only [Bool.and_eq_true, decide_eq_true_eq] at h
 exact h.2
theorem cell_lt {W : World} {b j : Nat} {v : Value} (h : W.cell? ⟨b, j, none⟩ = some v) : b < W.heap.size := by
 rcases Nat.lt_or_ge b W.heap.size with h' | h'
 ·exact h'
 ·simp [World.cell?, Array.getElem?_eq_none h'] at h
theorem exec_bad (pv : Value) (L : List Par) (k : Int) (a b c : ByteArray) (w : World) (ha : a.size ≤ 1048576) (hb : b.size ≤ 1048576) (hc : c.size ≤ 1048576) (hP : PrV w pv L) (hL : VP L) (hn : L.length ≤ 60) (hG : GL w) (hok : kOK k a b c = false) : Calls Tryz.prog 31 #[pv, opV k a b c] w (PairsRet (L.length + 1) w) := by
 have HF := Lib.hid (fun W => formOf_ex k a b c W ha hb hc)
 unfold FormOf formV at HF
 rw [hok] at HF
 unfold opV at HF ⊢
 have HNS := Lib.hid (kN_sz k)
 have HOK := Lib.hid hok
 clear hok
 generalize kN k = nm at HF HNS
 generalize kX k = x1 at HF
 generalize kY k = x2 at HF
 generalize kZ k = x3 at HF
 have HPU := Lib.hid (fun W (hb : Below w.heap.size w W) v (ha2 : grB a 64 = true) (hv : grB v 256 = true) => put_any pv L a v W (hP.below hb) hL hn ha2 hv (hG.below hb))
 unfold PairsRet at HPU
 have HIT := Lib.hid (fun (m : Nat) (hm : m ≤ 1000000000000) W (hb : Below w.heap.size w W) => itoa_ex m W ⟨by omega, by omega⟩ (hG.below hb))
 have HL := Lib.hid hL
 have HP := Lib.hid hP
 obtain ⟨p, cp, rfl, hcp, hFL, hpp⟩ := hP
 have HCL := Lib.hid (fun W (hb : Below w.heap.size w W) => clonePar_ex p L.length cp L W rfl (by omega) (hFL.below hb) (fun _ => by rcases hpp with h | ⟨b, off, h, _⟩; exact .inl h; exact .inr ⟨b, off, h⟩))
 obtain ⟨n, hN⟩ : ∃ n, n = L.length := ⟨_, rfl⟩
 have HFI := Lib.hid (fun W (hb : Below w.heap.size w W) => findPar_ex p n cp L a W hN (by omega) (mono_par hL.1 a) (hFL.below hb))
 unfold BsPar at HFI
 have HFL := Lib.hid hFL
 rw [← hN] at hcp hn HPU HCL HP ⊢
 have HN := Lib.hid hN
 clear hFL hL hG hN hpp
 go_enter Tryz.func31, Tryz.ntmps31
 go_upto_region 1 with fail
 have HB0 := Lib.hid (heap_alloc_new w (.cells #[.int .i64 k, .string a, .string b, .string c] 89))
 have HW0 := Lib.hid ((Below.refl _ w).alloc (Nat.le_refl _) (.cells #[.int .i64 k, .string a, .string b, .string c] 89))
 generalize w.alloc (.cells #[.int .i64 k, .string a, .string b, .string c] 89) = W0 at HB0 HW0 ⊢
 have a0 := cellOf (v := .int .i64 k) HB0.out (j := 0) rfl; have a1 := cellOf (v := .string a) HB0.out (j := 1) rfl; have a2 := cellOf (v := .string b) HB0.out (j := 2) rfl; have a3 := cellOf (v := .string c) HB0.out (j := 3) rfl
 go_upto_region 2 with (go_at_call 79; refine (HF.out _).mono ?_; rintro e w1 ⟨rfl, hb1⟩; have HW1 := Lib.hid (HW0.out.trans (hb1.mono HW0.out.size)); have HB1 := Lib.hid ((hb1.block _ (Array.getElem?_eq_some_iff.mp HB0.out).1).trans HB0.out); clear hb1)
 have HB3 := Lib.hid ((heap_alloc_old w1 (.cells #[.string nm, .bool x1, .bool x2, .bool x3] 157) (Array.getElem?_eq_some_iff.mp HB1.out).1).trans HB1.out)
 have HW2 := Lib.hid (HW1.out.alloc HW1.out.size (.cells #[.string nm, .bool x1, .bool x2, .bool x3] 157))
 generalize w1.alloc (.cells #[.string nm, .bool x1, .bool x2, .bool x3] 157) = W2 at HB3 HW2 ⊢
 clear a0 a1 a2 a3 HB0 HB1 HW0 HW1 HF
 go_wp2_with fail
 go_ret2
 refine ⟨_, L, _, rfl, HP.out.below HW2.out, HL.out, by have := HN.out; omega, by decide, HW2.out⟩
theorem exec_cnt (pv : Value) (L : List Par) (a b c : ByteArray) (w : World) (ha : a.size ≤ 1048576) (hb : b.size ≤ 1048576) (hc : c.size ≤ 1048576) (hP : PrV w pv L) (hL : VP L) (hn : L.length ≤ 60) (hG : GL w) (hok : kOK 6 a b c = true) : Calls Tryz.prog 31 #[pv, opV 6 a b c] w (PairsRet (L.length + 1) w) := by
 have HF := Lib.hid (fun W => formOf_ex 6 a b c W ha hb hc)
 unfold FormOf formV at HF
 rw [hok] at HF
 unfold opV at HF ⊢
 have HNS := Lib.hid (kN_sz 6)
 have HOK := Lib.hid hok
 clear hok
 generalize kN 6 = nm at HF HNS
 generalize kX 6 = x1 at HF
 generalize kY 6 = x2 at HF
 generalize kZ 6 = x3 at HF
 have HPU := Lib.hid (fun W (hb : Below w.heap.size w W) v (ha2 : grB a 64 = true) (hv : grB v 256 = true) => put_any pv L a v W (hP.below hb) hL hn ha2 hv (hG.below hb))
 unfold PairsRet at HPU
 have HIT := Lib.hid (fun (m : Nat) (hm : m ≤ 1000000000000) W (hb : Below w.heap.size w W) => itoa_ex m W ⟨by omega, by omega⟩ (hG.below hb))
 have HL := Lib.hid hL
 have HP := Lib.hid hP
 obtain ⟨p, cp, rfl, hcp, hFL, hpp⟩ := hP
 have HCL := Lib.hid (fun W (hb : Below w.heap.size w W) => clonePar_ex p L.length cp L W rfl (by omega) (hFL.below hb) (fun _ => by rcases hpp with h | ⟨b, off, h, _⟩; exact .inl h; exact .inr ⟨b, off, h⟩))
 obtain ⟨n, hN⟩ : ∃ n, n = L.length := ⟨_, rfl⟩
 have HFI := Lib.hid (fun W (hb : Below w.heap.size w W) => findPar_ex p n cp L a W hN (by omega) (mono_par hL.1 a) (hFL.below hb))
 unfold BsPar at HFI
 have HFL := Lib.hid hFL
 rw [← hN] at hcp hn HPU HCL HP ⊢
 have HN := Lib.hid hN
 clear hFL hL hG hN hpp
 go_enter Tryz.func31, Tryz.ntmps31
 go_upto_region 1 with fail
 have HB0 := Lib.hid (heap_alloc_new w (.cells #[.int .i64 6, .string a, .string b, .string c] 89))
 have HW0 := Lib.hid ((Below.refl _ w).alloc (Nat.le_refl _) (.cells #[.int .i64 6, .string a, .string b, .string c] 89))
 generalize w.alloc (.cells #[.int .i64 6, .string a, .string b, .string c] 89) = W0 at HB0 HW0 ⊢
 have a0 := cellOf (v := .int .i64 6) HB0.out (j := 0) rfl; have a1 := cellOf (v := .string a) HB0.out (j := 1) rfl; have a2 := cellOf (v := .string b) HB0.out (j := 2) rfl; have a3 := cellOf (v := .string c) HB0.out (j := 3) rfl
 go_upto_region 2 with (go_at_call 79; refine (HF.out _).mono ?_; rintro e w1 ⟨rfl, hb1⟩; have HW1 := Lib.hid (HW0.out.trans (hb1.mono HW0.out.size)); have HB1 := Lib.hid ((hb1.block _ (Array.getElem?_eq_some_iff.mp HB0.out).1).trans HB0.out); clear hb1)
 have HB3 := Lib.hid ((heap_alloc_old w1 (.cells #[.string nm, .bool x1, .bool x2, .bool x3] 157) (Array.getElem?_eq_some_iff.mp HB1.out).1).trans HB1.out)
 have HW2 := Lib.hid (HW1.out.alloc HW1.out.size (.cells #[.string nm, .bool x1, .bool x2, .bool x3] 157))
 generalize w1.alloc (.cells #[.string nm, .bool x1, .bool x2, .bool x3] 157) = W2 at HB3 HW2 ⊢
 clear a0 a1 a2 a3 HB0 HB1 HW0 HW1 HF
 have k1 := cellOf (v := .string a) HB3.out (j := 1) rfl
 go_upto_block 0 with (go_at_call 80; refine (HFI.out _ HW2.out).mono ?_; rintro e w3 ⟨i, hcut, rfl, hb3⟩)
 have HW3 := Lib.hid (HW2.out.trans (hb3.mono HW2.out.size))
 have HB4 := Lib.hid ((hb3.block _ (Array.getElem?_eq_some_iff.mp HB3.out).1).trans HB3.out)
 have hin : i ≤ n := by rw [HN.out]; exact hcut.2.1
 clear hcut hb3 HFI HB3 HW2 k1
 have c0 := cellOf (v := .int .i64 6) HB4.out (j := 0) rfl; have c1 := cellOf (v := .string a) HB4.out (j := 1) rfl; have c2 := cellOf (v := .string b) HB4.out (j := 2) rfl; have c3 := cellOf (v := .string c) HB4.out (j := 3) rfl
 generalize foundPar L a i = fnd
 have HI := Lib.hid (HIT.out n (by omega) w3 HW3.out)
 have his := itoaB_size (n := (n : Int)) ⟨by omega, by omega⟩
 generalize itoaB (n : Int) = sn at HI his
 go_wp2_with (go_at_call 34; refine HI.out.mono ?_; rintro e w4 ⟨rfl, hb4⟩)
 go_ret2
 refine ⟨_, L, _, rfl, HP.out.below (HW3.out.trans (hb4.mono HW3.out.size)), HL.out, by have := HN.out; omega, by rw [ByteArray.size_append]; show 6 + _ ≤ _; omega, (HW3.out.trans (hb4.mono HW3.out.size))⟩
theorem exec_put (pv : Value) (L : List Par) (a b c : ByteArray) (w : World) (ha : a.size ≤ 1048576) (hb : b.size ≤ 1048576) (hc : c.size ≤ 1048576) (hP : PrV w pv L) (hL : VP L) (hn : L.length ≤ 60) (hG : GL w) (hok : kOK 1 a b c = true) : Calls Tryz.prog 31 #[pv, opV 1 a b c] w (PairsRet (L.length + 1) w) := by
 have HF := Lib.hid (fun W => formOf_ex 1 a b c W ha hb hc)
 unfold FormOf formV at HF
 rw [hok] at HF
 unfold opV at HF ⊢
 have HNS := Lib.hid (kN_sz 1)
 have HOK := Lib.hid hok
 clear hok
 generalize kN 1 = nm at HF HNS
 generalize kX 1 = x1 at HF
 generalize kY 1 = x2 at HF
 generalize kZ 1 = x3 at HF
 have HPU := Lib.hid (fun W (hb : Below w.heap.size w W) v (ha2 : grB a 64 = true) (hv : grB v 256 = true) => put_any pv L a v W (hP.below hb) hL hn ha2 hv (hG.below hb))
 unfold PairsRet at HPU
 have HIT := Lib.hid (fun (m : Nat) (hm : m ≤ 1000000000000) W (hb : Below w.heap.size w W) => itoa_ex m W ⟨by omega, by omega⟩ (hG.below hb))
 have HL := Lib.hid hL
 have HP := Lib.hid hP
 obtain ⟨p, cp, rfl, hcp, hFL, hpp⟩ := hP
 have HCL := Lib.hid (fun W (hb : Below w.heap.size w W) => clonePar_ex p L.length cp L W rfl (by omega) (hFL.below hb) (fun _ => by rcases hpp with h | ⟨b, off, h, _⟩; exact .inl h; exact .inr ⟨b, off, h⟩))
 obtain ⟨n, hN⟩ : ∃ n, n = L.length := ⟨_, rfl⟩
 have HFI := Lib.hid (fun W (hb : Below w.heap.size w W) => findPar_ex p n cp L a W hN (by omega) (mono_par hL.1 a) (hFL.below hb))
 unfold BsPar at HFI
 have HFL := Lib.hid hFL
 rw [← hN] at hcp hn HPU HCL HP ⊢
 have HN := Lib.hid hN
 clear hFL hL hG hN hpp
 go_enter Tryz.func31, Tryz.ntmps31
 go_upto_region 1 with fail
 have HB0 := Lib.hid (heap_alloc_new w (.cells #[.int .i64 1, .string a, .string b, .string c] 89))
 have HW0 := Lib.hid ((Below.refl _ w).alloc (Nat.le_refl _) (.cells #[.int .i64 1, .string a, .string b, .string c] 89))
 generalize w.alloc (.cells #[.int .i64 1, .string a, .string b, .string c] 89) = W0 at HB0 HW0 ⊢
 have a0 := cellOf (v := .int .i64 1) HB0.out (j := 0) rfl; have a1 := cellOf (v := .string a) HB0.out (j := 1) rfl; have a2 := cellOf (v := .string b) HB0.out (j := 2) rfl; have a3 := cellOf (v := .string c) HB0.out (j := 3) rfl
 go_upto_region 2 with (go_at_call 79; refine (HF.out _).mono ?_; rintro e w1 ⟨rfl, hb1⟩; have HW1 := Lib.hid (HW0.out.trans (hb1.mono HW0.out.size)); have HB1 := Lib.hid ((hb1.block _ (Array.getElem?_eq_some_iff.mp HB0.out).1).trans HB0.out); clear hb1)
 have HB3 := Lib.hid ((heap_alloc_old w1 (.cells #[.string nm, .bool x1, .bool x2, .bool x3] 157) (Array.getElem?_eq_some_iff.mp HB1.out).1).trans HB1.out)
 have HW2 := Lib.hid (HW1.out.alloc HW1.out.size (.cells #[.string nm, .bool x1, .bool x2, .bool x3] 157))
 generalize w1.alloc (.cells #[.string nm, .bool x1, .bool x2, .bool x3] 157) = W2 at HB3 HW2 ⊢
 clear a0 a1 a2 a3 HB0 HB1 HW0 HW1 HF
 have k1 := cellOf (v := .string a) HB3.out (j := 1) rfl
 go_upto_block 0 with (go_at_call 80; refine (HFI.out _ HW2.out).mono ?_; rintro e w3 ⟨i, hcut, rfl, hb3⟩)
 have HW3 := Lib.hid (HW2.out.trans (hb3.mono HW2.out.size))
 have HB4 := Lib.hid ((hb3.block _ (Array.getElem?_eq_some_iff.mp HB3.out).1).trans HB3.out)
 have hin : i ≤ n := by rw [HN.out]; exact hcut.2.1
 clear hcut hb3 HFI HB3 HW2 k1
 have c0 := cellOf (v := .int .i64 1) HB4.out (j := 0) rfl; have c1 := cellOf (v := .string a) HB4.out (j := 1) rfl; have c2 := cellOf (v := .string b) HB4.out (j := 2) rfl; have c3 := cellOf (v := .string c) HB4.out (j := 3) rfl
 generalize foundPar L a i = fnd
 have HPP := Lib.hid (HPU.out w3 HW3.out c (kOK_key HOK.out (by decide)) (gr_more (kOK_new HOK.out (by decide))))
 go_wp2_with (go_at_call 81; refine HPP.out.mono ?_; rintro e w9 ⟨v9, L9, s9, rfl, h91, h92, h93, h94, h95⟩)
 go_ret2
 exact ⟨v9, L9, s9, rfl, h91, h92, h93, h94, HW3.out.trans (h95.mono HW3.out.size)⟩
theorem exec_get (pv : Value) (L : List Par) (a b c : ByteArray) (w : World) (ha : a.size ≤ 1048576) (hb : b.size ≤ 1048576) (hc : c.size ≤ 1048576) (hP : PrV w pv L) (hL : VP L) (hn : L.length ≤ 60) (hG : GL w) (hok : kOK 2 a b c = true) : Calls Tryz.prog 31 #[pv, opV 2 a b c] w (PairsRet (L.length + 1) w) := by
 have HF := Lib.hid (fun W => formOf_ex 2 a b c W ha hb hc)
 unfold FormOf formV at HF
 rw [hok] at HF
 unfold opV at HF ⊢
 have HNS := Lib.hid (kN_sz 2)
 have HOK := Lib.hid hok
 clear hok
 generalize kN 2 = nm at HF HNS
 generalize kX 2 = x1 at HF
 generalize kY 2 = x2 at HF
 generalize kZ 2 = x3 at HF
 have HPU := Lib.hid (fun W (hb : Below w.heap.size w W) v (ha2 : grB a 64 = true) (hv : grB v 256 = true) => put_any pv L a v W (hP.below hb) hL hn ha2 hv (hG.below hb))
 unfold PairsRet at HPU
 have HIT := Lib.hid (fun (m : Nat) (hm : m ≤ 1000000000000) W (hb : Below w.heap.size w W) => itoa_ex m W ⟨by omega, by omega⟩ (hG.below hb))
 have HL := Lib.hid hL
 have HP := Lib.hid hP
 obtain ⟨p, cp, rfl, hcp, hFL, hpp⟩ := hP
 have HCL := Lib.hid (fun W (hb : Below w.heap.size w W) => clonePar_ex p L.length cp L W rfl (by omega) (hFL.below hb) (fun _ => by rcases hpp with h | ⟨b, off, h, _⟩; exact .inl h; exact .inr ⟨b, off, h⟩))
 obtain ⟨n, hN⟩ : ∃ n, n = L.length := ⟨_, rfl⟩
 have HFI := Lib.hid (fun W (hb : Below w.heap.size w W) => findPar_ex p n cp L a W hN (by omega) (mono_par hL.1 a) (hFL.below hb))
 unfold BsPar at HFI
 have HFL := Lib.hid hFL
 rw [← hN] at hcp hn HPU HCL HP ⊢
 have HN := Lib.hid hN
 clear hFL hL hG hN hpp
 go_enter Tryz.func31, Tryz.ntmps31
 go_upto_region 1 with fail
 have HB0 := Lib.hid (heap_alloc_new w (.cells #[.int .i64 2, .string a, .string b, .string c] 89))
 have HW0 := Lib.hid ((Below.refl _ w).alloc (Nat.le_refl _) (.cells #[.int .i64 2, .string a, .string b, .string c] 89))
 generalize w.alloc (.cells #[.int .i64 2, .string a, .string b, .string c] 89) = W0 at HB0 HW0 ⊢
 have a0 := cellOf (v := .int .i64 2) HB0.out (j := 0) rfl; have a1 := cellOf (v := .string a) HB0.out (j := 1) rfl; have a2 := cellOf (v := .string b) HB0.out (j := 2) rfl; have a3 := cellOf (v := .string c) HB0.out (j := 3) rfl
 go_upto_region 2 with (go_at_call 79; refine (HF.out _).mono ?_; rintro e w1 ⟨rfl, hb1⟩; have HW1 := Lib.hid (HW0.out.trans (hb1.mono HW0.out.size)); have HB1 := Lib.hid ((hb1.block _ (Array.getElem?_eq_some_iff.mp HB0.out).1).trans HB0.out); clear hb1)
 have HB3 := Lib.hid ((heap_alloc_old w1 (.cells #[.string nm, .bool x1, .bool x2, .bool x3] 157) (Array.getElem?_eq_some_iff.mp HB1.out).1).trans HB1.out)
 have HW2 := Lib.hid (HW1.out.alloc HW1.out.size (.cells #[.string nm, .bool x1, .bool x2, .bool x3] 157))
 generalize w1.alloc (.cells #[.string nm, .bool x1, .bool x2, .bool x3] 157) = W2 at HB3 HW2 ⊢
 clear a0 a1 a2 a3 HB0 HB1 HW0 HW1 HF
 have k1 := cellOf (v := .string a) HB3.out (j := 1) rfl
 go_upto_block 0 with (go_at_call 80; refine (HFI.out _ HW2.out).mono ?_; rintro e w3 ⟨i, hcut, rfl, hb3⟩)
 have HW3 := Lib.hid (HW2.out.trans (hb3.mono HW2.out.size))
 have HB4 := Lib.hid ((hb3.block _ (Array.getElem?_eq_some_iff.mp HB3.out).1).trans HB3.out)
 have hin : i ≤ n := by rw [HN.out]; exact hcut.2.1
 clear hcut hb3 HFI HB3 HW2 k1
 have c0 := cellOf (v := .int .i64 2) HB4.out (j := 0) rfl; have c1 := cellOf (v := .string a) HB4.out (j := 1) rfl; have c2 := cellOf (v := .string b) HB4.out (j := 2) rfl; have c3 := cellOf (v := .string c) HB4.out (j := 3) rfl
 cases hf : foundPar L a i with
 | false =>
  go_wp2_with fail
  go_ret2
  refine ⟨_, L, _, rfl, HP.out.below HW3.out, HL.out, by have := HN.out; omega, by decide, HW3.out⟩
 | true =>
  obtain ⟨x, hx, hxk⟩ := found_some hf
  have HX := Lib.hid hx
  have HXK := Lib.hid hxk
  have him : i < n := by rw [HN.out]; exact (List.getElem?_eq_some_iff.mp hx).1
  have HXO := Lib.hid (HL.out.2 x (List.mem_of_getElem? hx))
  obtain ⟨bb, off, hpe, hbb, hcs⟩ := HFL.out.at encP3 (by have := HN.out; omega)
  subst hpe
  have d1 := (HW3.out.cell (p := ⟨bb, off + (i * 3 + 0), none⟩) hbb).trans (hcs _ _ ((flat_get encP3 hx (j := 0) (by omega)).trans rfl))
  have d2 := (HW3.out.cell (p := ⟨bb, off + (i * 3 + 1), none⟩) hbb).trans (hcs _ _ ((flat_get encP3 hx (j := 1) (by omega)).trans rfl))
  have d3 := (HW3.out.cell (p := ⟨bb, off + (i * 3 + 2), none⟩) hbb).trans (hcs _ _ ((flat_get encP3 hx (j := 2) (by omega)).trans rfl))
  replace d1 : w3.cell? ⟨bb, off + i * 3, none⟩ = some (.string x.k) := d1
  replace d2 : w3.cell? ⟨bb, off + i * 3 + 1, none⟩ = some (.string x.v) := d2
  replace d3 : w3.cell? ⟨bb, off + i * 3 + 2, none⟩ = some (.int .i64 x.ver) := d3
  clear hx hxk hcs hf
  have e0 : (0 : Int) ≤ (i : Int) := by omega
  have e1 : (i : Int) < (n : Int) := by omega
  go_upto_region 14 with fail
  have HX4 := Lib.hid (heap_alloc_new w3 (.cells #[.string x.k, .string x.v, .int .i64 x.ver] 115))
  have HB5 := Lib.hid ((heap_alloc_old w3 (.cells #[.string x.k, .string x.v, .int .i64 x.ver] 115) (Array.getElem?_eq_some_iff.mp HB4.out).1).trans HB4.out)
  have HW4 := Lib.hid (HW3.out.alloc HW3.out.size (.cells #[.string x.k, .string x.v, .int .i64 x.ver] 115))
  clear c0 c1 c2 c3 d1 d2 d3 HB4
  obtain ⟨bx, hbx⟩ : ∃ bx, bx = w3.heap.size := ⟨_, rfl⟩
  rw [← hbx] at HX4 ⊢
  generalize w3.alloc (.cells #[.string x.k, .string x.v, .int .i64 x.ver] 115) = W4 at HX4 HB5 HW4 ⊢
  clear hbx HW3
  have c0 := cellOf (v := .int .i64 2) HB5.out (j := 0) rfl; have c1 := cellOf (v := .string a) HB5.out (j := 1) rfl; have c2 := cellOf (v := .string b) HB5.out (j := 2) rfl; have c3 := cellOf (v := .string c) HB5.out (j := 3) rfl
  have x0 := cellOf (v := .string x.k) HX4.out (j := 0) rfl; have x1' := cellOf (v := .string x.v) HX4.out (j := 1) rfl; have x2' := cellOf (v := .int .i64 x.ver) HX4.out (j := 2) rfl
  have hxv := (HXO.out.2.1)
  have hxs := gr_size2 hxv
  have HXV := Lib.hid hxv
  clear hxv
  have HI := Lib.hid (HIT.out x.ver HXO.out.2.2.2)
  have HZ := Lib.hid (And.intro (itoaB_size (n := (x.ver : Int)) ⟨by omega, by have := HXO.out.2.2.2; omega⟩) hxs.2)
  generalize itoaB (x.ver : Int) = sv at HI HZ
  have q1 : ¬ (9223372036854775807 < 6 + x.v.size) := by omega
  have q2 : ¬ (9223372036854775807 < 6 + x.v.size + 1) := by omega
  have q3 : ¬ (9223372036854775807 < 6 + x.v.size + 1 + sv.size) := by have := HZ.out.1; omega
  go_upto_region 16 with fail
  have hSd : W4.drew.cell? ⟨bx, 1, none⟩ = some (.string x.v) ∧ W4.drew.cell? ⟨bx, 2, none⟩ = some (.int .i64 x.ver) ∧ Below w.heap.size w W4.drew := ⟨x1', x2', below_drewN HW4.out 1⟩
  refine wp_region_noPanic ?_
  refine wp_region_held_drew (S := fun W => W.cell? ⟨bx, 1, none⟩ = some (.string x.v) ∧ W.cell? ⟨bx, 2, none⟩ = some (.int .i64 x.ver) ∧ Below w.heap.size w W) (by kernel_rfl) ?_ (fun hHeld => ?_)
  ·exact hSd
  refine wpAnyH_take (i := 0) (oi := { dst := some 75, op := _, type := _, pos := _, after := _, guard := _ }) (v := ?_) rfl (by kernel_rfl) (by kernel_rfl) (by kernel_rfl) (fun _ _ _ h => h) (Or.inl ⟨by rfl, ?_⟩) (by assumption) ?_
  rotate_left
  ·intro w hSw
   try dsimp only at hSw
   go_simp
   try with_reducible rfl
  try simp only [Act.put, List.setIfInBounds_toArray, List.set_cons_zero, List.set_cons_succ]
  refine wpAnyH_take (i := 1) (oi := { dst := some 76, op := _, type := _, pos := _, after := _, guard := _ }) (v := ?_) rfl (by kernel_rfl) (by kernel_rfl) (by kernel_rfl) (fun _ _ _ h => h) (Or.inl ⟨by rfl, ?_⟩) (by assumption) ?_
  rotate_left
  ·intro w hSw
   try dsimp only at hSw
   go_simp
   try with_reducible rfl
  try simp only [Act.put, List.setIfInBounds_toArray, List.set_cons_zero, List.set_cons_succ]
  refine wpAnyH_take (i := 2) (oi := { dst := some 77, op := _, type := _, pos := _, after := _, guard := _ }) (v := ?_) rfl (by kernel_rfl) (by kernel_rfl) (by kernel_rfl) (fun _ _ _ h => h) (Or.inl ⟨by rfl, ?_⟩) (by assumption) ?_
  rotate_left
  ·intro w hSw
   try dsimp only at hSw
   go_simp
   try with_reducible rfl
  try simp only [Act.put, List.setIfInBounds_toArray, List.set_cons_zero, List.set_cons_succ]
  refine wpAnyH_take (i := 3) (oi := { dst := some 78, op := _, type := _, pos := _, after := _, guard := _ }) (v := ?_) rfl (by kernel_rfl) (by kernel_rfl) (by kernel_rfl) (fun _ _ _ h => h) (Or.inl ⟨by rfl, ?_⟩) (by assumption) ?_
  rotate_left
  ·intro w hSw
   try dsimp only at hSw
   go_simp
   try with_reducible rfl
  try simp only [Act.put, List.setIfInBounds_toArray, List.set_cons_zero, List.set_cons_succ]
  refine wpAnyH_take (i := 4) (oi := { dst := some 79, op := _, type := _, pos := _, after := _, guard := _ }) (v := ?_) rfl (by kernel_rfl) (by kernel_rfl) (by kernel_rfl) (fun _ _ _ h => h) (Or.inl ⟨by rfl, ?_⟩) (by assumption) ?_
  rotate_left
  ·intro w hSw
   try dsimp only at hSw
   go_simp
   try with_reducible rfl
  try simp only [Act.put, List.setIfInBounds_toArray, List.set_cons_zero, List.set_cons_succ]
  refine wpAnyH_take (i := 5) (oi := { dst := some 80, op := _, type := _, pos := _, after := _, guard := _ }) (v := ?_) rfl (by kernel_rfl) (by kernel_rfl) (by kernel_rfl) (fun _ _ _ h => h) (Or.inl ⟨by rfl, ?_⟩) (by assumption) ?_
  rotate_left
  ·intro w hSw
   try dsimp only at hSw
   go_simp
   try with_reducible rfl
  try simp only [Act.put, List.setIfInBounds_toArray, List.set_cons_zero, List.set_cons_succ]
  refine wpAnyH_take (i := 6) (oi := { dst := some 81, op := _, type := _, pos := _, after := _, guard := _ }) (v := ?_) rfl (by kernel_rfl) (by kernel_rfl) (by kernel_rfl) (fun _ _ _ h => h) (Or.inl ⟨by rfl, ?_⟩) (by assumption) ?_
  rotate_left
  ·intro w hSw
   try dsimp only at hSw
   go_simp
   try with_reducible rfl
  try simp only [Act.put, List.setIfInBounds_toArray, List.set_cons_zero, List.set_cons_succ]
  refine wpAnyH_ready (rs := [7]) (by kernel_rfl) (by simp) ?_
  refine AllReadyH.cons (o := { dst := some 82, op := _, type := _, pos := _, after := _, guard := _ }) rfl (fun K hK => ?_) ?_
  ·go_simp
   go_at_call 34
   (with_reducible refine (HI.out _ hHeld.2.2).mono ?_)
   rintro e w5 ⟨rfl, hb5⟩
   have hS5 : w5.cell? ⟨bx, 1, none⟩ = some (.string x.v) ∧ w5.cell? ⟨bx, 2, none⟩ = some (.int .i64 x.ver) ∧ Below w.heap.size w w5 := ⟨(hb5.cell (p := ⟨bx, 1, none⟩) (cell_lt hHeld.1)).trans hHeld.1, (hb5.cell (p := ⟨bx, 2, none⟩) (cell_lt hHeld.1)).trans hHeld.2.1, hHeld.2.2.trans (hb5.mono hHeld.2.2.size)⟩
   clear hb5
   go_simp
   refine hK.out _ _ ?_ (fun hHeld => ?_)
   ·exact hS5
   clear hK K
   try simp only [Act.put, List.setIfInBounds_toArray, List.set_cons_zero, List.set_cons_succ]
   refine wpAnyH_take (i := 8) (oi := { dst := some 83, op := _, type := _, pos := _, after := _, guard := _ }) (v := ?_) rfl (by kernel_rfl) (by kernel_rfl) (by kernel_rfl) (fun _ _ _ h => h) (Or.inl ⟨by rfl, ?_⟩) (by assumption) ?_
   rotate_left
   ·intro w hSw
    try dsimp only at hSw
    go_simp
    try with_reducible rfl
   try simp only [Act.put, List.setIfInBounds_toArray, List.set_cons_zero, List.set_cons_succ]
   refine wpAnyH_take (i := 9) (oi := { dst := some 4, op := _, type := _, pos := _, after := _, guard := _ }) (v := ?_) rfl (by kernel_rfl) (by kernel_rfl) (by kernel_rfl) (fun _ _ _ h => h) (Or.inl ⟨by rfl, ?_⟩) (by assumption) ?_
   rotate_left
   ·intro w hSw
    try dsimp only at hSw
    go_simp
    try with_reducible rfl
   try simp only [Act.put, List.setIfInBounds_toArray, List.set_cons_zero, List.set_cons_succ]
   refine wpAnyH_take (i := 10) (oi := { dst := some 5, op := _, type := _, pos := _, after := _, guard := _ }) (v := ?_) rfl (by kernel_rfl) (by kernel_rfl) (by kernel_rfl) (fun _ _ _ h => h) (Or.inl ⟨by rfl, ?_⟩) (by assumption) ?_
   rotate_left
   ·intro w hSw
    try dsimp only at hSw
    go_simp
    try with_reducible rfl
   try simp only [Act.put, List.setIfInBounds_toArray, List.set_cons_zero, List.set_cons_succ]
   refine wpAnyH_done (by kernel_rfl) ?_ _
   refine NoPanic.normal ?_
   go_wp2_with fail
   go_ret2
   refine ⟨_, L, _, rfl, HP.out.below hHeld.2.2, HL.out, by have := HN.out; omega, ?_, hHeld.2.2⟩
   simp only [ByteArray.size_append]
   have hz := HZ.out
   have q1 : (⟨#[118, 97, 108, 117, 101, 32]⟩ : ByteArray).size = 6 := rfl
   have q2 : (⟨#[32]⟩ : ByteArray).size = 1 := rfl
   omega
  exact AllReadyH.nil
theorem exec_del (pv : Value) (L : List Par) (a b c : ByteArray) (w : World) (ha : a.size ≤ 1048576) (hb : b.size ≤ 1048576) (hc : c.size ≤ 1048576) (hP : PrV w pv L) (hL : VP L) (hn : L.length ≤ 60) (hG : GL w) (hok : kOK 3 a b c = true) : Calls Tryz.prog 31 #[pv, opV 3 a b c] w (PairsRet (L.length + 1) w) := by
 have HF := Lib.hid (fun W => formOf_ex 3 a b c W ha hb hc)
 unfold FormOf formV at HF
 rw [hok] at HF
 unfold opV at HF ⊢
 have HNS := Lib.hid (kN_sz 3)
 have HOK := Lib.hid hok
 clear hok
 generalize kN 3 = nm at HF HNS
 generalize kX 3 = x1 at HF
 generalize kY 3 = x2 at HF
 generalize kZ 3 = x3 at HF
 have HPU := Lib.hid (fun W (hb : Below w.heap.size w W) v (ha2 : grB a 64 = true) (hv : grB v 256 = true) => put_any pv L a v W (hP.below hb) hL hn ha2 hv (hG.below hb))
 unfold PairsRet at HPU
 have HIT := Lib.hid (fun (m : Nat) (hm : m ≤ 1000000000000) W (hb : Below w.heap.size w W) => itoa_ex m W ⟨by omega, by omega⟩ (hG.below hb))
 have HL := Lib.hid hL
 have HP := Lib.hid hP
 obtain ⟨p, cp, rfl, hcp, hFL, hpp⟩ := hP
 have HCL := Lib.hid (fun W (hb : Below w.heap.size w W) => clonePar_ex p L.length cp L W rfl (by omega) (hFL.below hb) (fun _ => by rcases hpp with h | ⟨b, off, h, _⟩; exact .inl h; exact .inr ⟨b, off, h⟩))
 obtain ⟨n, hN⟩ : ∃ n, n = L.length := ⟨_, rfl⟩
 have HFI := Lib.hid (fun W (hb : Below w.heap.size w W) => findPar_ex p n cp L a W hN (by omega) (mono_par hL.1 a) (hFL.below hb))
 unfold BsPar at HFI
 have HFL := Lib.hid hFL
 rw [← hN] at hcp hn HPU HCL HP ⊢
 have HN := Lib.hid hN
 clear hFL hL hG hN hpp
 go_enter Tryz.func31, Tryz.ntmps31
 go_upto_region 1 with fail
 have HB0 := Lib.hid (heap_alloc_new w (.cells #[.int .i64 3, .string a, .string b, .string c] 89))
 have HW0 := Lib.hid ((Below.refl _ w).alloc (Nat.le_refl _) (.cells #[.int .i64 3, .string a, .string b, .string c] 89))
 generalize w.alloc (.cells #[.int .i64 3, .string a, .string b, .string c] 89) = W0 at HB0 HW0 ⊢
 have a0 := cellOf (v := .int .i64 3) HB0.out (j := 0) rfl; have a1 := cellOf (v := .string a) HB0.out (j := 1) rfl; have a2 := cellOf (v := .string b) HB0.out (j := 2) rfl; have a3 := cellOf (v := .string c) HB0.out (j := 3) rfl
 go_upto_region 2 with (go_at_call 79; refine (HF.out _).mono ?_; rintro e w1 ⟨rfl, hb1⟩; have HW1 := Lib.hid (HW0.out.trans (hb1.mono HW0.out.size)); have HB1 := Lib.hid ((hb1.block _ (Array.getElem?_eq_some_iff.mp HB0.out).1).trans HB0.out); clear hb1)
 have HB3 := Lib.hid ((heap_alloc_old w1 (.cells #[.string nm, .bool x1, .bool x2, .bool x3] 157) (Array.getElem?_eq_some_iff.mp HB1.out).1).trans HB1.out)
 have HW2 := Lib.hid (HW1.out.alloc HW1.out.size (.cells #[.string nm, .bool x1, .bool x2, .bool x3] 157))
 generalize w1.alloc (.cells #[.string nm, .bool x1, .bool x2, .bool x3] 157) = W2 at HB3 HW2 ⊢
 clear a0 a1 a2 a3 HB0 HB1 HW0 HW1 HF
 have k1 := cellOf (v := .string a) HB3.out (j := 1) rfl
 go_upto_block 0 with (go_at_call 80; refine (HFI.out _ HW2.out).mono ?_; rintro e w3 ⟨i, hcut, rfl, hb3⟩)
 have HW3 := Lib.hid (HW2.out.trans (hb3.mono HW2.out.size))
 have HB4 := Lib.hid ((hb3.block _ (Array.getElem?_eq_some_iff.mp HB3.out).1).trans HB3.out)
 have hin : i ≤ n := by rw [HN.out]; exact hcut.2.1
 clear hcut hb3 HFI HB3 HW2 k1
 have c0 := cellOf (v := .int .i64 3) HB4.out (j := 0) rfl; have c1 := cellOf (v := .string a) HB4.out (j := 1) rfl; have c2 := cellOf (v := .string b) HB4.out (j := 2) rfl; have c3 := cellOf (v := .string c) HB4.out (j := 3) rfl
 cases hf : foundPar L a i with
 | false =>
  go_wp2_with fail
  go_ret2
  refine ⟨_, L, _, rfl, HP.out.below HW3.out, HL.out, by have := HN.out; omega, by decide, HW3.out⟩
 | true =>
  obtain ⟨x, hx, hxk⟩ := found_some hf
  have HX := Lib.hid hx
  have HXK := Lib.hid hxk
  have him : i < n := by rw [HN.out]; exact (List.getElem?_eq_some_iff.mp hx).1
  have HXO := Lib.hid (HL.out.2 x (List.mem_of_getElem? hx))
  obtain ⟨bb, off, hpe, hbb, hcs⟩ := HFL.out.at encP3 (by have := HN.out; omega)
  subst hpe
  have d1 := (HW3.out.cell (p := ⟨bb, off + (i * 3 + 0), none⟩) hbb).trans (hcs _ _ ((flat_get encP3 hx (j := 0) (by omega)).trans rfl))
  have d2 := (HW3.out.cell (p := ⟨bb, off + (i * 3 + 1), none⟩) hbb).trans (hcs _ _ ((flat_get encP3 hx (j := 1) (by omega)).trans rfl))
  have d3 := (HW3.out.cell (p := ⟨bb, off + (i * 3 + 2), none⟩) hbb).trans (hcs _ _ ((flat_get encP3 hx (j := 2) (by omega)).trans rfl))
  replace d1 : w3.cell? ⟨bb, off + i * 3, none⟩ = some (.string x.k) := d1
  replace d2 : w3.cell? ⟨bb, off + i * 3 + 1, none⟩ = some (.string x.v) := d2
  replace d3 : w3.cell? ⟨bb, off + i * 3 + 2, none⟩ = some (.int .i64 x.ver) := d3
  clear hx hxk hcs hf
  have e0 : (0 : Int) ≤ (i : Int) := by omega
  have e1 : (i : Int) < (n : Int) := by omega
  go_upto_region 14 with fail
  have HX4 := Lib.hid (heap_alloc_new w3 (.cells #[.string x.k, .string x.v, .int .i64 x.ver] 115))
  have HB5 := Lib.hid ((heap_alloc_old w3 (.cells #[.string x.k, .string x.v, .int .i64 x.ver] 115) (Array.getElem?_eq_some_iff.mp HB4.out).1).trans HB4.out)
  have HW4 := Lib.hid (HW3.out.alloc HW3.out.size (.cells #[.string x.k, .string x.v, .int .i64 x.ver] 115))
  clear c0 c1 c2 c3 d1 d2 d3 HB4
  obtain ⟨bx, hbx⟩ : ∃ bx, bx = w3.heap.size := ⟨_, rfl⟩
  rw [← hbx] at HX4 ⊢
  generalize w3.alloc (.cells #[.string x.k, .string x.v, .int .i64 x.ver] 115) = W4 at HX4 HB5 HW4 ⊢
  clear hbx HW3
  have c0 := cellOf (v := .int .i64 3) HB5.out (j := 0) rfl; have c1 := cellOf (v := .string a) HB5.out (j := 1) rfl; have c2 := cellOf (v := .string b) HB5.out (j := 2) rfl; have c3 := cellOf (v := .string c) HB5.out (j := 3) rfl
  have x0 := cellOf (v := .string x.k) HX4.out (j := 0) rfl; have x1' := cellOf (v := .string x.v) HX4.out (j := 1) rfl; have x2' := cellOf (v := .int .i64 x.ver) HX4.out (j := 2) rfl
  have hxv := (HXO.out.2.1)
  have hxs := gr_size2 hxv
  have HXV := Lib.hid hxv
  clear hxv
  have HC5 := Lib.hid (HCL.out W4 HW4.out)
  go_wp2_with (first
   | (go_at_call 83; refine HC5.out.mono ?_; rintro e w5 ⟨v5, rfl, ho5, hb5⟩; rw [← HN.out] at ho5; obtain ⟨g5, cap5, rfl⟩ := own_some ho5 (by omega); have HW5 := Lib.hid (HW4.out.trans (hb5.mono HW4.out.size)); have HD5 := Lib.hid (delPar_ex W4.heap.size n i g5 cap5 L w5 him (by omega) ho5 hb5.size); have HS5 := Lib.hid HW4.out.size; clear ho5 hb5)
   | (go_at_call 82; refine HD5.out.mono ?_; rintro e w6 ⟨v6, rfl, ho6, hb6⟩))
  go_ret2
  refine ⟨_, _, _, rfl, prv_of_own ho6, ⟨pw_erase HL.out.1, ok_erase HL.out.2⟩, ?_, by decide, HW5.out.trans (hb6.mono HS5.out)⟩
  have := HN.out
  rw [List.length_append, List.length_take, List.length_drop]
  omega
theorem exec_app (pv : Value) (L : List Par) (a b c : ByteArray) (w : World) (ha : a.size ≤ 1048576) (hb : b.size ≤ 1048576) (hc : c.size ≤ 1048576) (hP : PrV w pv L) (hL : VP L) (hn : L.length ≤ 60) (hG : GL w) (hok : kOK 4 a b c = true) : Calls Tryz.prog 31 #[pv, opV 4 a b c] w (PairsRet (L.length + 1) w) := by
 have HF := Lib.hid (fun W => formOf_ex 4 a b c W ha hb hc)
 unfold FormOf formV at HF
 rw [hok] at HF
 unfold opV at HF ⊢
 have HNS := Lib.hid (kN_sz 4)
 have HOK := Lib.hid hok
 clear hok
 generalize kN 4 = nm at HF HNS
 generalize kX 4 = x1 at HF
 generalize kY 4 = x2 at HF
 generalize kZ 4 = x3 at HF
 have HPU := Lib.hid (fun W (hb : Below w.heap.size w W) v (ha2 : grB a 64 = true) (hv : grB v 256 = true) => put_any pv L a v W (hP.below hb) hL hn ha2 hv (hG.below hb))
 unfold PairsRet at HPU
 have HIT := Lib.hid (fun (m : Nat) (hm : m ≤ 1000000000000) W (hb : Below w.heap.size w W) => itoa_ex m W ⟨by omega, by omega⟩ (hG.below hb))
 have HL := Lib.hid hL
 have HP := Lib.hid hP
 obtain ⟨p, cp, rfl, hcp, hFL, hpp⟩ := hP
 have HCL := Lib.hid (fun W (hb : Below w.heap.size w W) => clonePar_ex p L.length cp L W rfl (by omega) (hFL.below hb) (fun _ => by rcases hpp with h | ⟨b, off, h, _⟩; exact .inl h; exact .inr ⟨b, off, h⟩))
 obtain ⟨n, hN⟩ : ∃ n, n = L.length := ⟨_, rfl⟩
 have HFI := Lib.hid (fun W (hb : Below w.heap.size w W) => findPar_ex p n cp L a W hN (by omega) (mono_par hL.1 a) (hFL.below hb))
 unfold BsPar at HFI
 have HFL := Lib.hid hFL
 rw [← hN] at hcp hn HPU HCL HP ⊢
 have HN := Lib.hid hN
 clear hFL hL hG hN hpp
 go_enter Tryz.func31, Tryz.ntmps31
 go_upto_region 1 with fail
 have HB0 := Lib.hid (heap_alloc_new w (.cells #[.int .i64 4, .string a, .string b, .string c] 89))
 have HW0 := Lib.hid ((Below.refl _ w).alloc (Nat.le_refl _) (.cells #[.int .i64 4, .string a, .string b, .string c] 89))
 generalize w.alloc (.cells #[.int .i64 4, .string a, .string b, .string c] 89) = W0 at HB0 HW0 ⊢
 have a0 := cellOf (v := .int .i64 4) HB0.out (j := 0) rfl; have a1 := cellOf (v := .string a) HB0.out (j := 1) rfl; have a2 := cellOf (v := .string b) HB0.out (j := 2) rfl; have a3 := cellOf (v := .string c) HB0.out (j := 3) rfl
 go_upto_region 2 with (go_at_call 79; refine (HF.out _).mono ?_; rintro e w1 ⟨rfl, hb1⟩; have HW1 := Lib.hid (HW0.out.trans (hb1.mono HW0.out.size)); have HB1 := Lib.hid ((hb1.block _ (Array.getElem?_eq_some_iff.mp HB0.out).1).trans HB0.out); clear hb1)
 have HB3 := Lib.hid ((heap_alloc_old w1 (.cells #[.string nm, .bool x1, .bool x2, .bool x3] 157) (Array.getElem?_eq_some_iff.mp HB1.out).1).trans HB1.out)
 have HW2 := Lib.hid (HW1.out.alloc HW1.out.size (.cells #[.string nm, .bool x1, .bool x2, .bool x3] 157))
 generalize w1.alloc (.cells #[.string nm, .bool x1, .bool x2, .bool x3] 157) = W2 at HB3 HW2 ⊢
 clear a0 a1 a2 a3 HB0 HB1 HW0 HW1 HF
 have k1 := cellOf (v := .string a) HB3.out (j := 1) rfl
 go_upto_block 0 with (go_at_call 80; refine (HFI.out _ HW2.out).mono ?_; rintro e w3 ⟨i, hcut, rfl, hb3⟩)
 have HW3 := Lib.hid (HW2.out.trans (hb3.mono HW2.out.size))
 have HB4 := Lib.hid ((hb3.block _ (Array.getElem?_eq_some_iff.mp HB3.out).1).trans HB3.out)
 have hin : i ≤ n := by rw [HN.out]; exact hcut.2.1
 clear hcut hb3 HFI HB3 HW2 k1
 have c0 := cellOf (v := .int .i64 4) HB4.out (j := 0) rfl; have c1 := cellOf (v := .string a) HB4.out (j := 1) rfl; have c2 := cellOf (v := .string b) HB4.out (j := 2) rfl; have c3 := cellOf (v := .string c) HB4.out (j := 3) rfl
 cases hf : foundPar L a i with
 | false =>
  have HPP := Lib.hid (HPU.out w3 HW3.out c (kOK_key HOK.out (by decide)) (gr_more (kOK_new HOK.out (by decide))))
  go_wp2_with (go_at_call 81; refine HPP.out.mono ?_; rintro e w9 ⟨v9, L9, s9, rfl, h91, h92, h93, h94, h95⟩)
  go_ret2
  exact ⟨v9, L9, s9, rfl, h91, h92, h93, h94, HW3.out.trans (h95.mono HW3.out.size)⟩
 | true =>
  obtain ⟨x, hx, hxk⟩ := found_some hf
  have HX := Lib.hid hx
  have HXK := Lib.hid hxk
  have him : i < n := by rw [HN.out]; exact (List.getElem?_eq_some_iff.mp hx).1
  have HXO := Lib.hid (HL.out.2 x (List.mem_of_getElem? hx))
  obtain ⟨bb, off, hpe, hbb, hcs⟩ := HFL.out.at encP3 (by have := HN.out; omega)
  subst hpe
  have d1 := (HW3.out.cell (p := ⟨bb, off + (i * 3 + 0), none⟩) hbb).trans (hcs _ _ ((flat_get encP3 hx (j := 0) (by omega)).trans rfl))
  have d2 := (HW3.out.cell (p := ⟨bb, off + (i * 3 + 1), none⟩) hbb).trans (hcs _ _ ((flat_get encP3 hx (j := 1) (by omega)).trans rfl))
  have d3 := (HW3.out.cell (p := ⟨bb, off + (i * 3 + 2), none⟩) hbb).trans (hcs _ _ ((flat_get encP3 hx (j := 2) (by omega)).trans rfl))
  replace d1 : w3.cell? ⟨bb, off + i * 3, none⟩ = some (.string x.k) := d1
  replace d2 : w3.cell? ⟨bb, off + i * 3 + 1, none⟩ = some (.string x.v) := d2
  replace d3 : w3.cell? ⟨bb, off + i * 3 + 2, none⟩ = some (.int .i64 x.ver) := d3
  clear hx hxk hcs hf
  have e0 : (0 : Int) ≤ (i : Int) := by omega
  have e1 : (i : Int) < (n : Int) := by omega
  go_upto_region 14 with fail
  have HX4 := Lib.hid (heap_alloc_new w3 (.cells #[.string x.k, .string x.v, .int .i64 x.ver] 115))
  have HB5 := Lib.hid ((heap_alloc_old w3 (.cells #[.string x.k, .string x.v, .int .i64 x.ver] 115) (Array.getElem?_eq_some_iff.mp HB4.out).1).trans HB4.out)
  have HW4 := Lib.hid (HW3.out.alloc HW3.out.size (.cells #[.string x.k, .string x.v, .int .i64 x.ver] 115))
  clear c0 c1 c2 c3 d1 d2 d3 HB4
  obtain ⟨bx, hbx⟩ : ∃ bx, bx = w3.heap.size := ⟨_, rfl⟩
  rw [← hbx] at HX4 ⊢
  generalize w3.alloc (.cells #[.string x.k, .string x.v, .int .i64 x.ver] 115) = W4 at HX4 HB5 HW4 ⊢
  clear hbx HW3
  have c0 := cellOf (v := .int .i64 4) HB5.out (j := 0) rfl; have c1 := cellOf (v := .string a) HB5.out (j := 1) rfl; have c2 := cellOf (v := .string b) HB5.out (j := 2) rfl; have c3 := cellOf (v := .string c) HB5.out (j := 3) rfl
  have x0 := cellOf (v := .string x.k) HX4.out (j := 0) rfl; have x1' := cellOf (v := .string x.v) HX4.out (j := 1) rfl; have x2' := cellOf (v := .int .i64 x.ver) HX4.out (j := 2) rfl
  have hxv := (HXO.out.2.1)
  have hxs := gr_size2 hxv
  have HXV := Lib.hid hxv
  clear hxv
  have HCN := Lib.hid (kOK_new HOK.out (by decide))
  have hcs := gr_size2 HCN.out
  by_cases hlg : x.v.size + c.size ≤ 256
  ·have ew : IntKind.i64.wrap ((x.v.size : Int) + (c.size : Int)) = (x.v.size : Int) + (c.size : Int) := by rw [IntKind.wrap_i64]; omega
   have hl2 : ¬ ((256 : Int) < (x.v.size : Int) + (c.size : Int)) := by omega
   have HPP := Lib.hid (HPU.out W4 HW4.out (x.v ++ c) (kOK_key HOK.out (by decide)) (gr_app HXV.out HCN.out hlg))
   go_wp2_with (go_at_call 81; refine HPP.out.mono ?_; rintro e w9 ⟨v9, L9, s9, rfl, h91, h92, h93, h94, h95⟩)
   go_ret2
   exact ⟨v9, L9, s9, rfl, h91, h92, h93, h94, HW4.out.trans (h95.mono HW4.out.size)⟩
  ·have ew : IntKind.i64.wrap ((x.v.size : Int) + (c.size : Int)) = (x.v.size : Int) + (c.size : Int) := by rw [IntKind.wrap_i64]; omega
   have hl2 : (256 : Int) < (x.v.size : Int) + (c.size : Int) := by omega
   go_wp2_with fail
   go_ret2
   refine ⟨_, L, _, rfl, HP.out.below HW4.out, HL.out, by have := HN.out; omega, by decide, HW4.out⟩
theorem exec_cas (pv : Value) (L : List Par) (a b c : ByteArray) (w : World) (ha : a.size ≤ 1048576) (hb : b.size ≤ 1048576) (hc : c.size ≤ 1048576) (hP : PrV w pv L) (hL : VP L) (hn : L.length ≤ 60) (hG : GL w) (hok : kOK 5 a b c = true) : Calls Tryz.prog 31 #[pv, opV 5 a b c] w (PairsRet (L.length + 1) w) := by
 have HF := Lib.hid (fun W => formOf_ex 5 a b c W ha hb hc)
 unfold FormOf formV at HF
 rw [hok] at HF
 unfold opV at HF ⊢
 have HNS := Lib.hid (kN_sz 5)
 have HOK := Lib.hid hok
 clear hok
 generalize kN 5 = nm at HF HNS
 generalize kX 5 = x1 at HF
 generalize kY 5 = x2 at HF
 generalize kZ 5 = x3 at HF
 have HPU := Lib.hid (fun W (hb : Below w.heap.size w W) v (ha2 : grB a 64 = true) (hv : grB v 256 = true) => put_any pv L a v W (hP.below hb) hL hn ha2 hv (hG.below hb))
 unfold PairsRet at HPU
 have HIT := Lib.hid (fun (m : Nat) (hm : m ≤ 1000000000000) W (hb : Below w.heap.size w W) => itoa_ex m W ⟨by omega, by omega⟩ (hG.below hb))
 have HL := Lib.hid hL
 have HP := Lib.hid hP
 obtain ⟨p, cp, rfl, hcp, hFL, hpp⟩ := hP
 have HCL := Lib.hid (fun W (hb : Below w.heap.size w W) => clonePar_ex p L.length cp L W rfl (by omega) (hFL.below hb) (fun _ => by rcases hpp with h | ⟨b, off, h, _⟩; exact .inl h; exact .inr ⟨b, off, h⟩))
 obtain ⟨n, hN⟩ : ∃ n, n = L.length := ⟨_, rfl⟩
 have HFI := Lib.hid (fun W (hb : Below w.heap.size w W) => findPar_ex p n cp L a W hN (by omega) (mono_par hL.1 a) (hFL.below hb))
 unfold BsPar at HFI
 have HFL := Lib.hid hFL
 rw [← hN] at hcp hn HPU HCL HP ⊢
 have HN := Lib.hid hN
 clear hFL hL hG hN hpp
 go_enter Tryz.func31, Tryz.ntmps31
 go_upto_region 1 with fail
 have HB0 := Lib.hid (heap_alloc_new w (.cells #[.int .i64 5, .string a, .string b, .string c] 89))
 have HW0 := Lib.hid ((Below.refl _ w).alloc (Nat.le_refl _) (.cells #[.int .i64 5, .string a, .string b, .string c] 89))
 generalize w.alloc (.cells #[.int .i64 5, .string a, .string b, .string c] 89) = W0 at HB0 HW0 ⊢
 have a0 := cellOf (v := .int .i64 5) HB0.out (j := 0) rfl; have a1 := cellOf (v := .string a) HB0.out (j := 1) rfl; have a2 := cellOf (v := .string b) HB0.out (j := 2) rfl; have a3 := cellOf (v := .string c) HB0.out (j := 3) rfl
 go_upto_region 2 with (go_at_call 79; refine (HF.out _).mono ?_; rintro e w1 ⟨rfl, hb1⟩; have HW1 := Lib.hid (HW0.out.trans (hb1.mono HW0.out.size)); have HB1 := Lib.hid ((hb1.block _ (Array.getElem?_eq_some_iff.mp HB0.out).1).trans HB0.out); clear hb1)
 have HB3 := Lib.hid ((heap_alloc_old w1 (.cells #[.string nm, .bool x1, .bool x2, .bool x3] 157) (Array.getElem?_eq_some_iff.mp HB1.out).1).trans HB1.out)
 have HW2 := Lib.hid (HW1.out.alloc HW1.out.size (.cells #[.string nm, .bool x1, .bool x2, .bool x3] 157))
 generalize w1.alloc (.cells #[.string nm, .bool x1, .bool x2, .bool x3] 157) = W2 at HB3 HW2 ⊢
 clear a0 a1 a2 a3 HB0 HB1 HW0 HW1 HF
 have k1 := cellOf (v := .string a) HB3.out (j := 1) rfl
 go_upto_block 0 with (go_at_call 80; refine (HFI.out _ HW2.out).mono ?_; rintro e w3 ⟨i, hcut, rfl, hb3⟩)
 have HW3 := Lib.hid (HW2.out.trans (hb3.mono HW2.out.size))
 have HB4 := Lib.hid ((hb3.block _ (Array.getElem?_eq_some_iff.mp HB3.out).1).trans HB3.out)
 have hin : i ≤ n := by rw [HN.out]; exact hcut.2.1
 clear hcut hb3 HFI HB3 HW2 k1
 have c0 := cellOf (v := .int .i64 5) HB4.out (j := 0) rfl; have c1 := cellOf (v := .string a) HB4.out (j := 1) rfl; have c2 := cellOf (v := .string b) HB4.out (j := 2) rfl; have c3 := cellOf (v := .string c) HB4.out (j := 3) rfl
 cases hf : foundPar L a i with
 | false =>
  go_wp2_with fail
  go_ret2
  refine ⟨_, L, _, rfl, HP.out.below HW3.out, HL.out, by have := HN.out; omega, by decide, HW3.out⟩
 | true =>
  obtain ⟨x, hx, hxk⟩ := found_some hf
  have HX := Lib.hid hx
  have HXK := Lib.hid hxk
  have him : i < n := by rw [HN.out]; exact (List.getElem?_eq_some_iff.mp hx).1
  have HXO := Lib.hid (HL.out.2 x (List.mem_of_getElem? hx))
  obtain ⟨bb, off, hpe, hbb, hcs⟩ := HFL.out.at encP3 (by have := HN.out; omega)
  subst hpe
  have d1 := (HW3.out.cell (p := ⟨bb, off + (i * 3 + 0), none⟩) hbb).trans (hcs _ _ ((flat_get encP3 hx (j := 0) (by omega)).trans rfl))
  have d2 := (HW3.out.cell (p := ⟨bb, off + (i * 3 + 1), none⟩) hbb).trans (hcs _ _ ((flat_get encP3 hx (j := 1) (by omega)).trans rfl))
  have d3 := (HW3.out.cell (p := ⟨bb, off + (i * 3 + 2), none⟩) hbb).trans (hcs _ _ ((flat_get encP3 hx (j := 2) (by omega)).trans rfl))
  replace d1 : w3.cell? ⟨bb, off + i * 3, none⟩ = some (.string x.k) := d1
  replace d2 : w3.cell? ⟨bb, off + i * 3 + 1, none⟩ = some (.string x.v) := d2
  replace d3 : w3.cell? ⟨bb, off + i * 3 + 2, none⟩ = some (.int .i64 x.ver) := d3
  clear hx hxk hcs hf
  have e0 : (0 : Int) ≤ (i : Int) := by omega
  have e1 : (i : Int) < (n : Int) := by omega
  go_upto_region 14 with fail
  have HX4 := Lib.hid (heap_alloc_new w3 (.cells #[.string x.k, .string x.v, .int .i64 x.ver] 115))
  have HB5 := Lib.hid ((heap_alloc_old w3 (.cells #[.string x.k, .string x.v, .int .i64 x.ver] 115) (Array.getElem?_eq_some_iff.mp HB4.out).1).trans HB4.out)
  have HW4 := Lib.hid (HW3.out.alloc HW3.out.size (.cells #[.string x.k, .string x.v, .int .i64 x.ver] 115))
  clear c0 c1 c2 c3 d1 d2 d3 HB4
  obtain ⟨bx, hbx⟩ : ∃ bx, bx = w3.heap.size := ⟨_, rfl⟩
  rw [← hbx] at HX4 ⊢
  generalize w3.alloc (.cells #[.string x.k, .string x.v, .int .i64 x.ver] 115) = W4 at HX4 HB5 HW4 ⊢
  clear hbx HW3
  have c0 := cellOf (v := .int .i64 5) HB5.out (j := 0) rfl; have c1 := cellOf (v := .string a) HB5.out (j := 1) rfl; have c2 := cellOf (v := .string b) HB5.out (j := 2) rfl; have c3 := cellOf (v := .string c) HB5.out (j := 3) rfl
  have x0 := cellOf (v := .string x.k) HX4.out (j := 0) rfl; have x1' := cellOf (v := .string x.v) HX4.out (j := 1) rfl; have x2' := cellOf (v := .int .i64 x.ver) HX4.out (j := 2) rfl
  have hxv := (HXO.out.2.1)
  have hxs := gr_size2 hxv
  have HXV := Lib.hid hxv
  clear hxv
  by_cases hvb : x.v = b
  ·have hq : (x.v.toList == b.toList) = true := beq_str hvb
   have HPP := Lib.hid (HPU.out W4 HW4.out c (kOK_key HOK.out (by decide)) (gr_more (kOK_new HOK.out (by decide))))
   go_wp2_with (go_at_call 81; refine HPP.out.mono ?_; rintro e w9 ⟨v9, L9, s9, rfl, h91, h92, h93, h94, h95⟩)
   go_ret2
   exact ⟨v9, L9, s9, rfl, h91, h92, h93, h94, HW4.out.trans (h95.mono HW4.out.size)⟩
  ·have hq : (x.v.toList == b.toList) = false := bne_str hvb
   go_wp2_with fail
   go_region
   go_wp2_with fail
   go_ret2
   refine ⟨_, L, _, rfl, HP.out.below (below_drewN HW4.out 1), HL.out, by have := HN.out; omega, ?_, below_drewN HW4.out 1⟩
   rw [ByteArray.size_append]
   show 3 + _ ≤ _
   omega
theorem exec_any (pv : Value) (L : List Par) (k : Int) (a b c : ByteArray) (w : World) (ha : a.size ≤ 1048576) (hb : b.size ≤ 1048576) (hc : c.size ≤ 1048576) (hP : PrV w pv L) (hL : VP L) (hn : L.length ≤ 60) (hG : GL w) : Calls Tryz.prog 31 #[pv, opV k a b c] w (PairsRet (L.length + 1) w) := by
 cases hok : kOK k a b c with
 | false => exact exec_bad pv L k a b c w ha hb hc hP hL hn hG hok
 | true =>
  have h0 : 1 ≤ k ∧ k ≤ 6 := by
   have h := hok
   unfold kOK at h
   simp only [Bool.and_eq_true, decide_eq_true_eq] at h
   exact h.1.1.1
  have h1 : k = 1 ∨ k = 2 ∨ k = 3 ∨ k = 4 ∨ k = 5 ∨ k = 6 := by omega
  rcases h1 with rfl | rfl | rfl | rfl | rfl | rfl
  ·exact exec_put pv L a b c w ha hb hc hP hL hn hG hok
  ·exact exec_get pv L a b c w ha hb hc hP hL hn hG hok
  ·exact exec_del pv L a b c w ha hb hc hP hL hn hG hok
  ·exact exec_app pv L a b c w ha hb hc hP hL hn hG hok
  ·exact exec_cas pv L a b c w ha hb hc hP hL hn hG hok
  ·exact exec_cnt pv L a b c w ha hb hc hP hL hn hG hok
end Go.Proofs.YtnaglmigkbbljaaGreatDoor
