/-
  TopTransferred: the law, over what its calls answer.
-/
import Derived.Test.YtnaglmigkbbljaaGreatDoorShDS
import Derived.Test.YtnaglmigkbbljaaGreatDoorXaBShDR
import Derived.SevenTiedAt
import Derived.Test.YtnaglmigkbbljaaGreatDoorXaF
import Derived.Test.YtnaglmigkbbljaaGreatDoorXaH
import Derived.Test.YtnaglmigkbbljaaGreatDoorTie
import Derived.Test.YtnaglmigkbbljaaGreatDoorCards
set_option maxHeartbeats 6400000
set_option maxRecDepth 1000000
set_option linter.unusedVariables false
set_option linter.unusedSimpArgs false
namespace Go.Proofs.YtnaglmigkbbljaaGreatDoor
open Go Go.RowKit
theorem law_main (p : Option Addr) (n c : Nat) (l : List Req) (q : Option Addr) (m d : Nat) (ps : List Nat) (fo : Nat) (w : World) (hl : l.length = n) (hn : n ≤ 20) (h : FL encQ w p l) (hfew : fewB l = true) (hm : ps.length = m) (hm20 : m ≤ 20) (h' : U8L w q ps)
  (hps : ∀ x ∈ ps, x < 256) (hfo : fo < 256) (hG : GL w) : Calls Tryz.prog 3 #[.slice p n c, .slice q m d, .int .u8 fo] w (IsB true w) := by
 have HA := Lib.hid awake_ex
 have HOP := Lib.hid (fewB_size hfew)
 have HFE := Lib.hid (fun W (hb : Below w.heap.size w W) => few_big p n c l W hl (by omega) (h.below hb) (fun x hx => by have := fewB_size hfew x hx; omega))
 rw [hfew] at HFE
 have HL := Lib.hid h
 have HLN := Lib.hid hl
 have HU := Lib.hid h'
 have HUN := Lib.hid hm
 have HPS := Lib.hid hps
 have HG := Lib.hid hG
 have g1 : ¬ (20 : Int) < (n : Int) := by omega
 have g2 : ¬ (20 : Int) < (m : Int) := by omega
 clear h hl hfew h' hm hps hG
 go_enter Tryz.func3, Tryz.ntmps3
 go_upto_region 4 with (first
  | (go_at_call 4; (with_reducible refine (HA.out _).mono ?_); go_loud (rintro e w1 ⟨rfl, hb1⟩; have HB1 := Lib.hid hb1; clear hb1))
  | (go_at_call 5; (with_reducible refine (HFE.out _ HB1.out).mono ?_); go_loud (rintro e w2 ⟨rfl, hw2⟩; obtain rfl := hw2.symm))
  | (go_at_call 6; (with_reducible refine (newM_ex _).mono ?_); go_loud (rintro e w3 ⟨rfl, hb3⟩; have HB3 := Lib.hid (HB1.out.trans (hb3.mono HB1.out.size)); clear hb3)))
 have HM := Lib.hid (mk_nil (heap_alloc_new w3 (.cells #[.slice none 0 0, .slice none 0 0] 29)))
 have HW := Lib.hid (HB3.out.alloc HB3.out.size (.cells #[.slice none 0 0, .slice none 0 0] 29))
 have hBw : w.heap.size ≤ w3.heap.size := HB3.out.size
 clear HB1 HB3 g1 g2
 generalize w3.alloc (.cells #[.slice none 0 0, .slice none 0 0] 29) = W3 at HM HW ⊢
 generalize w3.heap.size = B at HM hBw ⊢
 go_wp2_with fail
 go_loopw [57] (fun i wr => ∃ (k : Nat) (pv sv : Value) (L : List Par) (S : List Ses), k ≤ n ∧ i = .int .i64 k ∧ MK B pv sv L S wr ∧ L.length ≤ k ∧ Below w.heap.size w wr) (fun i _ => n - (intOf i).toNat)
 case atStart => exact ⟨0, _, _, [], [], Nat.zero_le _, rfl, HM.out, Nat.le_refl _, HW.out⟩
 case round =>
  clear HM HW
  obtain ⟨k, pv, sv, L, S, hk, rfl, hM, hL, hb⟩ := hrel
  have HM := Lib.hid hM
  have HB := Lib.hid hb
  clear hM hb
  by_cases hkn : k < n
  ·obtain ⟨x, hx⟩ : ∃ x, l[k]? = some x := ⟨_, List.getElem?_eq_getElem (by have := HLN.out; omega)⟩
   obtain ⟨bb, off, rfl, hbb, hcs⟩ := HL.out.at encQ3 (by have := HLN.out; omega)
   have d0 := (HB.out.cell (p := ⟨bb, off + (k * 3 + 0), none⟩) hbb).trans (hcs _ _ ((flat_get encQ3 hx (j := 0) (by omega)).trans rfl))
   have d1 := (HB.out.cell (p := ⟨bb, off + (k * 3 + 1), none⟩) hbb).trans (hcs _ _ ((flat_get encQ3 hx (j := 1) (by omega)).trans rfl))
   have d2 := (HB.out.cell (p := ⟨bb, off + (k * 3 + 2), none⟩) hbb).trans (hcs _ _ ((flat_get encQ3 hx (j := 2) (by omega)).trans rfl))
   replace d0 : wr.cell? ⟨bb, off + k * 3, none⟩ = some (.int .i64 x.c) := d0
   replace d1 : wr.cell? ⟨bb, off + k * 3 + 1, none⟩ = some (.int .i64 x.n) := d1
   replace d2 : wr.cell? ⟨bb, off + k * 3 + 2, none⟩ = some (.string x.op) := d2
   have hop := HOP.out x (List.mem_of_getElem? hx)
   have e0 : (0 : Int) ≤ (k : Int) := by omega
   have e1 : (k : Int) < (n : Int) := by omega
   clear hcs hx
   obtain ⟨xc, xn, op⟩ := x
   dsimp only at d0 d1 d2 hop
   obtain ⟨pp, pc, rfl, _⟩ := id HM.out.P
   obtain ⟨qq, qc, rfl, _⟩ := id HM.out.Q
   go_upto_region 7 with fail
   have HM1 := Lib.hid (HM.out.below ((Below.refl _ wr).alloc (Nat.le_refl _) (.cells #[.int .i64 xc, .int .i64 xn, .string op] 32)))
   have HX1 := Lib.hid (heap_alloc_new wr (.cells #[.int .i64 xc, .int .i64 xn, .string op] 32))
   have HB1 := Lib.hid (HB.out.alloc HB.out.size (.cells #[.int .i64 xc, .int .i64 xn, .string op] 32))
   clear d0 d1 d2 HM HB
   generalize wr.alloc (.cells #[.int .i64 xc, .int .i64 xn, .string op] 32) = w4 at HM1 HX1 HB1 ⊢
   have m0 := cellOf (v := .slice pp L.length pc) HM1.out.m (j := 0) rfl
   have m1 := cellOf (v := .slice qq S.length qc) HM1.out.m (j := 1) rfl
   have x0 := cellOf (v := .int .i64 xc) HX1.out (j := 0) rfl
   have x1 := cellOf (v := .int .i64 xn) HX1.out (j := 1) rfl
   have x2 := cellOf (v := .string op) HX1.out (j := 2) rfl
   go_wp2_with (go_at_call 7; (with_reducible refine (apply_any _ _ L S xc xn op _ HM1.out.P HM1.out.Q HM1.out.vp HM1.out.vs (by omega) (by omega) (HG.out.below HB1.out)).mono ?_); go_loud (rintro e w5 ⟨pv', sv', L', S', s', rfl, hP', hS', hV', hVS', hl', hb5⟩; have HM5 := Lib.hid (HM1.out.below hb5); have HB5 := Lib.hid (HB1.out.trans (hb5.mono HB1.out.size)); obtain ⟨pp', pc', rfl, _⟩ := id hP'; obtain ⟨qq', qc', rfl, _⟩ := id hS'; have HPP := Lib.hid hP'; have HSS := Lib.hid hS'; have HVV := Lib.hid (And.intro hV' hVS'); have m0 := cellOf (v := .slice pp L.length pc) HM5.out.m (j := 0) rfl; have m1 := cellOf (v := .slice qq S.length qc) HM5.out.m (j := 1) rfl; have f0 := HM5.out.m.frozen 0; have f1 := HM5.out.m.frozen 1; clear hP' hS' hV' hVS' hb5))
   go_roundw
   case rel => exact ⟨k + 1, _, _, L', S', by omega, by go_num, HM5.out.store HPP.out HSS.out HVV.out.1 HVV.out.2, by omega, below_set (below_set HB5.out (p := ⟨B, 0, none⟩) hBw _) (p := ⟨B, 1, none⟩) hBw _⟩
   case measure => simp [intOf]; omega
  ·have hL20 : L.length ≤ 20 := by omega
   obtain ⟨pp, pc, rfl, _⟩ := id HM.out.P
   obtain ⟨qq, qc, rfl, _⟩ := id HM.out.Q
   have m0 := cellOf (v := .slice pp L.length pc) HM.out.m (j := 0) rfl
   have m1 := cellOf (v := .slice qq S.length qc) HM.out.m (j := 1) rfl
   have HCH := Lib.hid (chunks_ex _ _ L S wr HM.out.P HM.out.Q HM.out.vp HM.out.vs (by omega) (HG.out.below HB.out))
   go_upto_region 10 with (go_at_call 8; (with_reducible refine HCH.out.mono ?_); go_loud (rintro e w6 ⟨v6, rfl, ho6, hb6⟩; obtain ⟨q1, cq1, rfl, hcq1, hs6⟩ := strs_slice ho6; have HM6 := Lib.hid (HM.out.below hb6); have HB6 := Lib.hid (HB.out.trans (hb6.mono HB.out.size)); have HS6 := Lib.hid hs6; clear hs6 ho6 hb6))
   have hsl := ses_len HM.out.vs
   obtain ⟨N, hN⟩ : ∃ N, N = (chunksL S L).length := ⟨_, rfl⟩
   have hN' := hN
   have hN10 : 1 ≤ N ∧ N ≤ 10 := by
    rw [hN]
    unfold chunksL
    rw [List.length_cons, storeL_len]
    omega
   have HSZ := Lib.hid (show SzL 1000000 (chunksL S L) from fun s hs => Nat.le_trans (chunks_size HM.out.vs HM.out.vp (by omega) (by omega) s hs) (by omega))
   have HSZ1 := Lib.hid (show SzL 100000 (chunksL S L) from fun s hs => chunks_size HM.out.vs HM.out.vp (by omega) (by omega) s hs)
   have HRT := Lib.hid (rootM_ex _ _ L S w6 HM6.out.P HM6.out.Q HM6.out.vp HM6.out.vs (by omega) (HG.out.below HB6.out))
   obtain ⟨C, hC⟩ : ∃ C, C = chunksL S L := ⟨_, rfl⟩
   rw [← hN]
   rw [← hC] at HS6 HSZ HSZ1 HRT hN
   rw [← hN'] at hcq1
   have HCE := Lib.hid hC
   obtain ⟨root, hroot⟩ : ∃ root, root = rootH C := ⟨_, rfl⟩
   rw [← hroot] at HRT
   have HRE := Lib.hid hroot
   have HNE := Lib.hid hN
   obtain ⟨qb, qo, rfl, hqb, _⟩ := HS6.out.at (j := 0) (by rw [← hN]; omega)
   clear hC hN hN' hroot m0 m1 HCH HM HB
   have m0 := cellOf (v := .slice pp L.length pc) HM6.out.m (j := 0) rfl
   have m1 := cellOf (v := .slice qq S.length qc) HM6.out.m (j := 1) rfl
   go_upto_region 12 with (first
    | (go_at_call 10; (with_reducible refine HRT.out.mono ?_); go_loud (rintro e w7 ⟨rfl, hb7⟩; have HM7 := Lib.hid (HM6.out.below hb7); have HB7 := Lib.hid (HB6.out.trans (hb7.mono HB6.out.size)); have HS7 := Lib.hid (HS6.out.below hb7); clear hb7))
    | (go_at_call 9; (with_reducible refine (begin_ex root N _ (by omega)).mono ?_); go_loud (rintro e w8 ⟨cp, cc, hp, hc, he, hF8, hb8⟩; unfold fetV at he; subst he; have HM8 := Lib.hid (HM7.out.below hb8); have HB8 := Lib.hid (HB7.out.trans (hb8.mono HB7.out.size)); have HS8 := Lib.hid (HS7.out.below hb8); have HF8 := Lib.hid hF8; clear hb8 hF8)))
   have HF9 := Lib.hid (show FW w8.heap.size root N C cp cc hp hc (List.replicate N ByteArray.empty) (List.replicate N false) (w8.alloc (.cells #[.string root, .int .i64 N, .slice cp N cc, .slice hp N hc] 39)) from
    ⟨heap_alloc_new w8 _, HF8.out.below ((Below.refl _ w8).alloc (Nat.le_refl _) _), by have := Got.first C; rw [← HNE.out] at this; exact this⟩)
   have HB9 := Lib.hid ((Below.refl _ w8).alloc (Nat.le_refl _) (.cells #[.string root, .int .i64 N, .slice cp N cc, .slice hp N hc] 39))
   clear m0 m1 HM6 HB6 HS6 HM7 HB7 HS7 HF8 HRT
   obtain ⟨D, hD⟩ : ∃ D, D = w8.heap.size := ⟨_, rfl⟩
   rw [← hD] at HF9 ⊢
   have HDE := Lib.hid hD
   clear hD
   generalize w8.alloc (.cells #[.string root, .int .i64 N, .slice cp N cc, .slice hp N hc] 39) = W9 at HF9 HB9 ⊢
   have hN0 : ¬ (N : Int) = 0 := by omega
   have hNb : ((N : Int) == 0) = false := by simp; omega
   go_upto_block 2 with fail
   go_cut [] (fun wx => ∃ (cp : Option Addr) (cc : Nat) (hp : Option Addr) (hc : Nat) (cs : List ByteArray) (hv : List Bool), FW D root N C cp cc hp hc cs hv wx ∧ Below w8.heap.size w8 wx)
   case first =>
    go_wp2_with fail
    go_loopw [87] (fun i wr => ∃ (k : Nat) (cp : Option Addr) (cc : Nat) (hp : Option Addr) (hc : Nat) (cs : List ByteArray) (hv : List Bool), k ≤ m ∧ i = .int .i64 k ∧ FW D root N C cp cc hp hc cs hv wr ∧ Below w8.heap.size w8 wr) (fun i _ => m - (intOf i).toNat)
    case atStart => exact ⟨0, _, _, _, _, _, _, Nat.zero_le _, rfl, HF9.out, HB9.out⟩
    case round =>
     clear HF9 HB9
     obtain ⟨k2, cp, cc, hp, hc, cs, hv, hk2, rfl, hF, hb⟩ := hrel
     have HF := Lib.hid hF
     have HB := Lib.hid hb
     clear hF hb
     by_cases hkm : k2 < m
     ·obtain ⟨x, hx⟩ : ∃ x, ps[k2]? = some x := ⟨_, List.getElem?_eq_getElem (by have := HUN.out; omega)⟩
      obtain ⟨bb, off, rfl, hbb, hcx⟩ := HU.out.at hx
      have HBW := Lib.hid (show Below w.heap.size w wr from HB8.out.trans (HB.out.mono HB8.out.size))
      have d0 := (HBW.out.cell (p := ⟨bb, off + k2, none⟩) hbb).trans hcx
      have hx256 := HPS.out x (List.mem_of_getElem? hx)
      have e0 : (0 : Int) ≤ (k2 : Int) := by omega
      have e1 : (k2 : Int) < (m : Int) := by omega
      clear hx hcx
      go_upto_region 19 with fail
      obtain ⟨i, hi⟩ : ∃ i, i = x % N := ⟨_, rfl⟩
      have hiN : i < N := by rw [hi]; exact Nat.mod_lt _ (by omega)
      have e2 : (x : Int) % (N : Int) = (i : Int) := by rw [hi]; rfl
      obtain ⟨kk, hkk⟩ : ∃ kk, kk = min N (i + 1 + x / 16 % 4) := ⟨_, rfl⟩
      have hkN : i < kk ∧ kk ≤ N := by omega
      have e3 : min (N : Int) (wrap64 (wrap64 ((i : Int) + 1) + (x : Int) / 16 % 4)) = (kk : Int) := by rw [hkk]; exact span_eq hiN hN10.2
      rw [e2, e3]
      clear e2 e3 hkk hi d0
      have HV := Lib.hid (show verifyB root N i (Mk.part C i kk) (proofH C i kk) = true by
       rw [HRE.out, HNE.out]
       exact honest C i kk hkN.1 (by rw [← HNE.out]; exact hkN.2))
      have hpl := proof_len C i kk
      rw [← HNE.out] at hpl
      have HPD := Lib.hid (proof_dig C i kk)
      have HPR := Lib.hid (fun W (hb : Below w8.heap.size w8 W) => proveRange_ex (some ⟨qb, qo, none⟩) N cq1 C i kk W HNE.out.symm (by omega) hkN.1 hkN.2 HSZ.out (HS8.out.below hb))
      have hpt := Mk.part_length C (i := i) (k := kk) (by rw [← HNE.out]; exact hkN.2)
      have HGP := Lib.hid (HF.out.got.put hkN.1 (by rw [← HNE.out]; exact hkN.2) (m := kk - i) rfl)
      have HPS2 := Lib.hid (show SzL 1000000 (Mk.part C i kk) from fun s hs => HSZ.out s (List.mem_of_mem_take (List.mem_of_mem_drop hs)))
      have HSP := Lib.hid (fun W (hb : Below w8.heap.size w8 W) => strL_part (HS8.out.below hb) hkN.1 (by rw [← HNE.out]; exact hkN.2))
      generalize proofH C i kk = pf at HV hpl HPD HPR
      generalize Mk.part C i kk = pt at HV hpt HGP HPS2 HSP
      have hci : ¬ cq1 = i := by omega
      have i0 : (0 : Int) ≤ (i : Int) := by omega
      have i1 : (i : Int) ≤ (kk : Int) := by omega
      have i2 : (kk : Int) ≤ (cq1 : Int) := by omega
      go_upto_region 22 with (go_at_call 11; (with_reducible refine (HPR.out _ HB.out).mono ?_); go_loud (rintro e w10 ⟨v10, rfl, ho10, hb10⟩; obtain ⟨p10, c10, rfl, hc10, hs10⟩ := strs_slice ho10; have HF10 := Lib.hid (HF.out.below hb10); have HB10 := Lib.hid (HB.out.trans (hb10.mono HB.out.size)); have HS10 := Lib.hid hs10; clear ho10 hb10 hs10))
      have c0 := cellOf (v := .string root) HF10.out.blk (j := 0) rfl
      have c1 := cellOf (v := .int .i64 N) HF10.out.blk (j := 1) rfl
      have c2 := cellOf (v := .slice cp N cc) HF10.out.blk (j := 2) rfl
      have c3 := cellOf (v := .slice hp N hc) HF10.out.blk (j := 3) rfl
      go_region_law (go_simp; go_at_call 12; go_loud (refine (put_ex root N cp cc hp hc cs hv i (some ⟨qb, qo + i, none⟩) (kk - i) (cq1 - i) pt p10 pf.length c10 pf _ (by omega) (HF10.out.fet.below (below_drew _)) hiN hpt (by omega) (by omega) HPS2.out ((HSP.out _ HB10.out).below (below_drew _)) rfl (by omega) hc10 HPD.out (HS10.out.below (below_drew _)) ((HG.out.below (HB8.out.trans (HB10.out.mono HB8.out.size))).below (below_drew _))).mono ?_; rintro e w12 ⟨v, c2, he, hb12, _, hyes⟩; obtain ⟨hc0, g6, cc2, g7, hc2, h6, h7, hv2, hF12⟩ := hyes HV.out; subst hc0; subst hv2; unfold fetV at he; subst he; have HF12 := Lib.hid hF12; have HK12 := Lib.hid (HF10.out.blk.below ((below_drew w10).trans hb12)); have HB12 := Lib.hid (HB10.out.trans (((below_drew w10).trans hb12).mono HB10.out.size)); have c0 := cellOf (v := .string root) HK12.out (j := 0) rfl; have c1 := cellOf (v := .int .i64 N) HK12.out (j := 1) rfl; have c2 := cellOf (v := .slice cp N cc) HK12.out (j := 2) rfl; have c3 := cellOf (v := .slice hp N hc) HK12.out (j := 3) rfl; have f0 := HK12.out.frozen 0; have f1 := HK12.out.frozen 1; have f2 := HK12.out.frozen 2; have f3 := HK12.out.frozen 3; clear hF12 hb12 hyes))
      all_goals
       go_wp2_with fail
       go_roundw
       case rel => exact ⟨k2 + 1, _, cc2, _, hc2, _, _, by omega, by go_num, FW.store HK12.out HF12.out HGP.out (Nat.lt_of_lt_of_le HF10.out.blk.lt h6) (Nat.lt_of_lt_of_le HF10.out.blk.lt h7), below_st4 HB12.out (by have := HDE.out; omega)⟩
       case measure => simp [intOf]; omega
     ·go_wp2_with fail
      go_meet
      exact ⟨_, _, _, _, _, _, HF.out, HB.out⟩
   case rest =>
    obtain ⟨cp, cc, hp, hc, cs, hv, hF, hB⟩ := hcut
    apply_assumption
    exact tail26 ⟨HG.out, HB8.out, HM8.out, HS8.out, HSZ1.out, HNE.out, HRE.out, HDE.out, HCE.out, hN10.1, hN10.2, hcq1, hL20⟩ hfo hF hB (by kernel_rfl) _ _ _ _ _ _ _ _ _ _ _ _ _ _ _ _ _ _ _ _ _ _ _ _ _ _ _ _ _ _ _ _ _ _ _ _ _ _ _ _ _ _ _ _ _ _ _ _ _ _ _ _ _ _ _ _ _ _ _ _ _ _ _ _ _ _ _ _ _ _ _ _ _ _ _ _ _ _ _ _ _ _ _ _ _ _ _ _ _ _ _ _ _ _ _ _ _ _ _ _ _ _ _ _ _ _ _ _ _ _ _ _ _ _ _ _ _ _ _ _ _ _ _ _ _ _ _ _ _ _ _ _ _ _ _ _ _ _ _ _ _ _ _ _ _ _ _ _ _ _ _ _ _ _ _ _ _ _ _ _ _ _ _ _ _ _ _ _ _ _ _ _ _ _ _ _ _ _ _ _ _ _ _ _ _ _ _ _ _ _ _ _ _ _ _ _ _ _ _ _ _ _ _ _ _ _ _ _ _ _ _ _ _ _ _ _ _ _ _ _ _ _ _ _ _ _ _ _ _ _ _ _ _ _ _ _ _ _ _ _ _ _ _
end Go.Proofs.YtnaglmigkbbljaaGreatDoor
/-
  TopTransferred: the law at every input.
-/
namespace Go.Proofs.YtnaglmigkbbljaaGreatDoor
open Go Go.RowKit
theorem law_ex (p : Option Addr) (n c : Nat) (l : List Req) (q : Option Addr) (m d : Nat) (ps : List Nat) (fo : Nat) (w : World) (hl : l.length = n) (h : FL encQ w p l) (hop : ∀ x ∈ l, x.op.size ≤ 9223372036854775807) (hm : ps.length = m) (h' : U8L w q ps)
  (hps : ∀ x ∈ ps, x < 256) (hfo : fo < 256) (hG : GL w) : Calls Tryz.prog 3 #[.slice p n c, .slice q m d, .int .u8 fo] w (IsB true w) := by
 have HA := Lib.hid awake_ex
 by_cases hn : n ≤ 20
 ·by_cases hm20 : m ≤ 20
  ·cases hfew : fewB l with
   | true => exact law_main p n c l q m d ps fo w hl hn h hfew hm hm20 h' hps hfo hG
   | false =>
    have HFE := Lib.hid (fun W (hb : Below w.heap.size w W) => few_big p n c l W hl (by omega) (h.below hb) hop)
    rw [hfew] at HFE
    have g1 : ¬ (20 : Int) < (n : Int) := by omega
    have g2 : ¬ (20 : Int) < (m : Int) := by omega
    clear h hl hfew h' hm hps hG hop
    go_enter Tryz.func3, Tryz.ntmps3
    go_wp2_with (first
     | (go_at_call 4; (first | (with_reducible refine (HA.out w).mono ?_); go_loud (rintro e w1 ⟨rfl, hb1⟩; have HB1 := Lib.hid hb1; clear hb1) | (with_reducible refine (HA.out _).mono ?_); go_loud (rintro e w3 ⟨rfl, hb3⟩; have HB3 := Lib.hid hb3; clear hb3)))
     | (go_at_call 5; (with_reducible refine (HFE.out _ HB1.out).mono ?_); go_loud (rintro e w2 ⟨rfl, hw2⟩; obtain rfl := hw2.symm)))
    go_ret
    exact ⟨rfl, HB1.out.trans (HB3.out.mono HB1.out.size)⟩
  ·have g1 : ¬ (20 : Int) < (n : Int) := by omega
   have g2 : (20 : Int) < (m : Int) := by omega
   clear h hl h' hm hps hG hop
   go_enter Tryz.func3, Tryz.ntmps3
   go_wp2_with (go_at_call 4; (first | (with_reducible refine (HA.out w).mono ?_); go_loud (rintro e w1 ⟨rfl, hb1⟩; have HB1 := Lib.hid hb1; clear hb1) | (with_reducible refine (HA.out _).mono ?_); go_loud (rintro e w3 ⟨rfl, hb3⟩; have HB3 := Lib.hid hb3; clear hb3)))
   go_ret
   exact ⟨rfl, HB1.out.trans (HB3.out.mono HB1.out.size)⟩
 ·have g1 : (20 : Int) < (n : Int) := by omega
  clear h hl h' hm hps hG hop
  go_enter Tryz.func3, Tryz.ntmps3
  go_wp2_with (go_at_call 4; (first | (with_reducible refine (HA.out w).mono ?_); go_loud (rintro e w1 ⟨rfl, hb1⟩; have HB1 := Lib.hid hb1; clear hb1) | (with_reducible refine (HA.out _).mono ?_); go_loud (rintro e w3 ⟨rfl, hb3⟩; have HB3 := Lib.hid hb3; clear hb3)))
  go_ret
  exact ⟨rfl, HB1.out.trans (HB3.out.mono HB1.out.size)⟩
end Go.Proofs.YtnaglmigkbbljaaGreatDoor
/-
  TopTransferred: for every input the law returns true, and the input reads as it did.
-/
namespace Go.Proofs.YtnaglmigkbbljaaGreatDoor
open Go Go.ChangeShapes Go.WideShapes Go.ChangeAt Go.RowKit Go.Deep Go.Joins
section
variable {H : Type} {enc : TypeId × Value → H} {P : Program}
theorem post_of_below {f : Func} {s : ChangeSpec} {apart fresh handsOn again : Bool} {W W' : World} {args : Array Value} {v : Value} {ds gs : List (DataW H)} {before pa pv : List MemPlace}
  (hW : DataW.Whole enc P f.params.toList s.vars apart W args.toList ds gs before)
  (hres : ∀ (b : Nat) (sp : Nat → Bool) (hd : Bool), DataW.TrodAll enc P W' b sp hd f.resultTypes.toList (v.resultList f.resultTypes.size) (s.fn H (ds ++ gs)).results [])
  (hargs : ∀ sp : Nat → Bool, (∀ p ∈ before, sp p.block = true) → DataW.TrodAll enc P W' 0 sp true f.params.toList args.toList (s.fn H (ds ++ gs)).args pa)
  (hvars : ∀ sp : Nat → Bool, (∀ p ∈ before, sp p.block = true) → DataW.TrodVars enc P W' sp s.vars (s.fn H (ds ++ gs)).vars pv)
  (hps : before = pa ++ pv) (hb : Below W.heap.size W W')
  (hok : ∀ (j : Nat) (t : TypeId) (r : Value), f.resultTypes[j]? = some t → (v.resultList f.resultTypes.size)[j]? = some r → Value.okWide P W' .any 0 t r) :
  s.post enc P f apart fresh handsOn again W args v W' := by
 have hlt : ∀ p ∈ before, p.block < W.heap.size := fun p hp => hW.lt p hp
 have hold : ∀ p ∈ before, (fun b => decide (b < W.heap.size)) p.block = true := fun p hp => by simpa using hlt p hp
 refine ⟨ds, gs, before, [], pa, pv, hW, hres _ _ _, hargs _ hold, hvars _ hold, World.keptBut_mono (fun p hp => ⟨hp, ?_⟩) (hb.frame (· ∈ before)), fun _ => ?_⟩
 ·rw [hps, List.mem_append] at hp
  exact Or.inr hp
 ·obtain ⟨_, _, _, _, _, hz, hn⟩ := hW
  refine ⟨hok, _, _, ([] ++ pa) ++ pv, ⟨[] ++ pa, pv, trodAll_append (hargs _ (fun _ _ => rfl)) (hres _ _ _), hvars _ (fun _ _ => rfl), rfl, ?_, ?_⟩, ?_⟩
  ·intro b off hp
   have hin : MemPlace.cell b off ∈ before := by rw [hps]; simpa using hp
   rw [hb.frozen (hlt _ hin)]
   exact hz b off hin
  ·intro ha
   have := hn ha
   rw [hps] at this
   simpa using this
  ·intro p hp _
   rw [hps]
   simpa using hp
end
theorem one22 {W : World} {base : Nat} {v : Value} (hok : Value.okWide Tryz.prog W .any base 22 v) (c : Value) (hc : v.cells.toList = [c]) : v = c := by
 cases v <;> simp only [Value.cells, List.cons.injEq, and_true] at hc <;> first | exact hc | skip
 simp [Value.okWide, Cell.okWide, Tryz.underlying22, Cell.ok] at hok
theorem one23 {W : World} {base : Nat} {v : Value} (hok : Value.okWide Tryz.prog W .any base 23 v) (c : Value) (hc : v.cells.toList = [c]) : v = c := by
 cases v <;> simp only [Value.cells, List.cons.injEq, and_true] at hc <;> first | exact hc | skip
 simp [Value.okWide, Cell.okWide, Tryz.underlying23, Cell.ok] at hok
theorem one5 {W : World} {base : Nat} {v : Value} (hok : Value.okWide Tryz.prog W .any base 5 v) (c : Value) (hc : v.cells.toList = [c]) : v = c := by
 cases v <;> simp only [Value.cells, List.cons.injEq, and_true] at hc <;> first | exact hc | skip
 simp [Value.okWide, Cell.okWide, Tryz.underlying5, Cell.ok] at hok
theorem lifted0 {H : Type} {enc : TypeId × Value → H} (W : World) (base : Nat) (args : Array Value) (ds gs : List (DataW H)) (before : List MemPlace)
  (hval0 : ∀ (j : Nat) t v, Tryz.f3.params[j]? = some t → args[j]? = some v → Value.okWide Tryz.prog W .any base t v)
  (hW : DataW.Whole enc Tryz.prog Tryz.f3.params.toList Rows.topTransferredSpec.vars false W args.toList ds gs before) (hL : laidMetH Tryz.prog Rows.topTransferredRow.laid W) (hsh : W.ShapedOpen Tryz.prog) :
  Calls Tryz.prog 3 args W fun e W' => ∃ v, e = .returned v ∧ Rows.topTransferredSpec.post enc Tryz.prog Tryz.f3 false true false false W args v W' := by
 have hval : ∀ (j : Nat) t v, Tryz.f3.params[j]? = some t → args[j]? = some v → Value.okWide Tryz.prog W .any base t v := hval0
 have hW' := hW
 obtain ⟨p, q, hA0, hV, rfl, hfz, hnd⟩ := hW
 have hA1 : DataW.TrodAll enc Tryz.prog W 0 (fun _ => true) true Tryz.f3.params.toList args.toList ds p := hA0
 rw [Tryz.params3] at hA1 hval
 obtain ⟨v0, v1, v2, d0, d1, d2, p0, p1, p2, rfl, rfl, rfl, h0, h1, h2⟩ := trodAll_three hA1
 obtain ⟨rfl, rfl⟩ := trodVars_none hV
 clear hA0 hval0
 simp only [List.append_nil] at hW'
 have st : ∀ {W'}, Below W.heap.size W W' → ∀ {sp : Nat → Bool}, (∀ x ∈ p0 ++ p1 ++ p2, sp x.block = true) → DataW.TrodAll enc Tryz.prog W' 0 sp true [22, 23, 5] [v0, v1, v2] [d0, d1, d2] (p0 ++ (p1 ++ p2)) := fun {W'} hb {sp} hsp =>
  trodAll_mk3
   (WideElems.Trod_stays laidOut (by kernel_rfl) (of_decide_eq_true (by kernel_rfl)) h0 (fun x hx => hb.same (hW'.lt x (by simp [hx]))) (fun x hx => hsp x (by simp [hx])))
   (WideElems.Trod_stays laidOut (by kernel_rfl) (of_decide_eq_true (by kernel_rfl)) h1 (fun x hx => hb.same (hW'.lt x (by simp [hx]))) (fun x hx => hsp x (by simp [hx])))
   (WideElems.Trod_stays laidOut (by kernel_rfl) (of_decide_eq_true (by kernel_rfl)) h2 (fun x hx => hb.same (hW'.lt x (by simp [hx]))) (fun x hx => hsp x (by simp [hx])))
 have fin : ∀ W', Below W.heap.size W W' → Rows.topTransferredSpec.post enc Tryz.prog Tryz.f3 false true false false W #[v0, v1, v2] (.bool true) W' := fun W' hb =>
  post_of_below (pa := p0 ++ (p1 ++ p2)) (pv := []) hW' (fun _ _ _ => trodAll_mk1 (shut_bool Tryz.underlying4 _))
   (fun sp hsp => by
    have h := st hb hsp
    show DataW.TrodAll enc Tryz.prog W' 0 sp true Tryz.f3.params.toList _ _ _
    rw [Tryz.params3]
    exact h) (fun _ _ => rfl) (by simp) hb (ok_one (by kernel_rfl) rfl (okWide_bool_mk Tryz.underlying4 _))
 obtain ⟨f0, hf0⟩ := h0
 obtain ⟨p, n, c, l, e0, hl, hF, hop⟩ := rd_reqs ⟨f0, _, hf0⟩
 obtain rfl := one22 (hval 0 22 v0 rfl rfl) _ e0
 obtain ⟨f1, hf1⟩ := h1
 obtain ⟨q, m, d, ps, e1, hm, hU, hps⟩ := rd_bytes ⟨f1, _, hf1⟩
 obtain rfl := one23 (hval 1 23 v1 rfl rfl) _ e1
 obtain ⟨f2, hf2⟩ := h2
 obtain ⟨fo, hfo, e2⟩ := rd_u8 ⟨f2, _, hf2⟩
 obtain rfl := one5 (hval 2 5 v2 rfl rfl) _ e2
 refine (law_ex p n c l q m d ps fo W hl hF hop hm hU hps hfo (gl_of_laid hsh hL)).mono ?_
 rintro e W' ⟨rfl, hb⟩
 exact ⟨_, rfl, fin W' hb⟩
theorem lifted (os : Os) (started : os.Started) (H : Type) (enc : TypeId × Value → H) :
  ReturnsInHanded {} Tryz.checked os 3 .any (fun w args => (Rows.topTransferredSpec.pre enc Tryz.prog Tryz.f3 [] false w args ∧ laidMetH Tryz.prog Rows.topTransferredRow.laid w) ∧ sizedMet enc Tryz.prog Tryz.f3 (OpenSpec.ofChange Rows.topTransferredSpec) false w args)
   (Rows.topTransferredSpec.post enc Tryz.prog Tryz.f3 false true false false) := by
 refine returnsInHanded_of_calls (C := Tryz.checked) own0 started (by kernel_rfl) (witness os H enc) ?_
 intro w tape i _ hsh _ hok hpre _
 obtain ⟨_, _, _, fn', hfn', _, _, _, _, hval⟩ := hok
 obtain rfl : fn' = Tryz.f3 := Option.some.inj (hfn'.symm.trans Tryz.func3)
 obtain ⟨⟨⟨ds, gs, before, hw, _⟩, hx⟩, _⟩ := hpre
 have hw' := DataW.Whole.of_heap (w' := w.forCall tape i) (by rfl) hw
 have hL : laidMetH Tryz.prog Rows.topTransferredRow.laid (w.forCall tape i) := hx.of_heap (by rfl)
 refine (lifted0 (w.forCall tape i) w.heap.size i.args ds gs before hval hw' hL hsh).mono fun e W' ⟨v, he, hp⟩ => ?_
 subst he
 exact ChangeSpec.post_blind hp
end Go.Proofs.YtnaglmigkbbljaaGreatDoor
/-
  TopTransferred: the row. No condition beside the row's own.
-/
namespace Go.Proofs.YtnaglmigkbbljaaGreatDoor
open Go Go.ChangeShapes Go.WideShapes Go.ChangeAt Go.RowKit Go.Deep Go.Joins
theorem topTransferred_holds : Rows.TopTransferredSaid :=
 OpenClaim.holds_of_wide 3 Tryz.f3 rfl rfl rfl rfl rfl rfl rfl ⟨rfl, rfl, rfl, rfl, rfl⟩ rfl rfl rfl rfl rfl (by kernel_rfl) Tryz.func3 ttfAll
  (of_decide_eq_true (by kernel_rfl)) (by unfold Func.isWrapper; first | (rw [if_pos (by decide +kernel)]; kernel_rfl) | (rw [if_neg (by decide +kernel)]; exact ⟨rfl, rfl⟩))
  (fun os started H enc _ => lifted os started H enc)
end Go.Proofs.YtnaglmigkbbljaaGreatDoor
/-
  TopTransferred: for every input the law returns true, and the input reads as it did: the row's tied card. No condition beside the card's own.
-/
namespace Go.Proofs.YtnaglmigkbbljaaGreatDoor
open Go Go.ChangeShapes Go.WideShapes Go.ChangeAt Go.RowKit Go.Deep Go.Joins
theorem topTransferred_card : Rows.TopTransferredCardSaid :=
 Claim7.holds_tied_plain_at .later [] [.data, .data, .data, .data, .sentinel, .sentinel, .pinned] true (true, "9431e65507a65d7184fe05e85daf8da4ac122b1b7e5cd77673bdadeb8aeadad3") true
  topTransferred_holds (fun _ h => by cases h) cd0 (fun _ h => by cases h) topTransferred_row_tie rfl ⟨rfl, rfl⟩ cd1 rfl
  (fun f fn hf hfn => by
   obtain rfl : f = 3 := Option.some.inj (cd2.symm.trans hf) |>.symm
   obtain rfl : fn = Tryz.f3 := (Option.some.inj (Tryz.func3.symm.trans hfn)).symm
   exact ⟨cd3, fun j t ht => by
    rw [Tryz.params3] at ht
    have hm : t ∈ [22, 23, 5] := by simpa using Array.mem_of_getElem? ht
    exact (show Tryz.prog.wantsStandIn t = false by simpa using List.all_eq_true.1 cd4 t hm)⟩)
  cd5
end Go.Proofs.YtnaglmigkbbljaaGreatDoor
