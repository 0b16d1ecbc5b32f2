/-
  TopTransferred: the law behind its pieces: what is missing, and the end.
-/
import Derived.Test.YtnaglmigkbbljaaGreatDoorXaBShDR
set_option maxHeartbeats 6400000
set_option maxRecDepth 1000000
set_option linter.unusedVariables false
set_option linter.unusedSimpArgs false
namespace Go.Proofs.YtnaglmigkbbljaaGreatDoor
open Go Go.RowKit
theorem tail35 {w : World} {B D N qb qo cq1 : Nat} {root : ByteArray} {C : List ByteArray} {L : List Par} {S : List Ses} {pv sv : Value} {w8 : World} (X : LX w B D N qb qo cq1 root C L S pv sv w8)
  {cp : Option Addr} {cc : Nat} {hp : Option Addr} {hc : Nat} {cs : List ByteArray} {hv : List Bool} {wr : World} (hF : FW D root N C cp cc hp hc cs hv wr) (hB : Below w8.heap.size w8 wr) {code : Code} (hcode : code = code35) (z0 z1 z2 z3 z4 z5 z6 z8 z9 z13 z14 z15 z16 z17 z18 z19 z20 z21 z22 z23 z24 z25 z26 z27 z28 z29 z30 z31 z32 z33 z34 z35 z36 z37 z38 z39 z40 z41 z42 z43 z44 z45 z46 z47 z48 z49 z50 z51 z52 z53 z54 z55 z56 z57 z58 z59 z60 z61 z62 z63 z64 z65 z66 z67 z68 z69 z70 z71 z72 z73 z74 z75 z76 z77 z78 z79 z80 z81 z82 z83 z84 z85 z86 z87 z88 z89 z90 z91 z92 z93 z94 z95 z96 z97 z98 z99 z100 z101 z102 z103 z104 z105 z106 z107 z108 z109 z110 z111 z112 z113 z114 z115 z116 z117 z118 z119 z120 z121 z122 z123 z124 z125 z126 z127 z128 z129 z130 z131 z132 z133 z134 z135 z136 z137 z138 z139 z140 z141 z142 z143 z144 z145 z146 z147 z148 z149 z150 z151 z152 z153 z154 z155 z156 z157 z158 z159 z160 z161 z162 z163 z164 z165 z166 z167 z168 z169 z170 z171 z172 z173 z174 z175 z176 z177 z178 z179 z180 z181 z182 z183 z184 z185 z186 z187 z188 z189 z190 z191 z192 z193 z194 z195 z196 z197 z198 z199 z200 z201 z202 z203 z204 z205 z206 z207 z208 z209 z210 z211 z212 z213 z214 z215 z216 z217 z218 z219 z220 z221 z222 z223 z224 z225 z226 z227 z228 z229 z230 z231 z232 z233 z234 z235 z236 z237 z238 z239 z240 z241 z242 z243 z244 z245 z246 z247 : Value) :
  Code.wp Tryz.prog code (bodyPost Tryz.prog Tryz.f3 (IsB true w)) ⟨#[z0, z1, z2, z3, z4, z5, z6, .pointer (some ⟨B, 0, none⟩), z8, z9, .slice (some ⟨qb, qo, none⟩) N cq1, .int .i64 N, .pointer (some ⟨D, 0, none⟩), z13, z14, z15, z16, z17, z18, z19, z20, z21, z22, z23, z24, z25, z26, z27, z28, z29, z30, z31, z32, z33, z34, z35, z36, z37, z38, z39, z40, z41, z42, z43, z44, z45, z46, z47, z48, z49, z50, z51, z52, z53, z54, z55, z56, z57, z58, z59, z60, z61, z62, z63, z64, z65, z66, z67, z68, z69, z70, z71, z72, z73, z74, z75, z76, z77, z78, z79, z80, z81, z82, z83, z84, z85, z86, z87, z88, z89, z90, z91, z92, z93, z94, z95, z96, z97, z98, z99, z100, z101, z102, z103, z104, z105, z106, z107, z108, z109, z110, z111, z112, z113, z114, z115, z116, z117, z118, z119, z120, z121, z122, z123, z124, z125, z126, z127, z128, z129, z130, z131, z132, z133, z134, z135, z136, z137, z138, z139, z140, z141, z142, z143, z144, z145, z146, z147, z148, z149, z150, z151, z152, z153, z154, z155, z156, z157, z158, z159, z160, z161, z162, z163, z164, z165, z166, z167, z168, z169, z170, z171, z172, z173, z174, z175, z176, z177, z178, z179, z180, z181, z182, z183, z184, z185, z186, z187, z188, z189, z190, z191, z192, z193, z194, z195, z196, z197, z198, z199, z200, z201, z202, z203, z204, z205, z206, z207, z208, z209, z210, z211, z212, z213, z214, z215, z216, z217, z218, z219, z220, z221, z222, z223, z224, z225, z226, z227, z228, z229, z230, z231, z232, z233, z234, z235, z236, z237, z238, z239, z240, z241, z242, z243, z244, z245, z246, z247], []⟩ wr := by
 subst hcode
 have HG := Lib.hid X.g
 have HB8 := Lib.hid X.b8
 have HS8 := Lib.hid X.s8
 have HSZ1 := Lib.hid X.sz1
 have HSZ := Lib.hid (show SzL 1000000 C from fun s hs => Nat.le_trans (X.sz1 s hs) (by omega))
 have HNE := Lib.hid X.ne
 have HRE := Lib.hid X.re
 have HDE := Lib.hid X.de
 have hN10 : 1 ≤ N ∧ N ≤ 10 := ⟨X.n1, X.n10⟩
 have hcq1 : N ≤ cq1 := X.cq
 have hN0 : ¬ (N : Int) = 0 := by omega
 have hNb : ((N : Int) == 0) = false := by simp; omega
 have HXX := Lib.hid X
 have HF12 := Lib.hid hF
 have HB12 := Lib.hid hB
 clear X hF hB
 conv => arg 2; whnf
 have c0 := cellOf (v := .string root) HF12.out.blk (j := 0) rfl
 have c1 := cellOf (v := .int .i64 N) HF12.out.blk (j := 1) rfl
 have c2 := cellOf (v := .slice cp N cc) HF12.out.blk (j := 2) rfl
 have c3 := cellOf (v := .slice hp N hc) HF12.out.blk (j := 3) rfl
 have HMI := Lib.hid (missing_ex root N cp cc hp hc cs hv wr (by omega) HF12.out.fet)
 unfold fetV IntsRet at HMI
 have HLF := Lib.hid (Left.first hv)
 rw [HF12.out.fet.lh] at HLF
 have hml := missL_len hv N
 have HMT := Lib.hid (fun t j (h : (missL hv N)[t]? = some j) => missL_lt h)
 obtain ⟨ms, hms⟩ : ∃ ms, ms = missL hv N := ⟨_, rfl⟩
 rw [← hms] at HMI HLF hml HMT
 clear hms
 go_wp2_with (go_at_call 16; (with_reducible refine HMI.out.mono ?_); go_loud (rintro e w20 ⟨v20, rfl, ho20, hb20⟩; obtain ⟨pm, cm, rfl, _, _⟩ := intL_of_own ho20; have HF20 := Lib.hid (HF12.out.below hb20); have HB20 := Lib.hid (HB12.out.trans (hb20.mono HB12.out.size)); have HO20 := Lib.hid (own_base ho20 (Nat.succ_le_of_lt HF12.out.blk.lt)); clear ho20 hb20))
 clear c0 c1 c2 c3 HF12 HB12 HMI
 go_loopw [189] (fun i wr => ∃ (k : Nat) (cp : Option Addr) (cc : Nat) (hp : Option Addr) (hc : Nat) (cs : List ByteArray) (hv : List Bool), k ≤ ms.length ∧ i = .int .i64 k ∧ FW D root N C cp cc hp hc cs hv wr ∧ Left hv ms k ∧ wr.ownsRow (D + 1) 3 1 (.slice pm ms.length cm) ms.length (inV ms) ∧ Below w8.heap.size w8 wr) (fun i _ => ms.length - (intOf i).toNat)
 case atStart => exact ⟨0, _, _, _, _, _, _, Nat.zero_le _, rfl, HF20.out, HLF.out, HO20.out, HB20.out⟩
 case round =>
  clear HF20 HLF HO20 HB20
  obtain ⟨k4, cp, cc, hp, hc, cs, hv, hk4, rfl, hF, hLF, hO, hb⟩ := hrel
  have HF := Lib.hid hF
  have HLF := Lib.hid hLF
  have HO := Lib.hid hO
  have HB := Lib.hid hb
  clear hF hLF hO hb
  have HG4 := Lib.hid (HG.out.below (HB8.out.trans (HB.out.mono HB8.out.size)))
  by_cases hkm4 : k4 < ms.length
  ·obtain ⟨j, hj⟩ : ∃ j, ms[k4]? = some j := ⟨_, List.getElem?_eq_getElem hkm4⟩
   have hjN : j < N := HMT.out k4 j hj
   obtain ⟨pm', cm', epm, hI, _⟩ := intL_of_own HO.out
   injection epm with epm _ e2m
   subst epm
   clear e2m
   obtain ⟨mb, mo, rfl, hmb, hmc⟩ := hI.resolve_left (fun e => by rw [e] at hkm4; exact absurd hkm4 (Nat.not_lt_zero _))
   have d0 : wr.cell? ⟨mb, mo + k4, none⟩ = some (.int .i64 j) := by
    rw [hmc k4 hkm4]
    rw [List.getElem?_eq_getElem hkm4] at hj
    injection hj with hj
    rw [hj]
   have HJ := Lib.hid hj
   have e0 : (0 : Int) ≤ (k4 : Int) := by omega
   have e1 : (k4 : Int) < (ms.length : Int) := by omega
   have j0 : ¬ (j : Int) < 0 := by omega
   have j1 : ¬ (N : Int) ≤ (j : Int) := by omega
   clear hmc hj
   obtain ⟨kj, hkj⟩ : ∃ kj, kj = j + 1 := ⟨_, rfl⟩
   have hkN : j < kj ∧ kj ≤ N := by omega
   have ej : IntKind.i64.wrap ((j : Int) + 1) = (kj : Int) := by rw [IntKind.wrap_i64]; omega
   have HV := Lib.hid (show verifyB root N j (Mk.part C j kj) (proofH C j kj) = true by
    rw [HRE.out, HNE.out]
    exact honest C j kj hkN.1 (by rw [← HNE.out]; exact hkN.2))
   have hpl := proof_len C j kj
   rw [← HNE.out] at hpl
   have HPD := Lib.hid (proof_dig C j kj)
   have HPR := Lib.hid (fun W (hb : Below w8.heap.size w8 W) => prove_ex (some ⟨qb, qo, none⟩) N cq1 C j W HNE.out.symm (by omega) hjN HSZ.out (HS8.out.below hb))
   rw [← hkj] at HPR
   have hpt := Mk.part_length C (i := j) (k := kj) (by rw [← HNE.out]; exact hkN.2)
   have HGP := Lib.hid (HF.out.got.put hkN.1 (by rw [← HNE.out]; exact hkN.2) (m := kj - j) rfl)
   have HLS := Lib.hid (show Left (setR hv j (List.replicate (kj - j) true)) ms (k4 + 1) by
    rw [show kj - j = 1 by omega]
    exact HLF.out.step HJ.out (by rw [HF.out.fet.lh]; exact hjN))
   have HPS2 := Lib.hid (show SzL 1000000 (Mk.part C j kj) from fun s hs => HSZ.out s (List.mem_of_mem_take (List.mem_of_mem_drop hs)))
   have HSP := Lib.hid (fun W (hb : Below w8.heap.size w8 W) => strL_part (HS8.out.below hb) hkN.1 (by rw [← HNE.out]; exact hkN.2))
   generalize proofH C j kj = pf at HV hpl HPD HPR
   generalize Mk.part C j kj = pt at HV hpt HGP HPS2 HSP
   have hci : ¬ cq1 = j := by omega
   have i0 : (0 : Int) ≤ (j : Int) := by omega
   have i1 : (j : Int) ≤ (kj : Int) := by omega
   have i2 : (kj : Int) ≤ (cq1 : Int) := by omega
   clear hkj
   go_upto_region 43 with (go_at_call 13; (with_reducible refine (HPR.out _ HB.out).mono ?_); go_loud (rintro e w10 ⟨v10, rfl, ho10, hb10⟩; obtain ⟨p10, c10, rfl, hc10, hs10⟩ := strs_slice ho10; have HF10 := Lib.hid (HF.out.below hb10); have HB10 := Lib.hid (HB.out.trans (hb10.mono HB.out.size)); have HO10 := Lib.hid (own_below HO.out hb10); have HS10 := Lib.hid hs10; clear ho10 hb10 hs10))
   have c0 := cellOf (v := .string root) HF10.out.blk (j := 0) rfl
   have c1 := cellOf (v := .int .i64 N) HF10.out.blk (j := 1) rfl
   have c2 := cellOf (v := .slice cp N cc) HF10.out.blk (j := 2) rfl
   have c3 := cellOf (v := .slice hp N hc) HF10.out.blk (j := 3) rfl
   clear d0
   go_region_law (go_simp; go_at_call 12; go_loud (refine (put_ex root N cp cc hp hc cs hv j (some ⟨qb, qo + j, none⟩) (kj - j) (cq1 - j) pt p10 pf.length c10 pf _ (by omega) (HF10.out.fet.below (below_drew _)) hjN hpt (by omega) (by omega) HPS2.out ((HSP.out _ HB10.out).below (below_drew _)) rfl (by omega) hc10 HPD.out (HS10.out.below (below_drew _)) ((HG.out.below (HB8.out.trans (HB10.out.mono HB8.out.size))).below (below_drew _))).mono ?_; rintro e w12 ⟨v, c2, he, hb12, _, hyes⟩; obtain ⟨hc0, g6, cc2, g7, hc2, h6, h7, hv2, hF12⟩ := hyes HV.out; subst hc0; subst hv2; unfold fetV at he; subst he; have HF12 := Lib.hid hF12; have HK12 := Lib.hid (HF10.out.blk.below ((below_drew w10).trans hb12)); have HO12 := Lib.hid (own_below HO10.out ((below_drew w10).trans hb12)); have HB12 := Lib.hid (HB10.out.trans (((below_drew w10).trans hb12).mono HB10.out.size)); have c0 := cellOf (v := .string root) HK12.out (j := 0) rfl; have c1 := cellOf (v := .int .i64 N) HK12.out (j := 1) rfl; have c2 := cellOf (v := .slice cp N cc) HK12.out (j := 2) rfl; have c3 := cellOf (v := .slice hp N hc) HK12.out (j := 3) rfl; have f0 := HK12.out.frozen 0; have f1 := HK12.out.frozen 1; have f2 := HK12.out.frozen 2; have f3 := HK12.out.frozen 3; clear hF12 hb12 hyes))
   all_goals
    go_wp2_with fail
    go_roundw
    case rel => exact ⟨k4 + 1, _, cc2, _, hc2, _, _, by omega, by go_num, FW.store HK12.out HF12.out HGP.out (Nat.lt_of_lt_of_le HF10.out.blk.lt h6) (Nat.lt_of_lt_of_le HF10.out.blk.lt h7), HLS.out, own_set (own_set (own_set (own_set HO12.out (p := ⟨D, 0, none⟩) (Nat.lt_succ_self D) _) (p := ⟨D, 1, none⟩) (Nat.lt_succ_self D) _) (p := ⟨D, 2, none⟩) (Nat.lt_succ_self D) _) (p := ⟨D, 3, none⟩) (Nat.lt_succ_self D) _, below_st4 HB12.out (by have := HDE.out; omega)⟩
    case measure => simp [intOf]; omega
  ·have hke : k4 = ms.length := by omega
   have HALL := Lib.hid (show ∀ b ∈ hv, b = true from by have := HLF.out; rw [hke] at this; exact this.done)
   have HCS := Lib.hid (HF.out.got.all HALL.out)
   have HDN := Lib.hid (fun (cs' : List ByteArray) (hcs : cs' = C) (hF : FetL wr N cp cc hp hc cs' hv) => by
    subst hcs
    exact done_ex root N cp cc hp hc cs' hv wr (by omega) hN10.1 hF HSZ.out HALL.out HRE.out.symm HG4.out)
   have HDO := Lib.hid (HDN.out cs HCS.out HF.out.fet)
   unfold fetV DoneRet at HDO
   try rw [HCS.out] at HDO
   clear hke HALL HCS HDN HLF HO
   have c0 := cellOf (v := .string root) HF.out.blk (j := 0) rfl
   have c1 := cellOf (v := .int .i64 N) HF.out.blk (j := 1) rfl
   have c2 := cellOf (v := .slice cp N cc) HF.out.blk (j := 2) rfl
   have c3 := cellOf (v := .slice hp N hc) HF.out.blk (j := 3) rfl
   have HM8 := Lib.hid HXX.out.m8
   have HCE := Lib.hid HXX.out.ce
   have hL20 := HXX.out.l20
   have hsl := ses_len HM8.out.vs
   go_upto_region 48 with (go_at_call 17; (with_reducible refine HDO.out.mono ?_); go_loud (rintro e w30 ⟨v30, rfl, ho30, hb30⟩; obtain ⟨p30, c30, rfl, hc30, hs30⟩ := strs_slice ho30; have HB30 := Lib.hid (HB.out.trans (hb30.mono HB.out.size)); have HS30 := Lib.hid hs30; clear ho30 hb30 hs30))
   obtain ⟨n30, hn30⟩ : ∃ x, x = C.length := ⟨_, rfl⟩
   have hNn : n30 = N := by rw [hn30]; exact HNE.out.symm
   rw [← hn30] at hc30 ⊢
   clear hn30
   subst hNn
   obtain ⟨b30, o30, rfl, _, _⟩ := HS30.out.at (j := 0) (by rw [← HNE.out]; omega)
   have HSA := Lib.hid (fun W (hb : Below w30.heap.size w30 W) => same_yes (some ⟨b30, o30, none⟩) n30 c30 (some ⟨qb, qo, none⟩) cq1 C W HNE.out.symm (by omega) (HS30.out.below hb) (HS8.out.below (HB30.out.trans (hb.mono HB30.out.size))))
   have HRS := Lib.hid (fun W (hb : Below w30.heap.size w30 W) => restore_ex b30 o30 n30 c30 L S W HM8.out.vp HM8.out.vs (by omega) (by rw [← HCE.out]; exact HNE.out) hc30 (by rw [← HCE.out]; exact HS30.out.below hb) (HG.out.below (HB8.out.trans ((HB30.out.trans (hb.mono HB30.out.size)).mono HB8.out.size))))
   clear c0 c1 c2 c3 HDO
   go_upto_region 51 with (first
    | (go_at_call 18; (with_reducible refine (HSA.out _ (Below.refl _ _)).mono ?_); go_loud (rintro e w31 ⟨rfl, hb31⟩; have HB31 := Lib.hid hb31; clear hb31))
    | (go_at_call 19; (with_reducible refine (HRS.out _ HB31.out).mono ?_); go_loud (rintro e w32 ⟨pv', sv', rfl, hP', hS', hb32⟩; obtain ⟨pp', pc', rfl, _⟩ := id hP'; obtain ⟨qq', qc', rfl, _⟩ := id hS'; have HP32 := Lib.hid hP'; have HS32 := Lib.hid hS'; have HB32 := Lib.hid (HB31.out.trans (hb32.mono HB31.out.size)); clear hP' hS' hb32)))
   have HN33 := Lib.hid (heap_alloc_new w32 (.cells #[.slice pp' L.length pc', .slice qq' S.length qc'] 29))
   have HB33 := Lib.hid ((Below.refl _ w32).alloc (Nat.le_refl _) (.cells #[.slice pp' L.length pc', .slice qq' S.length qc'] 29))
   have hlt33 : w32.heap.size < (w32.alloc (.cells #[.slice pp' L.length pc', .slice qq' S.length qc'] 29)).heap.size := by simp
   generalize w32.alloc (.cells #[.slice pp' L.length pc', .slice qq' S.length qc'] 29) = w33 at HN33 HB33 hlt33 ⊢
   have HW33 := Lib.hid (show Below w8.heap.size w8 w33 from (HB30.out.trans (HB32.out.mono HB30.out.size)).trans (HB33.out.mono (Nat.le_trans HB30.out.size HB32.out.size)))
   have HM33 := Lib.hid (HM8.out.below HW33.out)
   obtain ⟨pp, pc, rfl, _⟩ := id HM33.out.P
   obtain ⟨qq, qc, rfl, _⟩ := id HM33.out.Q
   have n0 := cellOf (v := .slice pp' L.length pc') HN33.out (j := 0) rfl
   have n1 := cellOf (v := .slice qq' S.length qc') HN33.out (j := 1) rfl
   have m0 := cellOf (v := .slice pp L.length pc) HM33.out.m (j := 0) rfl
   have m1 := cellOf (v := .slice qq S.length qc) HM33.out.m (j := 1) rfl
   have HEQ := Lib.hid (equalM_yes _ _ _ _ L S w33 (HP32.out.below HB33.out) (HS32.out.below HB33.out) HM33.out.P HM33.out.Q (by omega) (by omega))
   go_wp2_with (go_at_call 20; (with_reducible refine HEQ.out.mono ?_); go_loud (rintro e w34 ⟨rfl, hb34⟩; have HB34 := Lib.hid (HW33.out.trans (hb34.mono HW33.out.size)); clear hb34))
   go_ret
   exact ⟨rfl, HB8.out.trans (HB34.out.mono HB8.out.size)⟩
end Go.Proofs.YtnaglmigkbbljaaGreatDoor
