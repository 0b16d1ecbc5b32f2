/-
  TopTransferred: the law behind its pieces: the forged chunk.
-/
import Derived.Test.YtnaglmigkbbljaaGreatDoorShDT
set_option maxHeartbeats 6400000
set_option maxRecDepth 1000000
set_option linter.unusedVariables false
set_option linter.unusedSimpArgs false
namespace Go.Proofs.YtnaglmigkbbljaaGreatDoor
open Go Go.RowKit
theorem tail26 {w : World} {B D N qb qo cq1 : Nat} {root : ByteArray} {C : List ByteArray} {L : List Par} {S : List Ses} {pv sv : Value} {w8 : World} (X : LX w B D N qb qo cq1 root C L S pv sv w8) {fo : Nat} (hfo : fo < 256)
  {cp : Option Addr} {cc : Nat} {hp : Option Addr} {hc : Nat} {cs : List ByteArray} {hv : List Bool} {wr : World} (hF : FW D root N C cp cc hp hc cs hv wr) (hB : Below w8.heap.size w8 wr) {code : Code} (hcode : code = code26) (z0 z1 z3 z4 z5 z6 z8 z9 z13 z14 z15 z16 z17 z18 z19 z20 z21 z22 z23 z24 z25 z26 z27 z28 z29 z30 z31 z32 z33 z34 z35 z36 z37 z38 z39 z40 z41 z42 z43 z44 z45 z46 z47 z48 z49 z50 z51 z52 z53 z54 z55 z56 z57 z58 z59 z60 z61 z62 z63 z64 z65 z66 z67 z68 z69 z70 z71 z72 z73 z74 z75 z76 z77 z78 z79 z80 z81 z82 z83 z84 z85 z86 z87 z88 z89 z90 z91 z92 z93 z94 z95 z96 z97 z98 z99 z100 z101 z102 z103 z104 z105 z106 z107 z108 z109 z110 z111 z112 z113 z114 z115 z116 z117 z118 z119 z120 z121 z122 z123 z124 z125 z126 z127 z128 z129 z130 z131 z132 z133 z134 z135 z136 z137 z138 z139 z140 z141 z142 z143 z144 z145 z146 z147 z148 z149 z150 z151 z152 z153 z154 z155 z156 z157 z158 z159 z160 z161 z162 z163 z164 z165 z166 z167 z168 z169 z170 z171 z172 z173 z174 z175 z176 z177 z178 z179 z180 z181 z182 z183 z184 z185 z186 z187 z188 z189 z190 z191 z192 z193 z194 z195 z196 z197 z198 z199 z200 z201 z202 z203 z204 z205 z206 z207 z208 z209 z210 z211 z212 z213 z214 z215 z216 z217 z218 z219 z220 z221 z222 z223 z224 z225 z226 z227 z228 z229 z230 z231 z232 z233 z234 z235 z236 z237 z238 z239 z240 z241 z242 z243 z244 z245 z246 z247 : Value) :
  Code.wp Tryz.prog code (bodyPost Tryz.prog Tryz.f3 (IsB true w)) ⟨#[z0, z1, .int .u8 fo, z3, z4, z5, z6, .pointer (some ⟨B, 0, none⟩), z8, z9, .slice (some ⟨qb, qo, none⟩) N cq1, .int .i64 N, .pointer (some ⟨D, 0, none⟩), z13, z14, z15, z16, z17, z18, z19, z20, z21, z22, z23, z24, z25, z26, z27, z28, z29, z30, z31, z32, z33, z34, z35, z36, z37, z38, z39, z40, z41, z42, z43, z44, z45, z46, z47, z48, z49, z50, z51, z52, z53, z54, z55, z56, z57, z58, z59, z60, z61, z62, z63, z64, z65, z66, z67, z68, z69, z70, z71, z72, z73, z74, z75, z76, z77, z78, z79, z80, z81, z82, z83, z84, z85, z86, z87, z88, z89, z90, z91, z92, z93, z94, z95, z96, z97, z98, z99, z100, z101, z102, z103, z104, z105, z106, z107, z108, z109, z110, z111, z112, z113, z114, z115, z116, z117, z118, z119, z120, z121, z122, z123, z124, z125, z126, z127, z128, z129, z130, z131, z132, z133, z134, z135, z136, z137, z138, z139, z140, z141, z142, z143, z144, z145, z146, z147, z148, z149, z150, z151, z152, z153, z154, z155, z156, z157, z158, z159, z160, z161, z162, z163, z164, z165, z166, z167, z168, z169, z170, z171, z172, z173, z174, z175, z176, z177, z178, z179, z180, z181, z182, z183, z184, z185, z186, z187, z188, z189, z190, z191, z192, z193, z194, z195, z196, z197, z198, z199, z200, z201, z202, z203, z204, z205, z206, z207, z208, z209, z210, z211, z212, z213, z214, z215, z216, z217, z218, z219, z220, z221, z222, z223, z224, z225, z226, z227, z228, z229, z230, z231, z232, z233, z234, z235, z236, z237, z238, z239, z240, z241, z242, z243, z244, z245, z246, z247], []⟩ wr := by
 subst hcode
 have HG := Lib.hid X.g
 have HB8 := Lib.hid X.b8
 have HS8 := Lib.hid X.s8
 have HSZ1 := Lib.hid X.sz1
 have HSZ := Lib.hid (show SzL 1000000 C from fun s hs => Nat.le_trans (X.sz1 s hs) (by omega))
 have HNE := Lib.hid X.ne
 have HRE := Lib.hid X.re
 have HDE := Lib.hid X.de
 have hN10 : 1 ≤ N ∧ N ≤ 10 := ⟨X.n1, X.n10⟩
 have hcq1 : N ≤ cq1 := X.cq
 have hN0 : ¬ (N : Int) = 0 := by omega
 have hNb : ((N : Int) == 0) = false := by simp; omega
 have HXX := Lib.hid X
 have HF := Lib.hid hF
 have HB := Lib.hid hB
 clear X hF hB
 conv => arg 2; whnf
 go_upto_region 27 with fail
 obtain ⟨i, hi⟩ : ∃ i, i = fo % N := ⟨_, rfl⟩
 have hiN : i < N := by rw [hi]; exact Nat.mod_lt _ (by omega)
 have e2 : (fo : Int) % (N : Int) = (i : Int) := by rw [hi]; rfl
 rw [e2]
 clear e2 hi
 obtain ⟨s, hs⟩ : ∃ s, C[i]? = some s := ⟨_, List.getElem?_eq_getElem (by rw [← HNE.out]; exact hiN)⟩
 have hss := HSZ1.out s (List.mem_of_getElem? hs)
 have HFG := Lib.hid (fun h => forged (t := s ++ xS) hs h)
 have HVC := Lib.hid hs
 rw [← HNE.out, ← HRE.out] at HFG
 have hpl := proof_len C i (i + 1)
 rw [← HNE.out] at hpl
 have HPD := Lib.hid (proof_dig C i (i + 1))
 have HPR := Lib.hid (fun W (hb : Below w8.heap.size w8 W) => prove_ex (some ⟨qb, qo, none⟩) N cq1 C i W HNE.out.symm (by omega) hiN HSZ.out (HS8.out.below hb))
 clear hs
 generalize proofH C i (i + 1) = pf at hpl HPD HPR HFG
 go_upto_region 30 with (go_at_call 13; (with_reducible refine (HPR.out _ HB.out).mono ?_); go_loud (rintro e w10 ⟨v10, rfl, ho10, hb10⟩; obtain ⟨p10, c10, rfl, hc10, hs10⟩ := strs_slice ho10; have HF10 := Lib.hid (HF.out.below hb10); have HB10 := Lib.hid (HB.out.trans (hb10.mono HB.out.size)); have HS10 := Lib.hid hs10; clear ho10 hb10 hs10))
 have HG10 := Lib.hid (HG.out.below (HB8.out.trans (HB10.out.mono HB8.out.size)))
 have c0 := cellOf (v := .string root) HF10.out.blk (j := 0) rfl
 have c1 := cellOf (v := .int .i64 N) HF10.out.blk (j := 1) rfl
 have c2 := cellOf (v := .slice cp N cc) HF10.out.blk (j := 2) rfl
 have c3 := cellOf (v := .slice hp N hc) HF10.out.blk (j := 3) rfl
 have hD10 : D < w10.heap.size := HF10.out.blk.lt
 have dq : w10.cell? ⟨qb, qo + i, none⟩ = some (.string s) := by
  have h1 := (HS8.out.below HB10.out).cell (j := i) (by rw [← HNE.out]; exact hiN)
  rw [h1]
  have h2 := HVC.out
  rw [List.getElem?_eq_getElem (by rw [← HNE.out]; exact hiN)] at h2
  injection h2 with h2
  rw [h2]
 have hqb10 : qb < w10.heap.size := World.block_lt_of_cell? _ _ dq
 have i0 : (0 : Int) ≤ (i : Int) := by omega
 have i1 : (i : Int) < (N : Int) := by omega
 have ov : ¬ (9223372036854775807 < s.size + 1) := by omega
 have hsx : (s ++ xS).size ≤ 1000000 := by rw [ByteArray.size_append]; have : xS.size = 1 := rfl; omega
 go_cut [24] (fun t24 wx => ∃ c : Int, t24 = .int .i64 c ∧ (c = 16 ∨ verifyB root N i [s ++ xS] pf = true) ∧ Below w10.heap.size w10 wx)
 case first =>
  have HPUT := Lib.hid (fun W (hb : Below w10.heap.size w10 W) p' (hp' : StrL W p' [s ++ xS]) => (put_ex root N cp cc hp hc cs hv i p' 1 1 [s ++ xS] p10 pf.length c10 pf W (by omega) (HF10.out.fet.below hb) hiN rfl (by omega) (by omega) (by intro y hy; simp at hy; rw [hy]; exact hsx) hp' rfl (by omega) hc10 HPD.out (HS10.out.below hb) (HG10.out.below hb)).mono (fun _ _ h => put_some h))
  unfold fetV at HPUT
  have hSd : w10.drew.cell? ⟨D, 0, none⟩ = some (.string root) ∧ w10.drew.cell? ⟨D, 1, none⟩ = some (.int .i64 N) ∧ w10.drew.cell? ⟨D, 2, none⟩ = some (.slice cp N cc) ∧ w10.drew.cell? ⟨D, 3, none⟩ = some (.slice hp N hc) ∧ w10.drew.cell? ⟨qb, qo + i, none⟩ = some (.string s) ∧ Below w10.heap.size w10 w10.drew := fs_keep ⟨c0, c1, c2, c3, dq, Below.refl _ _⟩ (below_drew w10)
  clear c0 c1 c2 c3 dq
  refine wp_region_noPanic ?_
  refine wp_region_held_drew (S := fun W => W.cell? ⟨D, 0, none⟩ = some (.string root) ∧ W.cell? ⟨D, 1, none⟩ = some (.int .i64 N) ∧ W.cell? ⟨D, 2, none⟩ = some (.slice cp N cc) ∧ W.cell? ⟨D, 3, none⟩ = some (.slice hp N hc) ∧ W.cell? ⟨qb, qo + i, none⟩ = some (.string s) ∧ Below w10.heap.size w10 W) (by kernel_rfl) ?_ (fun hHeld => ?_)
  ·exact hSd
  generalize w10.drew = V0 at hHeld ⊢
  clear hSd
  refine wpAnyH_take (i := 0) (oi := { dst := some 140, op := _, type := _, pos := _, after := _, guard := _ }) (v := ?_) rfl (by kernel_rfl) (by kernel_rfl) (by kernel_rfl) (fun _ _ _ h => h) (Or.inl ⟨by rfl, ?_⟩) (by assumption) ?_
  rotate_left
  ·intro w hSw
   try dsimp only at hSw
   go_simp
   try with_reducible rfl
  try simp only [Act.put, List.setIfInBounds_toArray, List.set_cons_zero, List.set_cons_succ]
  refine wpAnyH_take (i := 1) (oi := { dst := some 141, op := _, type := _, pos := _, after := _, guard := _ }) (v := ?_) rfl (by kernel_rfl) (by kernel_rfl) (by kernel_rfl) (fun _ _ _ h => h) (Or.inl ⟨by rfl, ?_⟩) (by assumption) ?_
  rotate_left
  ·intro w hSw
   try dsimp only at hSw
   go_simp
   try with_reducible rfl
  try simp only [Act.put, List.setIfInBounds_toArray, List.set_cons_zero, List.set_cons_succ]
  refine wpAnyH_take (i := 2) (oi := { dst := some 142, op := _, type := _, pos := _, after := _, guard := _ }) (v := ?_) rfl (by kernel_rfl) (by kernel_rfl) (by kernel_rfl) (fun _ _ _ h => h) (Or.inl ⟨by rfl, ?_⟩) (by assumption) ?_
  rotate_left
  ·intro w hSw
   try dsimp only at hSw
   go_simp
   try with_reducible rfl
  try simp only [Act.put, List.setIfInBounds_toArray, List.set_cons_zero, List.set_cons_succ]
  refine wpAnyH_take (i := 3) (oi := { dst := some 143, op := _, type := _, pos := _, after := _, guard := _ }) (v := ?_) rfl (by kernel_rfl) (by kernel_rfl) (by kernel_rfl) (fun _ _ _ h => h) (Or.inl ⟨by rfl, ?_⟩) (by assumption) ?_
  rotate_left
  ·intro w hSw
   try dsimp only at hSw
   go_simp
   try with_reducible rfl
  try simp only [Act.put, List.setIfInBounds_toArray, List.set_cons_zero, List.set_cons_succ]
  refine wpAnyH_take (i := 4) (oi := { dst := some 144, op := _, type := _, pos := _, after := _, guard := _ }) (v := ?_) rfl (by kernel_rfl) (by kernel_rfl) (by kernel_rfl) (fun _ _ _ h => h) (Or.inl ⟨by rfl, ?_⟩) (by assumption) ?_
  rotate_left
  ·intro w hSw
   try dsimp only at hSw
   go_simp
   try with_reducible rfl
  try simp only [Act.put, List.setIfInBounds_toArray, List.set_cons_zero, List.set_cons_succ]
  refine wpAnyH_take (i := 5) (oi := { dst := some 145, op := _, type := _, pos := _, after := _, guard := _ }) (v := ?_) rfl (by kernel_rfl) (by kernel_rfl) (by kernel_rfl) (fun _ _ _ h => h) (Or.inl ⟨by rfl, ?_⟩) (by assumption) ?_
  rotate_left
  ·intro w hSw
   try dsimp only at hSw
   go_simp
   try with_reducible rfl
  try simp only [Act.put, List.setIfInBounds_toArray, List.set_cons_zero, List.set_cons_succ]
  refine wpAnyH_take (i := 6) (oi := { dst := some 146, op := _, type := _, pos := _, after := _, guard := _ }) (v := ?_) rfl (by kernel_rfl) (by kernel_rfl) (by kernel_rfl) (fun _ _ _ h => h) (Or.inl ⟨by rfl, ?_⟩) (by assumption) ?_
  rotate_left
  ·intro w hSw
   try dsimp only at hSw
   go_simp
   try with_reducible rfl
  try simp only [Act.put, List.setIfInBounds_toArray, List.set_cons_zero, List.set_cons_succ]
  refine wpAnyH_take (i := 8) (oi := { dst := some 148, op := _, type := _, pos := _, after := _, guard := _ }) (v := ?_) rfl (by kernel_rfl) (by kernel_rfl) (by kernel_rfl) (fun _ _ _ h => h) (Or.inl ⟨by rfl, ?_⟩) (by assumption) ?_
  rotate_left
  ·intro w hSw
   try dsimp only at hSw
   go_simp
   try with_reducible rfl
  try simp only [Act.put, List.setIfInBounds_toArray, List.set_cons_zero, List.set_cons_succ]
  refine wpAnyH_ready (rs := [7, 13]) (by kernel_rfl) (by simp) ?_
  refine AllReadyH.cons (o := { dst := some 147, op := _, type := _, pos := _, after := _, guard := _ }) rfl (fun K hK => ?_) ?_
  ·go_simp
   refine hK.out _ _ ?_ (fun hHeld => ?_)
   ·exact fs_keep hHeld ((Below.refl _ V0).alloc (Nat.le_refl _) _)
   clear hK K
   have HT := Lib.hid (strL_new V0 (s ++ xS))
   have HV1 := Lib.hid ((((Below.refl _ V0).alloc (Nat.le_refl _) _) : Below V0.heap.size V0 (V0.alloc (.cells #[.string (s ++ ⟨#[120]⟩)] 9))))
   clear HV1
   unfold xS at HT
   generalize V0.alloc (.cells #[.string (s ++ ⟨#[120]⟩)] 9) = V1 at HT hHeld ⊢
   try simp only [Act.put, List.setIfInBounds_toArray, List.set_cons_zero, List.set_cons_succ]
   refine wpAnyH_ready (rs := [9, 13]) (by kernel_rfl) (by simp) ?_
   refine AllReadyH.cons (o := { dst := some 149, op := _, type := _, pos := _, after := _, guard := _ }) rfl (fun K hK => ?_) ?_
   ·go_simp
    go_at_call 12
    (refine (HPUT.out _ hHeld.2.2.2.2.2 _ HT.out).mono ?_)
    rintro e V2 ⟨a0, a1, p2, n2, c2, p3, n3, c3, co, rfl, hco, hb9⟩
    have hS9 : V2.cell? ⟨D, 0, none⟩ = some (.string root) ∧ V2.cell? ⟨D, 1, none⟩ = some (.int .i64 N) ∧ V2.cell? ⟨D, 2, none⟩ = some (.slice cp N cc) ∧ V2.cell? ⟨D, 3, none⟩ = some (.slice hp N hc) ∧ V2.cell? ⟨qb, qo + i, none⟩ = some (.string s) ∧ Below w10.heap.size w10 V2 := fs_keep hHeld hb9
    clear hb9
    go_simp
    refine hK.out _ _ ?_ (fun hHeld => ?_)
    ·exact hS9
    clear hK K
    clear hS9
    try simp only [Act.put, List.setIfInBounds_toArray, List.set_cons_zero, List.set_cons_succ]
    refine wpAnyH_take (i := 10) (oi := { dst := some 139, op := _, type := _, pos := _, after := _, guard := _ }) (v := ?_) rfl (by kernel_rfl) (by kernel_rfl) (by kernel_rfl) (fun _ _ _ h => h) (Or.inl ⟨by rfl, ?_⟩) (by assumption) ?_
    rotate_left
    ·intro w hSw
     try dsimp only at hSw
     go_simp
     try with_reducible rfl
    try simp only [Act.put, List.setIfInBounds_toArray, List.set_cons_zero, List.set_cons_succ]
    refine wpAnyH_take (i := 11) (oi := { dst := some 150, op := _, type := _, pos := _, after := _, guard := _ }) (v := ?_) rfl (by kernel_rfl) (by kernel_rfl) (by kernel_rfl) (fun _ _ _ h => h) (Or.inl ⟨by rfl, ?_⟩) (by assumption) ?_
    rotate_left
    ·intro w hSw
     try dsimp only at hSw
     go_simp
     try with_reducible rfl
    try simp only [Act.put, List.setIfInBounds_toArray, List.set_cons_zero, List.set_cons_succ]
    refine wpAnyH_take (i := 12) (oi := { dst := some 151, op := _, type := _, pos := _, after := _, guard := _ }) (v := ?_) rfl (by kernel_rfl) (by kernel_rfl) (by kernel_rfl) (fun _ _ _ h => h) (Or.inl ⟨by rfl, ?_⟩) (by assumption) ?_
    rotate_left
    ·intro w hSw
     try dsimp only at hSw
     go_simp
     try with_reducible rfl
    try simp only [Act.put, List.setIfInBounds_toArray, List.set_cons_zero, List.set_cons_succ]
    refine wpAnyH_ready (rs := [13]) (by kernel_rfl) (by simp) ?_
    refine AllReadyH.cons (o := { dst := some 23, op := _, type := _, pos := _, after := _, guard := _ }) rfl (fun K hK => ?_) ?_
    ·have hVs2 := hHeld.2.2.2.2.2.size
     go_simp
     refine hK.out _ _ ?_ (fun hHeld => ?_)
     ·exact fs_keep hHeld ((Below.refl _ V2).alloc (Nat.le_refl _) _)
     clear hK K
     have HZ := Lib.hid (show Blk (V2.alloc (.cells #[.string ⟨#[]⟩, .int .i64 0, .slice none 0 0, .slice none 0 0] 39)) V2.heap.size 39 [.string ⟨#[]⟩, .int .i64 0, .slice none 0 0, .slice none 0 0] from heap_alloc_new V2 _)
     have hzz : w10.heap.size ≤ V2.heap.size := hVs2
     generalize V2.alloc (.cells #[.string ⟨#[]⟩, .int .i64 0, .slice none 0 0, .slice none 0 0] 39) = V3 at HZ hHeld ⊢
     generalize V2.heap.size = zb at HZ hzz ⊢
     try simp only [Act.put, List.setIfInBounds_toArray, List.set_cons_zero, List.set_cons_succ]
     refine wpAnyH_ready (rs := [14]) (by kernel_rfl) (by simp) ?_
     refine AllReadyH.cons (o := { dst := none, op := _, type := _, pos := _, after := _, guard := _ }) rfl (fun K hK => ?_) ?_
     ·have z0 := HZ.out.cell (j := 0) (show 0 < 4 by decide); have z1 := HZ.out.cell (j := 1) (show 1 < 4 by decide); have z2 := HZ.out.cell (j := 2) (show 2 < 4 by decide); have z3 := HZ.out.cell (j := 3) (show 3 < 4 by decide)
      have y0 := HZ.out.frozen 0; have y1 := HZ.out.frozen 1; have y2 := HZ.out.frozen 2; have y3 := HZ.out.frozen 3
      simp only [List.getElem_cons_zero, List.getElem_cons_succ] at z0 z1 z2 z3
      go_simp
      refine hK.out _ _ ?_ (fun hHeld => ?_)
      ·exact fs_store hHeld hD10 hqb10 hzz
      clear hK K
      try simp only [Act.put, List.setIfInBounds_toArray, List.set_cons_zero, List.set_cons_succ]
      refine wpAnyH_take (i := 15) (oi := { dst := some 24, op := _, type := _, pos := _, after := _, guard := _ }) (v := ?_) rfl (by kernel_rfl) (by kernel_rfl) (by kernel_rfl) (fun _ _ _ h => h) (Or.inl ⟨by rfl, ?_⟩) (by assumption) ?_
      rotate_left
      ·intro w hSw
       try dsimp only at hSw
       go_simp
       try with_reducible rfl
      try simp only [Act.put, List.setIfInBounds_toArray, List.set_cons_zero, List.set_cons_succ]
      refine wpAnyH_done (by kernel_rfl) ?_ _
      refine NoPanic.normal ?_
      go_wp2_with fail
      go_meet
      exact ⟨co, rfl, hco, hHeld.2.2.2.2.2⟩
     exact AllReadyH.nil
    exact AllReadyH.nil
   refine AllReadyH.cons (o := { dst := some 23, op := _, type := _, pos := _, after := _, guard := _ }) rfl (fun K hK => ?_) ?_
   ·have hVs1 := hHeld.2.2.2.2.2.size
    go_simp
    refine hK.out _ _ ?_ (fun hHeld => ?_)
    ·exact fs_keep hHeld ((Below.refl _ V1).alloc (Nat.le_refl _) _)
    clear hK K
    have HZ := Lib.hid (show Blk (V1.alloc (.cells #[.string ⟨#[]⟩, .int .i64 0, .slice none 0 0, .slice none 0 0] 39)) V1.heap.size 39 [.string ⟨#[]⟩, .int .i64 0, .slice none 0 0, .slice none 0 0] from heap_alloc_new V1 _)
    have hzz : w10.heap.size ≤ V1.heap.size := hVs1
    have HT := Lib.hid (HT.out.below (((Below.refl _ V1).alloc (Nat.le_refl _) _) : Below V1.heap.size V1 (V1.alloc (.cells #[.string ⟨#[]⟩, .int .i64 0, .slice none 0 0, .slice none 0 0] 39))))
    generalize V1.alloc (.cells #[.string ⟨#[]⟩, .int .i64 0, .slice none 0 0, .slice none 0 0] 39) = V2 at HT HZ hHeld ⊢
    generalize V1.heap.size = zb at HZ hzz ⊢
    try simp only [Act.put, List.setIfInBounds_toArray, List.set_cons_zero, List.set_cons_succ]
    refine wpAnyH_ready (rs := [9]) (by kernel_rfl) (by simp) ?_
    refine AllReadyH.cons (o := { dst := some 149, op := _, type := _, pos := _, after := _, guard := _ }) rfl (fun K hK => ?_) ?_
    ·go_simp
     go_at_call 12
     (refine (HPUT.out _ hHeld.2.2.2.2.2 _ HT.out).mono ?_)
     rintro e V3 ⟨a0, a1, p2, n2, c2, p3, n3, c3, co, rfl, hco, hb9⟩
     have hS9 : V3.cell? ⟨D, 0, none⟩ = some (.string root) ∧ V3.cell? ⟨D, 1, none⟩ = some (.int .i64 N) ∧ V3.cell? ⟨D, 2, none⟩ = some (.slice cp N cc) ∧ V3.cell? ⟨D, 3, none⟩ = some (.slice hp N hc) ∧ V3.cell? ⟨qb, qo + i, none⟩ = some (.string s) ∧ Below w10.heap.size w10 V3 := fs_keep hHeld hb9
     have HZ := Lib.hid (HZ.out.below hb9)
     clear hb9
     go_simp
     refine hK.out _ _ ?_ (fun hHeld => ?_)
     ·exact hS9
     clear hK K
     clear hS9
     try simp only [Act.put, List.setIfInBounds_toArray, List.set_cons_zero, List.set_cons_succ]
     refine wpAnyH_take (i := 10) (oi := { dst := some 139, op := _, type := _, pos := _, after := _, guard := _ }) (v := ?_) rfl (by kernel_rfl) (by kernel_rfl) (by kernel_rfl) (fun _ _ _ h => h) (Or.inl ⟨by rfl, ?_⟩) (by assumption) ?_
     rotate_left
     ·intro w hSw
      try dsimp only at hSw
      go_simp
      try with_reducible rfl
     try simp only [Act.put, List.setIfInBounds_toArray, List.set_cons_zero, List.set_cons_succ]
     refine wpAnyH_take (i := 11) (oi := { dst := some 150, op := _, type := _, pos := _, after := _, guard := _ }) (v := ?_) rfl (by kernel_rfl) (by kernel_rfl) (by kernel_rfl) (fun _ _ _ h => h) (Or.inl ⟨by rfl, ?_⟩) (by assumption) ?_
     rotate_left
     ·intro w hSw
      try dsimp only at hSw
      go_simp
      try with_reducible rfl
     try simp only [Act.put, List.setIfInBounds_toArray, List.set_cons_zero, List.set_cons_succ]
     refine wpAnyH_take (i := 12) (oi := { dst := some 151, op := _, type := _, pos := _, after := _, guard := _ }) (v := ?_) rfl (by kernel_rfl) (by kernel_rfl) (by kernel_rfl) (fun _ _ _ h => h) (Or.inl ⟨by rfl, ?_⟩) (by assumption) ?_
     rotate_left
     ·intro w hSw
      try dsimp only at hSw
      go_simp
      try with_reducible rfl
     try simp only [Act.put, List.setIfInBounds_toArray, List.set_cons_zero, List.set_cons_succ]
     refine wpAnyH_ready (rs := [14]) (by kernel_rfl) (by simp) ?_
     refine AllReadyH.cons (o := { dst := none, op := _, type := _, pos := _, after := _, guard := _ }) rfl (fun K hK => ?_) ?_
     ·have z0 := HZ.out.cell (j := 0) (show 0 < 4 by decide); have z1 := HZ.out.cell (j := 1) (show 1 < 4 by decide); have z2 := HZ.out.cell (j := 2) (show 2 < 4 by decide); have z3 := HZ.out.cell (j := 3) (show 3 < 4 by decide)
      have y0 := HZ.out.frozen 0; have y1 := HZ.out.frozen 1; have y2 := HZ.out.frozen 2; have y3 := HZ.out.frozen 3
      simp only [List.getElem_cons_zero, List.getElem_cons_succ] at z0 z1 z2 z3
      go_simp
      refine hK.out _ _ ?_ (fun hHeld => ?_)
      ·exact fs_store hHeld hD10 hqb10 hzz
      clear hK K
      try simp only [Act.put, List.setIfInBounds_toArray, List.set_cons_zero, List.set_cons_succ]
      refine wpAnyH_take (i := 15) (oi := { dst := some 24, op := _, type := _, pos := _, after := _, guard := _ }) (v := ?_) rfl (by kernel_rfl) (by kernel_rfl) (by kernel_rfl) (fun _ _ _ h => h) (Or.inl ⟨by rfl, ?_⟩) (by assumption) ?_
      rotate_left
      ·intro w hSw
       try dsimp only at hSw
       go_simp
       try with_reducible rfl
      try simp only [Act.put, List.setIfInBounds_toArray, List.set_cons_zero, List.set_cons_succ]
      refine wpAnyH_done (by kernel_rfl) ?_ _
      refine NoPanic.normal ?_
      go_wp2_with fail
      go_meet
      exact ⟨co, rfl, hco, hHeld.2.2.2.2.2⟩
     exact AllReadyH.nil
    exact AllReadyH.nil
   exact AllReadyH.nil
  refine AllReadyH.cons (o := { dst := some 23, op := _, type := _, pos := _, after := _, guard := _ }) rfl (fun K hK => ?_) ?_
  ·have hVs0 := hHeld.2.2.2.2.2.size
   go_simp
   refine hK.out _ _ ?_ (fun hHeld => ?_)
   ·exact fs_keep hHeld ((Below.refl _ V0).alloc (Nat.le_refl _) _)
   clear hK K
   have HZ := Lib.hid (show Blk (V0.alloc (.cells #[.string ⟨#[]⟩, .int .i64 0, .slice none 0 0, .slice none 0 0] 39)) V0.heap.size 39 [.string ⟨#[]⟩, .int .i64 0, .slice none 0 0, .slice none 0 0] from heap_alloc_new V0 _)
   have hzz : w10.heap.size ≤ V0.heap.size := hVs0
   generalize V0.alloc (.cells #[.string ⟨#[]⟩, .int .i64 0, .slice none 0 0, .slice none 0 0] 39) = V1 at HZ hHeld ⊢
   generalize V0.heap.size = zb at HZ hzz ⊢
   try simp only [Act.put, List.setIfInBounds_toArray, List.set_cons_zero, List.set_cons_succ]
   refine wpAnyH_ready (rs := [7]) (by kernel_rfl) (by simp) ?_
   refine AllReadyH.cons (o := { dst := some 147, op := _, type := _, pos := _, after := _, guard := _ }) rfl (fun K hK => ?_) ?_
   ·go_simp
    refine hK.out _ _ ?_ (fun hHeld => ?_)
    ·exact fs_keep hHeld ((Below.refl _ V1).alloc (Nat.le_refl _) _)
    clear hK K
    have HT := Lib.hid (strL_new V1 (s ++ xS))
    have HV2 := Lib.hid ((((Below.refl _ V1).alloc (Nat.le_refl _) _) : Below V1.heap.size V1 (V1.alloc (.cells #[.string (s ++ ⟨#[120]⟩)] 9))))
    have HZ := Lib.hid (HZ.out.below HV2.out)
    clear HV2
    unfold xS at HT
    generalize V1.alloc (.cells #[.string (s ++ ⟨#[120]⟩)] 9) = V2 at HT HZ hHeld ⊢
    try simp only [Act.put, List.setIfInBounds_toArray, List.set_cons_zero, List.set_cons_succ]
    refine wpAnyH_ready (rs := [9]) (by kernel_rfl) (by simp) ?_
    refine AllReadyH.cons (o := { dst := some 149, op := _, type := _, pos := _, after := _, guard := _ }) rfl (fun K hK => ?_) ?_
    ·go_simp
     go_at_call 12
     (refine (HPUT.out _ hHeld.2.2.2.2.2 _ HT.out).mono ?_)
     rintro e V3 ⟨a0, a1, p2, n2, c2, p3, n3, c3, co, rfl, hco, hb9⟩
     have hS9 : V3.cell? ⟨D, 0, none⟩ = some (.string root) ∧ V3.cell? ⟨D, 1, none⟩ = some (.int .i64 N) ∧ V3.cell? ⟨D, 2, none⟩ = some (.slice cp N cc) ∧ V3.cell? ⟨D, 3, none⟩ = some (.slice hp N hc) ∧ V3.cell? ⟨qb, qo + i, none⟩ = some (.string s) ∧ Below w10.heap.size w10 V3 := fs_keep hHeld hb9
     have HZ := Lib.hid (HZ.out.below hb9)
     clear hb9
     go_simp
     refine hK.out _ _ ?_ (fun hHeld => ?_)
     ·exact hS9
     clear hK K
     clear hS9
     try simp only [Act.put, List.setIfInBounds_toArray, List.set_cons_zero, List.set_cons_succ]
     refine wpAnyH_take (i := 10) (oi := { dst := some 139, op := _, type := _, pos := _, after := _, guard := _ }) (v := ?_) rfl (by kernel_rfl) (by kernel_rfl) (by kernel_rfl) (fun _ _ _ h => h) (Or.inl ⟨by rfl, ?_⟩) (by assumption) ?_
     rotate_left
     ·intro w hSw
      try dsimp only at hSw
      go_simp
      try with_reducible rfl
     try simp only [Act.put, List.setIfInBounds_toArray, List.set_cons_zero, List.set_cons_succ]
     refine wpAnyH_take (i := 11) (oi := { dst := some 150, op := _, type := _, pos := _, after := _, guard := _ }) (v := ?_) rfl (by kernel_rfl) (by kernel_rfl) (by kernel_rfl) (fun _ _ _ h => h) (Or.inl ⟨by rfl, ?_⟩) (by assumption) ?_
     rotate_left
     ·intro w hSw
      try dsimp only at hSw
      go_simp
      try with_reducible rfl
     try simp only [Act.put, List.setIfInBounds_toArray, List.set_cons_zero, List.set_cons_succ]
     refine wpAnyH_take (i := 12) (oi := { dst := some 151, op := _, type := _, pos := _, after := _, guard := _ }) (v := ?_) rfl (by kernel_rfl) (by kernel_rfl) (by kernel_rfl) (fun _ _ _ h => h) (Or.inl ⟨by rfl, ?_⟩) (by assumption) ?_
     rotate_left
     ·intro w hSw
      try dsimp only at hSw
      go_simp
      try with_reducible rfl
     try simp only [Act.put, List.setIfInBounds_toArray, List.set_cons_zero, List.set_cons_succ]
     refine wpAnyH_ready (rs := [14]) (by kernel_rfl) (by simp) ?_
     refine AllReadyH.cons (o := { dst := none, op := _, type := _, pos := _, after := _, guard := _ }) rfl (fun K hK => ?_) ?_
     ·have z0 := HZ.out.cell (j := 0) (show 0 < 4 by decide); have z1 := HZ.out.cell (j := 1) (show 1 < 4 by decide); have z2 := HZ.out.cell (j := 2) (show 2 < 4 by decide); have z3 := HZ.out.cell (j := 3) (show 3 < 4 by decide)
      have y0 := HZ.out.frozen 0; have y1 := HZ.out.frozen 1; have y2 := HZ.out.frozen 2; have y3 := HZ.out.frozen 3
      simp only [List.getElem_cons_zero, List.getElem_cons_succ] at z0 z1 z2 z3
      go_simp
      refine hK.out _ _ ?_ (fun hHeld => ?_)
      ·exact fs_store hHeld hD10 hqb10 hzz
      clear hK K
      try simp only [Act.put, List.setIfInBounds_toArray, List.set_cons_zero, List.set_cons_succ]
      refine wpAnyH_take (i := 15) (oi := { dst := some 24, op := _, type := _, pos := _, after := _, guard := _ }) (v := ?_) rfl (by kernel_rfl) (by kernel_rfl) (by kernel_rfl) (fun _ _ _ h => h) (Or.inl ⟨by rfl, ?_⟩) (by assumption) ?_
      rotate_left
      ·intro w hSw
       try dsimp only at hSw
       go_simp
       try with_reducible rfl
      try simp only [Act.put, List.setIfInBounds_toArray, List.set_cons_zero, List.set_cons_succ]
      refine wpAnyH_done (by kernel_rfl) ?_ _
      refine NoPanic.normal ?_
      go_wp2_with fail
      go_meet
      exact ⟨co, rfl, hco, hHeld.2.2.2.2.2⟩
     exact AllReadyH.nil
    exact AllReadyH.nil
   exact AllReadyH.nil
  exact AllReadyH.nil
 case rest =>
  obtain ⟨co, rfl, hco, hbx⟩ := hcut
  rename World => W11
  clear c0 c1 c2 c3 dq
  have HB11 := Lib.hid (HB10.out.trans (hbx.mono HB10.out.size))
  have HF11 := Lib.hid (HF10.out.below hbx)
  have HS11 := Lib.hid (HS10.out.below hbx)
  have HG11 := Lib.hid (HG10.out.below hbx)
  have dq : W11.cell? ⟨qb, qo + i, none⟩ = some (.string s) := by
   have h1 := (HS8.out.below HB11.out).cell (j := i) (by rw [← HNE.out]; exact hiN)
   rw [h1]
   have h2 := HVC.out
   rw [List.getElem?_eq_getElem (by rw [← HNE.out]; exact hiN)] at h2
   injection h2 with h2
   rw [h2]
  have HCO := Lib.hid hco
  clear hbx HB10 HF10 HS10 HG10 hco
  go_upto_if 153 with fail
  go_cut [] (fun wx => Below W11.heap.size W11 wx)
  case first =>
   by_cases hc : co = 16
   ·subst hc
    go_wp2_with fail
    go_meet
    exact Below.refl _ _
   ·obtain ⟨h1, h2⟩ := HFG.out (HCO.out.resolve_left hc)
    have HCL := Lib.hid (fun W (hb : Below W11.heap.size W11 W) => collision_ex N i s (s ++ xS) p10 pf.length c10 pf W (by omega) hiN (by omega) hsx (forge_ne s) rfl hc10 h1 (by omega) HPD.out (HS11.out.below hb) (HG11.out.below hb) h2)
    clear h1 h2
    go_upto_region 32 with fail
    go_region_law (go_simp; go_at_call 14; go_loud (refine (HCL.out _ (below_drew _)).mono ?_; rintro e w14 ⟨x, y, rfl, hne, heq, hxs, hys, hb14⟩; have HB14 := Lib.hid ((below_drew W11).trans hb14); have HX := Lib.hid (fun W => hex_ex x W hxs); have HY := Lib.hid (fun W => hex_ex y W hys); rw [← heq] at HY; have hbq : ((hexF x).toList == (hexF x).toList) = true := beq_str rfl; have hbn : (x.toList == y.toList) = false := bne_str hne; generalize hexF x = hx at HX HY hbq; clear hne heq hxs hys hb14))
    all_goals
     go_wp2_with (first
      | (go_at_call 15; (with_reducible refine (HX.out _).mono ?_); go_loud (rintro e w15 ⟨rfl, hb15⟩; have HB15 := Lib.hid (HB14.out.trans (hb15.mono HB14.out.size)); clear hb15))
      | (go_at_call 15; (with_reducible refine (HY.out _).mono ?_); go_loud (rintro e w16 ⟨rfl, hb16⟩; have HB16 := Lib.hid (HB15.out.trans (hb16.mono HB15.out.size)); clear hb16)))
     go_meet
     exact HB16.out
  case rest =>
   rename World => W12
   have HB12 := Lib.hid (HB11.out.trans (hcut.mono HB11.out.size))
   have HF12 := Lib.hid (HF11.out.below hcut)
   apply_assumption
   exact tail35 HXX.out HF12.out HB12.out (by kernel_rfl) _ _ _ _ _ _ _ _ _ _ _ _ _ _ _ _ _ _ _ _ _ _ _ _ _ _ _ _ _ _ _ _ _ _ _ _ _ _ _ _ _ _ _ _ _ _ _ _ _ _ _ _ _ _ _ _ _ _ _ _ _ _ _ _ _ _ _ _ _ _ _ _ _ _ _ _ _ _ _ _ _ _ _ _ _ _ _ _ _ _ _ _ _ _ _ _ _ _ _ _ _ _ _ _ _ _ _ _ _ _ _ _ _ _ _ _ _ _ _ _ _ _ _ _ _ _ _ _ _ _ _ _ _ _ _ _ _ _ _ _ _ _ _ _ _ _ _ _ _ _ _ _ _ _ _ _ _ _ _ _ _ _ _ _ _ _ _ _ _ _ _ _ _ _ _ _ _ _ _ _ _ _ _ _ _ _ _ _ _ _ _ _ _ _ _ _ _ _ _ _ _ _ _ _ _ _ _ _ _ _ _ _ _ _ _ _ _ _ _ _ _ _ _ _ _ _ _ _ _ _ _ _ _ _ _ _ _ _ _ _ _ _ _ _
end Go.Proofs.YtnaglmigkbbljaaGreatDoor
