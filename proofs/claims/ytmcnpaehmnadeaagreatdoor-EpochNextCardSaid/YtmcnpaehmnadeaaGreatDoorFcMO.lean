/-
  EpochNext: set.Compare once more, with what it draws and lays told.
-/
import Derived.Test.YtmcnpaehmnadeaaGreatDoorFcEL
import Derived.Lib.Tables
import Derived.Sort.Grow
import Derived.Test.YtmcnpaehmnadeaaGreatDoorFdA
import Derived.Shelf.SlSortCmp.NoneTotal
set_option maxHeartbeats 6400000
set_option maxRecDepth 1000000
namespace Go.Proofs.YtmcnpaehmnadeaaGreatDoor
open Go Go.RowKit Go.Sort
def BelowD (w w' : World) : Prop := Below w.heap.size w w' ∧ w.drawn ≤ w'.drawn
theorem BelowD.trans {a b c : World} (h : BelowD a b) (k : BelowD b c) : BelowD a c := ⟨h.1.trans (k.1.mono h.1.size), Nat.le_trans h.2 k.2⟩
theorem BelowD.grown {w w' : World} (h : BelowD w w') : ∃ q os', w' = grow (w.drewN q) os' := by
 obtain ⟨⟨h1, h2, h3, h4, h5⟩, h6⟩ := h
 refine ⟨w'.drawn - w.drawn, w'.heap.extract w.heap.size w'.heap.size, ?_⟩
 obtain ⟨hp, tp, dr, os, ou⟩ := w'
 simp only at h1 h2 h3 h4 h5 h6
 subst h1 h2 h3
 unfold grow World.drewN
 simp only [World.mk.injEq, true_and, and_true]
 refine ⟨?_, by omega⟩
 apply Array.ext_getElem?
 intro i
 by_cases hi : i < w.heap.size
 ·rw [h5 i hi, Array.getElem?_append_left hi]
 ·rw [Array.getElem?_append_right (by omega), Array.getElem?_extract]
  by_cases hj : i < hp.size
  ·rw [if_pos (by omega)]
   congr 1
   omega
  ·rw [if_neg (by omega), Array.getElem?_eq_none (by omega)]
theorem BelowD.drewN (w : World) (q : Nat) : BelowD w (w.drewN q) := ⟨⟨rfl, rfl, rfl, Nat.le_refl _, fun _ _ => rfl⟩, Nat.le_add_right _ _⟩
theorem BelowD.alloc (w : World) (o : Obj) : BelowD w (w.alloc o) := ⟨(Below.refl _ _).alloc (Nat.le_refl _) _, Nat.le_refl _⟩
def IsID (n : Int) (w : World) (e : Ending) (w' : World) : Prop := e = .returned (.int .i64 n) ∧ BelowD w w'
theorem and255 (x : Nat) (hx : x < 65536) : bits BinOp.and .u16 (x : Int) 255 = ((x % 256 : Nat) : Int) := by
 have h2 := (bits_nat .u16 16 (by decide) (fun n h0 h1 => by simp [IntKind.wrap, IntKind.bits, IntKind.signed]; omega) x 255 hx (by decide)).1
 rw [show ((255 : Nat) : Int) = 255 from rfl] at h2
 rw [h2, show x &&& 255 = x % 256 from Nat.and_two_pow_sub_one_eq_mod x 8]
theorem pop8T : ((List.range 256).all fun s => ((Lib.pop8tab[s]?).getD 0).toNat == popF s 8) = true := by kernel_rfl
theorem popF_same {x s : Nat} : ∀ n, (∀ k, k < n → x.testBit k = s.testBit k) → popF x n = popF s n
 | 0, _ => rfl
 | n + 1, h => by
  rw [popF, popF, popF_same n fun k hk => h k (by omega), bit_mod, bit_mod, h n (Nat.lt_succ_self n)]
theorem popF_split (x : Nat) : ∀ k, popF x (8 + k) = popF (x % 256) 8 + popF (x / 256) k
 | 0 => by
  rw [show popF (x / 256) 0 = 0 from rfl, Nat.add_zero, Nat.add_zero]
  refine popF_same 8 fun k hk => ?_
  rw [show (256 : Nat) = 2 ^ 8 from rfl, Nat.testBit_mod_two_pow]
  simp [hk]
 | k + 1 => by
  show popF x (8 + k) + (x >>> (8 + k)) % 2 = popF (x % 256) 8 + (popF (x / 256) k + ((x / 256) >>> k) % 2)
  rw [popF_split x k, Nat.shiftRight_add, show x >>> 8 = x / 256 from Nat.shiftRight_eq_div_pow x 8, Nat.add_assoc]
theorem pop8_one {n : Nat} (h : n < 256) : Lib.pop8 (n : Int) = (popF n 8 : Nat) := by
 have h1 := eq_of_beq (List.all_eq_true.mp pop8T n (by simpa using h))
 rw [← h1]
 unfold Lib.pop8
 rw [Int.toNat_natCast]
theorem pop8_eq {x : Nat} (hx : x < 65536) : (Lib.pop8 ((x : Int) / 256) + Lib.pop8 ((x % 256 : Nat) : Int)) % 256 = (popF x 16 : Nat) := by
 rw [show (x : Int) / 256 = ((x / 256 : Nat) : Int) by omega, pop8_one (by omega), pop8_one (by omega), show popF x 16 = popF (x % 256) 8 + popF (x / 256) 8 from popF_split x 8]
 have h1 := popF_le (x % 256) 8
 have h2 := popF_le (x / 256) 8
 omega
theorem ones_d (x : Nat) (hx : x < 4096) (w : World) : Calls Tryz.prog 176 #[.int .u16 (x : Int)] w (IsID (popF x 16 : Nat) w) := by
 have e1 : (0 : Int) ≤ (x : Int) / 256 := by omega
 have e2 : (x : Int) / 256 ≤ 255 := by omega
 have e3 := and255 x (by omega)
 have e4 : (0 : Int) ≤ bits BinOp.and .u16 (x : Int) 255 := by rw [e3]; omega
 have e5 : bits BinOp.and .u16 (x : Int) 255 ≤ 255 := by rw [e3]; omega
 have HE := Lib.hid e3
 clear e3
 go_enter Tryz.func176, Tryz.ntmps176
 go_upto_region 1 with fail
 go_quiet (fail)
 go_wp2_with fail
 go_ret
 refine ⟨?_, BelowD.drewN _ _⟩
 show Ending.returned (.int .i64 _) = _
 rw [HE.out, pop8_eq (by omega)]
theorem count_d (x : Nat) (hx : x < 4096) (w : World) : Calls Tryz.prog 161 #[.int .u16 (x : Int)] w (IsID (popF x 16 : Nat) w) := by
 go_enter Tryz.func161, Tryz.ntmps161
 go_wp2_with (go_at_call 176; refine (ones_d x hx _).mono ?_; rintro e w1 ⟨rfl, hb1⟩)
 go_ret
 exact ⟨rfl, hb1⟩
theorem compareSet_d (a b : Nat) (ha : a < 4096) (hb : b < 4096) (w : World) : Calls Tryz.prog 131 #[.int .u16 (a : Int), .int .u16 (b : Int)] w (IsID (cmpS a b) w) := by
 go_enter Tryz.func131, Tryz.ntmps131
 go_wp2_with (first
  | (go_at_call 161; (with_reducible refine (count_d a ha _).mono ?_); rintro e w1 ⟨rfl, hb1⟩; have HB1 := Lib.hid hb1; clear hb1)
  | (go_at_call 161; (with_reducible refine (count_d b hb _).mono ?_); rintro e w2 ⟨rfl, hb2⟩; have HB2 := Lib.hid (HB1.out.trans hb2); clear hb2)
  | (go_at_call 160; (with_reducible refine (cmpI_ex _ _ _).mono ?_); rintro e w3 ⟨rfl, rfl⟩)
  | (go_at_call 162; (with_reducible refine (cmpU_ex _ _ _).mono ?_); rintro e w4 ⟨rfl, rfl⟩)
  | (go_at_call 159; (refine (cmpOr_ex _ _ (cmpI (popF a 16) (popF b 16)) (cmpI a b) _ (cellOf (heap_alloc_new _ _) rfl) (cellOf (heap_alloc_new _ _) rfl)).mono ?_); rintro e w5 ⟨rfl, rfl⟩))
 go_ret
 exact ⟨rfl, HB2.out.trans (BelowD.alloc _ _)⟩
theorem BelowD.drew (W : World) : BelowD W W.drew := ⟨below_drew W, Nat.le_succ _⟩
def TD (w : World) (a b c d : Int) (A : Nat) (W : World) : Prop := TF w a b c d A W ∧ w.drawn ≤ W.drawn
theorem TD.below {w : World} {a b c d : Int} {A : Nat} {W W' : World} (h : TD w a b c d A W) (hb : BelowD W W') : TD w a b c d A W' := ⟨h.1.below hb.1, Nat.le_trans h.2 hb.2⟩
theorem tdS {w : World} {a b c d : Int} {A : Nat} {W : World} (h : TD w a b c d A W) : W.cell? ⟨A, 0, none⟩ = some (.int .u16 a) ∧ W.cell? ⟨A, 1, none⟩ = some (.int .u16 b) ∧ W.cell? ⟨A + 1, 0, none⟩ = some (.int .u16 c) ∧ W.cell? ⟨A + 1, 1, none⟩ = some (.int .u16 d) ∧ TD w a b c d A W :=
 ⟨cellOf h.1.fa rfl, cellOf h.1.fa rfl, cellOf h.1.fb rfl, cellOf h.1.fb rfl, h⟩
theorem compareF_d (a b c d : Nat) (ha : a < 4096) (hb : b < 4096) (hc : c < 4096) (hd : d < 4096) (w : World) : Calls Tryz.prog 130 #[.agg #[.int .u16 (a : Int), .int .u16 (b : Int)], .agg #[.int .u16 (c : Int), .int .u16 (d : Int)]] w (IsID (cmpF a b c d) w) := by
 have HT := Lib.hid (show TD w (a : Int) (b : Int) (c : Int) (d : Int) w.heap.size ((w.alloc (.cells #[.int .u16 (a : Int), .int .u16 (b : Int)] 69)).alloc (.cells #[.int .u16 (c : Int), .int .u16 (d : Int)] 69)) from ⟨⟨heap_alloc2_old w _ _, heap_alloc2_new w _ _, ((Below.refl _ _).alloc (Nat.le_refl _) _).alloc (by simp) _⟩, Nat.le_refl _⟩)
 go_enter Tryz.func130, Tryz.ntmps130
 go_upto_region 1 with fail
 revert HT
 generalize (w.alloc (.cells #[.int .u16 (a : Int), .int .u16 (b : Int)] 69)).alloc (.cells #[.int .u16 (c : Int), .int .u16 (d : Int)] 69) = W0
 generalize w.heap.size = A
 intro HT
 go_region_held3 (fun W => W.cell? ⟨A, 0, none⟩ = some (.int .u16 (a : Int)) ∧ W.cell? ⟨A, 1, none⟩ = some (.int .u16 (b : Int)) ∧ W.cell? ⟨A + 1, 0, none⟩ = some (.int .u16 (c : Int)) ∧ W.cell? ⟨A + 1, 1, none⟩ = some (.int .u16 (d : Int)) ∧ TD w (a : Int) (b : Int) (c : Int) (d : Int) A W)
  (first | exact tdS HT.out | exact tdS (HT.out.below (BelowD.drew _)) | exact tdS hT1 | exact tdS hT2 | exact tdS (hT2.below (BelowD.alloc _ _)))
  (first
   | (go_at_call 131; (with_reducible refine (compareSet_d a c ha hc _).mono ?_); rintro e w1 ⟨rfl, hb1⟩; have hT1 := (HT.out.below (BelowD.drew _)).below hb1)
   | (go_at_call 131; (with_reducible refine (compareSet_d b d hb hd _).mono ?_); rintro e w2 ⟨rfl, hb2⟩; have hT2 := hT1.below hb2)
   | (go_at_call 159; refine (cmpOr_ex _ _ (cmpS a c) (cmpS b d) _ (cellOf (heap_alloc_new _ _) rfl) (cellOf (heap_alloc_new _ _) rfl)).mono ?_; rintro e w3 ⟨rfl, rfl⟩))
 go_wp2_with fail
 go_ret
 exact ⟨rfl, (hT2.below (BelowD.alloc _ _)).1.bl, (hT2.below (BelowD.alloc _ _)).2⟩
end Go.Proofs.YtmcnpaehmnadeaaGreatDoor
/-
  EpochNext: slices.SortFunc at sets and at faults, laid out of the kit's shelf.
-/
namespace Go.Proofs
open Go.Shelf Go.RowKit Go.Lib Go.Sort
def Tryz.sortSet_ren : Go.Shelf.Ren := ⟨fun | 6 => 132 | 15 => 164 | 14 => 163 | 28 => 186 | 29 => 171 | 20 => 178 | 21 => 179 | 22 => 180 | 23 => 181 | 24 => 182 | 25 => 183 | 26 => 184 | 27 => 185 | 46 => 198 | 47 => 199 | 48 => 200 | 49 => 201 | 50 => 202 | 57 => 206 | n => n, fun | 22 => 46 | 24 => 28 | 25 => 151 | 3 => 3 | 39 => 79 | 0 => 0 | 53 => 198 | 55 => 124 | 4 => 4 | 46 => 204 | 45 => 203 | 50 => 208 | 5 => 5 | 9 => 9 | 66 => 217 | 70 => 221 | 76 => 227 | 77 => 118 | n => n, fun | n => n⟩
theorem Tryz.sortSet : Go.Proofs.SlLaysF.n6 Tryz.prog Tryz.sortSet_ren := {
  mixed := by kernel_rfl
  f6 := ⟨Tryz.f132.name, by decide, Tryz.func132.trans (congrArg some (by kernel_rfl))⟩
  f14 := ⟨Tryz.f163.name, by decide, Tryz.func163.trans (congrArg some (by kernel_rfl))⟩
  f15 := Tryz.func164.trans (congrArg some (by kernel_rfl))
  f20 := ⟨Tryz.f178.name, by decide, Tryz.func178.trans (congrArg some (by kernel_rfl))⟩
  f21 := ⟨Tryz.f179.name, by decide, Tryz.func179.trans (congrArg some (by kernel_rfl))⟩
  f22 := ⟨Tryz.f180.name, by decide, Tryz.func180.trans (congrArg some (by kernel_rfl))⟩
  f23 := ⟨Tryz.f181.name, by decide, Tryz.func181.trans (congrArg some (by kernel_rfl))⟩
  f24 := ⟨Tryz.f182.name, by decide, Tryz.func182.trans (congrArg some (by kernel_rfl))⟩
  f25 := ⟨Tryz.f183.name, by decide, Tryz.func183.trans (congrArg some (by kernel_rfl))⟩
  f26 := ⟨Tryz.f184.name, by decide, Tryz.func184.trans (congrArg some (by kernel_rfl))⟩
  f27 := ⟨Tryz.f185.name, by decide, Tryz.func185.trans (congrArg some (by kernel_rfl))⟩
  f28 := Tryz.func186.trans (congrArg some (by kernel_rfl))
  f29 := Tryz.func171.trans (congrArg some (by kernel_rfl))
  f46 := ⟨Tryz.f198.name, by decide, Tryz.func198.trans (congrArg some (by kernel_rfl))⟩
  f47 := Tryz.func199.trans (congrArg some (by kernel_rfl))
  f48 := Tryz.func200.trans (congrArg some (by kernel_rfl))
  f49 := ⟨Tryz.f201.name, by decide, Tryz.func201.trans (congrArg some (by kernel_rfl))⟩
  f50 := ⟨Tryz.f202.name, by decide, Tryz.func202.trans (congrArg some (by kernel_rfl))⟩
  f57 := ⟨Tryz.f206.name, by decide, Tryz.func206.trans (congrArg some (by kernel_rfl))⟩
  t0 := Tryz.underlying0
  a0 := Tryz.isAgg0
  z0 := Tryz.sizeOf0
  v0 := Tryz.zeroValue0
  t3 := Tryz.underlying3
  a3 := Tryz.isAgg3
  z3 := Tryz.sizeOf3
  v3 := Tryz.zeroValue3
  t4 := Tryz.underlying4
  a4 := Tryz.isAgg4
  z4 := Tryz.sizeOf4
  v4 := Tryz.zeroValue4
  t5 := Tryz.underlying5
  a5 := Tryz.isAgg5
  z5 := Tryz.sizeOf5
  v5 := Tryz.zeroValue5
  t9 := Tryz.underlying9
  a9 := Tryz.isAgg9
  z9 := Tryz.sizeOf9
  v9 := Tryz.zeroValue9
  t22 := Tryz.underlying46
  a22 := Tryz.isAgg46
  z22 := Tryz.sizeOf46
  v22 := Tryz.zeroValue46
  a24 := Tryz.isAgg28
  z24 := Tryz.sizeOf28
  t25 := Tryz.underlying151
  a25 := Tryz.isAgg151
  z25 := Tryz.sizeOf151
  v25 := Tryz.zeroValue151
  t39 := Tryz.underlying79
  a39 := Tryz.isAgg79
  z39 := Tryz.sizeOf79
  v39 := Tryz.zeroValue79
  t45 := Tryz.underlying203
  a45 := Tryz.isAgg203
  z45 := Tryz.sizeOf203
  v45 := Tryz.zeroValue203
  t46 := Tryz.underlying204
  a46 := Tryz.isAgg204
  z46 := Tryz.sizeOf204
  v46 := Tryz.zeroValue204
  t50 := Tryz.underlying208
  a50 := Tryz.isAgg208
  z50 := Tryz.sizeOf208
  v50 := Tryz.zeroValue208
  t53 := Tryz.underlying198
  a53 := Tryz.isAgg198
  z53 := Tryz.sizeOf198
  v53 := Tryz.zeroValue198
  t55 := Tryz.underlying124
  a55 := Tryz.isAgg124
  z55 := Tryz.sizeOf124
  v55 := Tryz.zeroValue124
  t66 := Tryz.underlying217
  a66 := Tryz.isAgg217
  z66 := Tryz.sizeOf217
  v66 := Tryz.zeroValue217
  t70 := Tryz.underlying221
  a70 := Tryz.isAgg221
  z70 := Tryz.sizeOf221
  v70 := Tryz.zeroValue221
  t76 := Tryz.underlying227
  a76 := Tryz.isAgg227
  z76 := Tryz.sizeOf227
  v76 := Tryz.zeroValue227
  t77 := Tryz.underlying118
  a77 := Tryz.isAgg118
  z77 := Tryz.sizeOf118
  v77 := Tryz.zeroValue118 }
def Tryz.sortFault_ren : Go.Shelf.Ren := ⟨fun | 6 => 138 | 15 => 164 | 14 => 166 | 28 => 186 | 29 => 171 | 20 => 187 | 21 => 188 | 22 => 189 | 23 => 190 | 24 => 191 | 25 => 192 | 26 => 193 | 27 => 194 | 46 => 203 | 47 => 199 | 48 => 200 | 49 => 204 | 50 => 205 | 57 => 207 | n => n, fun | 22 => 47 | 24 => 69 | 25 => 123 | 3 => 3 | 39 => 79 | 0 => 0 | 53 => 198 | 55 => 124 | 4 => 4 | 46 => 204 | 45 => 203 | 50 => 208 | 5 => 5 | 9 => 9 | 66 => 217 | 70 => 221 | 76 => 227 | 77 => 118 | n => n, fun | n => n⟩
theorem Tryz.sortFault : Go.Proofs.SlLaysF0.n6 Tryz.prog Tryz.sortFault_ren := {
  mixed := by kernel_rfl
  f6 := ⟨Tryz.f138.name, by decide, Tryz.func138.trans (congrArg some (by kernel_rfl))⟩
  f14 := ⟨Tryz.f166.name, by decide, Tryz.func166.trans (congrArg some (by kernel_rfl))⟩
  f15 := Tryz.func164.trans (congrArg some (by kernel_rfl))
  f20 := ⟨Tryz.f187.name, by decide, Tryz.func187.trans (congrArg some (by kernel_rfl))⟩
  f21 := ⟨Tryz.f188.name, by decide, Tryz.func188.trans (congrArg some (by kernel_rfl))⟩
  f22 := ⟨Tryz.f189.name, by decide, Tryz.func189.trans (congrArg some (by kernel_rfl))⟩
  f23 := ⟨Tryz.f190.name, by decide, Tryz.func190.trans (congrArg some (by kernel_rfl))⟩
  f24 := ⟨Tryz.f191.name, by decide, Tryz.func191.trans (congrArg some (by kernel_rfl))⟩
  f25 := ⟨Tryz.f192.name, by decide, Tryz.func192.trans (congrArg some (by kernel_rfl))⟩
  f26 := ⟨Tryz.f193.name, by decide, Tryz.func193.trans (congrArg some (by kernel_rfl))⟩
  f27 := ⟨Tryz.f194.name, by decide, Tryz.func194.trans (congrArg some (by kernel_rfl))⟩
  f28 := Tryz.func186.trans (congrArg some (by kernel_rfl))
  f29 := Tryz.func171.trans (congrArg some (by kernel_rfl))
  f46 := ⟨Tryz.f203.name, by decide, Tryz.func203.trans (congrArg some (by kernel_rfl))⟩
  f47 := Tryz.func199.trans (congrArg some (by kernel_rfl))
  f48 := Tryz.func200.trans (congrArg some (by kernel_rfl))
  f49 := ⟨Tryz.f204.name, by decide, Tryz.func204.trans (congrArg some (by kernel_rfl))⟩
  f50 := ⟨Tryz.f205.name, by decide, Tryz.func205.trans (congrArg some (by kernel_rfl))⟩
  f57 := ⟨Tryz.f207.name, by decide, Tryz.func207.trans (congrArg some (by kernel_rfl))⟩
  t0 := Tryz.underlying0
  a0 := Tryz.isAgg0
  z0 := Tryz.sizeOf0
  v0 := Tryz.zeroValue0
  t3 := Tryz.underlying3
  a3 := Tryz.isAgg3
  z3 := Tryz.sizeOf3
  v3 := Tryz.zeroValue3
  t4 := Tryz.underlying4
  a4 := Tryz.isAgg4
  z4 := Tryz.sizeOf4
  v4 := Tryz.zeroValue4
  t5 := Tryz.underlying5
  a5 := Tryz.isAgg5
  z5 := Tryz.sizeOf5
  v5 := Tryz.zeroValue5
  t9 := Tryz.underlying9
  a9 := Tryz.isAgg9
  z9 := Tryz.sizeOf9
  v9 := Tryz.zeroValue9
  t22 := Tryz.underlying47
  a22 := Tryz.isAgg47
  z22 := Tryz.sizeOf47
  v22 := Tryz.zeroValue47
  t25 := Tryz.underlying123
  a25 := Tryz.isAgg123
  z25 := Tryz.sizeOf123
  v25 := Tryz.zeroValue123
  t39 := Tryz.underlying79
  a39 := Tryz.isAgg79
  z39 := Tryz.sizeOf79
  v39 := Tryz.zeroValue79
  t45 := Tryz.underlying203
  a45 := Tryz.isAgg203
  z45 := Tryz.sizeOf203
  v45 := Tryz.zeroValue203
  t46 := Tryz.underlying204
  a46 := Tryz.isAgg204
  z46 := Tryz.sizeOf204
  v46 := Tryz.zeroValue204
  t50 := Tryz.underlying208
  a50 := Tryz.isAgg208
  z50 := Tryz.sizeOf208
  v50 := Tryz.zeroValue208
  t53 := Tryz.underlying198
  a53 := Tryz.isAgg198
  z53 := Tryz.sizeOf198
  v53 := Tryz.zeroValue198
  t55 := Tryz.underlying124
  a55 := Tryz.isAgg124
  z55 := Tryz.sizeOf124
  v55 := Tryz.zeroValue124
  t66 := Tryz.underlying217
  a66 := Tryz.isAgg217
  z66 := Tryz.sizeOf217
  v66 := Tryz.zeroValue217
  t70 := Tryz.underlying221
  a70 := Tryz.isAgg221
  z70 := Tryz.sizeOf221
  v70 := Tryz.zeroValue221
  t76 := Tryz.underlying227
  a76 := Tryz.isAgg227
  z76 := Tryz.sizeOf227
  v76 := Tryz.zeroValue227
  t77 := Tryz.underlying118
  a77 := Tryz.isAgg118
  z77 := Tryz.sizeOf118
  v77 := Tryz.zeroValue118 }
end Go.Proofs
namespace Go.Proofs.YtmcnpaehmnadeaaGreatDoor
open Go Go.RowKit Go.Shelf Go.Sort
theorem heap_sortG {α : Type} [Inhabited α] (enc : α → Value) {w : World} {g n : Nat} {os : Array Obj} {cur : Array Value} {e : TypeId} {fr : Nat × Nat} (d : Array α) (hb : w.heap[g]? = some (.cells cur e fr)) :
  (sortWorld enc w g 0 n d os).heap[g]? = some (.cells (putCells enc 0 d cur) e fr) := by
 have hg : g < w.heap.size := (Array.getElem?_eq_some_iff.1 hb).1
 unfold sortWorld
 rw [heap_grow_old _ _ (by simpa using hg)]
 simp [putRow, mapBlock, Sort.ahead, Array.getElem?_modify, hb, onCells]
theorem grownBy_sortG {α : Type} [Inhabited α] (enc : α → Value) {w : World} {g n : Nat} {os : Array Obj} (d : Array α) : w.grownBy (sortWorld enc w g 0 n d os) (some g) := by
 unfold sortWorld
 refine ⟨rfl, rfl, rfl, by simp, fun k hk hne => ?_⟩
 rw [heap_grow_old _ _ (by simpa using hk)]
 have : g ≠ k := fun e => hne (by rw [e])
 simp [putRow, mapBlock, Sort.ahead, Array.getElem?_modify, this]
theorem take_putG {α : Type} [Inhabited α] (enc : α → Value) (cur : Array Value) (ts : List α) (h : ts.length ≤ cur.size) : (putCells enc 0 ts.toArray cur).toList.take ts.length = ts.map enc := by
 apply List.ext_getElem?
 intro j
 by_cases hj : j < ts.length
 ·rw [List.getElem?_take_of_lt hj, Array.getElem?_toList]
  simp [putCells, hj, show j < cur.size by omega]
 ·rw [List.getElem?_take_eq_none (by omega), List.getElem?_eq_none (by simp; omega)]
abbrev S12 := {x : Nat // x < 4096}
instance : Inhabited S12 := ⟨⟨0, by decide⟩⟩
def encS (x : S12) : Value := .int .u16 (x.1 : Int)
def cfS (x y : S12) : Int := cmpS x.1 y.1
theorem swoS : SWO (ltOf cfS) where
 irrefl x := decide_eq_false (cmp_irrefl _)
 trans x y z h1 h2 := decide_eq_true (cmpS_trans (of_decide_eq_true h1) (of_decide_eq_true h2))
 ntrans x y z h1 h2 := decide_eq_false (by
  have h3 : ¬ cmpS x.1 y.1 < 0 := of_decide_eq_false h1
  have h4 : ¬ cmpS y.1 z.1 < 0 := of_decide_eq_false h2
  show ¬ cmpS x.1 z.1 < 0
  rw [cmpS_lt] at *
  omega)
theorem totS (x y : S12) (h1 : ltOf cfS x y = false) (h2 : ltOf cfS y x = false) : x = y := by
 have h3 : ¬ cmpS x.1 y.1 < 0 := of_decide_eq_false h1
 have h4 : ¬ cmpS y.1 x.1 < 0 := of_decide_eq_false h2
 rw [cmpS_lt] at *
 apply Subtype.ext
 omega
theorem cmpLaysS (blk off size : Nat) (w : World) : CmpLays1 Tryz.prog 131 #[] encS cfS blk off size w :=
 fun _ _ _ _ x y => (compareSet_d x.1 y.1 x.2 y.2 _).mono fun _ _ h => ⟨h.1, h.2.grown⟩
def toS (l : List Nat) (h : ∀ x ∈ l, x < 4096) : List S12 := l.pmap (fun x hx => ⟨x, hx⟩) h
theorem toS_val (l : List Nat) (h : ∀ x ∈ l, x < 4096) : (toS l h).map Subtype.val = l := by
 unfold toS
 rw [List.map_pmap]
 simp
theorem enc_val (d : List S12) : d.map encS = u16N (d.map Subtype.val) := by
 simp [u16N, encS]
def SortRet (base g cap : Nat) (l : List Nat) (w : World) (e : Ending) (w' : World) : Prop :=
 e = .returned (.tuple #[]) ∧ ∃ l' : List Nat, l'.length = l.length ∧ (∀ y, y ∈ l' ↔ y ∈ l) ∧ (l.Nodup → Asc l') ∧ w'.ownsRow base 28 1 (.slice (some ⟨g, 0, none⟩) l.length cap) l.length (u16N l') ∧ w.grownBy w' (some g)
theorem sortSet_ex (base g cap : Nat) (l : List Nat) (w : World) (h4 : ∀ x ∈ l, x < 4096) (hl : l.length ≤ 200000) (hown : w.ownsRow base 28 1 (.slice (some ⟨g, 0, none⟩) l.length cap) l.length (u16N l)) :
  Calls Tryz.prog 132 #[.slice (some ⟨g, 0, none⟩) l.length cap, .func (.func 131) #[] #[]] w (SortRet base g cap l w) := by
 rcases hown.2 with ⟨h0, _⟩ | ⟨g', cap', cur, h1, hbase, hc, hcap, hmax, hsz, hx⟩
 ·cases h0
 ·obtain ⟨rfl, rfl⟩ : g = g' ∧ cap = cap' := by
   injection h1 with h1 _ h2
   injection h1 with h1
   injection h1 with h1
   exact ⟨h1, h2⟩
  have hds : (toS l h4).toArray.size = l.length := by simp [toS]
  have eg : ∀ args w, (callFunc 131 args).run Tryz.prog w = .ok (.enter 131 args) w := enters_of Tryz.func131 (by kernel_rfl) rfl
  have hH : Holds encS w g 0 (toS l h4).toArray := fun j hj => by
   rw [hds] at hj
   have h2 := congrArg (fun z => z[j]?) hx
   rw [Nat.mul_one, List.getElem?_take_of_lt hj, Array.getElem?_toList] at h2
   refine ⟨?_, frozenOf hc⟩
   refine cellOf hc ?_
   rw [Nat.zero_add, h2]
   simp [u16N, hj, encS, toS]
  have h := Any.slices_SortFunc_total Tryz.sortSet encS (fun _ => rfl) cfS swoS 131 #[] g 0 cap (toS l h4).toArray w eg (cmpLaysS g 0 _ w) hH (gLt hc) (by rw [hds]; omega) totS
  rw [hds] at h
  refine h.mono ?_
  rintro e w' ⟨rfl, n, os, rfl⟩
  refine ⟨rfl, ((toS l h4).mergeSort fun x y => !(ltOf cfS) y x).map Subtype.val, ?_, ?_, ?_, ?_, grownBy_sortG _ _⟩
  ·simp [List.length_mergeSort, toS]
  ·intro y
   rw [List.mem_map]
   constructor
   ·rintro ⟨x, hx, rfl⟩
    rw [List.mem_mergeSort] at hx
    rw [← toS_val l h4]
    exact List.mem_map_of_mem hx
   ·intro hy
    rw [← toS_val l h4, List.mem_map] at hy
    obtain ⟨x, hx, rfl⟩ := hy
    exact ⟨x, List.mem_mergeSort.mpr hx, rfl⟩
  ·intro hnd
   rw [asc_pair, List.pairwise_map]
   have hle : ((toS l h4).mergeSort fun x y => !(ltOf cfS) y x).Pairwise fun x y => (!(ltOf cfS) y x) = true := List.pairwise_mergeSort (fun a b c h1 h2 => by
    simp only [Bool.not_eq_true'] at *
    exact swoS.ntrans _ _ _ h2 h1) (fun a b => by
    cases h1 : ltOf cfS b a
    ·simp
    ·cases h2 : ltOf cfS a b
     ·simp
     ·have := swoS.trans _ _ _ h1 h2
      rw [swoS.irrefl] at this
      cases this) _
   have hnd2 : ((toS l h4).mergeSort fun x y => !(ltOf cfS) y x).Nodup := by
    rw [(List.mergeSort_perm _ _).nodup_iff]
    rw [← toS_val l h4] at hnd
    exact List.Pairwise.of_map Subtype.val (fun a b h h2 => h (congrArg _ h2)) hnd
   refine (List.Pairwise.and hle hnd2).imp ?_
   rintro a b ⟨h1, h2⟩
   simp only [Bool.not_eq_true'] at h1
   show cmpS a.1 b.1 < 0
   have h3 : ¬ cmpS b.1 a.1 < 0 := of_decide_eq_false h1
   exact cmp_three h3 fun h => h2 (Subtype.ext h.symm)
  ·have hlen : ((toS l h4).mergeSort fun x y => !(ltOf cfS) y x).length = l.length := by simp [List.length_mergeSort, toS]
   refine ⟨by simp [u16N, List.length_mergeSort, toS], .inr ⟨g, cap, _, rfl, hbase, heap_sortG encS _ hc, hcap, hmax, by simp [putCells, hsz], ?_⟩⟩
   rw [← enc_val, Nat.mul_one, ← hlen]
   exact take_putG encS cur _ (by rw [hlen, hsz]; omega)
end Go.Proofs.YtmcnpaehmnadeaaGreatDoor
/-
  EpochNext: family.sorted, family.least, exactly, at lists without equal sets.
-/
namespace Go.Proofs.YtmcnpaehmnadeaaGreatDoor
open Go Go.RowKit Go.Shelf Go.Sort
def CloneOwn (l : List Nat) (w : World) (e : Ending) (w' : World) : Prop := ∃ v, e = .returned v ∧ w'.ownsRow w.heap.size 28 1 v l.length (u16N l) ∧ Below w.heap.size w w'
theorem cloneS_own (p : Option Addr) (m cap : Nat) (l : List Nat) (w : World) (hp : PlainP p) (hm : l.length = m) (hm4 : m ≤ 200000) (h : SetL w p l) : Calls Tryz.prog 26 #[.slice p m cap] w (CloneOwn l w) := by
 obtain ⟨i0, hi, hz0, hz1, hz2⟩ := info_parts Tryz.info28
 rcases hp with rfl | ⟨b, off, rfl⟩
 ·have hl : l = [] := by
   rcases h with h | ⟨_, _, h1, _⟩
   ·exact h
   ·cases h1
  subst hl
  refine (AnyE.slices_Clone_nil Tryz.cloneSet m cap w).mono ?_
  rintro e w' ⟨rfl, rfl⟩
  exact ⟨_, rfl, World.ownsRow_nil _ _ _ _, Below.refl _ _⟩
 ·refine (AnyE.slices_Clone Tryz.cloneSet i0 (.int .u16 0) 1 2 hi hz0 hz1 hz2 rfl (by decide) Tryz.sizeOf28 b off m cap (u16N l) w (by simp [u16N, hm]) (by unfold maxLen; omega) (by omega) (fun j u hj => ?_) (fun u hu => ?_)).mono ?_
  ·rcases h with h | ⟨b', off', h1, hb, h2⟩
   ·subst h; simp [u16N] at hj
   ·obtain ⟨rfl, rfl⟩ : b = b' ∧ off = off' := by
     injection h1 with h1
     injection h1 with h3 h4
     exact ⟨h3, h4⟩
    have hjl : j < l.length := by
     have := (List.getElem?_eq_some_iff.mp hj).1
     simpa [u16N] using this
    have h3 : u = .int .u16 (l[j] : Nat) := by simpa [u16N, hjl] using hj.symm
    rw [h3]
    exact h2 j hjl
  ·unfold u16N at hu
   rw [List.mem_map] at hu
   obtain ⟨x, _, rfl⟩ := hu
   rfl
  ·rintro e w' ⟨v', rfl, hown, -, hb⟩
   subst hm
   exact ⟨_, rfl, hown, hb⟩
theorem sortedI_ex (p : Option Addr) (m cap : Nat) (l : List Nat) (w : World) (hp : PlainP p) (hm : l.length = m) (hm4 : m ≤ 200000) (h4 : ∀ x ∈ l, x < 4096) (hnd : l.Nodup) (h : SetL w p l) : Calls Tryz.prog 96 #[.slice p m cap] w (SetsL (sortS l) w) := by
 have HC := Lib.hid (cloneS_own p m cap l w hp hm hm4 h)
 have HX := Lib.hid (fun (base g cap : Nat) (W : World) hown => sortSet_ex base g cap l W h4 (by omega) hown)
 have HND := Lib.hid hnd
 rw [hm] at HX
 have HM := Lib.hid hm
 clear h hnd h4
 go_enter Tryz.func96, Tryz.ntmps96
 go_upto_region 2 with (go_at_call 26; (with_reducible refine HC.out.mono ?_); rintro e w1 ⟨v1, rfl, hown1, hb1⟩)
 rw [HM.out] at hown1
 have HB1 := Lib.hid hb1
 have hsz1 := hb1.size
 clear hb1
 rcases hown1.2 with ⟨rfl, h0⟩ | ⟨g, c1, cur, rfl, hg, hc, hcap, hmax, hsz, hx⟩
 ·subst h0
  have hl : l = [] := List.eq_nil_of_length_eq_zero HM.out
  have HL := Lib.hid hl
  have HQ := Lib.hid (fun W => AnyF.slices_SortFunc_none { Tryz.sortSet with } none 0 (.func (.func 131) #[] #[]) W)
  have HK := Lib.hid (fun W => compact_ex none 0 0 [] W rfl (by omega) (fun i hi => by simp at hi) (.inl rfl))
  clear hown1
  go_wp2_with (first
   | (go_at_call 132; (refine (HQ.out _).mono ?_); rintro e w2 ⟨rfl, rfl⟩)
   | (go_at_call 133; (refine (HK.out _).mono ?_); rintro e w3 ⟨rfl, hb3⟩))
  go_ret
  refine (show SetsL (sortS l) w _ _ from ?_)
  rw [HL.out]
  exact ⟨none, 0, rfl, Nat.le_refl _, .inl rfl, (fun _ h => by cases h), HB1.out.trans (hb3.mono hsz1)⟩
 ·have HO := Lib.hid hown1
  have hg1 : g < w1.heap.size := (gLt hc)
  clear hc hmax hsz hx hown1
  have HQ := Lib.hid (HX.out w.heap.size g c1 w1 HO.out)
  go_upto_region 3 with (go_at_call 132; (refine HQ.out.mono ?_); rintro e w2 ⟨rfl, l', hl1, hl2, hl3, hown2, hgr⟩)
  have hle : sortS l = l' := asc_eq (sortS_asc l) (hl3 HND.out) fun x => (sortS_mem l x).trans (hl2 x).symm
  have hasc : Asc l' := hl3 HND.out
  have HLE := Lib.hid hle
  rw [HM.out] at hl1
  have HL1 := Lib.hid hl1
  have hb2 : Below w.heap.size w w2 := HB1.out.grown hgr hsz1 (fun k hk => by injection hk with hk; omega)
  have HB2 := Lib.hid hb2
  obtain ⟨p2, c2, hv2, hs2, hc2, _⟩ := setL_of_own hown2
  have HF2 := Lib.hid (fresh_of_own hown2)
  obtain ⟨rfl, rfl⟩ : some ⟨g, 0, none⟩ = p2 ∧ c1 = c2 := by
   injection hv2 with h1 _ h2
   exact ⟨h1, h2⟩
  have HS2 := Lib.hid hs2
  have HK := Lib.hid (compact_ex (some ⟨g, 0, none⟩) m c1 l' w2 HL1.out hm4 hasc.apart HS2.out)
  clear hle hasc hl1 hl2 hl3 hown2 hgr hb2 hv2 hs2 HQ HO
  go_wp2_with (go_at_call 133; (refine HK.out.mono ?_); rintro e w3 ⟨rfl, hb3⟩)
  go_ret
  refine (show SetsL (sortS l) w _ _ from ?_)
  rw [HLE.out]
  refine ⟨_, c1, by rw [HL1.out]; rfl, by rw [HL1.out, ← HM.out]; exact hc2, HS2.out.below hb3, HF2.out, HB2.out.trans (hb3.mono HB2.out.size)⟩
theorem leastI_ex (p : Option Addr) (m cap : Nat) (l : List Nat) (w : World) (hp : PlainP p) (hm : l.length = m) (hm4 : m ≤ 200000) (h4 : ∀ x ∈ l, x < 4096) (hnd : l.Nodup) (h : SetL w p l) : Calls Tryz.prog 64 #[.slice p m cap] w (SetsL (lstV (sortS l) (sortS l).length) w) := by
 have h1 := leastI_of p m cap (sortS l) w (by have := sortS_len l; omega) (sortedI_ex p m cap l w hp hm hm4 h4 hnd h)
 rwa [gV_lst (sortS_asc l) (sortS_inR fun x hx => by have := h4 x hx; omega) _ (Nat.le_refl _)] at h1
end Go.Proofs.YtmcnpaehmnadeaaGreatDoor
