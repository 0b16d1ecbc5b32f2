/-
  EpochNext: sederuntref07.Has, Members, Count, Compare; sederuntref19.Compare, single; sederuntref27.family: exactly.
-/
import Derived.Test.YtmcnpaehmnadeaaGreatDoorFbAB
import Derived.Test.YtmcnpaehmnadeaaGreatDoorEwKL
set_option maxHeartbeats 6400000
set_option maxRecDepth 1000000
namespace Go.Proofs.YtmcnpaehmnadeaaGreatDoor
open Go Go.RowKit
theorem has16_ex (a i : Nat) (ha : a < 65536) (w : World) (hi : i < 16) : Calls Tryz.prog 195 #[.int .u16 (a : Int), .int .i64 i] w fun e w' => e = .returned (.bool (decide (a >>> i % 2 = 1))) ∧ w' = w := by
 have e0 : (0 : Int) ≤ (i : Int) := by omega
 have e1 : (i : Int) < 16 := by omega
 have hb := bit1 ha i
 generalize hg : a >>> i % 2 = b at hb
 by_cases h1 : b = 1
 ·have e2 : ((b : Nat) : Int) = 1 := by omega
  have HB := Lib.hid h1
  clear h1
  go_enter Tryz.func195, Tryz.ntmps195
  go_wp2_with fail
  all_goals
   go_ret
   exact ⟨by simp [HB.out], rfl⟩
 ·have e2 : (((b : Nat) : Int) == 1) = false := by simp; omega
  have HB := Lib.hid h1
  clear h1
  go_enter Tryz.func195, Tryz.ntmps195
  go_wp2_with fail
  all_goals
   go_ret
   exact ⟨by simp [HB.out], rfl⟩
theorem members_ex (a : Nat) (ha : a < 65536) (w : World) : Calls Tryz.prog 169 #[.int .u16 (a : Int)] w (SlRet (szS a) w) := by
 obtain ⟨i0, hi, hz0, hz1, hz2⟩ := info_parts Tryz.info3
 go_enter Tryz.func169, Tryz.ntmps169
 go_wp2_with fail
 go_loopw [3, 4] (fun v i wr => ∃ (k : Nat) (xs : List Value), k ≤ 16 ∧ i = .int .i64 k ∧ wr.ownsRow w.heap.size 3 1 v (popF a k) xs ∧ Below w.heap.size w wr) (fun _ i _ => 16 - (intOf i).toNat)
 case atStart => exact ⟨0, [], Nat.zero_le _, rfl, World.ownsRow_nil _ _ _ _, Below.refl _ _⟩
 case round =>
  obtain ⟨k, xs, hk, rfl, hown, hb⟩ := hrel
  have HW := Lib.hid hown
  have HB := Lib.hid hb
  have hsz := hb.size
  have hpl := popF_le a k
  clear hown hb
  by_cases hkn : k < 16
  ·have HX := Lib.hid (fun W => has16_ex a k ha W hkn)
   have hm := Nat.mod_lt (a >>> k) (show 0 < 2 by decide)
   have HS := Lib.hid (show popF a (k + 1) = popF a k + a >>> k % 2 from rfl)
   generalize a >>> k % 2 = b at HX hm HS
   generalize popF a k = n at HW HS hpl
   by_cases hb1 : b = 1
   ·have HB1 := Lib.hid hb1
    rw [decide_eq_true hb1] at HX
    clear hb1
    go_wp2_with (first
     | (go_at_call 195; refine (HX.out _).mono ?_; rintro e w1 ⟨rfl, rfl⟩)
     | (at_builtin; refine wpList_append_own _ rfl _ _ 30 rfl w.heap.size 3 i0 (.int .i64 0) 1 8 Tryz.underlying30 hi hz0 hz1 hz2 rfl (by decide) _ _ _ rfl (HW.out.alloc _) ⟨w1.heap.size, 0, none⟩ 1 1 [.int .i64 k] rfl rfl ?c1 ?c2 ?c3 ?c4 ?c5 ?_))
    try (case c1 => (intro j u hj; cases j with | zero => (simp at hj; subst hj; simp [Addr.add]) | succ j => simp at hj))
    case c2 => first | rfl | (intro u hu; simp at hu; subst hu; rfl)
    case c3 => unfold maxLen; omega
    case c4 => omega
    case c5 => first | omega | (simp; omega)
    intro v' w3 hown' hgrow _
    have hb3 : Below w.heap.size w w3 := below_grown HB.out hsz HW.out hgrow
    have HO3 := Lib.hid hown'
    clear hown' hgrow
    go_wp2_with fail
    go_roundw
    case rel => exact ⟨k + 1, _, by omega, by go_num, by rw [HS.out, HB1.out]; exact HO3.out, hb3⟩
    case measure => simp [intOf]; omega
   ·have hb0 : b = 0 := by omega
    have HB1 := Lib.hid hb0
    rw [decide_eq_false hb1] at HX
    clear hb1 hb0
    go_wp2_with (go_at_call 195; refine (HX.out _).mono ?_; rintro e w1 ⟨rfl, rfl⟩)
    go_roundw
    case rel => exact ⟨k + 1, xs, by omega, by go_num, by rw [HS.out, HB1.out]; exact HW.out, HB.out⟩
    case measure => simp [intOf]; omega
  ·obtain rfl : k = 16 := by omega
   obtain ⟨p5, c5, hv5, _⟩ := slice_of_own HW.out
   subst hv5
   go_wp2_with fail
   go_ret
   exact ⟨p5, c5, rfl, HB.out⟩
theorem countR_ex (a : Nat) (ha : a < 65536) (w : World) : Calls Tryz.prog 149 #[.int .u16 (a : Int)] w (IsI (szS a) w) := by
 go_enter Tryz.func149, Tryz.ntmps149
 go_wp2_with (go_at_call 169; refine (members_ex a ha _).mono ?_; rintro e w1 ⟨p, cap, rfl, hb⟩)
 go_ret
 exact ⟨rfl, hb⟩
end Go.Proofs.YtmcnpaehmnadeaaGreatDoor
/-
  EpochNext: sederuntref07.Compare; sederuntref19.Compare, single: exactly.
-/
namespace Go.Proofs.YtmcnpaehmnadeaaGreatDoor
open Go Go.RowKit
theorem countRF {w0 W : World} (h : Below w0.heap.size w0 W) (a : Nat) (ha : a < 65536) : Calls Tryz.prog 149 #[.int .u16 (a : Int)] W (IsI (szS a) w0) := (countR_ex a ha W).mono fun _ _ ⟨h1, h2⟩ => ⟨h1, h.trans (h2.mono h.size)⟩
theorem compareR_ex (a b : Nat) (ha : a < 65536) (hb : b < 65536) (w : World) : Calls Tryz.prog 114 #[.int .u16 (a : Int), .int .u16 (b : Int)] w (IsI (cmpS a b) w) := by
 have HB0 := Lib.hid (Below.refl w.heap.size w)
 have HA := Lib.hid ha
 have HBB := Lib.hid hb
 by_cases hab : a = b
 ·subst hab
  go_enter Tryz.func114, Tryz.ntmps114
  go_wp2_with fail
  go_ret
  exact ⟨by simp [cmpS, cmpI], HB0.out⟩
 ·have e0 : ((a : Int) == (b : Int)) = false := by simp; omega
  have HAB := Lib.hid hab
  rcases Nat.lt_trichotomy (szS a) (szS b) with hs | hs | hs
  ·have e1 : ((szS a : Nat) : Int) < ((szS b : Nat) : Int) := by omega
   have HS := Lib.hid (show cmpS a b = -1 by simp [cmpS, cmpI]; omega)
   clear hs hab
   go_enter Tryz.func114, Tryz.ntmps114
   go_wp2_with (first
    | (go_at_call 149; (with_reducible refine (countRF HB0.out a HA.out).mono ?_); rintro e w1 ⟨rfl, hb1⟩; have HB1 := Lib.hid hb1; clear hb1 HB0)
    | (go_at_call 149; (with_reducible refine (countRF HB1.out b HBB.out).mono ?_); rintro e w2 ⟨rfl, hb2⟩; have HB2 := Lib.hid hb2; clear hb2 HB1))
   go_ret
   exact ⟨by rw [HS.out]; rfl, HB2.out⟩
  ·have e1 : ¬ ((szS a : Nat) : Int) < ((szS b : Nat) : Int) := by omega
   have e2 : (((szS a : Nat) : Int) == ((szS b : Nat) : Int)) = true := by simp; omega
   by_cases hlt : a < b
   ·have e3 : (a : Int) < (b : Int) := by omega
    have HS := Lib.hid (show cmpS a b = -1 by simp [cmpS, cmpI, hs]; omega)
    clear hs hab hlt
    go_enter Tryz.func114, Tryz.ntmps114
    go_wp2_with (first
     | (go_at_call 149; (with_reducible refine (countRF HB0.out a HA.out).mono ?_); rintro e w1 ⟨rfl, hb1⟩; have HB1 := Lib.hid hb1; clear hb1 HB0)
     | (go_at_call 149; (with_reducible refine (countRF HB1.out b HBB.out).mono ?_); rintro e w2 ⟨rfl, hb2⟩; have HB2 := Lib.hid hb2; clear hb2 HB1)
     | (go_at_call 149; (with_reducible refine (countRF HB2.out a HA.out).mono ?_); rintro e w3 ⟨rfl, hb3⟩; have HB3 := Lib.hid hb3; clear hb3 HB2)
     | (go_at_call 149; (with_reducible refine (countRF HB3.out b HBB.out).mono ?_); rintro e w4 ⟨rfl, hb4⟩; have HB4 := Lib.hid hb4; clear hb4 HB3))
    go_ret
    exact ⟨by rw [HS.out]; rfl, HB4.out⟩
   ·have e3 : ¬ (a : Int) < (b : Int) := by omega
    have HS := Lib.hid (show cmpS a b = 1 by simp [cmpS, cmpI, hs]; omega)
    clear hs hab hlt
    go_enter Tryz.func114, Tryz.ntmps114
    go_wp2_with (first
     | (go_at_call 149; (with_reducible refine (countRF HB0.out a HA.out).mono ?_); rintro e w1 ⟨rfl, hb1⟩; have HB1 := Lib.hid hb1; clear hb1 HB0)
     | (go_at_call 149; (with_reducible refine (countRF HB1.out b HBB.out).mono ?_); rintro e w2 ⟨rfl, hb2⟩; have HB2 := Lib.hid hb2; clear hb2 HB1)
     | (go_at_call 149; (with_reducible refine (countRF HB2.out a HA.out).mono ?_); rintro e w3 ⟨rfl, hb3⟩; have HB3 := Lib.hid hb3; clear hb3 HB2)
     | (go_at_call 149; (with_reducible refine (countRF HB3.out b HBB.out).mono ?_); rintro e w4 ⟨rfl, hb4⟩; have HB4 := Lib.hid hb4; clear hb4 HB3))
    go_ret
    exact ⟨by rw [HS.out]; rfl, HB4.out⟩
  ·have e1 : ¬ ((szS a : Nat) : Int) < ((szS b : Nat) : Int) := by omega
   have e2 : (((szS a : Nat) : Int) == ((szS b : Nat) : Int)) = false := by simp; omega
   have HS := Lib.hid (show cmpS a b = 1 by simp [cmpS, cmpI]; omega)
   clear hs hab
   go_enter Tryz.func114, Tryz.ntmps114
   go_wp2_with (first
    | (go_at_call 149; (with_reducible refine (countRF HB0.out a HA.out).mono ?_); rintro e w1 ⟨rfl, hb1⟩; have HB1 := Lib.hid hb1; clear hb1 HB0)
    | (go_at_call 149; (with_reducible refine (countRF HB1.out b HBB.out).mono ?_); rintro e w2 ⟨rfl, hb2⟩; have HB2 := Lib.hid hb2; clear hb2 HB1)
    | (go_at_call 149; (with_reducible refine (countRF HB2.out a HA.out).mono ?_); rintro e w3 ⟨rfl, hb3⟩; have HB3 := Lib.hid hb3; clear hb3 HB2)
    | (go_at_call 149; (with_reducible refine (countRF HB3.out b HBB.out).mono ?_); rintro e w4 ⟨rfl, hb4⟩; have HB4 := Lib.hid hb4; clear hb4 HB3))
   go_ret
   exact ⟨by rw [HS.out]; rfl, HB4.out⟩
theorem compareFR_ex (a b c d : Nat) (ha : a < 65536) (hb : b < 65536) (hc : c < 65536) (hd : d < 65536) (w : World) : Calls Tryz.prog 80 #[.agg #[.int .u16 (a : Int), .int .u16 (b : Int)], .agg #[.int .u16 (c : Int), .int .u16 (d : Int)]] w (IsI (cmpF a b c d) w) := by
 have HT := Lib.hid (show TF w (a : Int) (b : Int) (c : Int) (d : Int) w.heap.size ((w.alloc (.cells #[.int .u16 (a : Int), .int .u16 (b : Int)] 69)).alloc (.cells #[.int .u16 (c : Int), .int .u16 (d : Int)] 69)) from ⟨heap_alloc2_old w _ _, heap_alloc2_new w _ _, ((Below.refl _ _).alloc (Nat.le_refl _) _).alloc (by simp) _⟩)
 have H1 := Lib.hid (fun W => compareR_ex a c ha hc W)
 have H2 := Lib.hid (fun W => compareR_ex b d hb hd W)
 have HE := Lib.hid (show cmpF a b c d = if cmpS a c ≠ 0 then cmpS a c else cmpS b d from rfl)
 go_enter Tryz.func80, Tryz.ntmps80
 go_upto_region 1 with fail
 revert HT
 generalize (w.alloc (.cells #[.int .u16 (a : Int), .int .u16 (b : Int)] 69)).alloc (.cells #[.int .u16 (c : Int), .int .u16 (d : Int)] 69) = W0
 generalize w.heap.size = A
 intro HT
 obtain ⟨q0, q1, q2, q3, _⟩ := tfS HT.out
 go_upto_if 12 with (go_at_call 114; (with_reducible refine (H1.out _).mono ?_); rintro e w1 ⟨rfl, hb1⟩; have HT1 := Lib.hid (HT.out.below hb1); clear hb1)
 clear q0 q1 q2 q3
 obtain ⟨q0, q1, q2, q3, _⟩ := tfS HT1.out
 by_cases h : cmpS a c = 0
 ·have HH := Lib.hid h
  have e0 : (cmpS a c != 0) = false := by rw [h]; rfl
  clear h
  go_wp2_with (go_at_call 114; (with_reducible refine (H2.out _).mono ?_); rintro e w2 ⟨rfl, hb2⟩; have HT2 := Lib.hid (HT1.out.below hb2); clear hb2)
  go_ret
  exact ⟨by rw [HE.out, if_neg (fun h => h HH.out)]; rfl, HT2.out.bl⟩
 ·have HH := Lib.hid h
  have e0 : (cmpS a c != 0) = true := by simpa using h
  clear h
  go_wp2_with fail
  go_ret
  exact ⟨by rw [HE.out, if_pos HH.out]; rfl, HT1.out.bl⟩
theorem single_ex (x y : Nat) (hx : x < 65536) (hy : y < 65536) (w : World) : Calls Tryz.prog 106 #[.agg #[.int .u16 (x : Int), .int .u16 (y : Int)]] w (IsI (chkE x y) w) := by
 have HB := Lib.hid (show Below w.heap.size w (w.alloc (.cells #[.int .u16 (x : Int), .int .u16 (y : Int)] 69)) from (Below.refl _ _).alloc (Nat.le_refl _) _)
 have HR := Lib.hid (heap_alloc_new w (.cells #[.int .u16 (x : Int), .int .u16 (y : Int)] 69))
 have hor : orS (x : Int) (y : Int) = ((x ||| y : Nat) : Int) := orS_nat hx hy
 have hon : x ||| y < 65536 := Nat.or_lt_two_pow (n := 16) hx hy
 have HE := Lib.hid (show chkE x y = if ¬ (x ||| y < 4096) then 7 else if bits .and .u16 (x : Int) (y : Int) ≠ 0 then 1 else 0 by unfold chkE; rw [hor, andNot4095]; simp only [ne_eq, range_iff hon])
 have HF := Lib.hid (fun W => (show Calls Tryz.prog 113 #[.agg #[.int .u16 (x : Int), .int .u16 (y : Int)]] W fun e w' => e = .returned (.int .u16 ((x ||| y : Nat) : Int)) ∧ Below W.heap.size W w' by rw [← hor]; exact faulty_ex x y W))
 clear hor
 go_enter Tryz.func106, Tryz.ntmps106
 go_upto_region 1 with fail
 revert HB HR
 generalize w.alloc (.cells #[.int .u16 (x : Int), .int .u16 (y : Int)] 69) = W0
 intro HB HR
 have z0 := cellOf HR.out (j := 0) rfl
 have z1 := cellOf HR.out (j := 1) rfl
 generalize x ||| y = o at hon HE HF
 go_upto_if 5 with (go_at_call 113; refine (HF.out _).mono ?_; rintro e w1 ⟨rfl, hb1⟩; have HB1 := Lib.hid (HB.out.trans (hb1.mono HB.out.size)); have HR1 := Lib.hid ((hb1.block _ (gLt HR.out)).trans HR.out); clear hb1)
 have y0 := cellOf HR1.out (j := 0) rfl
 have y1 := cellOf HR1.out (j := 1) rfl
 by_cases h1 : o < 4096
 ·have H1 := Lib.hid h1
  have e1 : ¬ (4096 : Int) ≤ (o : Int) := by omega
  by_cases h2 : bits .and .u16 (x : Int) (y : Int) = 0
  ·have H2 := Lib.hid h2
   go_wp2_with fail
   go_ret
   exact ⟨by rw [HE.out, if_neg (fun h => h H1.out), H2.out]; rfl, HB1.out⟩
  ·have H2 := Lib.hid h2
   go_wp2_with fail
   go_ret
   exact ⟨by rw [HE.out, if_neg (fun h => h H1.out), if_pos (show _ ≠ _ from H2.out)]; rfl, HB1.out⟩
 ·have H1 := Lib.hid h1
  have e1 : (4096 : Int) ≤ (o : Int) := by omega
  go_wp2_with fail
  go_ret
  exact ⟨by rw [HE.out, if_pos H1.out]; rfl, HB1.out⟩
end Go.Proofs.YtmcnpaehmnadeaaGreatDoor
