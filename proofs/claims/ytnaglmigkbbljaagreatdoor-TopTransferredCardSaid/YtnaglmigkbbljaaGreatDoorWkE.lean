/-
  awake47: Choose at the set 7 and 2.
-/
import Derived.Test.YtnaglmigkbbljaaGreatDoorWkA
import Derived.Test.YtnaglmigkbbljaaGreatDoorTfCShB
set_option maxHeartbeats 6400000
set_option maxRecDepth 1000000
set_option linter.unusedVariables false
set_option linter.unusedSimpArgs false
namespace Go.Proofs.YtnaglmigkbbljaaGreatDoor
open Go Go.AM Go.RowKit
def pcL : List Int := [0, 1, 1, 2, 1, 2, 2, 3]
def outI (n : Int) : Option (AV × St) → Bool
 | some (.int .i64 m, _) => n == m
 | _ => false
theorem outI_some {n : Int} {o : Option (AV × St)} (h : outI n o = true) : ∃ s, o = some (.int .i64 n, s) := by
 unfold outI at h
 split at h
 ·have := eq_of_beq h
  subst this
  exact ⟨_, rfl⟩
 ·cases h
theorem cntRun : ((List.range 8).all fun x => outI (pcL.getD x 0) ((runF Tryz.prog same0 known0 kindOf 3000).call 201 [.int .u16 (x : Int)] s00)) = true := by kernel_rfl
def CntRet (x : Nat) (w : World) (e : Ending) (w' : World) : Prop := e = .returned (.int .i64 (pcL.getD x 0)) ∧ Below w.heap.size w w'
theorem count_ex (x : Nat) (hx : x < 8) (w : World) : Calls Tryz.prog 201 #[.int .u16 (x : Int)] w (CntRet x w) := by
 obtain ⟨s, hs⟩ := outI_some (List.all_eq_true.mp cntRun x (List.mem_range.mpr hx))
 rw [runF_eq] at hs
 refine ((plain_call progOk0 (args := [.int .u16 (x : Int)]) rfl rfl hs).2 μ0 [.int .u16 (x : Int)] w ⟨rfl, trivial⟩).mono ?_
 rintro e w' ⟨v', rfl, h1, h2⟩
 have : v' = .int .i64 (pcL.getD x 0) := h1
 subst this
 exact ⟨rfl, h2⟩
def andOk7 : Bool := (List.range 65536).all fun x => Nat.beq (Nat.sub x 7) 0 == decide (bits BinOp.andNot IntKind.u16 (x : Int) 7 = 0)
theorem andOk7_yes : andOk7 = true := by kernel_rfl
theorem and_7 (x : Nat) (hx : x < 65536) : (bits BinOp.andNot IntKind.u16 (x : Int) 7 = 0) ↔ x < 8 := by
 have h := List.all_eq_true.mp andOk7_yes x (List.mem_range.mpr hx)
 have h2 := eq_of_beq h
 by_cases h8 : x < 8
 ·have h3 : Nat.beq (Nat.sub x 7) 0 = true := by rw [show Nat.sub x 7 = 0 from (by show x - 7 = 0; omega)]; rfl
  rw [h3] at h2
  exact ⟨fun _ => h8, fun _ => of_decide_eq_true h2.symm⟩
 ·have h3 : Nat.beq (Nat.sub x 7) 0 = false := by
   rw [Bool.eq_false_iff]
   intro e
   have : x - 7 = 0 := Nat.eq_of_beq_eq_true e
   omega
  rw [h3] at h2
  exact ⟨fun e => absurd e (of_decide_eq_false h2.symm), fun e => absurd e h8⟩
def WithRet (b : Bool) (w : World) (e : Ending) (w' : World) : Prop := e = .returned (.bool b) ∧ w' = w
theorem within_ex (x : Nat) (hx : x < 65536) (w : World) : Calls Tryz.prog 200 #[.int .u16 (x : Int), .int .u16 7] w (WithRet (decide (x < 8)) w) := by
 have h := and_7 x hx
 by_cases h8 : x < 8
 ·have hz := h.mpr h8
  go_enter Tryz.func200, Tryz.ntmps200
  go_wp2_with fail
  go_ret
  exact ⟨by simp [h8], rfl⟩
 ·have hz : ¬ bits BinOp.andNot IntKind.u16 (x : Int) 7 = 0 := fun e => h8 (h.mp e)
  go_enter Tryz.func200, Tryz.ntmps200
  go_wp2_with fail
  go_ret
  exact ⟨by simp [h8, hz], rfl⟩
def chL (x : Nat) : List Nat := [3, 5, 6].filter fun y => decide (y < x)
theorem chL_no {x : Nat} (h : ¬ (x = 3 ∨ x = 5 ∨ x = 6)) : chL (x + 1) = chL x := by
 unfold chL
 refine List.filter_congr fun y hy => ?_
 simp only [List.mem_cons, List.not_mem_nil, or_false] at hy
 rw [decide_eq_decide]
 omega
theorem chL_yes {x : Nat} (h : x = 3 ∨ x = 5 ∨ x = 6) : chL (x + 1) = chL x ++ [x] := by rcases h with rfl | rfl | rfl <;> rfl
theorem chL_len (x : Nat) : (chL x).length ≤ 3 := List.length_filter_le _ _
def uV (l : List Nat) : List Value := l.map fun (n : Nat) => Value.int .u16 (n : Int)
theorem uV_snoc (l : List Nat) (x : Nat) : uV l ++ [.int .u16 (x : Int)] = uV (l ++ [x]) := by simp [uV]
theorem Tryz.info61 : (Tryz.prog.info? 61).map (fun i => (i.zero, i.size, i.bytes)) = some (some (.int .u16 0), 1, 2) := by kernel_rfl
def ChRet (w : World) (e : Ending) (w' : World) : Prop := ∃ v, e = .returned v ∧ w'.ownsRow w.heap.size 61 1 v 3 (uV [3, 5, 6]) ∧ Below w.heap.size w w'
theorem pc_iff {x : Nat} (h : x < 8) : pcL.getD x 0 = 2 ↔ (x = 3 ∨ x = 5 ∨ x = 6) := by
 match x, h with
 | 0, _ => decide
 | 1, _ => decide
 | 2, _ => decide
 | 3, _ => decide
 | 4, _ => decide
 | 5, _ => decide
 | 6, _ => decide
 | 7, _ => decide
theorem choose_ex (w : World) : Calls Tryz.prog 155 #[.int .u16 7, .int .i64 2] w (ChRet w) := by
 obtain ⟨i61, hi61, hz0, hz1, hz2⟩ := info_parts Tryz.info61
 go_enter Tryz.func155, Tryz.ntmps155
 go_wp2_with fail
 go_loopw [5, 6] (fun v i wr => ∃ k : Nat, k ≤ 65536 ∧ i = .int .i64 k ∧ wr.ownsRow w.heap.size 61 1 v (chL k).length (uV (chL k)) ∧ Below w.heap.size w wr) (fun _ i _ => 65536 - (intOf i).toNat)
 case atStart => exact ⟨0, Nat.zero_le _, rfl, World.ownsRow_nil _ _ _ _, Below.refl _ _⟩
 case round =>
  obtain ⟨k, hk, rfl, ho, hb⟩ := hrel
  have HO := Lib.hid ho
  have HB := Lib.hid hb
  have hsz := hb.size
  clear ho hb
  by_cases hkn : k < 65536
  ·have e1 : (k : Int) < 65536 := by omega
   have hw16 : IntKind.u16.wrap (k : Int) = (k : Int) := by simp [IntKind.wrap, IntKind.bits, IntKind.signed]; omega
   have HW := Lib.hid (within_ex k hkn wr)
   by_cases h8 : k < 8
   ·have hd : decide (k < 8) = true := by simp [h8]
    rw [hd] at HW
    have HC := Lib.hid (count_ex k h8 wr)
    have hpc := pc_iff h8
    unfold CntRet at HC
    generalize pcL.getD k 0 = m at HC hpc
    by_cases h2 : m = 2
    ·have hin := hpc.mp h2
     subst h2
     have HM := Lib.hid (show uV (chL k) ++ [.int .u16 (k : Int)] = uV (chL (k + 1)) by rw [uV_snoc, chL_yes hin])
     have HML := Lib.hid (show (chL (k + 1)).length = (chL k).length + 1 by rw [chL_yes hin, List.length_append]; rfl)
     have hml := chL_len k
     clear hpc hin
     generalize chL k = ml at HO HM HML hml
     go_wp2_with (first
      | (go_at_call 200; (with_reducible refine HW.out.mono ?_); go_loud (rintro e w1 ⟨rfl, hw1⟩; obtain rfl := hw1.symm))
      | (go_at_call 201; (with_reducible refine HC.out.mono ?_); go_loud (rintro e w2 ⟨rfl, hb2⟩; have HB2 := Lib.hid (HB.out.trans (hb2.mono HB.out.size)); have HO2 := Lib.hid (own_below HO.out hb2); have hsz2 := hb2.size; clear hb2))
      | (at_builtin; refine wpList_append_own _ rfl _ _ 123 rfl w.heap.size 61 i61 (.int .u16 0) 1 2 Tryz.underlying123 hi61 hz0 hz1 hz2 rfl (by decide) _ _ _ rfl (HO2.out.alloc _) ⟨w2.heap.size, 0, none⟩ 1 1 [.int .u16 (k : Int)] rfl rfl (one_new _ _ _) (by intro u hu; simp at hu; subst hu; rfl) (by unfold maxLen; omega) (by omega) (by simp; omega) ?_; intro v' w5 hown5 hgrow _))
     have hb5 := below_grown HB2.out HB2.out.size HO2.out hgrow
     have HO5 := Lib.hid (show w5.ownsRow w.heap.size 61 1 v' (chL (k + 1)).length (uV (chL (k + 1))) by rw [← HM.out, HML.out]; exact hown5)
     clear hown5 hgrow HO
     go_wp2_with fail
     go_roundw
     case rel => exact ⟨k + 1, by omega, by go_num, HO5.out, hb5⟩
     case measure => simp [intOf]; omega
    ·have HM := Lib.hid (chL_no (fun e => h2 (hpc.mpr e)))
     clear hpc
     go_wp2_with (first
      | (go_at_call 200; (with_reducible refine HW.out.mono ?_); go_loud (rintro e w1 ⟨rfl, hw1⟩; obtain rfl := hw1.symm))
      | (go_at_call 201; (with_reducible refine HC.out.mono ?_); go_loud (rintro e w2 ⟨rfl, hb2⟩; have HB2 := Lib.hid (HB.out.trans (hb2.mono HB.out.size)); have HO2 := Lib.hid (own_below HO.out hb2); have hsz2 := hb2.size; clear hb2)))
     go_roundw
     case rel => exact ⟨k + 1, by omega, by go_num, by rw [HM.out]; exact HO2.out, HB2.out⟩
     case measure => simp [intOf]; omega
   ·have hd : decide (k < 8) = false := by simp [h8]
    rw [hd] at HW
    have HM := Lib.hid (chL_no (x := k) (by omega))
    go_wp2_with (go_at_call 200; (with_reducible refine HW.out.mono ?_); go_loud (rintro e w1 ⟨rfl, hw1⟩; obtain rfl := hw1.symm))
    go_roundw
    case rel => exact ⟨k + 1, by omega, by go_num, by rw [HM.out]; exact HO.out, HB.out⟩
    case measure => simp [intOf]; omega
  ·have hkn2 : k = 65536 := by omega
   have HO3 := Lib.hid (show wr.ownsRow w.heap.size 61 1 u5 3 (uV [3, 5, 6]) by have := HO.out; rw [hkn2] at this; exact this)
   have e1 : ¬ (k : Int) < 65536 := by omega
   clear HO hkn2
   go_wp2_with fail
   go_ret
   exact ⟨u5, rfl, HO3.out, HB.out⟩
end Go.Proofs.YtnaglmigkbbljaaGreatDoor
