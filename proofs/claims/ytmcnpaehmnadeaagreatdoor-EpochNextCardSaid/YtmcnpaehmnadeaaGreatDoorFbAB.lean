/-
  EpochNext: sederuntref08.Size, Before, exactly.
-/
import Derived.Test.YtmcnpaehmnadeaaGreatDoorFaFH
set_option maxHeartbeats 6400000
set_option maxRecDepth 1000000
namespace Go.Proofs.YtmcnpaehmnadeaaGreatDoor
open Go Go.RowKit
theorem bit1 {x : Nat} (hx : x < 65536) (k : Nat) : bits .and .u16 ((x : Int) / 2 ^ k) 1 = ((x >>> k % 2 : Nat) : Int) := by
 have h1 : (x : Int) / 2 ^ k = ((x / 2 ^ k : Nat) : Int) := by
  rw [Int.natCast_ediv]
  congr 1
 have h2 := (bits_nat .u16 16 (by decide) (fun n h0 h1 => by simp [IntKind.wrap, IntKind.bits, IntKind.signed]; omega) (x / 2 ^ k) 1 (Nat.lt_of_le_of_lt (Nat.div_le_self _ _) hx) (by decide)).1
 rw [h1]
 rw [show ((1 : Nat) : Int) = 1 from rfl] at h2
 rw [h2, Nat.and_one_is_mod, Nat.shiftRight_eq_div_pow]
theorem popF_le (x : Nat) : ∀ k, popF x k ≤ k
 | 0 => Nat.le_refl _
 | k + 1 => by
  have := popF_le x k
  have := Nat.mod_lt (x >>> k) (show 0 < 2 by decide)
  simp only [popF]
  omega
theorem sizeR_ex (x : Nat) (hx : x < 65536) (w : World) : Calls Tryz.prog 168 #[.int .u16 (x : Int)] w fun e w' => e = .returned (.int .i64 (szS x : Nat)) ∧ w' = w := by
 go_enter Tryz.func168, Tryz.ntmps168
 go_wp2_with fail
 go_loopw [3, 4] (fun n i wr => ∃ k : Nat, k ≤ 16 ∧ i = .int .i64 k ∧ n = .int .i64 (popF x k : Nat) ∧ wr = w) (fun _ i _ => 16 - (intOf i).toNat)
 case atStart => exact ⟨0, Nat.zero_le _, rfl, rfl, rfl⟩
 case round =>
  obtain ⟨k, hk, rfl, rfl, hw⟩ := hrel
  subst hw
  by_cases hkn : k < 16
  ·have e0 : (0 : Int) ≤ (k : Int) := by omega
   have hp := popF_le x k
   have hm := Nat.mod_lt (x >>> k) (show 0 < 2 by decide)
   have hs : popF x (k + 1) = popF x k + x >>> k % 2 := rfl
   have hb := bit1 hx k
   generalize popF x k = a at hp hs ⊢
   generalize x >>> k % 2 = b at hm hs hb
   have HS := Lib.hid hs
   clear hs
   go_wp2_with fail
   go_roundw
   case rel => exact ⟨k + 1, by omega, by go_num, by rw [HS.out]; go_num, by first | rfl | trivial⟩
   case measure => simp [intOf]; omega
  ·obtain rfl : k = 16 := by omega
   go_wp2_with fail
   go_ret
   exact ⟨rfl, rfl⟩
def befB (a b : Nat) : Bool := if szS a ≠ szS b then decide (szS a < szS b) else decide (a < b)
theorem before_ex (a b : Nat) (ha : a < 65536) (hb : b < 65536) (w : World) : Calls Tryz.prog 145 #[.int .u16 (a : Int), .int .u16 (b : Int)] w fun e w' => e = .returned (.bool (befB a b)) ∧ w' = w := by
 have HB := Lib.hid (show befB a b = if szS a ≠ szS b then decide (szS a < szS b) else decide (a < b) from rfl)
 have H1 := Lib.hid (fun W => sizeR_ex a ha W)
 have H2 := Lib.hid (fun W => sizeR_ex b hb W)
 by_cases h : szS a = szS b
 ·have HH := Lib.hid h
  have e0 : (((szS a : Nat) : Int) != ((szS b : Nat) : Int)) = false := by simp; omega
  clear h
  go_enter Tryz.func145, Tryz.ntmps145
  go_wp2_with (first
   | (go_at_call 168; (with_reducible refine (H1.out _).mono ?_); rintro e w1 ⟨rfl, rfl⟩)
   | (go_at_call 168; (with_reducible refine (H2.out _).mono ?_); rintro e w1 ⟨rfl, rfl⟩))
  all_goals
   go_ret
   exact ⟨by rw [HB.out, if_neg (fun h => h HH.out)]; simp, rfl⟩
 ·have HH := Lib.hid h
  have e0 : (((szS a : Nat) : Int) != ((szS b : Nat) : Int)) = true := by simp; omega
  clear h
  go_enter Tryz.func145, Tryz.ntmps145
  go_wp2_with (first
   | (go_at_call 168; (with_reducible refine (H1.out _).mono ?_); rintro e w1 ⟨rfl, rfl⟩)
   | (go_at_call 168; (with_reducible refine (H2.out _).mono ?_); rintro e w1 ⟨rfl, rfl⟩))
  all_goals
   go_ret
   exact ⟨by rw [HB.out, if_pos HH.out]; simp, rfl⟩
theorem range_ex (a : Nat) (w : World) : Calls Tryz.prog 144 #[.int .u16 (a : Int)] w fun e w' => e = .returned (.bool (decide (a < 4096))) ∧ w' = w := by
 by_cases h : a < 4096
 ·have e0 : (a : Int) < 4096 := by omega
  go_enter Tryz.func144, Tryz.ntmps144
  go_wp2_with fail
  go_ret
  exact ⟨by simp [h], rfl⟩
 ·have e0 : ¬ (a : Int) < 4096 := by omega
  go_enter Tryz.func144, Tryz.ntmps144
  go_wp2_with fail
  go_ret
  exact ⟨by simp, rfl⟩
theorem bef_cmp (a b : Nat) : befB a b = decide (cmpS a b < 0) := by
 unfold befB cmpS cmpI
 by_cases h : szS a = szS b
 ·simp [h]
  split <;> simp_all <;> omega
 ·simp [h]
  split <;> simp_all <;> omega
end Go.Proofs.YtmcnpaehmnadeaaGreatDoor
/-
  EpochNext: sederuntref08.Valid, exactly.
-/
namespace Go.Proofs.YtmcnpaehmnadeaaGreatDoor
open Go Go.RowKit
def pinV (l : List Nat) (i : Nat) : Nat → Bool
 | 0 => false
 | k + 1 => pinV l i k || (decide (i ≠ k) && subB (l.getD k 0) (l.getD i 0))
def poutV (l : List Nat) : Nat → Bool
 | 0 => false
 | i + 1 => poutV l i || pinV l i l.length
def famR (l : List Nat) : Nat := if 400 < l.length then 3 else if scanV none l ≠ 0 then scanV none l else if poutV l l.length then 1 else 0
theorem pinV_mono {l : List Nat} {i k n : Nat} (h : pinV l i k = true) (hk : k ≤ n) : pinV l i n = true := by
 induction hk with
 | refl => exact h
 | step _ ih => simp [pinV, ih]
theorem poutV_mono {l : List Nat} {k n : Nat} (h : poutV l k = true) (hk : k ≤ n) : poutV l n = true := by
 induction hk with
 | refl => exact h
 | step _ ih => simp [poutV, ih]
theorem famValidR_ex (p : Option Addr) (m cap : Nat) (l : List Nat) (w : World) (hm : l.length = m) (hr : InR l) (h : SetL w p l) : Calls Tryz.prog 103 #[.slice p m cap] w (IsI (famR l) w) := by
 have H := Lib.hid h
 have HM := Lib.hid hm
 have HR := Lib.hid hr
 clear h hm hr
 by_cases h4 : 400 < m
 ·have e0 : (400 : Int) < (m : Int) := by omega
  go_enter Tryz.func103, Tryz.ntmps103
  go_wp2_with fail
  go_ret
  exact ⟨by unfold famR; rw [HM.out, if_pos h4]; rfl, Below.refl _ _⟩
 ·have e0 : ¬ (400 : Int) < (m : Int) := by omega
  have hm4 : m ≤ 400 := by omega
  have hE : famR l = if scanV none l ≠ 0 then scanV none l else if poutV l l.length then 1 else 0 := by unfold famR; rw [HM.out, if_neg h4]
  have HE := Lib.hid hE
  clear hE
  go_enter Tryz.func103, Tryz.ntmps103
  go_upto_region 3 with fail
  go_upto_block 0 with fail
  go_cut [] (fun wx => scanV none l = 0 ∧ (∀ x ∈ l, x < 4096) ∧ Below w.heap.size w wx)
  case first =>
   go_wp2_with fail
   go_loopw [3] (fun i wr => ∃ k : Nat, k ≤ m ∧ i = .int .i64 k ∧ scanV none l = scanV (prevS l k) (l.drop k) ∧ (∀ x ∈ l.take k, x < 4096) ∧ Below w.heap.size w wr) (fun i _ => m - (intOf i).toNat)
   case atStart => exact ⟨0, Nat.zero_le _, rfl, rfl, fun x hx => by simp at hx, Below.refl _ _⟩
   case round =>
    obtain ⟨k, hk, rfl, hs, hlt, hb⟩ := hrel
    have HS := Lib.hid hs
    have HLT := Lib.hid hlt
    have HB := Lib.hid hb
    clear hs hlt hb
    by_cases hkm : k < m
    ·have hkl : k < l.length := by have := HM.out; omega
     obtain ⟨b, off, rfl, hbb, hc0⟩ := H.out.at hkl
     have hc := (HB.out.cell (p := ⟨b, off + k, none⟩) hbb).trans hc0
     clear hc0
     have hst := scanV_step hkl
     rw [← HS.out] at hst
     have HX := Lib.hid (HR.out _ (List.getElem_mem hkl))
     have HTK := Lib.hid (show (∀ x ∈ l.take k, x < 4096) → l[k] < 4096 → ∀ x ∈ l.take (k + 1), x < 4096 from fun h1 h2 x hx => by
      rw [take_snoc hkl] at hx
      rcases List.mem_append.mp hx with hx | hx
      ·exact h1 x hx
      ·simp at hx; subst hx; exact h2)
     generalize l[k] = x at hc hst HX HTK
     by_cases hx : x < 4096
     ·rw [if_neg (by omega)] at hst
      have HRG := Lib.hid (fun W => (show Calls Tryz.prog 144 #[.int .u16 (x : Int)] W fun e w' => e = .returned (.bool true) ∧ w' = W by have := range_ex x W; rwa [decide_eq_true hx] at this))
      have HXL := Lib.hid hx
      go_upto_region 8 with (go_at_call 144; refine (HRG.out _).mono ?_; rintro e w1 ⟨rfl, rfl⟩)
      rcases Nat.eq_zero_or_pos k with hk0 | hk0
      ·have hst0 : scanV none l = scanV (prevS l (k + 1)) (l.drop (k + 1)) := by
        rw [hst, hk0]
        rfl
       have HST := Lib.hid hst0
       have e3 : decide ((0 : Int) < (k : Int)) = false := by simp; omega
       clear hst hst0
       go_quiet (fail)
       go_wp2_with fail
       go_roundw
       case rel => exact ⟨k + 1, by omega, by go_num, HST.out, HTK.out HLT.out HXL.out, below_drewN HB.out _⟩
       case measure => simp [intOf]; omega
      ·obtain ⟨j, hj⟩ : ∃ j, k = j + 1 := ⟨k - 1, by omega⟩
       have hjl : j < l.length := by omega
       obtain ⟨b2, off2, hpe, _, hd0⟩ := H.out.at hjl
       obtain ⟨rfl, rfl⟩ : b2 = b ∧ off2 = off := by
        injection hpe with hpe
        injection hpe with h1 h2
        exact ⟨h1.symm, h2.symm⟩
       have hd := (HB.out.cell (p := ⟨b2, off2 + j, none⟩) hbb).trans hd0
       have hy : l[j] < 4096 := HLT.out _ (by rw [hj, take_snoc hjl]; exact List.mem_append_right _ (List.mem_singleton.mpr rfl))
       have hpr : prevS l k = some l[j] := by rw [hj]; simp [prevS, hjl]
       rw [hpr] at hst
       clear hpe hd0 hpr
       generalize l[j] = y at hd hy hst
       simp only at hst
       have e3 : (0 : Int) < (k : Int) := by omega
       have e3b : decide ((0 : Int) < (k : Int)) = true := by simp; omega
       have ew : IntKind.i64.wrap ((k : Int) - 1) = (k : Int) - 1 := by rw [IntKind.wrap_i64]; omega
       have e4 : (0 : Int) ≤ (k : Int) - 1 := by omega
       have e5 : (k : Int) - 1 < (m : Int) := by omega
       have e6 : ((k : Int) - 1).toNat = j := by omega
       have e7 : (1 : Int) ≤ (k : Int) := by omega
       have HKJ := Lib.hid hj
       clear hj
       have HBF := Lib.hid (fun W => before_ex y x (by omega) (by omega) W)
       have hbc := bef_cmp y x
       by_cases hcp : 0 ≤ cmpS y x
       ·rw [if_pos (by simpa using hcp)] at hst
        have HST := Lib.hid hst
        rw [hbc, decide_eq_false (by omega)] at HBF
        clear hst hbc
        go_quiet ((go_at_call 145; refine Calls.quiet_of_same (HBF.out _)))
        go_wp2_with fail
        go_ret
        exact ⟨by rw [HE.out, HST.out]; rfl, below_drewN HB.out _⟩
       ·rw [if_neg (by simpa using hcp)] at hst
        have HST := Lib.hid hst
        rw [hbc, decide_eq_true (by omega)] at HBF
        clear hst hbc
        go_quiet ((go_at_call 145; refine Calls.quiet_of_same (HBF.out _)))
        go_wp2_with fail
        go_roundw
        case rel => exact ⟨k + 1, by omega, by go_num, HST.out, HTK.out HLT.out HXL.out, below_drewN HB.out _⟩
        case measure => simp [intOf]; omega
     ·rw [if_pos (by omega)] at hst
      have HST := Lib.hid hst
      have HRG := Lib.hid (fun W => (show Calls Tryz.prog 144 #[.int .u16 (x : Int)] W fun e w' => e = .returned (.bool false) ∧ w' = W by have := range_ex x W; rwa [decide_eq_false hx] at this))
      clear hst
      go_wp2_with (go_at_call 144; refine (HRG.out _).mono ?_; rintro e w1 ⟨rfl, rfl⟩)
      go_ret
      exact ⟨by rw [HE.out, HST.out]; rfl, HB.out⟩
    ·obtain rfl : k = m := by omega
     have hd : l.drop k = [] := List.drop_eq_nil_of_le (by have := HM.out; omega)
     have ht : l.take k = l := List.take_of_length_le (by have := HM.out; omega)
     rw [hd] at HS
     rw [ht] at HLT
     go_wp2_with fail
     go_meet
     exact ⟨by rw [HS.out, scanV.eq_def], HLT.out, HB.out⟩
  case rest =>
   obtain ⟨hs0, hlt, hb⟩ := hcut
   have HLT := Lib.hid hlt
   have HS0 := Lib.hid hs0
   have HB := Lib.hid hb
   clear hs0 hlt hb
   have hm4 : m ≤ 400 := by omega
   go_wp2_with fail
   go_loopw [4] (fun i wr => ∃ k : Nat, k ≤ m ∧ i = .int .i64 k ∧ poutV l k = false ∧ Below w.heap.size w wr) (fun i _ => m - (intOf i).toNat)
   case atStart => exact ⟨0, Nat.zero_le _, rfl, rfl, HB.out⟩
   case round =>
    obtain ⟨i, hi, rfl, hacc, hb⟩ := hrel
    have HAC := Lib.hid hacc
    have HB2 := Lib.hid hb
    clear hacc hb
    by_cases him : i < m
    ·have hil : i < l.length := by have := HM.out; omega
     obtain ⟨b, off, rfl, hbb, hc0⟩ := H.out.at hil
     have HCI := Lib.hid hc0
     have hgi : l.getD i 0 = l[i] := by simp [hil]
     have HSI := Lib.hid (show poutV l (i + 1) = pinV l i l.length by rw [poutV, HAC.out]; rfl)
     have HMO := Lib.hid (fun h => @poutV_mono l (i + 1) l.length h hil)
     have HPM := Lib.hid (fun k h hk => @pinV_mono l i k l.length h hk)
     clear hc0
     have e8 : (i : Int) < (m : Int) := by omega
     go_wp2_with fail
     go_loopw [5] (fun a wx => ∃ k : Nat, k ≤ m ∧ a = .int .i64 k ∧ pinV l i k = false ∧ Below w.heap.size w wx) (fun a _ => m - (intOf a).toNat)
     case atStart => exact ⟨0, Nat.zero_le _, rfl, rfl, HB2.out⟩
     case round =>
      obtain ⟨k, hk, rfl, hpin, hb⟩ := hrel
      have HPN := Lib.hid hpin
      have HB3 := Lib.hid hb
      clear hpin hb
      by_cases hkm : k < m
      ·have hkl : k < l.length := by have := HM.out; omega
       obtain ⟨b2, off2, hpe, _, hd0⟩ := H.out.at hkl
       obtain ⟨rfl, rfl⟩ : b2 = b ∧ off2 = off := by
        injection hpe with hpe
        injection hpe with h1 h2
        exact ⟨h1.symm, h2.symm⟩
       have hc := (HB3.out.cell (p := ⟨b2, off2 + i, none⟩) hbb).trans HCI.out
       have hd := (HB3.out.cell (p := ⟨b2, off2 + k, none⟩) hbb).trans hd0
       have hgk : l.getD k 0 = l[k] := by simp [hkl]
       have HSK := Lib.hid (show pinV l i (k + 1) = (decide (i ≠ k) && subB l[k] l[i]) by rw [pinV, HPN.out, hgk, hgi]; rfl)
       have HKL := Lib.hid (show k + 1 ≤ l.length from hkl)
       clear hpe hd0 hgk
       generalize l[i] = x at hc HSK
       generalize l[k] = y at hd HSK
       have e9 : (k : Int) < (m : Int) := by omega
       have e10 : (0 : Int) ≤ (k : Int) := by omega
       have e11 : (0 : Int) ≤ (i : Int) := by omega
       go_upto_region 16 with fail
       by_cases hik : i = k
       ·have HIK := Lib.hid hik
        have e12 : ((i : Int) != (k : Int)) = false := by simp; omega
        clear hik
        go_quiet (fail)
        go_wp2_with fail
        go_roundw
        case rel => exact ⟨k + 1, by omega, by go_num, by rw [HSK.out]; simp [HIK.out], below_drewN HB3.out _⟩
        case measure => simp [intOf]; omega
       ·have HIK := Lib.hid hik
        have e12 : ((i : Int) != (k : Int)) = true := by simp; omega
        clear hik
        have HCO := Lib.hid (fun W => contains_ex (x : Int) (y : Int) W)
        cases hsb : subB y x
        ·have HSB := Lib.hid hsb
         have hw : wB (y : Int) (x : Int) = false := hsb
         rw [hw] at HCO
         clear hsb hw
         go_quiet ((go_at_call 146; refine Calls.quiet_of_same (HCO.out _)))
         go_wp2_with fail
         go_roundw
         case rel => exact ⟨k + 1, by omega, by go_num, by rw [HSK.out, HSB.out]; simp, below_drewN HB3.out _⟩
         case measure => simp [intOf]; omega
        ·have HSB := Lib.hid hsb
         have hw : wB (y : Int) (x : Int) = true := hsb
         rw [hw] at HCO
         clear hsb hw
         go_quiet ((go_at_call 146; refine Calls.quiet_of_same (HCO.out _)))
         go_wp2_with fail
         go_ret
         refine ⟨?_, below_drewN HB3.out _⟩
         rw [HE.out, HS0.out, HMO.out (by rw [HSI.out]; exact HPM.out (k + 1) (by rw [HSK.out, HSB.out, decide_eq_true HIK.out]; rfl) HKL.out)]
         rfl
      ·obtain rfl : k = m := by omega
       go_wp2_with fail
       go_roundw
       case rel => exact ⟨i + 1, by omega, by go_num, by rw [HSI.out, HM.out]; exact HPN.out, HB3.out⟩
       case measure => simp [intOf]; omega
    ·obtain rfl : i = m := by omega
     rw [← HM.out] at HAC
     go_wp2_with fail
     go_ret
     exact ⟨by rw [HE.out, HS0.out, HAC.out]; rfl, HB2.out⟩
end Go.Proofs.YtmcnpaehmnadeaaGreatDoor
/-
  EpochNext, plain laws: the order of sets and inclusion; both errors of a family are one.
-/
namespace Go.Proofs.YtmcnpaehmnadeaaGreatDoor
open Go Go.RowKit
theorem cmpS_lt {a b : Nat} : cmpS a b < 0 ↔ szS a < szS b ∨ (szS a = szS b ∧ a < b) := by
 unfold cmpS cmpI
 by_cases h : szS a = szS b
 ·simp [h]
  split <;> simp_all
  split <;> simp_all
 ·simp [h]
  split
  ·rename_i h1
   simp; omega
  ·rename_i h1
   split
   ·simp; omega
   ·omega
theorem cmpS_trans {a b c : Nat} (h1 : cmpS a b < 0) (h2 : cmpS b c < 0) : cmpS a c < 0 := by
 rw [cmpS_lt] at *
 omega
theorem andNot_zero {x s : Nat} (h : bits .andNot .u16 (x : Int) (s : Int) = 0) : ∀ k, k < 16 → x.testBit k = true → s.testBit k = true := by
 unfold bits at h
 simp only [BitVec.ofInt_natCast] at h
 have h2 : (BitVec.ofNat 16 x &&& ~~~BitVec.ofNat 16 s).toNat = 0 := by
  have hl : (BitVec.ofNat 16 x &&& ~~~BitVec.ofNat 16 s).toNat < 65536 := (BitVec.ofNat 16 x &&& ~~~BitVec.ofNat 16 s).isLt
  replace h : IntKind.u16.wrap (((BitVec.ofNat 16 x &&& ~~~BitVec.ofNat 16 s).toNat : Nat) : Int) = 0 := h
  generalize (BitVec.ofNat 16 x &&& ~~~BitVec.ofNat 16 s).toNat = n at h hl
  rw [show IntKind.u16.wrap (n : Int) = (n : Int) % 65536 by simp [IntKind.wrap, IntKind.bits, IntKind.signed]] at h
  omega
 intro k hk hx
 have h3 : (BitVec.ofNat 16 x &&& ~~~BitVec.ofNat 16 s) = 0#16 := BitVec.eq_of_toNat_eq (by simpa using h2)
 have h4 : (BitVec.ofNat 16 x &&& ~~~BitVec.ofNat 16 s).getLsbD k = (0#16).getLsbD k := by rw [h3]
 simp only [BitVec.getLsbD_and, BitVec.getLsbD_not, BitVec.getLsbD_ofNat, hk, hx, decide_true, Bool.true_and] at h4
 simpa using h4
theorem bit_mod (x k : Nat) : x >>> k % 2 = (x.testBit k).toNat := by
 rw [Nat.testBit_eq_decide_div_mod_eq, Nat.shiftRight_eq_div_pow]
 rcases Nat.mod_two_eq_zero_or_one (x / 2 ^ k) with h | h <;> simp [h]
theorem popF_mono {x s : Nat} (h : ∀ k, k < 16 → x.testBit k = true → s.testBit k = true) : ∀ n, n ≤ 16 → popF x n ≤ popF s n
 | 0, _ => Nat.le_refl _
 | n + 1, hn => by
  have ih := popF_mono h n (by omega)
  have h1 := h n (by omega)
  simp only [popF, bit_mod]
  cases hx : x.testBit n
  ·simp; omega
  ·rw [h1 hx]; omega
theorem popF_eq {x s : Nat} (h : ∀ k, k < 16 → x.testBit k = true → s.testBit k = true) : ∀ n, n ≤ 16 → popF x n = popF s n → ∀ k, k < n → x.testBit k = s.testBit k
 | 0, _, _, k, hk => absurd hk (Nat.not_lt_zero _)
 | n + 1, hn, he, k, hk => by
  have hm := popF_mono h n (by omega)
  have h1 := h n (by omega)
  simp only [popF, bit_mod] at he
  cases hx : x.testBit n
  ·cases hs : s.testBit n
   ·rw [hx, hs] at he
    by_cases hkn : k = n
    ·subst hkn; rw [hx, hs]
    ·exact popF_eq h n (by omega) (by simpa using he) k (by omega)
   ·rw [hx, hs] at he
    simp at he
    omega
  ·have hs := h1 hx
   rw [hx, hs] at he
   by_cases hkn : k = n
   ·subst hkn; rw [hx, hs]
   ·exact popF_eq h n (by omega) (by omega) k (by omega)
theorem sub_size {x s : Nat} (h : subB x s = true) : szS x ≤ szS s := popF_mono (andNot_zero (by simpa [subB] using h)) 16 (Nat.le_refl _)
theorem sub_eq {x s : Nat} (hx : x < 65536) (hs : s < 65536) (h : subB x s = true) (he : szS x = szS s) : x = s := by
 have h1 := popF_eq (andNot_zero (x := x) (s := s) (by simpa [subB] using h)) 16 (Nat.le_refl _) he
 refine Nat.eq_of_testBit_eq fun k => ?_
 by_cases hk : k < 16
 ·exact h1 k hk
 ·rw [Nat.testBit_lt_two_pow (Nat.lt_of_lt_of_le hx (Nat.pow_le_pow_right (n := 2) (by decide) (show 16 ≤ k by omega))), Nat.testBit_lt_two_pow (Nat.lt_of_lt_of_le hs (Nat.pow_le_pow_right (n := 2) (by decide) (show 16 ≤ k by omega)))]
theorem sub_not {x s : Nat} (hx : x < 65536) (hs : s < 65536) (h : cmpS s x < 0) : subB x s = false := by
 rw [Bool.eq_false_iff]
 intro h1
 have h2 := sub_size h1
 rw [cmpS_lt] at h
 have h3 := sub_eq hx hs h1 (by omega)
 omega
def Asc : List Nat → Prop
 | [] => True
 | x :: t => (∀ y ∈ t, cmpS x y < 0) ∧ Asc t
theorem scanV_zero : ∀ {pr : Option Nat} {l : List Nat}, scanV pr l = 0 → (∀ x ∈ l, x < 4096) ∧ Asc l ∧ ∀ q, pr = some q → ∀ x ∈ l, cmpS q x < 0
 | _, [], _ => ⟨(fun _ h => by cases h), trivial, (fun _ _ _ h => by cases h)⟩
 | pr, s :: t, h => by
  rw [scanV.eq_def] at h
  simp only at h
  by_cases h1 : 4096 ≤ s
  ·rw [if_pos h1] at h; cases h
  ·rw [if_neg h1] at h
   have h7 : scanV (some s) t = 0 ∧ ∀ q, pr = some q → cmpS q s < 0 := by
    cases pr with
    | none => exact ⟨by simpa using h, fun q hq => by cases hq⟩
    | some q =>
     simp only [decide_eq_true_eq] at h
     by_cases h2 : 0 ≤ cmpS q s
     ·rw [if_pos h2] at h; cases h
     ·rw [if_neg h2] at h
      exact ⟨h, fun q' hq => by injection hq with hq; subst hq; omega⟩
   obtain ⟨h3, h4, h5⟩ := scanV_zero h7.1
   refine ⟨fun x hx => ?_, ⟨fun y hy => h5 s rfl y hy, h4⟩, fun q hq x hx => ?_⟩
   ·rcases List.mem_cons.mp hx with rfl | hx
    ·omega
    ·exact h3 x hx
   ·have h6 := h7.2 q hq
    rcases List.mem_cons.mp hx with rfl | hx
    ·exact h6
    ·exact cmpS_trans h6 (h5 s rfl x hx)
theorem Asc.get : ∀ {l : List Nat}, Asc l → ∀ i j (hi : i < l.length) (hj : j < l.length), i < j → cmpS l[i] l[j] < 0
 | [], _, _, _, hi, _, _ => by simp at hi
 | x :: t, h, 0, j + 1, _, hj, _ => h.1 _ (List.getElem_mem _)
 | x :: t, h, i + 1, j + 1, hi, hj, hij => Asc.get h.2 i j (by simpa using hi) (by simpa using hj) (by omega)
theorem pin_some {l : List Nat} {i : Nat} : ∀ {n : Nat}, pinV l i n = true ↔ ∃ k, k < n ∧ i ≠ k ∧ subB (l.getD k 0) (l.getD i 0) = true
 | 0 => by simp [pinV]
 | n + 1 => by
  rw [pinV, Bool.or_eq_true, pin_some (n := n)]
  constructor
  ·rintro (⟨k, h1, h2, h3⟩ | h)
   ·exact ⟨k, by omega, h2, h3⟩
   ·simp at h
    exact ⟨n, by omega, h.1, by simpa using h.2⟩
  ·rintro ⟨k, h1, h2, h3⟩
   by_cases hk : k = n
   ·subst hk
    right
    simp [h2]
    simpa using h3
   ·exact .inl ⟨k, by omega, h2, h3⟩
theorem pout_some {l : List Nat} : ∀ {n : Nat}, poutV l n = true ↔ ∃ i, i < n ∧ pinV l i l.length = true
 | 0 => by simp [poutV]
 | n + 1 => by
  rw [poutV, Bool.or_eq_true, pout_some (n := n)]
  constructor
  ·rintro (⟨k, h1, h2⟩ | h)
   ·exact ⟨k, by omega, h2⟩
   ·exact ⟨n, by omega, h⟩
  ·rintro ⟨k, h1, h2⟩
   by_cases hk : k = n
   ·subst hk; exact .inr h2
   ·exact .inl ⟨k, by omega, h2⟩
theorem accV_some {l : List Nat} : ∀ {n : Nat}, n ≤ l.length → (accV l n = true ↔ ∃ i, i < n ∧ ∃ k, k < i ∧ subB (l.getD k 0) (l.getD i 0) = true)
 | 0, _ => by simp [accV]
 | n + 1, hn => by
  rw [accV, Bool.or_eq_true, accV_some (n := n) (by omega)]
  have hacc : acc (l.take n) (l.getD n 0) = true ↔ ∃ k, k < n ∧ subB (l.getD k 0) (l.getD n 0) = true := by
   unfold acc
   rw [List.any_eq_true]
   constructor
   ·rintro ⟨x, hx, h⟩
    obtain ⟨k, hk, rfl⟩ := List.getElem_of_mem hx
    have hk2 : k < n := by simp at hk; omega
    have hk3 : k < l.length := by omega
    rw [List.getElem_take] at h
    exact ⟨k, hk2, by rw [List.getD, List.getElem?_eq_getElem hk3]; exact h⟩
   ·rintro ⟨k, hk, h⟩
    have hk3 : k < l.length := by omega
    rw [List.getD, List.getElem?_eq_getElem hk3] at h
    refine ⟨l[k], ?_, h⟩
    rw [List.mem_take_iff_getElem]
    exact ⟨k, by omega, rfl⟩
  rw [hacc]
  constructor
  ·rintro (⟨k, h1, h2⟩ | h)
   ·exact ⟨k, by omega, h2⟩
   ·exact ⟨n, by omega, h⟩
  ·rintro ⟨k, h1, h2⟩
   by_cases hk : k = n
   ·subst hk; exact .inr h2
   ·exact .inl ⟨k, by omega, h2⟩
theorem fam_one (l : List Nat) : famR l = famE l := by
 unfold famR famE
 by_cases h4 : 400 < l.length
 ·rw [if_pos h4, if_pos h4]
 ·rw [if_neg h4, if_neg h4]
  by_cases hs : scanV none l = 0
  ·simp only [hs, ne_eq, not_true_eq_false, if_false]
   obtain ⟨hlt, hasc, -⟩ := scanV_zero hs
   have hb : poutV l l.length = accV l l.length := by
    rw [Bool.eq_iff_iff, pout_some, accV_some (Nat.le_refl _)]
    constructor
    ·rintro ⟨i, hi, h⟩
     obtain ⟨k, hk, hik, hsub⟩ := pin_some.mp h
     rcases Nat.lt_or_ge k i with hki | hki
     ·exact ⟨i, hi, k, hki, hsub⟩
     ·have hlt2 := hasc.get i k hi hk (by omega)
      rw [List.getD, List.getElem?_eq_getElem hk, List.getD, List.getElem?_eq_getElem hi] at hsub
      simp only [Option.getD_some] at hsub
      rw [sub_not (Nat.lt_of_lt_of_le (hlt _ (List.getElem_mem hk)) (by decide)) (Nat.lt_of_lt_of_le (hlt _ (List.getElem_mem hi)) (by decide)) hlt2] at hsub
      cases hsub
    ·rintro ⟨i, hi, k, hk, h⟩
     exact ⟨i, hi, pin_some.mpr ⟨k, by omega, by omega, h⟩⟩
   rw [hb]
  ·simp only [ne_eq, hs, not_false_eq_true, if_true]
end Go.Proofs.YtmcnpaehmnadeaaGreatDoor
