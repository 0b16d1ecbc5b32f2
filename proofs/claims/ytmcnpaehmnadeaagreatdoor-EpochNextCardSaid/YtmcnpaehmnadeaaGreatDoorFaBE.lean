/-
  EpochNext: set.Compare, exactly.
-/
import Derived.Test.YtmcnpaehmnadeaaGreatDoorFaA
import Derived.Test.YtmcnpaehmnadeaaGreatDoorE0
set_option maxHeartbeats 6400000
set_option maxRecDepth 1000000
namespace Go.Proofs.YtmcnpaehmnadeaaGreatDoor
open Go Go.RowKit
def cmpI (a b : Int) : Int := if a < b then -1 else if b < a then 1 else 0
def szS (x : Nat) : Nat := popF x 16
def cmpS (a b : Nat) : Int := if cmpI (szS a) (szS b) ≠ 0 then cmpI (szS a) (szS b) else cmpI a b
theorem nanI_ex (a : Int) (w : World) : Calls Tryz.prog 175 #[.int .i64 a] w fun e w' => e = .returned (.bool false) ∧ w' = w := by
 go_enter Tryz.func175, Tryz.ntmps175
 go_wp2_with fail
 go_ret
 exact ⟨rfl, rfl⟩
theorem nanS_ex (a : Int) (w : World) : Calls Tryz.prog 177 #[.int .u16 a] w fun e w' => e = .returned (.bool false) ∧ w' = w := by
 go_enter Tryz.func177, Tryz.ntmps177
 go_wp2_with fail
 go_ret
 exact ⟨rfl, rfl⟩
theorem cmpI_ex (a b : Int) (w : World) : Calls Tryz.prog 160 #[.int .i64 a, .int .i64 b] w fun e w' => e = .returned (.int .i64 (cmpI a b)) ∧ w' = w := by
 by_cases h1 : a < b
 ·go_enter Tryz.func160, Tryz.ntmps160
  go_wp2_with (first
   | (go_at_call 175; (with_reducible refine (nanI_ex a _).mono ?_); rintro e w1 ⟨rfl, rfl⟩)
   | (go_at_call 175; (with_reducible refine (nanI_ex b _).mono ?_); rintro e w1 ⟨rfl, rfl⟩))
  go_ret
  exact ⟨by simp [cmpI, h1], rfl⟩
 ·by_cases h2 : b < a
  ·go_enter Tryz.func160, Tryz.ntmps160
   go_wp2_with (first
    | (go_at_call 175; (with_reducible refine (nanI_ex a _).mono ?_); rintro e w1 ⟨rfl, rfl⟩)
    | (go_at_call 175; (with_reducible refine (nanI_ex b _).mono ?_); rintro e w1 ⟨rfl, rfl⟩))
   go_ret
   exact ⟨by unfold cmpI; rw [if_neg (by omega), if_pos h2]; rfl, rfl⟩
  ·go_enter Tryz.func160, Tryz.ntmps160
   go_wp2_with (first
    | (go_at_call 175; (with_reducible refine (nanI_ex a _).mono ?_); rintro e w1 ⟨rfl, rfl⟩)
    | (go_at_call 175; (with_reducible refine (nanI_ex b _).mono ?_); rintro e w1 ⟨rfl, rfl⟩))
   go_ret
   exact ⟨by unfold cmpI; rw [if_neg (by omega), if_neg (by omega)]; rfl, rfl⟩
theorem cmpU_ex (a b : Int) (w : World) : Calls Tryz.prog 162 #[.int .u16 a, .int .u16 b] w fun e w' => e = .returned (.int .i64 (cmpI a b)) ∧ w' = w := by
 by_cases h1 : a < b
 ·go_enter Tryz.func162, Tryz.ntmps162
  go_wp2_with (first
   | (go_at_call 177; (with_reducible refine (nanS_ex a _).mono ?_); rintro e w1 ⟨rfl, rfl⟩)
   | (go_at_call 177; (with_reducible refine (nanS_ex b _).mono ?_); rintro e w1 ⟨rfl, rfl⟩))
  go_ret
  exact ⟨by simp [cmpI, h1], rfl⟩
 ·by_cases h2 : b < a
  ·go_enter Tryz.func162, Tryz.ntmps162
   go_wp2_with (first
    | (go_at_call 177; (with_reducible refine (nanS_ex a _).mono ?_); rintro e w1 ⟨rfl, rfl⟩)
    | (go_at_call 177; (with_reducible refine (nanS_ex b _).mono ?_); rintro e w1 ⟨rfl, rfl⟩))
   go_ret
   exact ⟨by unfold cmpI; rw [if_neg (by omega), if_pos h2]; rfl, rfl⟩
  ·go_enter Tryz.func162, Tryz.ntmps162
   go_wp2_with (first
    | (go_at_call 177; (with_reducible refine (nanS_ex a _).mono ?_); rintro e w1 ⟨rfl, rfl⟩)
    | (go_at_call 177; (with_reducible refine (nanS_ex b _).mono ?_); rintro e w1 ⟨rfl, rfl⟩))
   go_ret
   exact ⟨by unfold cmpI; rw [if_neg (by omega), if_neg (by omega)]; rfl, rfl⟩
def orI (a b : Int) : Int := if a ≠ 0 then a else b
theorem cmpOr_ex (g cap : Nat) (a b : Int) (w : World) (h0 : w.cell? ⟨g, 0, none⟩ = some (.int .i64 a)) (h1 : w.cell? ⟨g, 1, none⟩ = some (.int .i64 b)) : Calls Tryz.prog 159 #[.slice (some ⟨g, 0, none⟩) 2 cap] w fun e w' => e = .returned (.int .i64 (orI a b)) ∧ w' = w := by
 have H0 := Lib.hid h0
 have H1 := Lib.hid h1
 clear h0 h1
 go_enter Tryz.func159, Tryz.ntmps159
 go_wp2_with fail
 go_loopw [8] (fun i wr => wr = w ∧ (i = .int .i64 0 ∨ a = 0 ∧ i = .int .i64 1 ∨ a = 0 ∧ b = 0 ∧ i = .int .i64 2)) (fun i _ => 2 - (intOf i).toNat)
 case atStart => exact ⟨rfl, .inl rfl⟩
 case round =>
  obtain ⟨rfl, rfl | ⟨rfl, rfl⟩ | ⟨rfl, rfl, rfl⟩⟩ := hrel
  ·have q0 := H0.out
   by_cases ha : a = 0
   ·subst ha
    go_wp2_with fail
    go_roundw
    case rel => exact ⟨by first | rfl | trivial, by simp⟩
    case measure => simp [intOf]
   ·go_wp2_with fail
    go_ret
    exact ⟨by simp [orI, ha], rfl⟩
  ·have q1 := H1.out
   by_cases hb : b = 0
   ·subst hb
    go_wp2_with fail
    go_roundw
    case rel => exact ⟨by first | rfl | trivial, by simp⟩
    case measure => simp [intOf]
   ·go_wp2_with fail
    go_ret
    exact ⟨by simp [orI], rfl⟩
  ·go_wp2_with fail
   go_ret
   exact ⟨by simp [orI], rfl⟩
theorem compareSet_ex (a b : Nat) (ha : a < 4096) (hb : b < 4096) (w : World) : Calls Tryz.prog 131 #[.int .u16 (a : Int), .int .u16 (b : Int)] w (IsI (cmpS a b) w) := by
 have HB0 := Lib.hid (Below.refl w.heap.size w)
 go_enter Tryz.func131, Tryz.ntmps131
 go_wp2_with (first
  | (go_at_call 161; (with_reducible refine (count_ex a ha _).mono ?_); rintro e w1 ⟨rfl, hb1⟩; have HB1 := Lib.hid hb1; clear hb1)
  | (go_at_call 161; (with_reducible refine (count_ex b hb _).mono ?_); rintro e w2 ⟨rfl, hb2⟩; have HB2 := Lib.hid (HB1.out.trans (hb2.mono HB1.out.size)); clear hb2)
  | (go_at_call 160; (with_reducible refine (cmpI_ex _ _ _).mono ?_); rintro e w3 ⟨rfl, rfl⟩)
  | (go_at_call 162; (with_reducible refine (cmpU_ex _ _ _).mono ?_); rintro e w4 ⟨rfl, rfl⟩)
  | (go_at_call 159; (refine (cmpOr_ex _ _ (cmpI (popF a 16) (popF b 16)) (cmpI a b) _ (cellOf (heap_alloc_new _ _) rfl) (cellOf (heap_alloc_new _ _) rfl)).mono ?_); rintro e w5 ⟨rfl, rfl⟩))
 go_ret
 exact ⟨rfl, HB2.out.trans ((Below.refl _ _).alloc (Nat.le_trans HB2.out.size (Nat.le_refl _)) _)⟩
end Go.Proofs.YtmcnpaehmnadeaaGreatDoor
/-
  EpochNext: lists of sets, exactly; family.Accepts, Support.
-/
namespace Go.Proofs.YtmcnpaehmnadeaaGreatDoor
open Go Go.RowKit
def SetL (W : World) (p : Option Addr) (l : List Nat) : Prop := l = [] ∨ ∃ b off, p = some ⟨b, off, none⟩ ∧ b < W.heap.size ∧ ∀ i (h : i < l.length), W.cell? ⟨b, off + i, none⟩ = some (.int .u16 (l[i] : Nat))
theorem SetL.below {W W' : World} {p : Option Addr} {l : List Nat} (h : SetL W p l) (hb : Below W.heap.size W W') : SetL W' p l := by
 rcases h with h | ⟨b, off, h1, h2, h3⟩
 ·exact .inl h
 ·exact .inr ⟨b, off, h1, Nat.lt_of_lt_of_le h2 hb.size, fun i hi => (hb.cell (p := ⟨b, off + i, none⟩) h2).trans (h3 i hi)⟩
theorem SetL.at {W : World} {p : Option Addr} {l : List Nat} (h : SetL W p l) {k : Nat} (hk : k < l.length) : ∃ b off, p = some ⟨b, off, none⟩ ∧ b < W.heap.size ∧ W.cell? ⟨b, off + k, none⟩ = some (.int .u16 (l[k] : Nat)) := by
 rcases h with rfl | ⟨b, off, h1, h2, h3⟩
 ·simp at hk
 ·exact ⟨b, off, h1, h2, h3 k hk⟩
theorem SetL.take {W : World} {p : Option Addr} {l : List Nat} (h : SetL W p l) (k : Nat) : SetL W p (l.take k) := by
 rcases h with rfl | ⟨b, off, h1, h2, h3⟩
 ·exact .inl (by simp)
 ·exact .inr ⟨b, off, h1, h2, fun i hi => by
   have hi2 : i < l.length := by simp at hi; omega
   rw [List.getElem_take]; exact h3 i hi2⟩
def subB (x s : Nat) : Bool := bits .andNot .u16 (x : Int) (s : Int) == 0
def acc (l : List Nat) (s : Nat) : Bool := l.any fun x => subB x s
theorem containsS_ex (s x : Nat) (w : World) : Calls Tryz.prog 136 #[.int .u16 (s : Int), .int .u16 (x : Int)] w fun e w' => e = .returned (.bool (subB x s)) ∧ w' = w := by
 go_enter Tryz.func136, Tryz.ntmps136
 go_wp2_with fail
 go_ret
 exact ⟨rfl, rfl⟩
theorem acc1_ex (s x q : Nat) (w : World) (h0 : w.cell? ⟨q, 0, none⟩ = some (.int .u16 (s : Int))) : Calls Tryz.prog 135 #[.int .u16 (x : Int), .pointer (some ⟨q, 0, none⟩)] w fun e w' => e = .returned (.bool (subB x s)) ∧ w' = w := by
 go_enter Tryz.func135, Tryz.ntmps135
 go_wp2_with (go_at_call 136; refine (containsS_ex s x _).mono ?_; rintro e w1 ⟨rfl, rfl⟩)
 go_ret
 exact ⟨rfl, rfl⟩
theorem acc_take_succ {l : List Nat} {s k : Nat} (h : k < l.length) : acc (l.take (k + 1)) s = (acc (l.take k) s || subB l[k] s) := by
 unfold acc
 rw [take_snoc h, List.any_append]
 simp
theorem accIdx_ex (p : Option Addr) (m cap : Nat) (l : List Nat) (s q : Nat) (w : World) (hm : l.length = m) (hl : m ≤ 9223372036854775807) (h : SetL w p l) (h0 : w.cell? ⟨q, 0, none⟩ = some (.int .u16 (s : Int))) :
  Calls Tryz.prog 165 #[.slice p m cap, .func (.func 135) #[] #[.pointer (some ⟨q, 0, none⟩)]] w fun e w' => ∃ r : Int, e = .returned (.int .i64 r) ∧ (decide (0 ≤ r) = acc l s) ∧ w' = w := by
 have H := Lib.hid h
 have HM := Lib.hid hm
 clear h hm
 go_enter Tryz.func165, Tryz.ntmps165
 go_wp2_with fail
 go_loopw [8] (fun i wr => ∃ k : Nat, k ≤ m ∧ i = .int .i64 k ∧ acc (l.take k) s = false ∧ wr = w) (fun i _ => m - (intOf i).toNat)
 case atStart => exact ⟨0, Nat.zero_le _, rfl, rfl, rfl⟩
 case round =>
  obtain ⟨k, hk, rfl, hacc, hw⟩ := hrel
  subst hw
  have HA := Lib.hid hacc
  clear hacc
  by_cases hkm : k < m
  ·have hkl : k < l.length := by have := HM.out; omega
   obtain ⟨b, off, rfl, _, hc⟩ := H.out.at hkl
   have HS := Lib.hid (acc_take_succ (s := s) hkl)
   have HLL := Lib.hid (show acc (l.take (k + 1)) s = true → acc l s = true from fun h => by
    unfold acc at h ⊢
    rw [List.any_eq_true] at h ⊢
    obtain ⟨x, hx, h⟩ := h
    exact ⟨x, List.mem_of_mem_take hx, h⟩)
   generalize l[k] = x at hc HS
   cases hsx : subB x s
   ·have hcl : ∀ W, W.cell? ⟨q, 0, none⟩ = some (.int .u16 (s : Int)) → Calls Tryz.prog 135 #[.int .u16 (x : Int), .pointer (some ⟨q, 0, none⟩)] W fun e w' => e = .returned (.bool false) ∧ w' = W := fun W hW => by rw [← hsx]; exact acc1_ex s x q W hW
    have HC := Lib.hid hcl
    have HX := Lib.hid hsx
    clear hcl hsx
    go_wp2_with (go_at_call 135; refine (HC.out _ h0).mono ?_; rintro e w1 ⟨rfl, rfl⟩)
    go_roundw
    case rel => exact ⟨k + 1, by omega, by go_num, by rw [HS.out, HA.out, HX.out]; rfl, by first | rfl | trivial⟩
    case measure => simp [intOf]; omega
   ·have hcl : ∀ W, W.cell? ⟨q, 0, none⟩ = some (.int .u16 (s : Int)) → Calls Tryz.prog 135 #[.int .u16 (x : Int), .pointer (some ⟨q, 0, none⟩)] W fun e w' => e = .returned (.bool true) ∧ w' = W := fun W hW => by rw [← hsx]; exact acc1_ex s x q W hW
    have HC := Lib.hid hcl
    have HX := Lib.hid hsx
    clear hcl hsx
    go_wp2_with (go_at_call 135; refine (HC.out _ h0).mono ?_; rintro e w1 ⟨rfl, rfl⟩)
    go_ret
    refine ⟨_, rfl, ?_, rfl⟩
    rw [HLL.out (by rw [HS.out, HX.out]; simp)]
    simp
  ·have hkl : l.take k = l := List.take_of_length_le (by have := HM.out; omega)
   rw [hkl] at HA
   go_wp2_with fail
   go_ret
   exact ⟨_, rfl, by rw [HA.out]; rfl, rfl⟩
theorem accFn_ex (p : Option Addr) (m cap : Nat) (l : List Nat) (s q : Nat) (w : World) (hm : l.length = m) (hl : m ≤ 9223372036854775807) (h : SetL w p l) (h0 : w.cell? ⟨q, 0, none⟩ = some (.int .u16 (s : Int))) :
  Calls Tryz.prog 134 #[.slice p m cap, .func (.func 135) #[] #[.pointer (some ⟨q, 0, none⟩)]] w fun e w' => e = .returned (.bool (acc l s)) ∧ w' = w := by
 have H := Lib.hid (accIdx_ex p m cap l s q w hm hl h h0)
 clear h hm
 go_enter Tryz.func134, Tryz.ntmps134
 go_wp2_with (go_at_call 165; refine H.out.mono ?_; rintro e w1 ⟨r, rfl, hr, rfl⟩; have HR := Lib.hid hr; clear hr)
 go_ret
 refine ⟨?_, rfl⟩
 rw [← HR.out]
 rfl
theorem accepts_ex (p : Option Addr) (m cap : Nat) (l : List Nat) (s : Nat) (w : World) (hm : l.length = m) (hl : m ≤ 9223372036854775807) (h : SetL w p l) : Calls Tryz.prog 97 #[.slice p m cap, .int .u16 (s : Int)] w (IsB (acc l s) w) := by
 have hb : Below w.heap.size w (w.alloc (.cells #[.int .u16 (s : Int)] 28)) := (Below.refl _ _).alloc (Nat.le_refl _) _
 have H := Lib.hid (accFn_ex p m cap l s w.heap.size _ hm hl (h.below hb) (cellOf (heap_alloc_new w (.cells #[.int .u16 (s : Int)] 28)) rfl))
 clear h hm
 go_enter Tryz.func97, Tryz.ntmps97
 go_wp2_with (go_at_call 134; refine H.out.mono ?_; rintro e w1 ⟨rfl, rfl⟩)
 go_ret
 exact ⟨rfl, hb⟩
def uni (l : List Nat) : Int := l.foldl (fun (a : Int) (x : Nat) => bits .or .u16 a (x : Int)) (0 : Int)
theorem uni_succ {l : List Nat} {k : Nat} (h : k < l.length) : uni (l.take (k + 1)) = bits .or .u16 (uni (l.take k)) (l[k] : Nat) := by
 unfold uni
 rw [take_snoc h, List.foldl_append]
 rfl
theorem support_ex (p : Option Addr) (m cap : Nat) (l : List Nat) (w : World) (hm : l.length = m) (hl : m ≤ 9223372036854775807) (h : SetL w p l) : Calls Tryz.prog 128 #[.slice p m cap] w fun e w' => e = .returned (.int .u16 (uni l)) ∧ w' = w := by
 have H := Lib.hid h
 have HM := Lib.hid hm
 clear h hm
 go_enter Tryz.func128, Tryz.ntmps128
 go_wp2_with fail
 go_loopw [3, 8] (fun v i wr => ∃ k : Nat, k ≤ m ∧ i = .int .i64 k ∧ v = .int .u16 (uni (l.take k)) ∧ wr = w) (fun _ i _ => m - (intOf i).toNat)
 case atStart => exact ⟨0, Nat.zero_le _, rfl, rfl, rfl⟩
 case round =>
  obtain ⟨k, hk, rfl, rfl, hw⟩ := hrel
  subst hw
  by_cases hkm : k < m
  ·have hkl : k < l.length := by have := HM.out; omega
   obtain ⟨b, off, rfl, _, hc⟩ := H.out.at hkl
   have HS := Lib.hid (uni_succ hkl)
   generalize l[k] = x at hc HS
   generalize uni (l.take k) = u at HS ⊢
   go_wp2_with fail
   go_roundw
   case rel => exact ⟨k + 1, by omega, by go_num, by rw [HS.out], by first | rfl | trivial⟩
   case measure => simp [intOf]; omega
  ·have hkl : l.take k = l := List.take_of_length_le (by have := HM.out; omega)
   rw [hkl]
   go_wp2_with fail
   go_ret
   exact ⟨rfl, rfl⟩
end Go.Proofs.YtmcnpaehmnadeaaGreatDoor
/-
  EpochNext: family.Valid, exactly.
-/
namespace Go.Proofs.YtmcnpaehmnadeaaGreatDoor
open Go Go.RowKit
def scanV : Option Nat → List Nat → Nat
 | _, [] => 0
 | pr, s :: t => if 4096 ≤ s then 7 else if (match pr with | none => false | some q => decide (0 ≤ cmpS q s)) then 1 else scanV (some s) t
def prevS (l : List Nat) : Nat → Option Nat
 | 0 => none
 | k + 1 => some (l.getD k 0)
def accV (l : List Nat) : Nat → Bool
 | 0 => false
 | k + 1 => accV l k || acc (l.take k) (l.getD k 0)
def famE (l : List Nat) : Nat := if 400 < l.length then 3 else if scanV none l ≠ 0 then scanV none l else if accV l l.length then 1 else 0
theorem scanV_step {l : List Nat} {k : Nat} (h : k < l.length) : scanV (prevS l k) (l.drop k) = if 4096 ≤ l[k] then 7 else if (match prevS l k with | none => false | some q => decide (0 ≤ cmpS q l[k])) then 1 else scanV (prevS l (k + 1)) (l.drop (k + 1)) := by
 rw [List.drop_eq_getElem_cons h, scanV.eq_def]
 simp [prevS, h]
theorem rangeT : ((List.range 65536).all fun s => (s &&& 61440 == 0) == Nat.blt s 4096) = true := by kernel_rfl
theorem range_iff {s : Nat} (hs : s < 65536) : (bits .and .u16 (s : Int) 61440 = 0) = (s < 4096) := by
 have h := List.all_eq_true.mp rangeT s (by simpa using hs)
 have h1 : (s &&& 61440 == 0) = Nat.blt s 4096 := by simpa using h
 have h2 := (bits_nat .u16 16 (by decide) (fun n h0 h1 => by simp [IntKind.wrap, IntKind.bits, IntKind.signed]; omega) s 61440 hs (by decide)).1
 rw [show ((61440 : Nat) : Int) = 61440 from rfl] at h2
 rw [h2]
 apply propext
 constructor
 ·intro h3
  have h4 : s &&& 61440 = 0 := by exact_mod_cast h3
  rw [h4] at h1
  have : Nat.blt s 4096 = true := by rw [← h1]; rfl
  simpa using this
 ·intro h3
  have : Nat.blt s 4096 = true := by simpa using h3
  rw [this] at h1
  have h4 : s &&& 61440 = 0 := by simpa using h1
  rw [h4]
  rfl
theorem accV_mono {l : List Nat} {k n : Nat} (h : accV l k = true) (hk : k ≤ n) : accV l n = true := by
 induction hk with
 | refl => exact h
 | step _ ih => simp [accV, ih]
def InR (l : List Nat) : Prop := ∀ x ∈ l, x < 65536
theorem famValid_ex (p : Option Addr) (m cap : Nat) (l : List Nat) (w : World) (hm : l.length = m) (hl : m ≤ cap) (hr : InR l) (h : SetL w p l) : Calls Tryz.prog 95 #[.slice p m cap] w (IsI (famE l) w) := by
 have H := Lib.hid h
 have HM := Lib.hid hm
 have HR := Lib.hid hr
 have HC := Lib.hid hl
 clear h hm hr hl
 by_cases h4 : 400 < m
 ·have e0 : (400 : Int) < (m : Int) := by omega
  go_enter Tryz.func95, Tryz.ntmps95
  go_wp2_with fail
  go_ret
  exact ⟨by unfold famE; rw [HM.out, if_pos h4]; rfl, Below.refl _ _⟩
 ·have e0 : ¬ (400 : Int) < (m : Int) := by omega
  have hm4 : m ≤ 400 := by omega
  have hE : famE l = if scanV none l ≠ 0 then scanV none l else if accV l l.length then 1 else 0 := by unfold famE; rw [HM.out, if_neg h4]
  have HE := Lib.hid hE
  clear hE
  go_enter Tryz.func95, Tryz.ntmps95
  go_upto_region 3 with fail
  go_upto_block 0 with fail
  go_cut [] (fun wx => scanV none l = 0 ∧ (∀ x ∈ l, x < 4096) ∧ Below w.heap.size w wx)
  case first =>
   go_wp2_with fail
   go_loopw [12] (fun i wr => ∃ k : Nat, k ≤ m ∧ i = .int .i64 k ∧ scanV none l = scanV (prevS l k) (l.drop k) ∧ (∀ x ∈ l.take k, x < 4096) ∧ Below w.heap.size w wr) (fun i _ => m - (intOf i).toNat)
   case atStart => exact ⟨0, Nat.zero_le _, rfl, rfl, fun x hx => by simp at hx, Below.refl _ _⟩
   case round =>
    obtain ⟨k, hk, rfl, hs, hlt, hb⟩ := hrel
    have HS := Lib.hid hs
    have HLT := Lib.hid hlt
    have HB := Lib.hid hb
    clear hs hlt hb
    by_cases hkm : k < m
    ·have hkl : k < l.length := by have := HM.out; omega
     obtain ⟨b, off, rfl, hbb, hc0⟩ := H.out.at hkl
     have hc := (HB.out.cell (p := ⟨b, off + k, none⟩) hbb).trans hc0
     clear hc0
     have hst := scanV_step hkl
     rw [← HS.out] at hst
     have HX := Lib.hid (HR.out _ (List.getElem_mem hkl))
     have HTK := Lib.hid (show (∀ x ∈ l.take k, x < 4096) → l[k] < 4096 → ∀ x ∈ l.take (k + 1), x < 4096 from fun h1 h2 x hx => by
      rw [take_snoc hkl] at hx
      rcases List.mem_append.mp hx with hx | hx
      ·exact h1 x hx
      ·simp at hx; subst hx; exact h2)
     generalize l[k] = x at hc hst HX HTK
     by_cases hx : x < 4096
     ·have hbx : bits .and .u16 (x : Int) 61440 = 0 := by rw [range_iff HX.out]; exact hx
      rw [if_neg (by omega)] at hst
      rcases Nat.eq_zero_or_pos k with hk0 | hk0
      ·have hst0 : scanV none l = scanV (prevS l (k + 1)) (l.drop (k + 1)) := by
        rw [hst, hk0]
        rfl
       have HST := Lib.hid hst0
       have e3 : ¬ (0 : Int) < (k : Int) := by omega
       clear hst hst0 hk0
       go_wp2_with fail
       go_roundw
       case rel => exact ⟨k + 1, by omega, by go_num, HST.out, HTK.out HLT.out hx, HB.out⟩
       case measure => simp [intOf]; omega
      ·obtain ⟨j, hj⟩ : ∃ j, k = j + 1 := ⟨k - 1, by omega⟩
       have hjl : j < l.length := by omega
       obtain ⟨b2, off2, hpe, _, hd0⟩ := H.out.at hjl
       obtain ⟨rfl, rfl⟩ : b2 = b ∧ off2 = off := by
        injection hpe with hpe
        injection hpe with h1 h2
        exact ⟨h1.symm, h2.symm⟩
       have hd := (HB.out.cell (p := ⟨b2, off2 + j, none⟩) hbb).trans hd0
       have hy : l[j] < 4096 := HLT.out _ (by rw [hj, take_snoc hjl]; exact List.mem_append_right _ (List.mem_singleton.mpr rfl))
       have hpr : prevS l k = some l[j] := by rw [hj]; simp [prevS, hjl]
       rw [hpr] at hst
       clear hpe hd0 hpr
       generalize l[j] = y at hd hy hst
       simp only at hst
       have e3 : (0 : Int) < (k : Int) := by omega
       have e4 : (k : Int) - 1 = (j : Int) := by omega
       have e5 : (j : Int) < (m : Int) := by omega
       have HKJ := Lib.hid hj
       clear hj hk0
       by_cases hcp : 0 ≤ cmpS y x
       ·rw [if_pos (by simpa using hcp)] at hst
        have HST := Lib.hid hst
        clear hst
        go_wp2_with (go_at_call 131; refine (compareSet_ex y x hy hx _).mono ?_; rintro e w1 ⟨rfl, hb1⟩; have HB1 := Lib.hid (HB.out.trans (hb1.mono HB.out.size)); clear hb1)
        go_ret
        exact ⟨by rw [HE.out, HST.out]; rfl, HB1.out⟩
       ·rw [if_neg (by simpa using hcp)] at hst
        have HST := Lib.hid hst
        clear hst
        go_wp2_with (go_at_call 131; refine (compareSet_ex y x hy hx _).mono ?_; rintro e w1 ⟨rfl, hb1⟩; have HB1 := Lib.hid (HB.out.trans (hb1.mono HB.out.size)); clear hb1)
        go_roundw
        case rel => exact ⟨k + 1, by omega, by go_num, HST.out, HTK.out HLT.out hx, HB1.out⟩
        case measure => simp [intOf]; omega
     ·have hbx : ¬ bits .and .u16 (x : Int) 61440 = 0 := by rw [range_iff HX.out]; exact hx
      rw [if_pos (by omega)] at hst
      have HST := Lib.hid hst
      clear hst
      go_wp2_with fail
      go_ret
      exact ⟨by rw [HE.out, HST.out]; rfl, HB.out⟩
    ·obtain rfl : k = m := by omega
     have hd : l.drop k = [] := List.drop_eq_nil_of_le (by have := HM.out; omega)
     have ht : l.take k = l := List.take_of_length_le (by have := HM.out; omega)
     rw [hd] at HS
     rw [ht] at HLT
     go_wp2_with fail
     go_meet
     exact ⟨by rw [HS.out, scanV.eq_def], HLT.out, HB.out⟩
  case rest =>
   obtain ⟨hs0, hlt, hb⟩ := hcut
   have HLT := Lib.hid hlt
   have HS0 := Lib.hid hs0
   have HB := Lib.hid hb
   clear hs0 hlt hb
   have hm4 : m ≤ 400 := by omega
   go_wp2_with fail
   go_loopw [37] (fun i wr => ∃ k : Nat, k ≤ m ∧ i = .int .i64 k ∧ accV l k = false ∧ Below w.heap.size w wr) (fun i _ => m - (intOf i).toNat)
   case atStart => exact ⟨0, Nat.zero_le _, rfl, rfl, HB.out⟩
   case round =>
    obtain ⟨k, hk, rfl, hacc, hb⟩ := hrel
    have HAC := Lib.hid hacc
    have HB2 := Lib.hid hb
    clear hacc hb
    by_cases hkm : k < m
    ·have hkl : k < l.length := by have := HM.out; omega
     obtain ⟨b, off, rfl, hbb, hc0⟩ := H.out.at hkl
     have hc := (HB2.out.cell (p := ⟨b, off + k, none⟩) hbb).trans hc0
     clear hc0
     have hgd : l.getD k 0 = l[k] := by simp [hkl]
     have hst : accV l (k + 1) = acc (l.take k) l[k] := by simp [accV, HAC.out, hkl]
     have HST := Lib.hid hst
     have HMO := Lib.hid (@accV_mono l (k + 1) l.length)
     have HAX := Lib.hid (fun W (hW : Below w.heap.size w W) => accepts_ex (some ⟨b, off, none⟩) k cap (l.take k) l[k] W (by rw [List.length_take]; omega) (by omega) ((H.out.take k).below hW))
     clear hst hgd
     have e1 : (k : Int) ≤ (cap : Int) := by have := HC.out; omega
     have e2 : k ≤ cap := by have := HC.out; omega
     cases hax : acc (l.take k) l[k]
     ·have HX := Lib.hid hax
      rw [hax] at HAX
      clear hax
      generalize l[k] = x at hc HAX
      go_wp2_with (go_at_call 97; refine (HAX.out _ HB2.out).mono ?_; rintro e w1 ⟨rfl, hb1⟩; have HB3 := Lib.hid (HB2.out.trans (hb1.mono HB2.out.size)); clear hb1)
      go_roundw
      case rel => exact ⟨k + 1, by omega, by go_num, by rw [HST.out]; exact HX.out, HB3.out⟩
      case measure => simp [intOf]; omega
     ·have HX := Lib.hid hax
      rw [hax] at HAX
      clear hax
      have HK1 := Lib.hid (show k + 1 ≤ l.length from hkl)
      generalize l[k] = x at hc HAX HX HST
      go_wp2_with (go_at_call 97; refine (HAX.out _ HB2.out).mono ?_; rintro e w1 ⟨rfl, hb1⟩; have HB3 := Lib.hid (HB2.out.trans (hb1.mono HB2.out.size)); clear hb1)
      go_ret
      refine ⟨?_, HB3.out⟩
      rw [HE.out, HS0.out, HMO.out (by rw [HST.out]; exact HX.out) HK1.out]
      rfl
    ·obtain rfl : k = m := by omega
     rw [← HM.out] at HAC
     go_wp2_with fail
     go_ret
     exact ⟨by rw [HE.out, HS0.out, HAC.out]; rfl, HB2.out⟩
end Go.Proofs.YtmcnpaehmnadeaaGreatDoor
/-
  EpochNext: config.checkFamily, exactly; lists of faults; fault.check, Covers, compare.
-/
namespace Go.Proofs.YtmcnpaehmnadeaaGreatDoor
open Go Go.RowKit
def cfE (l : List Nat) (mb : Nat) : Nat := if famE l ≠ 0 then famE l else if l = [] ∨ l.getD 0 0 = 0 then 9 else if bits .andNot .u16 (uni l) (mb : Int) ≠ 0 then 7 else 0
theorem checkFam_ex (p : Option Addr) (m cap : Nat) (l : List Nat) (mb : Nat) (w : World) (hm : l.length = m) (hl : m ≤ cap) (hc63 : cap ≤ 9223372036854775807) (hr : InR l) (h : SetL w p l) : Calls Tryz.prog 93 #[.slice p m cap, .int .u16 (mb : Int)] w (IsI (cfE l mb) w) := by
 have HV := Lib.hid (famValid_ex p m cap l w hm hl hr h)
 have H := Lib.hid h
 have HM := Lib.hid hm
 have HS := Lib.hid (fun W (hW : Below w.heap.size w W) => support_ex p m cap l W hm (by omega) (h.below hW))
 have HE := Lib.hid (show cfE l mb = if famE l ≠ 0 then famE l else if l = [] ∨ l.getD 0 0 = 0 then 9 else if bits .andNot .u16 (uni l) (mb : Int) ≠ 0 then 7 else 0 from rfl)
 have HHD := Lib.hid (fun (hp : 0 < l.length) => h.at hp)
 clear hr h
 go_enter Tryz.func93, Tryz.ntmps93
 go_upto_if 9 with (go_at_call 95; refine HV.out.mono ?_; rintro e w1 ⟨rfl, hb1⟩; have HB1 := Lib.hid hb1; clear hb1)
 by_cases hf : famE l = 0
 ·have HF := Lib.hid hf
  have e0 : ((famE l : Nat) : Int) = 0 := by rw [hf]; rfl
  clear hf
  go_upto_region 4 with fail
  by_cases hm0 : m = 0
  ·have hln : l = [] := List.eq_nil_of_length_eq_zero (by have := HM.out; omega)
   have HLN := Lib.hid hln
   subst hm0
   clear hln
   go_wp2_with fail
   go_ret
   exact ⟨by rw [HE.out, HF.out, HLN.out]; rfl, HB1.out⟩
  ·have hp0 : 0 < l.length := by have := HM.out; omega
   obtain ⟨b, off, rfl, hbb, hc0⟩ := HHD.out hp0
   have hc1 := (HB1.out.cell (p := ⟨b, off + 0, none⟩) hbb).trans hc0
   simp only [Nat.add_zero] at hc1
   have HG := Lib.hid (show l.getD 0 0 = l[0] by simp [hp0])
   have HNE := Lib.hid (show ¬ l = [] from fun h => by rw [h] at hp0; simp at hp0)
   have e1 : ((m : Int) == 0) = false := by rw [beq_eq_false_iff_ne]; omega
   have e2 : ¬ (m : Int) = 0 := by omega
   have e3 : (0 : Int) < (m : Int) := by omega
   clear hc0
   generalize l[0] = x at hc1 HG
   by_cases hx : x = 0
   ·subst hx
    go_wp2_with fail
    go_ret
    exact ⟨by rw [HE.out, HF.out, HG.out]; simp, HB1.out⟩
   ·have e4 : ((x : Int) == 0) = false := by rw [beq_eq_false_iff_ne]; omega
    have e5 : ¬ (x : Int) = 0 := by omega
    go_upto_if 24 with (go_at_call 128; refine (HS.out _ HB1.out).mono ?_; rintro e w2 ⟨rfl, rfl⟩)
    by_cases hu : bits .andNot .u16 (uni l) (mb : Int) = 0
    ·have HU := Lib.hid hu
     go_wp2_with fail
     go_ret
     exact ⟨by rw [HE.out, HF.out, HG.out, HU.out]; simp [HNE.out, hx], HB1.out⟩
    ·have HU := Lib.hid hu
     go_wp2_with fail
     go_ret
     exact ⟨by rw [HE.out, HF.out, HG.out, if_pos (show _ ≠ _ from HU.out)]; simp [HNE.out, hx], HB1.out⟩
 ·have HF := Lib.hid hf
  have e0 : ¬ ((famE l : Nat) : Int) = 0 := by omega
  clear hf
  go_wp2_with fail
  go_ret
  exact ⟨by rw [HE.out, if_pos (show _ ≠ _ from HF.out)]; rfl, HB1.out⟩
end Go.Proofs.YtmcnpaehmnadeaaGreatDoor
