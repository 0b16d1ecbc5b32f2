/-
  EpochOf: functions on sets and faults that return (Within, Contains, Has, Size, Before, Faulty, Members, Count, Compare, Covers).
-/
import Derived.Test.YtmcnpaehmnadeaaGreatDoorE0
set_option maxHeartbeats 6400000
set_option maxRecDepth 1000000
namespace Go.Proofs.YtmcnpaehmnadeaaGreatDoor
open Go Go.RowKit
def wB (a b : Int) : Bool := bits .andNot .u16 a b == 0
theorem within_ex (a b : Int) (w : World) : Calls Tryz.prog 112 #[.int .u16 a, .int .u16 b] w fun e w' => e = .returned (.bool (wB a b)) ∧ w' = w := by
 go_enter Tryz.func112, Tryz.ntmps112
 go_wp2_with fail
 go_ret
 exact ⟨rfl, rfl⟩
theorem contains_ex (a b : Int) (w : World) : Calls Tryz.prog 146 #[.int .u16 a, .int .u16 b] w fun e w' => e = .returned (.bool (wB b a)) ∧ w' = w := by
 go_enter Tryz.func146, Tryz.ntmps146
 go_wp2_with fail
 go_ret
 exact ⟨rfl, rfl⟩
theorem hasS_any (a : Int) (i : Nat) (w : World) (hi : i < 16) : Calls Tryz.prog 195 #[.int .u16 a, .int .i64 i] w fun e w' => ∃ r : Bool, e = .returned (.bool r) ∧ w' = w := by
 have e0 : (0 : Int) ≤ (i : Int) := by omega
 have e1 : (i : Int) < 16 := by omega
 go_enter Tryz.func195, Tryz.ntmps195
 go_wp2_with fail
 all_goals
  go_ret
  exact ⟨_, rfl, rfl⟩
theorem sizeS_any (a : Int) (w : World) : Calls Tryz.prog 168 #[.int .u16 a] w fun e w' => ∃ k : Int, e = .returned (.int .i64 k) ∧ w' = w := by
 go_enter Tryz.func168, Tryz.ntmps168
 go_wp2_with fail
 go_loopw [3, 4] (fun n i wr => ∃ (m : Int) (k : Nat), n = .int .i64 m ∧ k ≤ 16 ∧ i = .int .i64 k ∧ wr = w) (fun _ i _ => 16 - (intOf i).toNat)
 case atStart => exact ⟨0, 0, rfl, Nat.zero_le _, rfl, rfl⟩
 case round =>
  obtain ⟨m, k, rfl, hk, rfl, rfl⟩ := hrel
  by_cases hkn : k < 16
  ·have e0 : (0 : Int) ≤ (k : Int) := by omega
   go_wp2_with fail
   all_goals
    exact ⟨⟨_, k + 1, rfl, by omega, by go_num, by first | rfl | trivial⟩, by simp [intOf]; omega⟩
  ·go_wp2_with fail
   go_ret
   exact ⟨_, rfl, rfl⟩
theorem before_any (a b : Int) (w : World) : Calls Tryz.prog 145 #[.int .u16 a, .int .u16 b] w fun e w' => ∃ r : Bool, e = .returned (.bool r) ∧ w' = w := by
 go_enter Tryz.func145, Tryz.ntmps145
 go_wp2_with (first
  | (go_at_call 168; (with_reducible refine (sizeS_any a _).mono ?_); rintro e w1 ⟨k, rfl, rfl⟩)
  | (go_at_call 168; (with_reducible refine (sizeS_any b _).mono ?_); rintro e w1 ⟨k, rfl, rfl⟩))
 all_goals
  go_ret
  exact ⟨_, rfl, rfl⟩
theorem members_any (a : Int) (w : World) : Calls Tryz.prog 169 #[.int .u16 a] w fun e w' => ∃ (p : Option Addr) (n cap : Nat), e = .returned (.slice p n cap) ∧ n ≤ 16 ∧ Below w.heap.size w w' := by
 obtain ⟨i0, hi, hz0, hz1, hz2⟩ := info_parts Tryz.info3
 go_enter Tryz.func169, Tryz.ntmps169
 go_wp2_with fail
 go_loopw [3, 4] (fun v i wr => ∃ (k : Nat) (l : List Nat), k ≤ 16 ∧ i = .int .i64 k ∧ l.length ≤ k ∧ wr.ownsRow w.heap.size 3 1 v l.length (inV l) ∧ Below w.heap.size w wr) (fun _ i _ => 16 - (intOf i).toNat)
 case atStart => exact ⟨0, [], Nat.zero_le _, rfl, Nat.le_refl _, World.ownsRow_nil _ _ _ _, Below.refl _ _⟩
 case round =>
  obtain ⟨k, l, hk, rfl, hl, hown, hb⟩ := hrel
  have HW := Lib.hid hown
  have HB := Lib.hid hb
  have hsz := hb.size
  clear hown hb
  by_cases hkn : k < 16
  ·go_upto_if 11 with (go_at_call 195; refine (hasS_any a k _ hkn).mono ?_; rintro e w1 ⟨r, rfl, rfl⟩)
   cases r
   ·go_wp2_with fail
    go_roundw
    case rel => exact ⟨k + 1, l, by omega, by go_num, by omega, HW.out, HB.out⟩
    case measure => simp [intOf]; omega
   ·go_wp2_with (at_builtin; refine wpList_append_own _ rfl _ _ 30 rfl w.heap.size 3 i0 (.int .i64 0) 1 8 Tryz.underlying30 hi hz0 hz1 hz2 rfl (by decide) _ _ _ rfl (HW.out.alloc _) ⟨w1.heap.size, 0, none⟩ 1 1 [.int .i64 k] rfl rfl ?c1 ?c2 ?c3 ?c4 ?c5 ?_)
    try (case c1 => (intro j u hj; cases j with | zero => (simp at hj; subst hj; simp [Addr.add]) | succ j => simp at hj))
    case c2 => first | rfl | (intro u hu; simp at hu; subst hu; rfl)
    case c3 => unfold maxLen; omega
    case c4 => omega
    case c5 => first | omega | (simp; omega)
    intro v' w3 hown' hgrow _
    have hb3 : Below w.heap.size w w3 := below_grown HB.out hsz HW.out hgrow
    rw [inV_snoc] at hown'
    have HO3 := Lib.hid hown'
    clear hown' hgrow
    go_wp2_with fail
    go_roundw
    case rel => exact ⟨k + 1, l ++ [k], by omega, by go_num, by rw [List.length_append]; show l.length + 1 ≤ _; omega, by rw [List.length_append]; exact HO3.out, hb3⟩
    case measure => simp [intOf]; omega
  ·obtain ⟨p5, c5, hv5, _, _⟩ := intL_of_own HW.out
   subst hv5
   go_wp2_with fail
   go_ret
   exact ⟨p5, l.length, ⟨c5, rfl⟩, by omega, HB.out⟩
theorem count_any (a : Int) (w : World) : Calls Tryz.prog 149 #[.int .u16 a] w (IntRet w) := by
 go_enter Tryz.func149, Tryz.ntmps149
 go_wp2_with (go_at_call 169; refine (members_any a _).mono ?_; rintro e w1 ⟨p, n, cap, rfl, hn, hb⟩)
 go_ret
 exact ⟨_, rfl, hb⟩
def IntF (w0 : World) (e : Ending) (w' : World) : Prop := ∃ k : Int, e = .returned (.int .i64 k) ∧ Below w0.heap.size w0 w'
theorem countF {w0 W : World} (h : Below w0.heap.size w0 W) (a : Int) : Calls Tryz.prog 149 #[.int .u16 a] W (IntF w0) := (count_any a W).mono fun _ _ ⟨k, h1, h2⟩ => ⟨k, h1, h.trans (h2.mono h.size)⟩
theorem compareS_any (a b : Int) (w : World) : Calls Tryz.prog 114 #[.int .u16 a, .int .u16 b] w (IntRet w) := by
 have HB0 := Lib.hid (Below.refl w.heap.size w)
 go_enter Tryz.func114, Tryz.ntmps114
 go_upto_region 3 with fail
 ·go_ret
  exact ⟨_, rfl, HB0.out⟩
 ·go_wp2_with (first
   | (go_at_call 149; (with_reducible refine (countF HB0.out a).mono ?_); rintro e w1 ⟨k1, rfl, hb1⟩; have HB1 := Lib.hid hb1; clear hb1 HB0)
   | (go_at_call 149; (with_reducible refine (countF HB1.out b).mono ?_); rintro e w2 ⟨k2, rfl, hb2⟩; have HB2 := Lib.hid hb2; clear hb2 HB1)
   | (go_at_call 149; (with_reducible refine (countF HB2.out a).mono ?_); rintro e w3 ⟨k3, rfl, hb3⟩; have HB3 := Lib.hid hb3; clear hb3 HB2)
   | (go_at_call 149; (with_reducible refine (countF HB3.out b).mono ?_); rintro e w4 ⟨k4, rfl, hb4⟩; have HB4 := Lib.hid hb4; clear hb4 HB3))
  all_goals first
   | (go_ret; exact ⟨_, rfl, HB4.out⟩)
   | (go_ret; exact ⟨_, rfl, HB2.out⟩)
structure TF (w : World) (a b c d : Int) (A : Nat) (W : World) : Prop where
 fa : W.heap[A]? = some (.cells #[.int .u16 a, .int .u16 b] 69 (0, 0))
 fb : W.heap[A + 1]? = some (.cells #[.int .u16 c, .int .u16 d] 69 (0, 0))
 bl : Below w.heap.size w W
theorem TF.below {w : World} {a b c d : Int} {A : Nat} {W W' : World} (h : TF w a b c d A W) (hb : Below W.heap.size W W') : TF w a b c d A W' :=
 ⟨(hb.block _ (gLt h.fa)).trans h.fa, (hb.block _ (gLt h.fb)).trans h.fb, h.bl.trans (hb.mono h.bl.size)⟩
theorem tfS {w : World} {a b c d : Int} {A : Nat} {W : World} (h : TF w a b c d A W) : W.cell? ⟨A, 0, none⟩ = some (.int .u16 a) ∧ W.cell? ⟨A, 1, none⟩ = some (.int .u16 b) ∧ W.cell? ⟨A + 1, 0, none⟩ = some (.int .u16 c) ∧ W.cell? ⟨A + 1, 1, none⟩ = some (.int .u16 d) ∧ TF w a b c d A W :=
 ⟨cellOf h.fa rfl, cellOf h.fa rfl, cellOf h.fb rfl, cellOf h.fb rfl, h⟩
theorem compareF_any (a b c d : Int) (w : World) : Calls Tryz.prog 80 #[.agg #[.int .u16 a, .int .u16 b], .agg #[.int .u16 c, .int .u16 d]] w (IntRet w) := by
 have HT := Lib.hid (show TF w a b c d w.heap.size ((w.alloc (.cells #[.int .u16 a, .int .u16 b] 69)).alloc (.cells #[.int .u16 c, .int .u16 d] 69)) from ⟨heap_alloc2_old w _ _, heap_alloc2_new w _ _, ((Below.refl _ _).alloc (Nat.le_refl _) _).alloc (by simp) _⟩)
 go_enter Tryz.func80, Tryz.ntmps80
 go_upto_region 1 with fail
 revert HT
 generalize (w.alloc (.cells #[.int .u16 a, .int .u16 b] 69)).alloc (.cells #[.int .u16 c, .int .u16 d] 69) = W0
 generalize w.heap.size = A
 intro HT
 obtain ⟨q0, q1, q2, q3, _⟩ := tfS HT.out
 go_wp2_with (first
  | (go_at_call 114; (with_reducible refine (compareS_any a c _).mono ?_); rintro e w1 ⟨k1, rfl, hb1⟩; have HT1 := Lib.hid (HT.out.below hb1); obtain ⟨q0, q1, q2, q3, _⟩ := tfS HT1.out; clear hb1)
  | (go_at_call 114; (with_reducible refine (compareS_any b d _).mono ?_); rintro e w2 ⟨k2, rfl, hb2⟩; have HT2 := Lib.hid (HT1.out.below hb2); clear hb2))
 all_goals first
  | (go_ret; exact ⟨_, rfl, HT2.out.bl⟩)
  | (go_ret; exact ⟨_, rfl, HT1.out.bl⟩)
end Go.Proofs.YtmcnpaehmnadeaaGreatDoor
/-
  EpochOf: lists of sets that return (Choose, moved).
-/
namespace Go.Proofs.YtmcnpaehmnadeaaGreatDoor
open Go Go.RowKit
def u16V (l : List Int) : List Value := l.map fun x => Value.int .u16 x
theorem u16V_snoc (l : List Int) (x : Int) : u16V l ++ [.int .u16 x] = u16V (l ++ [x]) := by simp [u16V]
theorem u16V_len (l : List Int) : (u16V l).length = l.length := by simp [u16V]
def SetP (W : World) (p : Option Addr) (n : Nat) : Prop := n = 0 ∨ ∃ b off, p = some ⟨b, off, none⟩ ∧ b < W.heap.size ∧ ∀ i, i < n → ∃ x : Int, W.cell? ⟨b, off + i, none⟩ = some (.int .u16 x)
theorem SetP.below {W W' : World} {p : Option Addr} {n : Nat} (h : SetP W p n) (hb : Below W.heap.size W W') : SetP W' p n := by
 rcases h with h | ⟨b, off, h1, h2, h3⟩
 ·exact .inl h
 ·exact .inr ⟨b, off, h1, Nat.lt_of_lt_of_le h2 hb.size, fun i hi => by obtain ⟨x, hx⟩ := h3 i hi; exact ⟨x, (hb.cell (p := ⟨b, off + i, none⟩) h2).trans hx⟩⟩
theorem SetP.at {W : World} {p : Option Addr} {n k : Nat} (h : SetP W p n) (hk : k < n) : ∃ b off x, p = some ⟨b, off, none⟩ ∧ b < W.heap.size ∧ W.cell? ⟨b, off + k, none⟩ = some (.int .u16 x) := by
 rcases h with rfl | ⟨b, off, h1, h2, h3⟩
 ·omega
 ·obtain ⟨x, hx⟩ := h3 k hk
  exact ⟨b, off, x, h1, h2, hx⟩
theorem setP_of_own {w : World} {base n : Nat} {v : Value} {l : List Int} (h : w.ownsRow base 28 1 v n (u16V l)) : ∃ p cap, v = .slice p n cap ∧ SetP w p n ∧ n ≤ cap := by
 have hl : l.length = n := by have := h.1; rw [u16V_len] at this; omega
 rcases h.2 with ⟨rfl, rfl⟩ | ⟨g, cap, cur, rfl, _, hc, hcap, _, hsz, hx⟩
 ·exact ⟨none, 0, rfl, .inl rfl, Nat.le_refl _⟩
 ·have hg : g < w.heap.size := (gLt hc)
  refine ⟨_, cap, rfl, .inr ⟨g, 0, rfl, hg, fun i hi => ⟨l[i]'(by omega), ?_⟩⟩, hcap⟩
  have hj2 : (cur.toList.take (n * 1))[i]? = some (.int .u16 (l[i]'(by omega))) := by rw [hx]; simp [u16V, hl, hi]
  rw [List.getElem?_take] at hj2
  split at hj2
  ·simp [World.cell?, hc]
   simpa using hj2
  ·cases hj2
theorem Tryz.info28 : (Tryz.prog.info? 28).map (fun i => (i.zero, i.size, i.bytes)) = some (some (.int .u16 0), 1, 2) := by kernel_rfl
def FreshP (B : Nat) (p : Option Addr) : Prop := ∀ q, p = some q → B ≤ q.block
theorem fresh_of_own {w : World} {base e sz n m cap : Nat} {p : Option Addr} {xs : List Value} (h : w.ownsRow base e sz (.slice p m cap) n xs) : FreshP base p := fun q hq => by
 subst hq
 rcases h.2 with ⟨h0, _⟩ | ⟨g, cap', cur, h1, hg, _⟩
 ·cases h0
 ·injection h1 with h1
  injection h1 with h1
  subst h1
  exact hg
def SetRet (B : Nat) (w : World) (e : Ending) (w' : World) : Prop := ∃ (p : Option Addr) (n cap : Nat), e = .returned (.slice p n cap) ∧ n ≤ B ∧ n ≤ cap ∧ SetP w' p n ∧ FreshP w.heap.size p ∧ Below w.heap.size w w'
theorem choose_any (a k0 : Int) (w : World) : Calls Tryz.prog 111 #[.int .u16 a, .int .i64 k0] w (SetRet 65536 w) := by
 obtain ⟨i0, hi, hz0, hz1, hz2⟩ := info_parts Tryz.info28
 obtain ⟨M, hM⟩ : ∃ M : Nat, M = 65536 := ⟨_, rfl⟩
 have HM := Lib.hid hM
 clear hM
 go_enter Tryz.func111, Tryz.ntmps111
 go_wp2_with fail
 go_loopw [5, 6] (fun v i wr => ∃ (k : Nat) (l : List Int), k ≤ M ∧ i = .int .i64 k ∧ l.length ≤ k ∧ wr.ownsRow w.heap.size 28 1 v l.length (u16V l) ∧ Below w.heap.size w wr) (fun _ i _ => M - (intOf i).toNat)
 case atStart => exact ⟨0, [], Nat.zero_le _, rfl, Nat.le_refl _, World.ownsRow_nil _ _ _ _, Below.refl _ _⟩
 case round =>
  obtain ⟨k, l, hk, rfl, hl, hown, hb⟩ := hrel
  have HW := Lib.hid hown
  have HB := Lib.hid hb
  have hsz := hb.size
  clear hown hb
  have HK := Lib.hid hk
  by_cases hkn : k < M
  ·have e1 : (k : Int) < 65536 := by have := HM.out; omega
   have hl2 := Lib.hid (Nat.le_trans hl hk)
   have HKN := Lib.hid hkn
   have HL := Lib.hid hl
   clear hk hkn hl
   go_upto_if 21 with (first
    | (go_at_call 112; refine (within_ex _ a _).mono ?_; rintro e w1 ⟨rfl, rfl⟩)
    | (go_at_call 149; refine (count_any _ _).mono ?_; rintro e w2 ⟨r, rfl, hb2⟩; have HW2 := Lib.hid (own_below HW.out hb2); have HB2 := Lib.hid (HB.out.trans (hb2.mono hsz)); have hsz2 := Nat.le_trans hsz hb2.size; clear hb2))
   ·by_cases hr : r = k0
    ·subst hr
     go_wp2_with (at_builtin; refine wpList_append_own _ rfl _ _ 46 rfl w.heap.size 28 i0 (.int .u16 0) 1 2 Tryz.underlying46 hi hz0 hz1 hz2 rfl (by decide) _ _ _ rfl (HW2.out.alloc _) ⟨w2.heap.size, 0, none⟩ 1 1 [.int .u16 k] rfl rfl ?c1 ?c2 ?c3 ?c4 ?c5 ?_)
     try (case c1 => (intro j u hj; cases j with | zero => (simp at hj; subst hj; simp [Addr.add]) | succ j => simp at hj))
     case c2 => first | rfl | (intro u hu; simp at hu; subst hu; rfl)
     case c3 => have := hl2.out; have := HM.out; unfold maxLen; omega
     case c4 => have := hl2.out; have := HM.out; omega
     case c5 => have := hl2.out; have := HM.out; first | omega | (simp; omega)
     intro v' w3 hown' hgrow _
     have hb3 : Below w.heap.size w w3 := below_grown HB2.out hsz2 HW2.out hgrow
     rw [u16V_snoc] at hown'
     have HO3 := Lib.hid hown'
     clear hown' hgrow
     go_wp2_with fail
     have hk := HKN.out
     go_roundw
     case rel => exact ⟨k + 1, l ++ [_], by omega, by go_num, by rw [List.length_append]; show l.length + 1 ≤ _; have := HL.out; omega, by rw [List.length_append]; exact HO3.out, hb3⟩
     case measure => simp [intOf]; omega
    ·have dr : (r == k0) = false := by simpa using hr
     go_wp2_with fail
     have hk := HKN.out
     go_roundw
     case rel => exact ⟨k + 1, l, by omega, by go_num, by have := HL.out; omega, HW2.out, HB2.out⟩
     case measure => simp [intOf]; omega
   ·go_wp2_with fail
    have hk := HKN.out
    go_roundw
    case rel => exact ⟨k + 1, l, by omega, by go_num, by have := HL.out; omega, HW.out, HB.out⟩
    case measure => simp [intOf]; omega
  ·have e1 : ¬ (k : Int) < 65536 := by have := HM.out; omega
   obtain ⟨p5, c5, hv5, hp5, hc5⟩ := setP_of_own HW.out
   subst hv5
   go_wp2_with fail
   go_ret
   exact ⟨p5, _, c5, rfl, by have := HM.out; omega, hc5, hp5, fresh_of_own HW.out, HB.out⟩
end Go.Proofs.YtmcnpaehmnadeaaGreatDoor
/-
  EpochOf: a row of sets of the call's own, written in place.
-/
namespace Go.Proofs.YtmcnpaehmnadeaaGreatDoor
open Go Go.RowKit
theorem own_put {w : World} {base n : Nat} {p : Option Addr} {cap : Nat} {l : List Int} (h : w.ownsRow base 28 1 (.slice p n cap) n (u16V l)) {k : Nat} (hk : k < n) (x : Int) :
  ∃ g, p = some ⟨g, 0, none⟩ ∧ base ≤ g ∧ g < w.heap.size ∧ w.frozen? ⟨g, k, none⟩ = false ∧ (∀ i, i < n → ∃ y : Int, w.cell? ⟨g, i, none⟩ = some (.int .u16 y)) ∧
   (w.setCell ⟨g, k, none⟩ (.int .u16 x)).ownsRow base 28 1 (.slice p n cap) n (u16V (l.set k x)) := by
 have hl : l.length = n := by have := h.1; rw [u16V_len] at this; omega
 rcases h.2 with ⟨h0, h1⟩ | ⟨g, cap', cur, h1, hg, hc, hcap, hm, hsz, hx⟩
 ·omega
 ·injection h1 with e1 e2 e3
  subst e1; subst e3
  refine ⟨g, rfl, hg, (gLt hc), by unfold World.frozen?; rw [hc]; simp, fun i hi => ⟨l[i]'(by omega), ?_⟩, ?_, .inr ⟨g, cap, cur.setIfInBounds k (.int .u16 x), rfl, hg, ?_, hcap, hm, by simpa using hsz, ?_⟩⟩
  ·have hj2 : (cur.toList.take (n * 1))[i]? = some (.int .u16 (l[i]'(by omega))) := by rw [hx]; simp [u16V, hl, hi]
   rw [List.getElem?_take] at hj2
   split at hj2
   ·simp [World.cell?, hc]
    simpa using hj2
   ·cases hj2
  ·rw [u16V_len, List.length_set]; omega
  ·unfold World.setCell
   simp [Array.getElem?_modify, hc]
  ·rw [Array.toList_setIfInBounds, List.take_set, hx]
   simp [u16V, List.map_set]
theorem own_put' {w : World} {base n g cap : Nat} {l : List Int} (h : w.ownsRow base 28 1 (.slice (some ⟨g, 0, none⟩) n cap) n (u16V l)) {k : Nat} (hk : k < n) (x : Int) :
  w.frozen? ⟨g, k, none⟩ = false ∧ (w.setCell ⟨g, k, none⟩ (.int .u16 x)).ownsRow base 28 1 (.slice (some ⟨g, 0, none⟩) n cap) n (u16V (l.set k x)) := by
 obtain ⟨g', hg, _, _, h1, _, h2⟩ := own_put h hk x
 injection hg with hg
 injection hg with hg
 subst hg
 exact ⟨h1, h2⟩
theorem own_cell {w : World} {base n g cap : Nat} {l : List Int} (h : w.ownsRow base 28 1 (.slice (some ⟨g, 0, none⟩) n cap) n (u16V l)) {k : Nat} (hk : k < n) : base ≤ g ∧ ∃ y : Int, w.cell? ⟨g, k, none⟩ = some (.int .u16 y) := by
 obtain ⟨g', hg, h0, _, _, h1, _⟩ := own_put h hk 0
 injection hg with hg
 injection hg with hg
 subst hg
 exact ⟨h0, h1 k hk⟩
theorem own_some {w : World} {base n : Nat} {v : Value} {l : List Int} (h : w.ownsRow base 28 1 v n (u16V l)) (hn : 0 < n) : ∃ g cap, v = .slice (some ⟨g, 0, none⟩) n cap := by
 rcases h.2 with ⟨_, h1⟩ | ⟨g, cap, cur, h1, _⟩
 ·omega
 ·exact ⟨g, cap, h1⟩
end Go.Proofs.YtmcnpaehmnadeaaGreatDoor
/-
  EpochOf: moved, Sorted, Least, sets return.
-/
namespace Go.Proofs.YtmcnpaehmnadeaaGreatDoor
open Go Go.RowKit
end Go.Proofs.YtmcnpaehmnadeaaGreatDoor
/-
  EpochOf: sederuntref08.Sorted returns.
-/
namespace Go.Proofs.YtmcnpaehmnadeaaGreatDoor
open Go Go.RowKit
def VT (w : World) (v : Value) (l : List Int) (b o g j : Nat) (x y : Int) (W : World) : Prop :=
 W.cell? ⟨b, o, none⟩ = some (.int .u16 x) ∧ W.cell? ⟨g, j, none⟩ = some (.int .u16 y) ∧ W.ownsRow w.heap.size 28 1 v l.length (u16V l) ∧ Below w.heap.size w W
theorem VT.drew {w : World} {v : Value} {l : List Int} {b o g j : Nat} {x y : Int} {W : World} (h : VT w v l b o g j x y W) : VT w v l b o g j x y W.drew := ⟨h.1, h.2.1, own_below h.2.2.1 (below_drew W), h.2.2.2.trans ((below_drew W).mono h.2.2.2.size)⟩
theorem vtS {w : World} {v : Value} {l : List Int} {b o g j : Nat} {x y : Int} {W : World} (h : VT w v l b o g j x y W) : W.cell? ⟨b, o, none⟩ = some (.int .u16 x) ∧ W.cell? ⟨g, j, none⟩ = some (.int .u16 y) ∧ VT w v l b o g j x y W := ⟨h.1, h.2.1, h⟩
theorem own_drewN {w : World} {base e sz n : Nat} {v : Value} {xs : List Value} (h : w.ownsRow base e sz v n xs) (k : Nat) : (w.drewN k).ownsRow base e sz v n xs := h
theorem sorted_any (p : Option Addr) (n cap : Nat) (w : World) (hn : n ≤ 1000) (hp : SetP w p n) : Calls Tryz.prog 147 #[.slice p n cap] w (SetRet 1000 w) := by
 obtain ⟨i0, hi, hz0, hz1, hz2⟩ := info_parts Tryz.info28
 have HP := Lib.hid hp
 clear hp
 go_enter Tryz.func147, Tryz.ntmps147
 go_wp2_with fail
 go_loopw [3, 4] (fun v i wr => ∃ (k : Nat) (l : List Int), k ≤ n ∧ i = .int .i64 k ∧ l.length ≤ k ∧ wr.ownsRow w.heap.size 28 1 v l.length (u16V l) ∧ Below w.heap.size w wr) (fun _ i _ => n - (intOf i).toNat)
 case atStart => exact ⟨0, [], Nat.zero_le _, rfl, Nat.le_refl _, World.ownsRow_nil _ _ _ _, Below.refl _ _⟩
 case round =>
  obtain ⟨k, l, hk, rfl, hl, hown, hb⟩ := hrel
  have HW := Lib.hid hown
  have HB := Lib.hid hb
  clear hown hb
  obtain ⟨p3, c3, hv3, hp3, hc3⟩ := setP_of_own HW.out
  subst hv3
  have HP3 := Lib.hid hp3
  clear hp3
  by_cases hkn : k < n
  ·obtain ⟨b, off, x, rfl, hbb, hc⟩ := HP.out.at hkn
   have e1 : (0 : Int) ≤ (k : Int) := by omega
   have e2 : (k : Int) < (n : Int) := by omega
   go_upto_block 2 with fail
   go_cut [5] (fun a wx => ∃ j : Nat, j ≤ l.length ∧ a = .int .i64 j ∧ wx.ownsRow w.heap.size 28 1 (.slice p3 l.length c3) l.length (u16V l) ∧ Below w.heap.size w wx)
   case first =>
    go_wp2_with fail
    go_loopw [5] (fun a wx => ∃ j : Nat, j ≤ l.length ∧ a = .int .i64 j ∧ wx.ownsRow w.heap.size 28 1 (.slice p3 l.length c3) l.length (u16V l) ∧ Below w.heap.size w wx) (fun a _ => l.length - (intOf a).toNat)
    case atStart => exact ⟨0, Nat.zero_le _, rfl, HW.out, HB.out⟩
    case round =>
     obtain ⟨j, hj, rfl, hown, hb⟩ := hrel
     have HW2 := Lib.hid hown
     have HB2 := Lib.hid hb
     clear hown hb
     have e0 : (0 : Int) ≤ (j : Int) := by omega
     by_cases hjl : j < l.length
     ·obtain ⟨g, c, hg⟩ := own_some HW2.out (by omega)
      injection hg with hg1 _ hg3
      subst hg1
      subst hg3
      obtain ⟨_, y, hy⟩ := own_cell HW2.out hjl
      have e3 : (j : Int) < (l.length : Int) := by omega
      have HV := Lib.hid (show VT w (.slice (some ⟨g, 0, none⟩) l.length c3) l b (off + k) g j x y _ from ⟨(HB2.out.cell (p := ⟨b, off + k, none⟩) hbb).trans hc, hy, HW2.out, HB2.out⟩)
      clear hy
      go_upto_region 6 with fail
      go_region_held3 (fun W => W.cell? ⟨b, off + k, none⟩ = some (.int .u16 x) ∧ W.cell? ⟨g, j, none⟩ = some (.int .u16 y) ∧ VT w (.slice (some ⟨g, 0, none⟩) l.length c3) l b (off + k) g j x y W)
       (first | exact vtS HV.out | exact vtS HV.out.drew | exact vtS hV2)
       ((go_at_call 145; refine (before_any y x _).mono ?_; rintro e w2 ⟨r, rfl, rfl⟩; have hV2 := HV.out.drew))
      cases r
      ·go_wp2_with fail
       go_meet
       exact ⟨j, hj, rfl, hV2.2.2.1, hV2.2.2.2⟩
      ·go_wp2_with fail
       go_roundw
       case rel => exact ⟨j + 1, by omega, by go_num, hV2.2.2.1, hV2.2.2.2⟩
       case measure => simp [intOf]; omega
     ·have e3 : decide ((j : Int) < (l.length : Int)) = false := by simp; omega
      go_upto_region 6 with fail
      go_quiet (fail)
      go_wp2_with fail
      go_meet
      exact ⟨j, hj, rfl, own_drewN HW2.out _, below_drewN HB2.out _⟩
   case rest =>
    obtain ⟨j, hj, rfl, hown, hb⟩ := hcut
    have HW2 := Lib.hid hown
    have HB2 := Lib.hid hb
    have hsz2 := hb.size
    clear hown hb
    have e0 : (0 : Int) ≤ (j : Int) := by omega
    have hc1 := (HB2.out.cell (p := ⟨b, off + k, none⟩) hbb).trans hc
    by_cases hjl : j < l.length
    ·obtain ⟨g0, c0, hg⟩ := own_some HW2.out (by omega)
     injection hg with hg1 _ hg3
     subst hg1
     subst hg3
     obtain ⟨_, y, hy⟩ := own_cell HW2.out hjl
     have e3 : (j : Int) < (l.length : Int) := by omega
     go_upto_region 8 with fail
     go_quiet (fail)
     have HW4 := Lib.hid (own_drewN HW2.out nq)
     have HB4 := Lib.hid (below_drewN HB2.out nq)
     generalize wc.drewN nq = w4 at HW4 HB4 ⊢
     have hsz4 := HB4.out.size
     clear hy e0 e3 hc1
     go_upto_region 9 with fail
     ·skip
      go_roundw
      case rel => exact ⟨k + 1, by omega, by go_num, l, by omega, HW4.out, HB4.out⟩
      case measure => simp [intOf]; omega
     ·skip
      have T := HW4.out.alloc (.cells #[.int .u16 0] 28)
      go_wp2_with (at_builtin; refine wpList_append_own _ rfl _ _ 46 rfl w.heap.size 28 i0 (.int .u16 0) 1 2 Tryz.underlying46 hi hz0 hz1 hz2 rfl (by decide) (.slice (some ⟨g0, 0, none⟩) l.length c3) l.length (u16V l) rfl T ⟨w4.heap.size, 0, none⟩ 1 1 [.int .u16 0] rfl rfl ?c1 ?c2 ?c3 ?c4 ?c5 ?_)
      try (case c1 => (intro j u hj; cases j with | zero => (simp at hj; subst hj; simp [Addr.add]) | succ j => simp at hj))
      case c2 => first | rfl | (intro u hu; simp at hu; subst hu; rfl)
      case c3 => unfold maxLen; omega
      case c4 => omega
      case c5 => first | omega | (simp; omega)
      intro v' w5 hown' hgrow _
      clear T
      have hb5 : Below w.heap.size w w5 := below_grown HB4.out hsz4 HW4.out hgrow
      rw [u16V_snoc] at hown'
      obtain ⟨g, c, hg⟩ := own_some hown' (by omega)
      subst hg
      have HW5 := Lib.hid hown'
      have HB5 := Lib.hid hb5
      clear hown' hgrow hb5
      go_wp2_with fail
      go_loopw [6] (fun a wx => ∃ (m : Nat) (l' : List Int), j ≤ m ∧ m ≤ l.length ∧ a = .int .i64 m ∧ l'.length = l.length + 1 ∧ wx.ownsRow w.heap.size 28 1 (.slice (some ⟨g, 0, none⟩) (l.length + 1) c) (l.length + 1) (u16V l') ∧ Below w.heap.size w wx) (fun a _ => (intOf a).toNat)
      case atStart => exact ⟨l.length, l ++ [0], hj, Nat.le_refl _, by go_num, by simp, HW5.out, HB5.out⟩
      case round =>
       obtain ⟨m, l', hm1, hm2, rfl, hl', hown, hb⟩ := hrel
       have HW6 := Lib.hid hown
       have HB6 := Lib.hid hb
       have HL' := Lib.hid hl'
       clear hown hb hl'
       by_cases hmj : j < m
       ·obtain ⟨m', rfl⟩ : ∃ m', m = m' + 1 := ⟨m - 1, by omega⟩
        obtain ⟨hgb, y6, hy6⟩ := own_cell HW6.out (k := m') (by omega)
        obtain ⟨hf6, hw6⟩ := own_put' HW6.out (k := m' + 1) (by omega) y6
        obtain ⟨_, y7, hy7⟩ := own_cell HW6.out (k := m' + 1) (by omega)
        have H6 := Lib.hid (And.intro hw6 (below_set HB6.out (p := ⟨g, m' + 1, none⟩) hgb (.int .u16 y6)))
        clear hw6
        go_wp2_with fail
        go_roundw
        case rel => exact ⟨m', l'.set (m' + 1) y6, by omega, by omega, by go_num, by rw [List.length_set]; exact HL'.out, H6.out.1, H6.out.2⟩
        case measure => simp [intOf]
       ·obtain rfl : m = j := by omega
        obtain ⟨hgb, y6, hy6⟩ := own_cell HW6.out (k := m) (by omega)
        obtain ⟨hf6, hw6⟩ := own_put' HW6.out (k := m) (by omega) x
        have hc6 := (HB6.out.cell (p := ⟨b, off + k, none⟩) hbb).trans hc
        have H6 := Lib.hid (And.intro hw6 (below_set HB6.out (p := ⟨g, m, none⟩) hgb (.int .u16 x)))
        clear hw6
        go_wp2_with fail
        go_roundw
        case rel => exact ⟨k + 1, l'.set m x, by omega, by go_num, by rw [List.length_set, HL'.out]; omega, by rw [List.length_set, HL'.out]; exact H6.out.1, H6.out.2⟩
        case measure => simp [intOf]; omega
    ·have e3 : decide ((j : Int) < (l.length : Int)) = false := by simp; omega
     go_upto_region 8 with fail
     go_quiet (fail)
     have HW4 := Lib.hid (own_drewN HW2.out nq)
     have HB4 := Lib.hid (below_drewN HB2.out nq)
     generalize wc.drewN nq = w4 at HW4 HB4 ⊢
     have hsz4 := HB4.out.size
     clear e0 e3 hc1
     go_upto_region 9 with fail
     ·skip
      have T := HW4.out.alloc (.cells #[.int .u16 0] 28)
      go_wp2_with (at_builtin; refine wpList_append_own _ rfl _ _ 46 rfl w.heap.size 28 i0 (.int .u16 0) 1 2 Tryz.underlying46 hi hz0 hz1 hz2 rfl (by decide) (.slice p3 l.length c3) l.length (u16V l) rfl T ⟨w4.heap.size, 0, none⟩ 1 1 [.int .u16 0] rfl rfl ?d1 ?d2 ?d3 ?d4 ?d5 ?_)
      try (case d1 => (intro j u hj; cases j with | zero => (simp at hj; subst hj; simp [Addr.add]) | succ j => simp at hj))
      case d2 => first | rfl | (intro u hu; simp at hu; subst hu; rfl)
      case d3 => unfold maxLen; omega
      case d4 => omega
      case d5 => first | omega | (simp; omega)
      intro v' w5 hown' hgrow _
      clear T
      have hb5 : Below w.heap.size w w5 := below_grown HB4.out hsz4 HW4.out hgrow
      rw [u16V_snoc] at hown'
      obtain ⟨g, c, hg⟩ := own_some hown' (by omega)
      subst hg
      have HW5 := Lib.hid hown'
      have HB5 := Lib.hid hb5
      clear hown' hgrow hb5
      go_wp2_with fail
      go_loopw [6] (fun a wx => ∃ (m : Nat) (l' : List Int), j ≤ m ∧ m ≤ l.length ∧ a = .int .i64 m ∧ l'.length = l.length + 1 ∧ wx.ownsRow w.heap.size 28 1 (.slice (some ⟨g, 0, none⟩) (l.length + 1) c) (l.length + 1) (u16V l') ∧ Below w.heap.size w wx) (fun a _ => (intOf a).toNat)
      case atStart => exact ⟨l.length, l ++ [0], hj, Nat.le_refl _, by go_num, by simp, HW5.out, HB5.out⟩
      case round =>
       obtain ⟨m, l', hm1, hm2, rfl, hl', hown, hb⟩ := hrel
       have HW6 := Lib.hid hown
       have HB6 := Lib.hid hb
       have HL' := Lib.hid hl'
       clear hown hb hl'
       by_cases hmj : j < m
       ·exfalso
        omega
       ·obtain rfl : m = j := by omega
        obtain ⟨hgb, y6, hy6⟩ := own_cell HW6.out (k := m) (by omega)
        obtain ⟨hf6, hw6⟩ := own_put' HW6.out (k := m) (by omega) x
        have hc6 := (HB6.out.cell (p := ⟨b, off + k, none⟩) hbb).trans hc
        have H6 := Lib.hid (And.intro hw6 (below_set HB6.out (p := ⟨g, m, none⟩) hgb (.int .u16 x)))
        clear hw6
        go_wp2_with fail
        go_roundw
        case rel => exact ⟨k + 1, l'.set m x, by omega, by go_num, by rw [List.length_set, HL'.out]; omega, by rw [List.length_set, HL'.out]; exact H6.out.1, H6.out.2⟩
        case measure => simp [intOf]; omega
  ·go_wp2_with fail
   go_ret
   exact ⟨p3, _, c3, rfl, by omega, hc3, HP3.out, fresh_of_own HW.out, HB.out⟩
end Go.Proofs.YtmcnpaehmnadeaaGreatDoor
/-
  EpochOf: sederuntref08.Least returns.
-/
namespace Go.Proofs.YtmcnpaehmnadeaaGreatDoor
open Go Go.RowKit
theorem least_any (p : Option Addr) (n cap : Nat) (w : World) (hn : n ≤ 1000) (hp : SetP w p n) : Calls Tryz.prog 105 #[.slice p n cap] w (SetRet 1000 w) := by
 obtain ⟨i0, hi, hz0, hz1, hz2⟩ := info_parts Tryz.info28
 go_enter Tryz.func105, Tryz.ntmps105
 go_upto_region 3 with (go_at_call 147; refine (sorted_any p n cap _ hn hp).mono ?_; rintro e w1 ⟨p4, n4, c4, rfl, hn4, hc4, hp4, _, hb1⟩)
 have HP4 := Lib.hid hp4
 have HB1 := Lib.hid hb1
 have hsz1 := hb1.size
 clear hp4 hb1
 go_wp2_with fail
 go_loopw [3, 5] (fun v i wr => ∃ (k : Nat) (l : List Int), k ≤ n4 ∧ i = .int .i64 k ∧ l.length ≤ k ∧ wr.ownsRow w1.heap.size 28 1 v l.length (u16V l) ∧ Below w1.heap.size w1 wr) (fun _ i _ => n4 - (intOf i).toNat)
 case atStart => exact ⟨0, [], Nat.zero_le _, rfl, Nat.le_refl _, World.ownsRow_nil _ _ _ _, Below.refl _ _⟩
 case round =>
  obtain ⟨k, l, hk, rfl, hl, hown, hb⟩ := hrel
  have HW := Lib.hid hown
  have HB := Lib.hid hb
  clear hown hb
  by_cases hkn : k < n4
  ·obtain ⟨b, off, x, rfl, hbb, hc⟩ := HP4.out.at hkn
   have e1 : (0 : Int) ≤ (k : Int) := by omega
   have e2 : (k : Int) < (n4 : Int) := by omega
   go_wp2_with fail
   go_loopw [6, 7] (fun f a wx => ∃ (fb : Bool) (j : Nat), j ≤ n4 ∧ f = .bool fb ∧ a = .int .i64 j ∧ wx.ownsRow w1.heap.size 28 1 u3 l.length (u16V l) ∧ Below w1.heap.size w1 wx) (fun _ a _ => n4 - (intOf a).toNat)
   case atStart => exact ⟨true, 0, Nat.zero_le _, rfl, rfl, HW.out, HB.out⟩
   case round =>
    obtain ⟨fb, j, hj, rfl, rfl, hown, hb⟩ := hrel
    have HW2 := Lib.hid hown
    have HB2 := Lib.hid hb
    have hsz2 := hb.size
    clear hown hb
    have hcx := (HB2.out.cell (p := ⟨b, off + k, none⟩) hbb).trans hc
    by_cases hjn : j < n4
    ·obtain ⟨b', off', y, hpe, _, hcy0⟩ := HP4.out.at hjn
     obtain ⟨rfl, rfl⟩ : b' = b ∧ off' = off := by
      injection hpe with hpe
      injection hpe with h1 h2
      exact ⟨h1.symm, h2.symm⟩
     have hcy := (HB2.out.cell (p := ⟨b', off' + j, none⟩) hbb).trans hcy0
     have e3 : (0 : Int) ≤ (j : Int) := by omega
     have e4 : (j : Int) < (n4 : Int) := by omega
     clear hcy0
     by_cases hkj : k = j
     ·subst hkj
      go_upto_region 10 with fail
      go_quiet (fail)
      go_wp2_with fail
      go_roundw
      case rel => exact ⟨fb, k + 1, by omega, rfl, by go_num, own_drewN HW2.out _, below_drewN HB2.out _⟩
      case measure => simp [intOf]; omega
     ·have dkj : ((k : Int) != (j : Int)) = true := by simp; omega
      go_upto_region 10 with fail
      go_quiet ((go_at_call 146; refine Calls.quiet_of_same (contains_ex x y _)))
      clear dkj
      go_wp2_with fail
      all_goals
       go_roundw
       case rel => exact ⟨_, j + 1, by omega, rfl, by go_num, own_drewN HW2.out _, below_drewN HB2.out _⟩
       case measure => simp [intOf]; omega
    ·cases fb
     ·go_wp2_with fail
      go_roundw
      case rel => first | exact ⟨k + 1, l, by omega, by go_num, by omega, HW2.out, HB2.out⟩ | exact ⟨k + 1, by omega, by go_num, l, by omega, HW2.out, HB2.out⟩
      case measure => simp [intOf]; omega
     ·go_wp2_with (at_builtin; refine wpList_append_own _ rfl _ _ 46 rfl w1.heap.size 28 i0 (.int .u16 0) 1 2 Tryz.underlying46 hi hz0 hz1 hz2 rfl (by decide) _ _ _ rfl (HW2.out.alloc _) ⟨wr.heap.size, 0, none⟩ 1 1 [.int .u16 x] rfl rfl ?c1 ?c2 ?c3 ?c4 ?c5 ?_)
      try (case c1 => (intro j u hj; cases j with | zero => (simp at hj; subst hj; simp [Addr.add]) | succ j => simp at hj))
      case c2 => first | rfl | (intro u hu; simp at hu; subst hu; rfl)
      case c3 => unfold maxLen; omega
      case c4 => omega
      case c5 => first | omega | (simp; omega)
      intro v' w5 hown' hgrow _
      have hb5 : Below w1.heap.size w1 w5 := below_grown HB2.out hsz2 HW2.out hgrow
      rw [u16V_snoc] at hown'
      have HO5 := Lib.hid hown'
      clear hown' hgrow
      go_wp2_with fail
      go_roundw
      case rel => exact ⟨k + 1, l ++ [x], by omega, by go_num, by rw [List.length_append]; show l.length + 1 ≤ _; omega, by rw [List.length_append]; exact HO5.out, hb5⟩
      case measure => simp [intOf]; omega
  ·obtain ⟨p5, c5, hv5, hp5, hc5⟩ := setP_of_own HW.out
   subst hv5
   go_wp2_with fail
   go_ret
   exact ⟨p5, _, c5, rfl, by omega, hc5, hp5, fun q hq => Nat.le_trans hsz1 (fresh_of_own HW.out q hq), HB1.out.trans (HB.out.mono hsz1)⟩
end Go.Proofs.YtmcnpaehmnadeaaGreatDoor
/-
  EpochOf: sederuntref27.sets returns.
-/
namespace Go.Proofs.YtmcnpaehmnadeaaGreatDoor
open Go Go.RowKit
theorem sets_any (a0 a1 a2 : Int) (pr pw pf : Option Addr) (nr cr nw cw nf cf : Nat) (p : Option Addr) (n cap m : Nat) (w : World) (hm : 1 ≤ m) (hm2 : m ≤ 5) (hn : n ≤ 9223372036854775807) (hp : SetP w p n) :
  Calls Tryz.prog 77 #[.agg #[.int .u8 a0, .int .u8 a1, .int .u8 a2, .slice pr nr cr, .slice pw nw cw, .slice pf nf cf], .slice p n cap, .int .i64 m] w (SetRet 65536 w) := by
 obtain ⟨i0, hi, hz0, hz1, hz2⟩ := info_parts Tryz.info28
 have hb0 : Below w.heap.size w (w.alloc (.cells #[.int .u8 a0, .int .u8 a1, .int .u8 a2, .slice pr nr cr, .slice pw nw cw, .slice pf nf cf] 76)) := (Below.refl _ _).alloc (Nat.le_refl _) _
 have HB0 := Lib.hid hb0
 have HP := Lib.hid (hp.below hb0)
 have q2 : (w.alloc (.cells #[.int .u8 a0, .int .u8 a1, .int .u8 a2, .slice pr nr cr, .slice pw nw cw, .slice pf nf cf] 76)).cell? ⟨w.heap.size, 2, none⟩ = some (.int .u8 a2) := by simp
 have em : (0 : Int) ≤ (m : Int) := by omega
 have em2 : ((m : Int) == 0) = false := by simp; omega
 clear hp hb0
 go_enter Tryz.func77, Tryz.ntmps77
 go_upto_region 1 with fail
 revert HB0 HP q2
 generalize w.alloc (.cells #[.int .u8 a0, .int .u8 a1, .int .u8 a2, .slice pr nr cr, .slice pw nw cw, .slice pf nf cf] 76) = W0
 intro HB0 HP q2
 have hsz0 := HB0.out.size
 go_upto_if 18 with fail
 generalize hfl : (a2.tmod 2 == 1) = fl
 generalize IntKind.u16.wrap (IntKind.u16.wrap (2 ^ m) - 1) = al
 generalize IntKind.u16.wrap (2 ^ m) = al2
 clear hfl q2
 cases fl
 ·go_wp2_with fail
  go_loopw [9, 10] (fun v i wr => ∃ (k : Nat) (l : List Int), k ≤ n ∧ k ≤ 6 ∧ i = .int .i64 k ∧ l.length ≤ k ∧ wr.ownsRow W0.heap.size 28 1 v l.length (u16V l) ∧ Below W0.heap.size W0 wr) (fun _ i _ => 6 - (intOf i).toNat)
  case atStart => exact ⟨0, [], Nat.zero_le _, by omega, rfl, Nat.le_refl _, World.ownsRow_nil _ _ _ _, Below.refl _ _⟩
  case round =>
   obtain ⟨k, l, hk, hk6, rfl, hl, hown, hb⟩ := hrel
   have HW := Lib.hid hown
   have HB := Lib.hid hb
   have hsz := hb.size
   clear hown hb
   by_cases hkn : k < n ∧ k < 6
   ·have hk1 := hkn.1
    have hk2 := hkn.2
    have e1 : (k : Int) < (n : Int) := by omega
    have e2 : (k : Int) < 6 := by omega
    obtain ⟨b, off, x, rfl, hbb, hc⟩ := HP.out.at hk1
    have hc1 := (HB.out.cell (p := ⟨b, off + k, none⟩) hbb).trans hc
    clear hc hkn
    go_upto_region 12 with fail
    generalize bits BinOp.and IntKind.u16 x al = xa
    by_cases hx : xa = 0
    ·subst hx
     go_wp2_with fail
     go_roundw
     case rel => first | exact ⟨k + 1, l, by omega, by omega, by go_num, by omega, HW.out, HB.out⟩ | exact ⟨k + 1, by omega, by omega, by go_num, l, by omega, HW.out, HB.out⟩
     case measure => simp [intOf]; omega
    ·have dx : (xa != 0) = true := by simpa using hx
     go_wp2_with (at_builtin; refine wpList_append_own _ rfl _ _ 46 rfl W0.heap.size 28 i0 (.int .u16 0) 1 2 Tryz.underlying46 hi hz0 hz1 hz2 rfl (by decide) _ _ _ rfl (HW.out.alloc _) ⟨wr.heap.size, 0, none⟩ 1 1 [.int .u16 xa] rfl rfl ?c1 ?c2 ?c3 ?c4 ?c5 ?_)
     try (case c1 => (intro j u hj; cases j with | zero => (simp at hj; subst hj; simp [Addr.add]) | succ j => simp at hj))
     case c2 => first | rfl | (intro u hu; simp at hu; subst hu; rfl)
     case c3 => unfold maxLen; omega
     case c4 => omega
     case c5 => first | omega | (simp; omega)
     intro v' w5 hown' hgrow _
     have hb5 : Below W0.heap.size W0 w5 := below_grown HB.out hsz HW.out hgrow
     rw [u16V_snoc] at hown'
     have HO5 := Lib.hid hown'
     clear hown' hgrow
     go_wp2_with fail
     go_roundw
     case rel => exact ⟨k + 1, l ++ [xa], by omega, by omega, by go_num, by rw [List.length_append]; show l.length + 1 ≤ _; omega, by rw [List.length_append]; exact HO5.out, hb5⟩
     case measure => simp [intOf]; omega
   ·obtain ⟨p5, c5, hv5, hp5, hc5⟩ := setP_of_own HW.out
    subst hv5
    have HP5 := Lib.hid hp5
    clear hp5
    by_cases hkn2 : k < n
    ·have e1 : (k : Int) < (n : Int) := by omega
     have e2 : ¬ (k : Int) < 6 := by omega
     clear hkn
     go_upto_region 14 with fail
     by_cases hl0 : l.length = 0
     ·have hl1 : l = [] := List.eq_nil_of_length_eq_zero hl0
      subst hl1
      go_wp2_with (at_builtin; refine wpList_append_own _ rfl _ _ 46 rfl W0.heap.size 28 i0 (.int .u16 0) 1 2 Tryz.underlying46 hi hz0 hz1 hz2 rfl (by decide) (.slice p5 ([] : List Int).length c5) 0 [] rfl (HW.out.alloc _) ⟨wr.heap.size, 0, none⟩ 1 1 [.int .u16 al] rfl rfl ?d1 ?d2 ?d3 ?d4 ?d5 ?_)
      try (case d1 => (intro j u hj; cases j with | zero => (simp at hj; subst hj; simp [Addr.add]) | succ j => simp at hj))
      try (case d2 => (first | rfl | (intro u hu; simp at hu; subst hu; rfl)))
      try (case d3 => (unfold maxLen; omega))
      try (case d4 => (omega))
      try (case d5 => (first | omega | (simp; omega)))
      intro v' w5 hown' hgrow _
      have hb5 : Below W0.heap.size W0 w5 := below_grown HB.out hsz HW.out hgrow
      obtain ⟨p7, c7, hv7, hp7, hc7⟩ := setP_of_own (l := [al]) hown'
      subst hv7
      have HP7 := Lib.hid hp7
      have HB5 := Lib.hid hb5
      clear hp7 hown' hgrow hb5
      go_wp2_with (go_at_call 105; refine (least_any p7 _ c7 _ (by omega) HP7.out).mono ?_; rintro e w6 ⟨p6, n6, c6, rfl, hn6, hc6, hp6, hf6, hb6⟩)
      go_ret
      exact ⟨p6, n6, c6, rfl, by omega, hc6, hp6, fun q hq => Nat.le_trans (Nat.le_trans hsz0 HB5.out.size) (hf6 q hq), HB0.out.trans ((HB5.out.trans (hb6.mono HB5.out.size)).mono hsz0)⟩
     ·have dl : ((l.length : Int) == 0) = false := by rw [beq_eq_false_iff_ne]; omega
      go_wp2_with (go_at_call 105; refine (least_any p5 l.length c5 _ (by omega) HP5.out).mono ?_; rintro e w6 ⟨p6, n6, c6, rfl, hn6, hc6, hp6, hf6, hb6⟩)
      go_ret
      exact ⟨p6, n6, c6, rfl, by omega, hc6, hp6, fun q hq => Nat.le_trans (Nat.le_trans hsz0 hsz) (hf6 q hq), HB0.out.trans ((HB.out.trans (hb6.mono HB.out.size)).mono hsz0)⟩
    ·have e1 : ¬ (k : Int) < (n : Int) := by omega
     clear hkn
     go_upto_region 14 with fail
     by_cases hl0 : l.length = 0
     ·have hl1 : l = [] := List.eq_nil_of_length_eq_zero hl0
      subst hl1
      go_wp2_with (at_builtin; refine wpList_append_own _ rfl _ _ 46 rfl W0.heap.size 28 i0 (.int .u16 0) 1 2 Tryz.underlying46 hi hz0 hz1 hz2 rfl (by decide) (.slice p5 ([] : List Int).length c5) 0 [] rfl (HW.out.alloc _) ⟨wr.heap.size, 0, none⟩ 1 1 [.int .u16 al] rfl rfl ?f1 ?f2 ?f3 ?f4 ?f5 ?_)
      try (case f1 => (intro j u hj; cases j with | zero => (simp at hj; subst hj; simp [Addr.add]) | succ j => simp at hj))
      try (case f2 => (first | rfl | (intro u hu; simp at hu; subst hu; rfl)))
      try (case f3 => (unfold maxLen; omega))
      try (case f4 => (omega))
      try (case f5 => (first | omega | (simp; omega)))
      intro v' w5 hown' hgrow _
      have hb5 : Below W0.heap.size W0 w5 := below_grown HB.out hsz HW.out hgrow
      obtain ⟨p7, c7, hv7, hp7, hc7⟩ := setP_of_own (l := [al]) hown'
      subst hv7
      have HP7 := Lib.hid hp7
      have HB5 := Lib.hid hb5
      clear hp7 hown' hgrow hb5
      go_wp2_with (go_at_call 105; refine (least_any p7 _ c7 _ (by omega) HP7.out).mono ?_; rintro e w6 ⟨p6, n6, c6, rfl, hn6, hc6, hp6, hf6, hb6⟩)
      go_ret
      exact ⟨p6, n6, c6, rfl, by omega, hc6, hp6, fun q hq => Nat.le_trans (Nat.le_trans hsz0 HB5.out.size) (hf6 q hq), HB0.out.trans ((HB5.out.trans (hb6.mono HB5.out.size)).mono hsz0)⟩
     ·have dl : ((l.length : Int) == 0) = false := by rw [beq_eq_false_iff_ne]; omega
      go_wp2_with (go_at_call 105; refine (least_any p5 l.length c5 _ (by omega) HP5.out).mono ?_; rintro e w6 ⟨p6, n6, c6, rfl, hn6, hc6, hp6, hf6, hb6⟩)
      go_ret
      exact ⟨p6, n6, c6, rfl, by omega, hc6, hp6, fun q hq => Nat.le_trans (Nat.le_trans hsz0 hsz) (hf6 q hq), HB0.out.trans ((HB.out.trans (hb6.mono HB.out.size)).mono hsz0)⟩
 ·by_cases hn0 : n = 0
  ·subst hn0
   go_wp2_with (go_at_call 111; refine (choose_any al _ _).mono ?_; rintro e w5 ⟨p5, n5, c5, rfl, hn5, hc5, hp5, hf5, hb5⟩)
   go_ret
   exact ⟨p5, n5, c5, rfl, hn5, hc5, hp5, fun q hq => Nat.le_trans hsz0 (hf5 q hq), HB0.out.trans (hb5.mono hsz0)⟩
  ·obtain ⟨b, off, x, rfl, hbb, hc⟩ := HP.out.at (k := 0) (by omega)
   simp only [Nat.add_zero] at hc
   have e1 : (0 : Int) < (n : Int) := by omega
   go_wp2_with (go_at_call 111; refine (choose_any al _ _).mono ?_; rintro e w5 ⟨p5, n5, c5, rfl, hn5, hc5, hp5, hf5, hb5⟩)
   go_ret
   exact ⟨p5, n5, c5, rfl, hn5, hc5, hp5, fun q hq => Nat.le_trans hsz0 (hf5 q hq), HB0.out.trans (hb5.mono hsz0)⟩
end Go.Proofs.YtmcnpaehmnadeaaGreatDoor
/-
  EpochOf: sederuntref19.Covers, exactly; lists of faults.
-/
namespace Go.Proofs.YtmcnpaehmnadeaaGreatDoor
open Go Go.RowKit
def orS (a b : Int) : Int := bits .or .u16 a b
def cB (a b c d : Int) : Bool := wB c a && wB (orS c d) (orS a b)
theorem faulty_ex (a b : Int) (w : World) : Calls Tryz.prog 113 #[.agg #[.int .u16 a, .int .u16 b]] w fun e w' => e = .returned (.int .u16 (orS a b)) ∧ Below w.heap.size w w' := by
 go_enter Tryz.func113, Tryz.ntmps113
 go_wp2_with fail
 go_ret
 exact ⟨rfl, (Below.refl _ _).alloc (Nat.le_refl _) _⟩
theorem covers_ex (a b c d : Int) (w : World) : Calls Tryz.prog 79 #[.agg #[.int .u16 a, .int .u16 b], .agg #[.int .u16 c, .int .u16 d]] w (IsB (cB a b c d) w) := by
 have HT := Lib.hid (show TF w a b c d w.heap.size ((w.alloc (.cells #[.int .u16 a, .int .u16 b] 69)).alloc (.cells #[.int .u16 c, .int .u16 d] 69)) from ⟨heap_alloc2_old w _ _, heap_alloc2_new w _ _, ((Below.refl _ _).alloc (Nat.le_refl _) _).alloc (by simp) _⟩)
 go_enter Tryz.func79, Tryz.ntmps79
 go_upto_region 1 with fail
 revert HT
 generalize (w.alloc (.cells #[.int .u16 a, .int .u16 b] 69)).alloc (.cells #[.int .u16 c, .int .u16 d] 69) = W0
 generalize w.heap.size = A
 intro HT
 cases hw : wB c a
 ·obtain ⟨q0, q1, q2, q3, _⟩ := tfS HT.out
  have within0 : ∀ W, Calls Tryz.prog 112 #[.int .u16 c, .int .u16 a] W fun e w' => e = .returned (.bool false) ∧ w' = W := fun W => by rw [← hw]; exact within_ex c a W
  have WI := Lib.hid within0
  have HW := Lib.hid hw
  clear within0 hw
  go_quiet ((go_at_call 112; refine Calls.quiet_of_same (WI.out _)))
  go_wp2_with fail
  go_ret
  exact ⟨by simp [cB, HW.out], below_drewN HT.out.bl _⟩
 ·go_region_held3 (fun W => W.cell? ⟨A, 0, none⟩ = some (.int .u16 a) ∧ W.cell? ⟨A, 1, none⟩ = some (.int .u16 b) ∧ W.cell? ⟨A + 1, 0, none⟩ = some (.int .u16 c) ∧ W.cell? ⟨A + 1, 1, none⟩ = some (.int .u16 d) ∧ TF w a b c d A W)
   (first | exact tfS HT.out | exact tfS (HT.out.below (below_drew _)) | exact tfS hT1 | exact tfS hT2 | exact tfS hT3)
   (first
    | (go_at_call 112; (with_reducible refine (within_ex c a _).mono ?_); rw [hw]; rintro e w1 ⟨rfl, rfl⟩; have hT1 := HT.out.below (below_drew _))
    | (go_at_call 113; (with_reducible refine (faulty_ex c d _).mono ?_); rintro e w2 ⟨rfl, hb2⟩; have hT2 := hT1.below hb2)
    | (go_at_call 113; (with_reducible refine (faulty_ex a b _).mono ?_); rintro e w3 ⟨rfl, hb3⟩; have hT3 := hT2.below hb3)
    | (go_at_call 112; (with_reducible refine (within_ex (orS c d) (orS a b) _).mono ?_); rintro e w4 ⟨rfl, rfl⟩))
  go_wp2_with fail
  go_ret
  exact ⟨by simp [cB, hw], hT3.bl⟩
def ftV : List (Int × Int) → List Value
 | [] => []
 | x :: t => .int .u16 x.1 :: .int .u16 x.2 :: ftV t
theorem ftV_len : ∀ L, (ftV L).length = L.length * 2
 | [] => rfl
 | x :: t => by simp [ftV, ftV_len t]; omega
theorem ftV_app : ∀ A B, ftV (A ++ B) = ftV A ++ ftV B
 | [], _ => rfl
 | x :: t, B => by simp [ftV, ftV_app t B]
theorem ftV_get : ∀ {L : List (Int × Int)} {i : Nat} {x : Int × Int}, L[i]? = some x → (ftV L)[i * 2]? = some (.int .u16 x.1) ∧ (ftV L)[i * 2 + 1]? = some (.int .u16 x.2)
 | [], _, _, h => by simp at h
 | a :: t, 0, x, h => by simp at h; subst h; exact ⟨rfl, rfl⟩
 | a :: t, i + 1, x, h => by
  have := ftV_get (L := t) (i := i) (x := x) (by simpa using h)
  rw [show (i + 1) * 2 = i * 2 + 1 + 1 by omega]
  exact this
theorem ftV_take : ∀ (L : List (Int × Int)) (k : Nat), ftV (L.take k) = (ftV L).take (k * 2)
 | [], k => by simp [ftV]
 | x :: t, 0 => by simp [ftV]
 | x :: t, k + 1 => by rw [show (k + 1) * 2 = k * 2 + 1 + 1 by omega]; simp [ftV, ftV_take t k]
theorem ftV_drop : ∀ (L : List (Int × Int)) (k : Nat), ftV (L.drop k) = (ftV L).drop (k * 2)
 | [], k => by simp [ftV]
 | x :: t, 0 => by simp
 | x :: t, k + 1 => by rw [show (k + 1) * 2 = k * 2 + 1 + 1 by omega]; simp [ftV, ftV_drop t k]
theorem ftV_one : ∀ (L : List (Int × Int)), ∀ u ∈ ftV L, u.oneCell' = true
 | [], u, h => by cases h
 | x :: t, u, h => by
  simp only [ftV, List.mem_cons] at h
  rcases h with rfl | rfl | h
  ·rfl
  ·rfl
  ·exact ftV_one t u h
def FltAt (W : World) (b o : Nat) : Prop := ∃ x y : Int, W.cell? ⟨b, o, none⟩ = some (.int .u16 x) ∧ W.cell? ⟨b, o + 1, none⟩ = some (.int .u16 y)
def FltP (W : World) (p : Option Addr) (n : Nat) : Prop := n = 0 ∨ ∃ b off, p = some ⟨b, off, none⟩ ∧ b < W.heap.size ∧ ∀ i, i < n → FltAt W b (off + i * 2)
theorem FltAt.below {w W : World} {B b o : Nat} (h : Below B w W) (hb : b < B) (hr : FltAt w b o) : FltAt W b o := by
 obtain ⟨x, y, h1, h2⟩ := hr
 exact ⟨x, y, (h.cell (p := ⟨b, o, none⟩) hb).trans h1, (h.cell (p := ⟨b, o + 1, none⟩) hb).trans h2⟩
theorem FltP.below {W W' : World} {p : Option Addr} {n : Nat} (h : FltP W p n) (hb : Below W.heap.size W W') : FltP W' p n := by
 rcases h with h | ⟨b, off, h1, h2, h3⟩
 ·exact .inl h
 ·exact .inr ⟨b, off, h1, Nat.lt_of_lt_of_le h2 hb.size, fun i hi => (h3 i hi).below hb h2⟩
theorem FltP.at {W : World} {p : Option Addr} {n k : Nat} (h : FltP W p n) (hk : k < n) : ∃ b off, p = some ⟨b, off, none⟩ ∧ b < W.heap.size ∧ FltAt W b (off + k * 2) := by
 rcases h with rfl | ⟨b, off, h1, h2, h3⟩
 ·omega
 ·exact ⟨b, off, h1, h2, h3 k hk⟩
theorem flt_own {w : World} {base n : Nat} {v : Value} {l : List (Int × Int)} (h : w.ownsRow base 69 2 v n (ftV l)) : l.length = n ∧ ((v = .slice none 0 0 ∧ n = 0) ∨ ∃ g cap, v = .slice (some ⟨g, 0, none⟩) n cap ∧ base ≤ g ∧ g < w.heap.size ∧ n ≤ cap ∧ ∀ j u, (ftV l)[j]? = some u → w.cell? ⟨g, j, none⟩ = some u) := by
 have hl : l.length = n := by have := h.1; rw [ftV_len] at this; omega
 refine ⟨hl, ?_⟩
 rcases h.2 with h0 | ⟨g, cap, cur, rfl, hg, hc, hcap, _, hsz, hx⟩
 ·exact .inl h0
 ·refine .inr ⟨g, cap, rfl, hg, (gLt hc), hcap, fun j u hj => ?_⟩
  have hj2 : (cur.toList.take (n * 2))[j]? = some u := by rw [hx]; exact hj
  rw [List.getElem?_take] at hj2
  split at hj2
  ·simp [World.cell?, hc]
   simpa using hj2
  ·cases hj2
theorem fltP_of_own {w : World} {base n : Nat} {v : Value} {l : List (Int × Int)} (h : w.ownsRow base 69 2 v n (ftV l)) : ∃ p cap, v = .slice p n cap ∧ FltP w p n ∧ n ≤ cap := by
 obtain ⟨hl, ⟨rfl, rfl⟩ | ⟨g, cap, rfl, _, hlt, hcap, hc⟩⟩ := flt_own h
 ·exact ⟨none, 0, rfl, .inl rfl, Nat.le_refl _⟩
 ·refine ⟨_, cap, rfl, .inr ⟨g, 0, rfl, hlt, fun i hi => ?_⟩, hcap⟩
  have hxi : l[i]? = some (l[i]'(by omega)) := List.getElem?_eq_getElem _
  obtain ⟨g1, g2⟩ := ftV_get hxi
  exact ⟨_, _, by rw [Nat.zero_add]; exact hc _ _ g1, by rw [Nat.zero_add]; exact hc _ _ g2⟩
theorem Tryz.info69 : (Tryz.prog.info? 69).map (fun i => (i.zero, i.size, i.bytes)) = some (some (.agg #[.int .u16 0, .int .u16 0]), 2, 4) := by kernel_rfl
def FltRet (B : Nat) (w : World) (e : Ending) (w' : World) : Prop := ∃ (p : Option Addr) (n cap : Nat), e = .returned (.slice p n cap) ∧ n ≤ B ∧ n ≤ cap ∧ FltP w' p n ∧ FreshP w.heap.size p ∧ Below w.heap.size w w'
end Go.Proofs.YtmcnpaehmnadeaaGreatDoor
