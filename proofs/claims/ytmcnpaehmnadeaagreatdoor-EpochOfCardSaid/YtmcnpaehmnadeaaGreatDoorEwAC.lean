/-
  EpochOf: functions on sets and faults that return (Within, Contains, Has, Size, Before, Faulty, Members, Count, Compare, Covers).
-/
import Derived.Test.YtmcnpaehmnadeaaGreatDoorEvDF
namespace Go.Proofs.YtmcnpaehmnadeaaGreatDoor
open Go Go.RowKit

def wB (a b : Int) : Bool := bits .andNot .u16 a b == 0
set_option maxHeartbeats 400000 in
theorem within_ex (a b : Int) (w : World) : Calls Tryz.prog 112 #[.int .u16 a, .int .u16 b] w fun e w' => e = .returned (.bool (wB a b)) ∧ w' = w := by
  go_enter Tryz.func112, Tryz.ntmps112
  go_wp2_with fail
  go_ret
  exact ⟨rfl, rfl⟩
set_option maxHeartbeats 400000 in
theorem contains_ex (a b : Int) (w : World) : Calls Tryz.prog 146 #[.int .u16 a, .int .u16 b] w fun e w' => e = .returned (.bool (wB b a)) ∧ w' = w := by
  go_enter Tryz.func146, Tryz.ntmps146
  go_wp2_with fail
  go_ret
  exact ⟨rfl, rfl⟩
set_option maxHeartbeats 400000 in
theorem hasS_any (a : Int) (i : Nat) (w : World) (hi : i < 16) : Calls Tryz.prog 195 #[.int .u16 a, .int .i64 i] w fun e w' => ∃ r : Bool, e = .returned (.bool r) ∧ w' = w := by
  have e0 : (0 : Int) ≤ (i : Int) := by omega
  have e1 : (i : Int) < 16 := by omega
  go_enter Tryz.func195, Tryz.ntmps195
  go_wp2_with fail
  all_goals
    go_ret
    exact ⟨_, rfl, rfl⟩
set_option maxHeartbeats 400000 in
theorem sizeS_any (a : Int) (w : World) : Calls Tryz.prog 168 #[.int .u16 a] w fun e w' => ∃ k : Int, e = .returned (.int .i64 k) ∧ w' = w := by
  go_enter Tryz.func168, Tryz.ntmps168
  go_wp2_with fail
  go_loopw [3, 4] (fun n i wr => ∃ (m : Int) (k : Nat), n = .int .i64 m ∧ k ≤ 16 ∧ i = .int .i64 k ∧ wr = w) (fun _ i _ => 16 - (intOf i).toNat)
  case atStart => exact ⟨0, 0, rfl, Nat.zero_le _, rfl, rfl⟩
  case round =>
    obtain ⟨m, k, rfl, hk, rfl, rfl⟩ := hrel
    by_cases hkn : k < 16
    · have e0 : (0 : Int) ≤ (k : Int) := by omega
      go_wp2_with fail
      all_goals
        exact ⟨⟨_, k + 1, rfl, by omega, by go_num, by first | rfl | trivial⟩, by simp [intOf]; omega⟩
    · go_wp2_with fail
      go_ret
      exact ⟨_, rfl, rfl⟩
set_option maxHeartbeats 400000 in
theorem before_any (a b : Int) (w : World) : Calls Tryz.prog 145 #[.int .u16 a, .int .u16 b] w fun e w' => ∃ r : Bool, e = .returned (.bool r) ∧ w' = w := by
  go_enter Tryz.func145, Tryz.ntmps145
  go_wp2_with (first
    | (go_at_call 168; (with_reducible refine (sizeS_any a _).mono ?_); rintro e w1 ⟨k, rfl, rfl⟩)
    | (go_at_call 168; (with_reducible refine (sizeS_any b _).mono ?_); rintro e w1 ⟨k, rfl, rfl⟩))
  all_goals
    go_ret
    exact ⟨_, rfl, rfl⟩
set_option maxHeartbeats 400000 in
theorem faulty_any (a b : Int) (w : World) : Calls Tryz.prog 113 #[.agg #[.int .u16 a, .int .u16 b]] w fun e w' => ∃ k : Int, e = .returned (.int .u16 k) ∧ Below w.heap.size w w' := by
  go_enter Tryz.func113, Tryz.ntmps113
  go_wp2_with fail
  go_ret
  exact ⟨_, rfl, (Below.refl _ _).alloc (Nat.le_refl _) _⟩

set_option maxHeartbeats 800000 in
set_option maxRecDepth 1000000 in
theorem members_any (a : Int) (w : World) : Calls Tryz.prog 169 #[.int .u16 a] w fun e w' => ∃ (p : Option Addr) (n cap : Nat), e = .returned (.slice p n cap) ∧ n ≤ 16 ∧ Below w.heap.size w w' := by
  obtain ⟨i0, hi, hz0, hz1, hz2⟩ := info_parts Tryz.info3
  go_enter Tryz.func169, Tryz.ntmps169
  go_wp2_with fail
  go_loopw [3, 4] (fun v i wr => ∃ (k : Nat) (l : List Nat), k ≤ 16 ∧ i = .int .i64 k ∧ l.length ≤ k ∧ wr.ownsRow w.heap.size 3 1 v l.length (inV l) ∧ Below w.heap.size w wr) (fun _ i _ => 16 - (intOf i).toNat)
  case atStart => exact ⟨0, [], Nat.zero_le _, rfl, Nat.le_refl _, World.ownsRow_nil _ _ _ _, Below.refl _ _⟩
  case round =>
    obtain ⟨k, l, hk, rfl, hl, hown, hb⟩ := hrel
    have HW := Lib.hid hown
    have HB := Lib.hid hb
    have hsz := hb.size
    clear hown hb
    by_cases hkn : k < 16
    · go_upto_if 11 with (go_at_call 195; refine (hasS_any a k _ hkn).mono ?_; rintro e w1 ⟨r, rfl, rfl⟩)
      cases r
      · go_wp2_with fail
        go_roundw
        case rel => exact ⟨k + 1, l, by omega, by go_num, by omega, HW.out, HB.out⟩
        case measure => simp [intOf]; omega
      · go_wp2_with (at_builtin; refine wpList_append_own _ rfl _ _ 30 rfl w.heap.size 3 i0 (.int .i64 0) 1 8 Tryz.underlying30 hi hz0 hz1 hz2 rfl (by decide) _ _ _ rfl (HW.out.alloc _) ⟨w1.heap.size, 0, none⟩ 1 1 [.int .i64 k] rfl rfl ?c1 ?c2 ?c3 ?c4 ?c5 ?_)
        try (case c1 => (intro j u hj; cases j with | zero => (simp at hj; subst hj; simp [Addr.add]) | succ j => simp at hj))
        case c2 => first | rfl | (intro u hu; simp at hu; subst hu; rfl)
        case c3 => unfold maxLen; omega
        case c4 => omega
        case c5 => first | omega | (simp; omega)
        intro v' w3 hown' hgrow _
        have hb3 : Below w.heap.size w w3 := below_grown HB.out hsz HW.out hgrow
        rw [inV_snoc] at hown'
        have HO3 := Lib.hid hown'
        clear hown' hgrow
        go_wp2_with fail
        go_roundw
        case rel => exact ⟨k + 1, l ++ [k], by omega, by go_num, by rw [List.length_append]; show l.length + 1 ≤ _; omega, by rw [List.length_append]; exact HO3.out, hb3⟩
        case measure => simp [intOf]; omega
    · obtain ⟨p5, c5, hv5, _, _⟩ := intL_of_own HW.out
      subst hv5
      go_wp2_with fail
      go_ret
      exact ⟨p5, l.length, ⟨c5, rfl⟩, by omega, HB.out⟩
set_option maxHeartbeats 400000 in
theorem count_any (a : Int) (w : World) : Calls Tryz.prog 149 #[.int .u16 a] w (IntRet w) := by
  go_enter Tryz.func149, Tryz.ntmps149
  go_wp2_with (go_at_call 169; refine (members_any a _).mono ?_; rintro e w1 ⟨p, n, cap, rfl, hn, hb⟩)
  go_ret
  exact ⟨_, rfl, hb⟩
def IntF (w0 : World) (e : Ending) (w' : World) : Prop := ∃ k : Int, e = .returned (.int .i64 k) ∧ Below w0.heap.size w0 w'
theorem countF {w0 W : World} (h : Below w0.heap.size w0 W) (a : Int) : Calls Tryz.prog 149 #[.int .u16 a] W (IntF w0) := (count_any a W).mono fun _ _ ⟨k, h1, h2⟩ => ⟨k, h1, h.trans (h2.mono h.size)⟩

set_option maxHeartbeats 800000 in
set_option maxRecDepth 1000000 in
theorem compareS_any (a b : Int) (w : World) : Calls Tryz.prog 114 #[.int .u16 a, .int .u16 b] w (IntRet w) := by
  have HB0 := Lib.hid (Below.refl w.heap.size w)
  go_enter Tryz.func114, Tryz.ntmps114
  go_upto_region 3 with fail
  · go_ret
    exact ⟨_, rfl, HB0.out⟩
  · go_wp2_with (first
      | (go_at_call 149; (with_reducible refine (countF HB0.out a).mono ?_); rintro e w1 ⟨k1, rfl, hb1⟩; have HB1 := Lib.hid hb1; clear hb1 HB0)
      | (go_at_call 149; (with_reducible refine (countF HB1.out b).mono ?_); rintro e w2 ⟨k2, rfl, hb2⟩; have HB2 := Lib.hid hb2; clear hb2 HB1)
      | (go_at_call 149; (with_reducible refine (countF HB2.out a).mono ?_); rintro e w3 ⟨k3, rfl, hb3⟩; have HB3 := Lib.hid hb3; clear hb3 HB2)
      | (go_at_call 149; (with_reducible refine (countF HB3.out b).mono ?_); rintro e w4 ⟨k4, rfl, hb4⟩; have HB4 := Lib.hid hb4; clear hb4 HB3))
    all_goals first
      | (go_ret; exact ⟨_, rfl, HB4.out⟩)
      | (go_ret; exact ⟨_, rfl, HB2.out⟩)

/-- two faults, each in a block of its own -/
structure TF (w : World) (a b c d : Int) (A : Nat) (W : World) : Prop where
  fa : W.heap[A]? = some (.cells #[.int .u16 a, .int .u16 b] 69 (0, 0))
  fb : W.heap[A + 1]? = some (.cells #[.int .u16 c, .int .u16 d] 69 (0, 0))
  bl : Below w.heap.size w W
theorem TF.below {w : World} {a b c d : Int} {A : Nat} {W W' : World} (h : TF w a b c d A W) (hb : Below W.heap.size W W') : TF w a b c d A W' :=
  ⟨(hb.block _ (Array.getElem?_eq_some_iff.mp h.fa).1).trans h.fa, (hb.block _ (Array.getElem?_eq_some_iff.mp h.fb).1).trans h.fb, h.bl.trans (hb.mono h.bl.size)⟩
theorem tfS {w : World} {a b c d : Int} {A : Nat} {W : World} (h : TF w a b c d A W) : W.cell? ⟨A, 0, none⟩ = some (.int .u16 a) ∧ W.cell? ⟨A, 1, none⟩ = some (.int .u16 b) ∧ W.cell? ⟨A + 1, 0, none⟩ = some (.int .u16 c) ∧ W.cell? ⟨A + 1, 1, none⟩ = some (.int .u16 d) ∧ TF w a b c d A W :=
  ⟨cellOf h.fa rfl, cellOf h.fa rfl, cellOf h.fb rfl, cellOf h.fb rfl, h⟩

set_option maxHeartbeats 800000 in
set_option maxRecDepth 1000000 in
theorem covers_any (a b c d : Int) (w : World) : Calls Tryz.prog 79 #[.agg #[.int .u16 a, .int .u16 b], .agg #[.int .u16 c, .int .u16 d]] w (BoolRet w) := by
  have HT := Lib.hid (show TF w a b c d w.heap.size ((w.alloc (.cells #[.int .u16 a, .int .u16 b] 69)).alloc (.cells #[.int .u16 c, .int .u16 d] 69)) from ⟨heap_alloc2_old w _ _, heap_alloc2_new w _ _, ((Below.refl _ _).alloc (Nat.le_refl _) _).alloc (by simp) _⟩)
  go_enter Tryz.func79, Tryz.ntmps79
  go_upto_region 1 with fail
  revert HT
  generalize (w.alloc (.cells #[.int .u16 a, .int .u16 b] 69)).alloc (.cells #[.int .u16 c, .int .u16 d] 69) = W0
  generalize w.heap.size = A
  intro HT
  cases hw : wB c a
  · obtain ⟨q0, q1, q2, q3, _⟩ := tfS HT.out
    have within0 : ∀ W, Calls Tryz.prog 112 #[.int .u16 c, .int .u16 a] W fun e w' => e = .returned (.bool false) ∧ w' = W := fun W => by rw [← hw]; exact within_ex c a W
    have WI := Lib.hid within0
    clear within0 hw
    go_quiet ((go_at_call 112; refine Calls.quiet_of_same (WI.out _)))
    go_wp2_with fail
    go_ret
    exact ⟨_, rfl, below_drewN HT.out.bl _⟩
  · go_region_held3 (fun W => W.cell? ⟨A, 0, none⟩ = some (.int .u16 a) ∧ W.cell? ⟨A, 1, none⟩ = some (.int .u16 b) ∧ W.cell? ⟨A + 1, 0, none⟩ = some (.int .u16 c) ∧ W.cell? ⟨A + 1, 1, none⟩ = some (.int .u16 d) ∧ TF w a b c d A W)
      (first | exact tfS HT.out | exact tfS (HT.out.below (below_drew _)) | exact tfS hT1 | exact tfS hT2 | exact tfS hT3)
      (first
        | (go_at_call 112; (with_reducible refine (within_ex c a _).mono ?_); rw [hw]; rintro e w1 ⟨rfl, rfl⟩; have hT1 := HT.out.below (below_drew _))
        | (go_at_call 113; (with_reducible refine (faulty_any c d _).mono ?_); rintro e w2 ⟨k2, rfl, hb2⟩; have hT2 := hT1.below hb2)
        | (go_at_call 113; (with_reducible refine (faulty_any a b _).mono ?_); rintro e w3 ⟨k3, rfl, hb3⟩; have hT3 := hT2.below hb3)
        | (go_at_call 112; (with_reducible refine (within_ex k2 k3 _).mono ?_); rintro e w4 ⟨rfl, rfl⟩))
    go_wp2_with fail
    go_ret
    exact ⟨_, rfl, hT3.bl⟩

set_option maxHeartbeats 800000 in
set_option maxRecDepth 1000000 in
theorem compareF_any (a b c d : Int) (w : World) : Calls Tryz.prog 80 #[.agg #[.int .u16 a, .int .u16 b], .agg #[.int .u16 c, .int .u16 d]] w (IntRet w) := by
  have HT := Lib.hid (show TF w a b c d w.heap.size ((w.alloc (.cells #[.int .u16 a, .int .u16 b] 69)).alloc (.cells #[.int .u16 c, .int .u16 d] 69)) from ⟨heap_alloc2_old w _ _, heap_alloc2_new w _ _, ((Below.refl _ _).alloc (Nat.le_refl _) _).alloc (by simp) _⟩)
  go_enter Tryz.func80, Tryz.ntmps80
  go_upto_region 1 with fail
  revert HT
  generalize (w.alloc (.cells #[.int .u16 a, .int .u16 b] 69)).alloc (.cells #[.int .u16 c, .int .u16 d] 69) = W0
  generalize w.heap.size = A
  intro HT
  obtain ⟨q0, q1, q2, q3, _⟩ := tfS HT.out
  go_wp2_with (first
    | (go_at_call 114; (with_reducible refine (compareS_any a c _).mono ?_); rintro e w1 ⟨k1, rfl, hb1⟩; have HT1 := Lib.hid (HT.out.below hb1); obtain ⟨q0, q1, q2, q3, _⟩ := tfS HT1.out; clear hb1)
    | (go_at_call 114; (with_reducible refine (compareS_any b d _).mono ?_); rintro e w2 ⟨k2, rfl, hb2⟩; have HT2 := Lib.hid (HT1.out.below hb2); clear hb2))
  all_goals first
    | (go_ret; exact ⟨_, rfl, HT2.out.bl⟩)
    | (go_ret; exact ⟨_, rfl, HT1.out.bl⟩)
end Go.Proofs.YtmcnpaehmnadeaaGreatDoor

/-
  EpochOf: lists of sets that return (Choose, moved).
-/
namespace Go.Proofs.YtmcnpaehmnadeaaGreatDoor
open Go Go.RowKit

def u16V (l : List Int) : List Value := l.map fun x => Value.int .u16 x
theorem u16V_snoc (l : List Int) (x : Int) : u16V l ++ [.int .u16 x] = u16V (l ++ [x]) := by simp [u16V]
theorem u16V_len (l : List Int) : (u16V l).length = l.length := by simp [u16V]
/-- a slice of so many sets -/
def SetP (W : World) (p : Option Addr) (n : Nat) : Prop := n = 0 ∨ ∃ b off, p = some ⟨b, off, none⟩ ∧ b < W.heap.size ∧ ∀ i, i < n → ∃ x : Int, W.cell? ⟨b, off + i, none⟩ = some (.int .u16 x)
theorem SetP.below {W W' : World} {p : Option Addr} {n : Nat} (h : SetP W p n) (hb : Below W.heap.size W W') : SetP W' p n := by
  rcases h with h | ⟨b, off, h1, h2, h3⟩
  · exact .inl h
  · exact .inr ⟨b, off, h1, Nat.lt_of_lt_of_le h2 hb.size, fun i hi => by obtain ⟨x, hx⟩ := h3 i hi; exact ⟨x, (hb.cell (p := ⟨b, off + i, none⟩) h2).trans hx⟩⟩
theorem SetP.at {W : World} {p : Option Addr} {n k : Nat} (h : SetP W p n) (hk : k < n) : ∃ b off x, p = some ⟨b, off, none⟩ ∧ b < W.heap.size ∧ W.cell? ⟨b, off + k, none⟩ = some (.int .u16 x) := by
  rcases h with rfl | ⟨b, off, h1, h2, h3⟩
  · omega
  · obtain ⟨x, hx⟩ := h3 k hk
    exact ⟨b, off, x, h1, h2, hx⟩
theorem setP_of_own {w : World} {base n : Nat} {v : Value} {l : List Int} (h : w.ownsRow base 28 1 v n (u16V l)) : ∃ p cap, v = .slice p n cap ∧ SetP w p n ∧ n ≤ cap := by
  have hl : l.length = n := by have := h.1; rw [u16V_len] at this; omega
  rcases h.2 with ⟨rfl, rfl⟩ | ⟨g, cap, cur, rfl, _, hc, hcap, _, hsz, hx⟩
  · exact ⟨none, 0, rfl, .inl rfl, Nat.le_refl _⟩
  · have hg : g < w.heap.size := (Array.getElem?_eq_some_iff.mp hc).1
    refine ⟨_, cap, rfl, .inr ⟨g, 0, rfl, hg, fun i hi => ⟨l[i]'(by omega), ?_⟩⟩, hcap⟩
    have hj2 : (cur.toList.take (n * 1))[i]? = some (.int .u16 (l[i]'(by omega))) := by rw [hx]; simp [u16V, hl, hi]
    rw [List.getElem?_take] at hj2
    split at hj2
    · simp [World.cell?, hc]
      simpa using hj2
    · cases hj2
theorem Tryz.info28 : (Tryz.prog.info? 28).map (fun i => (i.zero, i.size, i.bytes)) = some (some (.int .u16 0), 1, 2) := by kernel_rfl
/-- a slice of no block below that one -/
def FreshP (B : Nat) (p : Option Addr) : Prop := ∀ q, p = some q → B ≤ q.block
theorem fresh_of_own {w : World} {base e sz n m cap : Nat} {p : Option Addr} {xs : List Value} (h : w.ownsRow base e sz (.slice p m cap) n xs) : FreshP base p := fun q hq => by
  subst hq
  rcases h.2 with ⟨h0, _⟩ | ⟨g, cap', cur, h1, hg, _⟩
  · cases h0
  · injection h1 with h1
    injection h1 with h1
    subst h1
    exact hg
def SetRet (B : Nat) (w : World) (e : Ending) (w' : World) : Prop := ∃ (p : Option Addr) (n cap : Nat), e = .returned (.slice p n cap) ∧ n ≤ B ∧ n ≤ cap ∧ SetP w' p n ∧ FreshP w.heap.size p ∧ Below w.heap.size w w'

set_option maxHeartbeats 1600000 in
set_option maxRecDepth 1000000 in
theorem choose_any (a k0 : Int) (w : World) : Calls Tryz.prog 111 #[.int .u16 a, .int .i64 k0] w (SetRet 65536 w) := by
  obtain ⟨i0, hi, hz0, hz1, hz2⟩ := info_parts Tryz.info28
  obtain ⟨M, hM⟩ : ∃ M : Nat, M = 65536 := ⟨_, rfl⟩
  have HM := Lib.hid hM
  clear hM
  go_enter Tryz.func111, Tryz.ntmps111
  go_wp2_with fail
  go_loopw [5, 6] (fun v i wr => ∃ (k : Nat) (l : List Int), k ≤ M ∧ i = .int .i64 k ∧ l.length ≤ k ∧ wr.ownsRow w.heap.size 28 1 v l.length (u16V l) ∧ Below w.heap.size w wr) (fun _ i _ => M - (intOf i).toNat)
  case atStart => exact ⟨0, [], Nat.zero_le _, rfl, Nat.le_refl _, World.ownsRow_nil _ _ _ _, Below.refl _ _⟩
  case round =>
    obtain ⟨k, l, hk, rfl, hl, hown, hb⟩ := hrel
    have HW := Lib.hid hown
    have HB := Lib.hid hb
    have hsz := hb.size
    clear hown hb
    have HK := Lib.hid hk
    by_cases hkn : k < M
    · have e1 : (k : Int) < 65536 := by have := HM.out; omega
      have hl2 := Lib.hid (Nat.le_trans hl hk)
      have HKN := Lib.hid hkn
      have HL := Lib.hid hl
      clear hk hkn hl
      go_upto_if 21 with (first
        | (go_at_call 112; refine (within_ex _ a _).mono ?_; rintro e w1 ⟨rfl, rfl⟩)
        | (go_at_call 149; refine (count_any _ _).mono ?_; rintro e w2 ⟨r, rfl, hb2⟩; have HW2 := Lib.hid (own_below HW.out hb2); have HB2 := Lib.hid (HB.out.trans (hb2.mono hsz)); have hsz2 := Nat.le_trans hsz hb2.size; clear hb2))
      · by_cases hr : r = k0
        · subst hr
          go_wp2_with (at_builtin; refine wpList_append_own _ rfl _ _ 46 rfl w.heap.size 28 i0 (.int .u16 0) 1 2 Tryz.underlying46 hi hz0 hz1 hz2 rfl (by decide) _ _ _ rfl (HW2.out.alloc _) ⟨w2.heap.size, 0, none⟩ 1 1 [.int .u16 k] rfl rfl ?c1 ?c2 ?c3 ?c4 ?c5 ?_)
          try (case c1 => (intro j u hj; cases j with | zero => (simp at hj; subst hj; simp [Addr.add]) | succ j => simp at hj))
          case c2 => first | rfl | (intro u hu; simp at hu; subst hu; rfl)
          case c3 => have := hl2.out; have := HM.out; unfold maxLen; omega
          case c4 => have := hl2.out; have := HM.out; omega
          case c5 => have := hl2.out; have := HM.out; first | omega | (simp; omega)
          intro v' w3 hown' hgrow _
          have hb3 : Below w.heap.size w w3 := below_grown HB2.out hsz2 HW2.out hgrow
          rw [u16V_snoc] at hown'
          have HO3 := Lib.hid hown'
          clear hown' hgrow
          go_wp2_with fail
          have hk := HKN.out
          go_roundw
          case rel => exact ⟨k + 1, l ++ [_], by omega, by go_num, by rw [List.length_append]; show l.length + 1 ≤ _; have := HL.out; omega, by rw [List.length_append]; exact HO3.out, hb3⟩
          case measure => simp [intOf]; omega
        · have dr : (r == k0) = false := by simpa using hr
          go_wp2_with fail
          have hk := HKN.out
          go_roundw
          case rel => exact ⟨k + 1, l, by omega, by go_num, by have := HL.out; omega, HW2.out, HB2.out⟩
          case measure => simp [intOf]; omega
      · go_wp2_with fail
        have hk := HKN.out
        go_roundw
        case rel => exact ⟨k + 1, l, by omega, by go_num, by have := HL.out; omega, HW.out, HB.out⟩
        case measure => simp [intOf]; omega
    · have e1 : ¬ (k : Int) < 65536 := by have := HM.out; omega
      obtain ⟨p5, c5, hv5, hp5, hc5⟩ := setP_of_own HW.out
      subst hv5
      go_wp2_with fail
      go_ret
      exact ⟨p5, _, c5, rfl, by have := HM.out; omega, hc5, hp5, fresh_of_own HW.out, HB.out⟩
end Go.Proofs.YtmcnpaehmnadeaaGreatDoor

/-
  EpochOf: a row of sets of the call's own, written in place.
-/
namespace Go.Proofs.YtmcnpaehmnadeaaGreatDoor
open Go Go.RowKit

/-- a store into a row of the call's own -/
theorem own_put {w : World} {base n : Nat} {p : Option Addr} {cap : Nat} {l : List Int} (h : w.ownsRow base 28 1 (.slice p n cap) n (u16V l)) {k : Nat} (hk : k < n) (x : Int) :
    ∃ g, p = some ⟨g, 0, none⟩ ∧ base ≤ g ∧ g < w.heap.size ∧ w.frozen? ⟨g, k, none⟩ = false ∧ (∀ i, i < n → ∃ y : Int, w.cell? ⟨g, i, none⟩ = some (.int .u16 y)) ∧
      (w.setCell ⟨g, k, none⟩ (.int .u16 x)).ownsRow base 28 1 (.slice p n cap) n (u16V (l.set k x)) := by
  have hl : l.length = n := by have := h.1; rw [u16V_len] at this; omega
  rcases h.2 with ⟨h0, h1⟩ | ⟨g, cap', cur, h1, hg, hc, hcap, hm, hsz, hx⟩
  · omega
  · injection h1 with e1 e2 e3
    subst e1; subst e3
    refine ⟨g, rfl, hg, (Array.getElem?_eq_some_iff.mp hc).1, by unfold World.frozen?; rw [hc]; simp, fun i hi => ⟨l[i]'(by omega), ?_⟩, ?_, .inr ⟨g, cap, cur.setIfInBounds k (.int .u16 x), rfl, hg, ?_, hcap, hm, by simpa using hsz, ?_⟩⟩
    · have hj2 : (cur.toList.take (n * 1))[i]? = some (.int .u16 (l[i]'(by omega))) := by rw [hx]; simp [u16V, hl, hi]
      rw [List.getElem?_take] at hj2
      split at hj2
      · simp [World.cell?, hc]
        simpa using hj2
      · cases hj2
    · rw [u16V_len, List.length_set]; omega
    · unfold World.setCell
      simp [Array.getElem?_modify, hc]
    · rw [Array.toList_setIfInBounds, List.take_set, hx]
      simp [u16V, List.map_set]
theorem own_put' {w : World} {base n g cap : Nat} {l : List Int} (h : w.ownsRow base 28 1 (.slice (some ⟨g, 0, none⟩) n cap) n (u16V l)) {k : Nat} (hk : k < n) (x : Int) :
    w.frozen? ⟨g, k, none⟩ = false ∧ (w.setCell ⟨g, k, none⟩ (.int .u16 x)).ownsRow base 28 1 (.slice (some ⟨g, 0, none⟩) n cap) n (u16V (l.set k x)) := by
  obtain ⟨g', hg, _, _, h1, _, h2⟩ := own_put h hk x
  injection hg with hg
  injection hg with hg
  subst hg
  exact ⟨h1, h2⟩
theorem own_cell {w : World} {base n g cap : Nat} {l : List Int} (h : w.ownsRow base 28 1 (.slice (some ⟨g, 0, none⟩) n cap) n (u16V l)) {k : Nat} (hk : k < n) : base ≤ g ∧ ∃ y : Int, w.cell? ⟨g, k, none⟩ = some (.int .u16 y) := by
  obtain ⟨g', hg, h0, _, _, h1, _⟩ := own_put h hk 0
  injection hg with hg
  injection hg with hg
  subst hg
  exact ⟨h0, h1 k hk⟩
theorem own_some {w : World} {base n : Nat} {v : Value} {l : List Int} (h : w.ownsRow base 28 1 v n (u16V l)) (hn : 0 < n) : ∃ g cap, v = .slice (some ⟨g, 0, none⟩) n cap := by
  rcases h.2 with ⟨_, h1⟩ | ⟨g, cap, cur, h1, _⟩
  · omega
  · exact ⟨g, cap, h1⟩
end Go.Proofs.YtmcnpaehmnadeaaGreatDoor

/-
  EpochOf: moved, Sorted, Least, sets return.
-/
namespace Go.Proofs.YtmcnpaehmnadeaaGreatDoor
open Go Go.RowKit

set_option maxHeartbeats 1600000 in
set_option maxRecDepth 1000000 in
theorem moved_any (p : Option Addr) (n cap k0 : Nat) (w : World) (hn : n ≤ 65536) (hp : SetP w p n) : Calls Tryz.prog 52 #[.slice p n cap, .int .i64 k0] w (SetRet 65536 w) := by
  obtain ⟨i0, hi, hz0, hz1, hz2⟩ := info_parts Tryz.info28
  have HP := Lib.hid hp
  have HN := Lib.hid hn
  have hn2 : n ≤ 9223372036854775806 := by omega
  clear hp hn
  have ek : (0 : Int) ≤ (k0 : Int) := by omega
  go_enter Tryz.func52, Tryz.ntmps52
  go_wp2_with fail
  go_loopw [5, 6] (fun v i wr => ∃ (k : Nat) (l : List Int), k ≤ n ∧ i = .int .i64 k ∧ l.length = k ∧ wr.ownsRow w.heap.size 28 1 v l.length (u16V l) ∧ Below w.heap.size w wr) (fun _ i _ => n - (intOf i).toNat)
  case atStart => exact ⟨0, [], Nat.zero_le _, rfl, rfl, World.ownsRow_nil _ _ _ _, Below.refl _ _⟩
  case round =>
    obtain ⟨k, l, hk, rfl, hl, hown, hb⟩ := hrel
    have HW := Lib.hid hown
    have HB := Lib.hid hb
    have hsz := hb.size
    have HL := Lib.hid hl
    clear hown hb hl
    by_cases hkn : k < n
    · obtain ⟨b, off, x, rfl, hbb, hc⟩ := HP.out.at hkn
      have hc1 := (HB.out.cell (p := ⟨b, off + k, none⟩) hbb).trans hc
      clear hc
      go_wp2_with (at_builtin; refine wpList_append_own _ rfl _ _ 46 rfl w.heap.size 28 i0 (.int .u16 0) 1 2 Tryz.underlying46 hi hz0 hz1 hz2 rfl (by decide) _ _ _ rfl (HW.out.alloc _) ⟨wr.heap.size, 0, none⟩ 1 1 [.int .u16 (IntKind.u16.wrap (x * 2 ^ min k0 16))] rfl rfl ?c1 ?c2 ?c3 ?c4 ?c5 ?_)
      try (case c1 => (intro j u hj; cases j with | zero => (simp at hj; subst hj; simp [Addr.add]) | succ j => simp at hj))
      case c2 => first | rfl | (intro u hu; simp at hu; subst hu; rfl)
      case c3 => have := HN.out; have := HL.out; unfold maxLen; omega
      case c4 => have := HN.out; have := HL.out; omega
      case c5 => have := HN.out; have := HL.out; first | omega | (simp; omega)
      intro v' w3 hown' hgrow _
      have hb3 : Below w.heap.size w w3 := below_grown HB.out hsz HW.out hgrow
      rw [u16V_snoc] at hown'
      have HO3 := Lib.hid hown'
      clear hown' hgrow
      go_wp2_with fail
      go_roundw
      case rel => exact ⟨k + 1, l ++ [_], by omega, by go_num, by rw [List.length_append]; show l.length + 1 = _; have := HL.out; omega, by rw [List.length_append]; exact HO3.out, hb3⟩
      case measure => simp [intOf]; omega
    · obtain ⟨p5, c5, hv5, hp5, hc5⟩ := setP_of_own HW.out
      subst hv5
      go_wp2_with fail
      go_ret
      exact ⟨p5, _, c5, rfl, by have := HN.out; have := HL.out; omega, hc5, hp5, fresh_of_own HW.out, HB.out⟩
end Go.Proofs.YtmcnpaehmnadeaaGreatDoor
