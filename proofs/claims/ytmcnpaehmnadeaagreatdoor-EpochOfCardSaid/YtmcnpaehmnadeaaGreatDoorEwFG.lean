/-
  EpochOf: sederuntref27.sets returns.
-/
import Derived.Test.YtmcnpaehmnadeaaGreatDoorEwDE
namespace Go.Proofs.YtmcnpaehmnadeaaGreatDoor
open Go Go.RowKit

set_option maxHeartbeats 3200000 in
set_option maxRecDepth 1000000 in
theorem sets_any (a0 a1 a2 : Int) (pr pw pf : Option Addr) (nr cr nw cw nf cf : Nat) (p : Option Addr) (n cap m : Nat) (w : World) (hm : 1 ≤ m) (hm2 : m ≤ 5) (hn : n ≤ 9223372036854775807) (hp : SetP w p n) :
    Calls Tryz.prog 77 #[.agg #[.int .u8 a0, .int .u8 a1, .int .u8 a2, .slice pr nr cr, .slice pw nw cw, .slice pf nf cf], .slice p n cap, .int .i64 m] w (SetRet 65536 w) := by
  obtain ⟨i0, hi, hz0, hz1, hz2⟩ := info_parts Tryz.info28
  have hb0 : Below w.heap.size w (w.alloc (.cells #[.int .u8 a0, .int .u8 a1, .int .u8 a2, .slice pr nr cr, .slice pw nw cw, .slice pf nf cf] 76)) := (Below.refl _ _).alloc (Nat.le_refl _) _
  have HB0 := Lib.hid hb0
  have HP := Lib.hid (hp.below hb0)
  have q2 : (w.alloc (.cells #[.int .u8 a0, .int .u8 a1, .int .u8 a2, .slice pr nr cr, .slice pw nw cw, .slice pf nf cf] 76)).cell? ⟨w.heap.size, 2, none⟩ = some (.int .u8 a2) := by simp
  have em : (0 : Int) ≤ (m : Int) := by omega
  have em2 : ((m : Int) == 0) = false := by simp; omega
  clear hp hb0
  go_enter Tryz.func77, Tryz.ntmps77
  go_upto_region 1 with fail
  revert HB0 HP q2
  generalize w.alloc (.cells #[.int .u8 a0, .int .u8 a1, .int .u8 a2, .slice pr nr cr, .slice pw nw cw, .slice pf nf cf] 76) = W0
  intro HB0 HP q2
  have hsz0 := HB0.out.size
  go_upto_if 18 with fail
  generalize hfl : (a2.tmod 2 == 1) = fl
  generalize IntKind.u16.wrap (IntKind.u16.wrap (2 ^ m) - 1) = al
  generalize IntKind.u16.wrap (2 ^ m) = al2
  clear hfl q2
  cases fl
  · go_wp2_with fail
    go_loopw [9, 10] (fun v i wr => ∃ (k : Nat) (l : List Int), k ≤ n ∧ k ≤ 6 ∧ i = .int .i64 k ∧ l.length ≤ k ∧ wr.ownsRow W0.heap.size 28 1 v l.length (u16V l) ∧ Below W0.heap.size W0 wr) (fun _ i _ => 6 - (intOf i).toNat)
    case atStart => exact ⟨0, [], Nat.zero_le _, by omega, rfl, Nat.le_refl _, World.ownsRow_nil _ _ _ _, Below.refl _ _⟩
    case round =>
      obtain ⟨k, l, hk, hk6, rfl, hl, hown, hb⟩ := hrel
      have HW := Lib.hid hown
      have HB := Lib.hid hb
      have hsz := hb.size
      clear hown hb
      by_cases hkn : k < n ∧ k < 6
      · have hk1 := hkn.1
        have hk2 := hkn.2
        have e1 : (k : Int) < (n : Int) := by omega
        have e2 : (k : Int) < 6 := by omega
        obtain ⟨b, off, x, rfl, hbb, hc⟩ := HP.out.at hk1
        have hc1 := (HB.out.cell (p := ⟨b, off + k, none⟩) hbb).trans hc
        clear hc hkn
        go_upto_region 12 with fail
        generalize bits BinOp.and IntKind.u16 x al = xa
        by_cases hx : xa = 0
        · subst hx
          go_wp2_with fail
          go_roundw
          case rel => first | exact ⟨k + 1, l, by omega, by omega, by go_num, by omega, HW.out, HB.out⟩ | exact ⟨k + 1, by omega, by omega, by go_num, l, by omega, HW.out, HB.out⟩
          case measure => simp [intOf]; omega
        · have dx : (xa != 0) = true := by simpa using hx
          go_wp2_with (at_builtin; refine wpList_append_own _ rfl _ _ 46 rfl W0.heap.size 28 i0 (.int .u16 0) 1 2 Tryz.underlying46 hi hz0 hz1 hz2 rfl (by decide) _ _ _ rfl (HW.out.alloc _) ⟨wr.heap.size, 0, none⟩ 1 1 [.int .u16 xa] rfl rfl ?c1 ?c2 ?c3 ?c4 ?c5 ?_)
          try (case c1 => (intro j u hj; cases j with | zero => (simp at hj; subst hj; simp [Addr.add]) | succ j => simp at hj))
          case c2 => first | rfl | (intro u hu; simp at hu; subst hu; rfl)
          case c3 => unfold maxLen; omega
          case c4 => omega
          case c5 => first | omega | (simp; omega)
          intro v' w5 hown' hgrow _
          have hb5 : Below W0.heap.size W0 w5 := below_grown HB.out hsz HW.out hgrow
          rw [u16V_snoc] at hown'
          have HO5 := Lib.hid hown'
          clear hown' hgrow
          go_wp2_with fail
          go_roundw
          case rel => exact ⟨k + 1, l ++ [xa], by omega, by omega, by go_num, by rw [List.length_append]; show l.length + 1 ≤ _; omega, by rw [List.length_append]; exact HO5.out, hb5⟩
          case measure => simp [intOf]; omega
      · obtain ⟨p5, c5, hv5, hp5, hc5⟩ := setP_of_own HW.out
        subst hv5
        have HP5 := Lib.hid hp5
        clear hp5
        by_cases hkn2 : k < n
        · have e1 : (k : Int) < (n : Int) := by omega
          have e2 : ¬ (k : Int) < 6 := by omega
          clear hkn
          go_upto_region 14 with fail
          by_cases hl0 : l.length = 0
          · have hl1 : l = [] := List.eq_nil_of_length_eq_zero hl0
            subst hl1
            go_wp2_with (at_builtin; refine wpList_append_own _ rfl _ _ 46 rfl W0.heap.size 28 i0 (.int .u16 0) 1 2 Tryz.underlying46 hi hz0 hz1 hz2 rfl (by decide) (.slice p5 ([] : List Int).length c5) 0 [] rfl (HW.out.alloc _) ⟨wr.heap.size, 0, none⟩ 1 1 [.int .u16 al] rfl rfl ?d1 ?d2 ?d3 ?d4 ?d5 ?_)
            try (case d1 => (intro j u hj; cases j with | zero => (simp at hj; subst hj; simp [Addr.add]) | succ j => simp at hj))
            try (case d2 => (first | rfl | (intro u hu; simp at hu; subst hu; rfl)))
            try (case d3 => (unfold maxLen; omega))
            try (case d4 => (omega))
            try (case d5 => (first | omega | (simp; omega)))
            intro v' w5 hown' hgrow _
            have hb5 : Below W0.heap.size W0 w5 := below_grown HB.out hsz HW.out hgrow
            obtain ⟨p7, c7, hv7, hp7, hc7⟩ := setP_of_own (l := [al]) hown'
            subst hv7
            have HP7 := Lib.hid hp7
            have HB5 := Lib.hid hb5
            clear hp7 hown' hgrow hb5
            go_wp2_with (go_at_call 105; refine (least_any p7 _ c7 _ (by omega) HP7.out).mono ?_; rintro e w6 ⟨p6, n6, c6, rfl, hn6, hc6, hp6, hf6, hb6⟩)
            go_ret
            exact ⟨p6, n6, c6, rfl, by omega, hc6, hp6, fun q hq => Nat.le_trans (Nat.le_trans hsz0 HB5.out.size) (hf6 q hq), HB0.out.trans ((HB5.out.trans (hb6.mono HB5.out.size)).mono hsz0)⟩
          · have dl : ((l.length : Int) == 0) = false := by rw [beq_eq_false_iff_ne]; omega
            go_wp2_with (go_at_call 105; refine (least_any p5 l.length c5 _ (by omega) HP5.out).mono ?_; rintro e w6 ⟨p6, n6, c6, rfl, hn6, hc6, hp6, hf6, hb6⟩)
            go_ret
            exact ⟨p6, n6, c6, rfl, by omega, hc6, hp6, fun q hq => Nat.le_trans (Nat.le_trans hsz0 hsz) (hf6 q hq), HB0.out.trans ((HB.out.trans (hb6.mono HB.out.size)).mono hsz0)⟩
        · have e1 : ¬ (k : Int) < (n : Int) := by omega
          clear hkn
          go_upto_region 14 with fail
          by_cases hl0 : l.length = 0
          · have hl1 : l = [] := List.eq_nil_of_length_eq_zero hl0
            subst hl1
            go_wp2_with (at_builtin; refine wpList_append_own _ rfl _ _ 46 rfl W0.heap.size 28 i0 (.int .u16 0) 1 2 Tryz.underlying46 hi hz0 hz1 hz2 rfl (by decide) (.slice p5 ([] : List Int).length c5) 0 [] rfl (HW.out.alloc _) ⟨wr.heap.size, 0, none⟩ 1 1 [.int .u16 al] rfl rfl ?f1 ?f2 ?f3 ?f4 ?f5 ?_)
            try (case f1 => (intro j u hj; cases j with | zero => (simp at hj; subst hj; simp [Addr.add]) | succ j => simp at hj))
            try (case f2 => (first | rfl | (intro u hu; simp at hu; subst hu; rfl)))
            try (case f3 => (unfold maxLen; omega))
            try (case f4 => (omega))
            try (case f5 => (first | omega | (simp; omega)))
            intro v' w5 hown' hgrow _
            have hb5 : Below W0.heap.size W0 w5 := below_grown HB.out hsz HW.out hgrow
            obtain ⟨p7, c7, hv7, hp7, hc7⟩ := setP_of_own (l := [al]) hown'
            subst hv7
            have HP7 := Lib.hid hp7
            have HB5 := Lib.hid hb5
            clear hp7 hown' hgrow hb5
            go_wp2_with (go_at_call 105; refine (least_any p7 _ c7 _ (by omega) HP7.out).mono ?_; rintro e w6 ⟨p6, n6, c6, rfl, hn6, hc6, hp6, hf6, hb6⟩)
            go_ret
            exact ⟨p6, n6, c6, rfl, by omega, hc6, hp6, fun q hq => Nat.le_trans (Nat.le_trans hsz0 HB5.out.size) (hf6 q hq), HB0.out.trans ((HB5.out.trans (hb6.mono HB5.out.size)).mono hsz0)⟩
          · have dl : ((l.length : Int) == 0) = false := by rw [beq_eq_false_iff_ne]; omega
            go_wp2_with (go_at_call 105; refine (least_any p5 l.length c5 _ (by omega) HP5.out).mono ?_; rintro e w6 ⟨p6, n6, c6, rfl, hn6, hc6, hp6, hf6, hb6⟩)
            go_ret
            exact ⟨p6, n6, c6, rfl, by omega, hc6, hp6, fun q hq => Nat.le_trans (Nat.le_trans hsz0 hsz) (hf6 q hq), HB0.out.trans ((HB.out.trans (hb6.mono HB.out.size)).mono hsz0)⟩
  · by_cases hn0 : n = 0
    · subst hn0
      go_wp2_with (go_at_call 111; refine (choose_any al _ _).mono ?_; rintro e w5 ⟨p5, n5, c5, rfl, hn5, hc5, hp5, hf5, hb5⟩)
      go_ret
      exact ⟨p5, n5, c5, rfl, hn5, hc5, hp5, fun q hq => Nat.le_trans hsz0 (hf5 q hq), HB0.out.trans (hb5.mono hsz0)⟩
    · obtain ⟨b, off, x, rfl, hbb, hc⟩ := HP.out.at (k := 0) (by omega)
      simp only [Nat.add_zero] at hc
      have e1 : (0 : Int) < (n : Int) := by omega
      go_wp2_with (go_at_call 111; refine (choose_any al _ _).mono ?_; rintro e w5 ⟨p5, n5, c5, rfl, hn5, hc5, hp5, hf5, hb5⟩)
      go_ret
      exact ⟨p5, n5, c5, rfl, hn5, hc5, hp5, fun q hq => Nat.le_trans hsz0 (hf5 q hq), HB0.out.trans (hb5.mono hsz0)⟩
end Go.Proofs.YtmcnpaehmnadeaaGreatDoor

/-
  EpochOf: sederuntref19.Covers, exactly; lists of faults.
-/
namespace Go.Proofs.YtmcnpaehmnadeaaGreatDoor
open Go Go.RowKit

def orS (a b : Int) : Int := bits .or .u16 a b
def cB (a b c d : Int) : Bool := wB c a && wB (orS c d) (orS a b)
set_option maxHeartbeats 400000 in
theorem faulty_ex (a b : Int) (w : World) : Calls Tryz.prog 113 #[.agg #[.int .u16 a, .int .u16 b]] w fun e w' => e = .returned (.int .u16 (orS a b)) ∧ Below w.heap.size w w' := by
  go_enter Tryz.func113, Tryz.ntmps113
  go_wp2_with fail
  go_ret
  exact ⟨rfl, (Below.refl _ _).alloc (Nat.le_refl _) _⟩

set_option maxHeartbeats 800000 in
set_option maxRecDepth 1000000 in
theorem covers_ex (a b c d : Int) (w : World) : Calls Tryz.prog 79 #[.agg #[.int .u16 a, .int .u16 b], .agg #[.int .u16 c, .int .u16 d]] w (IsB (cB a b c d) w) := by
  have HT := Lib.hid (show TF w a b c d w.heap.size ((w.alloc (.cells #[.int .u16 a, .int .u16 b] 69)).alloc (.cells #[.int .u16 c, .int .u16 d] 69)) from ⟨heap_alloc2_old w _ _, heap_alloc2_new w _ _, ((Below.refl _ _).alloc (Nat.le_refl _) _).alloc (by simp) _⟩)
  go_enter Tryz.func79, Tryz.ntmps79
  go_upto_region 1 with fail
  revert HT
  generalize (w.alloc (.cells #[.int .u16 a, .int .u16 b] 69)).alloc (.cells #[.int .u16 c, .int .u16 d] 69) = W0
  generalize w.heap.size = A
  intro HT
  cases hw : wB c a
  · obtain ⟨q0, q1, q2, q3, _⟩ := tfS HT.out
    have within0 : ∀ W, Calls Tryz.prog 112 #[.int .u16 c, .int .u16 a] W fun e w' => e = .returned (.bool false) ∧ w' = W := fun W => by rw [← hw]; exact within_ex c a W
    have WI := Lib.hid within0
    have HW := Lib.hid hw
    clear within0 hw
    go_quiet ((go_at_call 112; refine Calls.quiet_of_same (WI.out _)))
    go_wp2_with fail
    go_ret
    exact ⟨by simp [cB, HW.out], below_drewN HT.out.bl _⟩
  · go_region_held3 (fun W => W.cell? ⟨A, 0, none⟩ = some (.int .u16 a) ∧ W.cell? ⟨A, 1, none⟩ = some (.int .u16 b) ∧ W.cell? ⟨A + 1, 0, none⟩ = some (.int .u16 c) ∧ W.cell? ⟨A + 1, 1, none⟩ = some (.int .u16 d) ∧ TF w a b c d A W)
      (first | exact tfS HT.out | exact tfS (HT.out.below (below_drew _)) | exact tfS hT1 | exact tfS hT2 | exact tfS hT3)
      (first
        | (go_at_call 112; (with_reducible refine (within_ex c a _).mono ?_); rw [hw]; rintro e w1 ⟨rfl, rfl⟩; have hT1 := HT.out.below (below_drew _))
        | (go_at_call 113; (with_reducible refine (faulty_ex c d _).mono ?_); rintro e w2 ⟨rfl, hb2⟩; have hT2 := hT1.below hb2)
        | (go_at_call 113; (with_reducible refine (faulty_ex a b _).mono ?_); rintro e w3 ⟨rfl, hb3⟩; have hT3 := hT2.below hb3)
        | (go_at_call 112; (with_reducible refine (within_ex (orS c d) (orS a b) _).mono ?_); rintro e w4 ⟨rfl, rfl⟩))
    go_wp2_with fail
    go_ret
    exact ⟨by simp [cB, hw], hT3.bl⟩


def ftV : List (Int × Int) → List Value
  | [] => []
  | x :: t => .int .u16 x.1 :: .int .u16 x.2 :: ftV t
theorem ftV_len : ∀ L, (ftV L).length = L.length * 2
  | [] => rfl
  | x :: t => by simp [ftV, ftV_len t]; omega
theorem ftV_app : ∀ A B, ftV (A ++ B) = ftV A ++ ftV B
  | [], _ => rfl
  | x :: t, B => by simp [ftV, ftV_app t B]
theorem ftV_get : ∀ {L : List (Int × Int)} {i : Nat} {x : Int × Int}, L[i]? = some x → (ftV L)[i * 2]? = some (.int .u16 x.1) ∧ (ftV L)[i * 2 + 1]? = some (.int .u16 x.2)
  | [], _, _, h => by simp at h
  | a :: t, 0, x, h => by simp at h; subst h; exact ⟨rfl, rfl⟩
  | a :: t, i + 1, x, h => by
    have := ftV_get (L := t) (i := i) (x := x) (by simpa using h)
    rw [show (i + 1) * 2 = i * 2 + 1 + 1 by omega]
    exact this
theorem ftV_take : ∀ (L : List (Int × Int)) (k : Nat), ftV (L.take k) = (ftV L).take (k * 2)
  | [], k => by simp [ftV]
  | x :: t, 0 => by simp [ftV]
  | x :: t, k + 1 => by rw [show (k + 1) * 2 = k * 2 + 1 + 1 by omega]; simp [ftV, ftV_take t k]
theorem ftV_drop : ∀ (L : List (Int × Int)) (k : Nat), ftV (L.drop k) = (ftV L).drop (k * 2)
  | [], k => by simp [ftV]
  | x :: t, 0 => by simp
  | x :: t, k + 1 => by rw [show (k + 1) * 2 = k * 2 + 1 + 1 by omega]; simp [ftV, ftV_drop t k]
theorem ftV_one : ∀ (L : List (Int × Int)), ∀ u ∈ ftV L, u.oneCell' = true
  | [], u, h => by cases h
  | x :: t, u, h => by
    simp only [ftV, List.mem_cons] at h
    rcases h with rfl | rfl | h
    · rfl
    · rfl
    · exact ftV_one t u h
/-- a fault; a slice of so many faults -/
def FltAt (W : World) (b o : Nat) : Prop := ∃ x y : Int, W.cell? ⟨b, o, none⟩ = some (.int .u16 x) ∧ W.cell? ⟨b, o + 1, none⟩ = some (.int .u16 y)
def FltP (W : World) (p : Option Addr) (n : Nat) : Prop := n = 0 ∨ ∃ b off, p = some ⟨b, off, none⟩ ∧ b < W.heap.size ∧ ∀ i, i < n → FltAt W b (off + i * 2)
theorem FltAt.below {w W : World} {B b o : Nat} (h : Below B w W) (hb : b < B) (hr : FltAt w b o) : FltAt W b o := by
  obtain ⟨x, y, h1, h2⟩ := hr
  exact ⟨x, y, (h.cell (p := ⟨b, o, none⟩) hb).trans h1, (h.cell (p := ⟨b, o + 1, none⟩) hb).trans h2⟩
theorem FltP.below {W W' : World} {p : Option Addr} {n : Nat} (h : FltP W p n) (hb : Below W.heap.size W W') : FltP W' p n := by
  rcases h with h | ⟨b, off, h1, h2, h3⟩
  · exact .inl h
  · exact .inr ⟨b, off, h1, Nat.lt_of_lt_of_le h2 hb.size, fun i hi => (h3 i hi).below hb h2⟩
theorem FltP.at {W : World} {p : Option Addr} {n k : Nat} (h : FltP W p n) (hk : k < n) : ∃ b off, p = some ⟨b, off, none⟩ ∧ b < W.heap.size ∧ FltAt W b (off + k * 2) := by
  rcases h with rfl | ⟨b, off, h1, h2, h3⟩
  · omega
  · exact ⟨b, off, h1, h2, h3 k hk⟩
/-- what a row of the call's own holds -/
theorem flt_own {w : World} {base n : Nat} {v : Value} {l : List (Int × Int)} (h : w.ownsRow base 69 2 v n (ftV l)) : l.length = n ∧ ((v = .slice none 0 0 ∧ n = 0) ∨ ∃ g cap, v = .slice (some ⟨g, 0, none⟩) n cap ∧ base ≤ g ∧ g < w.heap.size ∧ n ≤ cap ∧ ∀ j u, (ftV l)[j]? = some u → w.cell? ⟨g, j, none⟩ = some u) := by
  have hl : l.length = n := by have := h.1; rw [ftV_len] at this; omega
  refine ⟨hl, ?_⟩
  rcases h.2 with h0 | ⟨g, cap, cur, rfl, hg, hc, hcap, _, hsz, hx⟩
  · exact .inl h0
  · refine .inr ⟨g, cap, rfl, hg, (Array.getElem?_eq_some_iff.mp hc).1, hcap, fun j u hj => ?_⟩
    have hj2 : (cur.toList.take (n * 2))[j]? = some u := by rw [hx]; exact hj
    rw [List.getElem?_take] at hj2
    split at hj2
    · simp [World.cell?, hc]
      simpa using hj2
    · cases hj2
theorem fltP_of_own {w : World} {base n : Nat} {v : Value} {l : List (Int × Int)} (h : w.ownsRow base 69 2 v n (ftV l)) : ∃ p cap, v = .slice p n cap ∧ FltP w p n ∧ n ≤ cap := by
  obtain ⟨hl, ⟨rfl, rfl⟩ | ⟨g, cap, rfl, _, hlt, hcap, hc⟩⟩ := flt_own h
  · exact ⟨none, 0, rfl, .inl rfl, Nat.le_refl _⟩
  · refine ⟨_, cap, rfl, .inr ⟨g, 0, rfl, hlt, fun i hi => ?_⟩, hcap⟩
    have hxi : l[i]? = some (l[i]'(by omega)) := List.getElem?_eq_getElem _
    obtain ⟨g1, g2⟩ := ftV_get hxi
    exact ⟨_, _, by rw [Nat.zero_add]; exact hc _ _ g1, by rw [Nat.zero_add]; exact hc _ _ g2⟩
theorem Tryz.info69 : (Tryz.prog.info? 69).map (fun i => (i.zero, i.size, i.bytes)) = some (some (.agg #[.int .u16 0, .int .u16 0]), 2, 4) := by kernel_rfl
def FltRet (B : Nat) (w : World) (e : Ending) (w' : World) : Prop := ∃ (p : Option Addr) (n cap : Nat), e = .returned (.slice p n cap) ∧ n ≤ B ∧ n ≤ cap ∧ FltP w' p n ∧ FreshP w.heap.size p ∧ Below w.heap.size w w'
end Go.Proofs.YtmcnpaehmnadeaaGreatDoor
