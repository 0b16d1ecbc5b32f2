/-
  EpochOf: sederuntref08.Sorted returns.
-/
import Derived.Test.YtmcnpaehmnadeaaGreatDoorEwAC
namespace Go.Proofs.YtmcnpaehmnadeaaGreatDoor
open Go Go.RowKit

/-- two cells with sets, a row of the call's own, and that nothing older has changed -/
def VT (w : World) (v : Value) (l : List Int) (b o g j : Nat) (x y : Int) (W : World) : Prop :=
  W.cell? ⟨b, o, none⟩ = some (.int .u16 x) ∧ W.cell? ⟨g, j, none⟩ = some (.int .u16 y) ∧ W.ownsRow w.heap.size 28 1 v l.length (u16V l) ∧ Below w.heap.size w W
theorem VT.drew {w : World} {v : Value} {l : List Int} {b o g j : Nat} {x y : Int} {W : World} (h : VT w v l b o g j x y W) : VT w v l b o g j x y W.drew := ⟨h.1, h.2.1, own_below h.2.2.1 (below_drew W), h.2.2.2.trans ((below_drew W).mono h.2.2.2.size)⟩
theorem vtS {w : World} {v : Value} {l : List Int} {b o g j : Nat} {x y : Int} {W : World} (h : VT w v l b o g j x y W) : W.cell? ⟨b, o, none⟩ = some (.int .u16 x) ∧ W.cell? ⟨g, j, none⟩ = some (.int .u16 y) ∧ VT w v l b o g j x y W := ⟨h.1, h.2.1, h⟩
theorem own_drewN {w : World} {base e sz n : Nat} {v : Value} {xs : List Value} (h : w.ownsRow base e sz v n xs) (k : Nat) : (w.drewN k).ownsRow base e sz v n xs := h

set_option maxHeartbeats 3200000 in
set_option maxRecDepth 1000000 in
theorem sorted_any (p : Option Addr) (n cap : Nat) (w : World) (hn : n ≤ 1000) (hp : SetP w p n) : Calls Tryz.prog 147 #[.slice p n cap] w (SetRet 1000 w) := by
  obtain ⟨i0, hi, hz0, hz1, hz2⟩ := info_parts Tryz.info28
  have HP := Lib.hid hp
  clear hp
  go_enter Tryz.func147, Tryz.ntmps147
  go_wp2_with fail
  go_loopw [3, 4] (fun v i wr => ∃ (k : Nat) (l : List Int), k ≤ n ∧ i = .int .i64 k ∧ l.length ≤ k ∧ wr.ownsRow w.heap.size 28 1 v l.length (u16V l) ∧ Below w.heap.size w wr) (fun _ i _ => n - (intOf i).toNat)
  case atStart => exact ⟨0, [], Nat.zero_le _, rfl, Nat.le_refl _, World.ownsRow_nil _ _ _ _, Below.refl _ _⟩
  case round =>
    obtain ⟨k, l, hk, rfl, hl, hown, hb⟩ := hrel
    have HW := Lib.hid hown
    have HB := Lib.hid hb
    clear hown hb
    obtain ⟨p3, c3, hv3, hp3, hc3⟩ := setP_of_own HW.out
    subst hv3
    have HP3 := Lib.hid hp3
    clear hp3
    by_cases hkn : k < n
    · obtain ⟨b, off, x, rfl, hbb, hc⟩ := HP.out.at hkn
      have e1 : (0 : Int) ≤ (k : Int) := by omega
      have e2 : (k : Int) < (n : Int) := by omega
      go_upto_block 2 with fail
      go_cut [5] (fun a wx => ∃ j : Nat, j ≤ l.length ∧ a = .int .i64 j ∧ wx.ownsRow w.heap.size 28 1 (.slice p3 l.length c3) l.length (u16V l) ∧ Below w.heap.size w wx)
      case first =>
        go_wp2_with fail
        go_loopw [5] (fun a wx => ∃ j : Nat, j ≤ l.length ∧ a = .int .i64 j ∧ wx.ownsRow w.heap.size 28 1 (.slice p3 l.length c3) l.length (u16V l) ∧ Below w.heap.size w wx) (fun a _ => l.length - (intOf a).toNat)
        case atStart => exact ⟨0, Nat.zero_le _, rfl, HW.out, HB.out⟩
        case round =>
          obtain ⟨j, hj, rfl, hown, hb⟩ := hrel
          have HW2 := Lib.hid hown
          have HB2 := Lib.hid hb
          clear hown hb
          have e0 : (0 : Int) ≤ (j : Int) := by omega
          by_cases hjl : j < l.length
          · obtain ⟨g, c, hg⟩ := own_some HW2.out (by omega)
            injection hg with hg1 _ hg3
            subst hg1
            subst hg3
            obtain ⟨_, y, hy⟩ := own_cell HW2.out hjl
            have e3 : (j : Int) < (l.length : Int) := by omega
            have HV := Lib.hid (show VT w (.slice (some ⟨g, 0, none⟩) l.length c3) l b (off + k) g j x y _ from ⟨(HB2.out.cell (p := ⟨b, off + k, none⟩) hbb).trans hc, hy, HW2.out, HB2.out⟩)
            clear hy
            go_upto_region 6 with fail
            go_region_held3 (fun W => W.cell? ⟨b, off + k, none⟩ = some (.int .u16 x) ∧ W.cell? ⟨g, j, none⟩ = some (.int .u16 y) ∧ VT w (.slice (some ⟨g, 0, none⟩) l.length c3) l b (off + k) g j x y W)
              (first | exact vtS HV.out | exact vtS HV.out.drew | exact vtS hV2)
              ((go_at_call 145; refine (before_any y x _).mono ?_; rintro e w2 ⟨r, rfl, rfl⟩; have hV2 := HV.out.drew))
            cases r
            · go_wp2_with fail
              go_meet
              exact ⟨j, hj, rfl, hV2.2.2.1, hV2.2.2.2⟩
            · go_wp2_with fail
              go_roundw
              case rel => exact ⟨j + 1, by omega, by go_num, hV2.2.2.1, hV2.2.2.2⟩
              case measure => simp [intOf]; omega
          · have e3 : decide ((j : Int) < (l.length : Int)) = false := by simp; omega
            go_upto_region 6 with fail
            go_quiet (fail)
            go_wp2_with fail
            go_meet
            exact ⟨j, hj, rfl, own_drewN HW2.out _, below_drewN HB2.out _⟩
      case rest =>
        obtain ⟨j, hj, rfl, hown, hb⟩ := hcut
        have HW2 := Lib.hid hown
        have HB2 := Lib.hid hb
        have hsz2 := hb.size
        clear hown hb
        have e0 : (0 : Int) ≤ (j : Int) := by omega
        have hc1 := (HB2.out.cell (p := ⟨b, off + k, none⟩) hbb).trans hc
        by_cases hjl : j < l.length
        · obtain ⟨g0, c0, hg⟩ := own_some HW2.out (by omega)
          injection hg with hg1 _ hg3
          subst hg1
          subst hg3
          obtain ⟨_, y, hy⟩ := own_cell HW2.out hjl
          have e3 : (j : Int) < (l.length : Int) := by omega
          go_upto_region 8 with fail
          go_quiet (fail)
          have HW4 := Lib.hid (own_drewN HW2.out nq)
          have HB4 := Lib.hid (below_drewN HB2.out nq)
          generalize wc.drewN nq = w4 at HW4 HB4 ⊢
          have hsz4 := HB4.out.size
          clear hy e0 e3 hc1
          go_upto_region 9 with fail
          · skip
            go_roundw
            case rel => exact ⟨k + 1, by omega, by go_num, l, by omega, HW4.out, HB4.out⟩
            case measure => simp [intOf]; omega
          · skip
            have T := HW4.out.alloc (.cells #[.int .u16 0] 28)
            go_wp2_with (at_builtin; refine wpList_append_own _ rfl _ _ 46 rfl w.heap.size 28 i0 (.int .u16 0) 1 2 Tryz.underlying46 hi hz0 hz1 hz2 rfl (by decide) (.slice (some ⟨g0, 0, none⟩) l.length c3) l.length (u16V l) rfl T ⟨w4.heap.size, 0, none⟩ 1 1 [.int .u16 0] rfl rfl ?c1 ?c2 ?c3 ?c4 ?c5 ?_)
            try (case c1 => (intro j u hj; cases j with | zero => (simp at hj; subst hj; simp [Addr.add]) | succ j => simp at hj))
            case c2 => first | rfl | (intro u hu; simp at hu; subst hu; rfl)
            case c3 => unfold maxLen; omega
            case c4 => omega
            case c5 => first | omega | (simp; omega)
            intro v' w5 hown' hgrow _
            clear T
            have hb5 : Below w.heap.size w w5 := below_grown HB4.out hsz4 HW4.out hgrow
            rw [u16V_snoc] at hown'
            obtain ⟨g, c, hg⟩ := own_some hown' (by omega)
            subst hg
            have HW5 := Lib.hid hown'
            have HB5 := Lib.hid hb5
            clear hown' hgrow hb5
            go_wp2_with fail
            go_loopw [6] (fun a wx => ∃ (m : Nat) (l' : List Int), j ≤ m ∧ m ≤ l.length ∧ a = .int .i64 m ∧ l'.length = l.length + 1 ∧ wx.ownsRow w.heap.size 28 1 (.slice (some ⟨g, 0, none⟩) (l.length + 1) c) (l.length + 1) (u16V l') ∧ Below w.heap.size w wx) (fun a _ => (intOf a).toNat)
            case atStart => exact ⟨l.length, l ++ [0], hj, Nat.le_refl _, by go_num, by simp, HW5.out, HB5.out⟩
            case round =>
              obtain ⟨m, l', hm1, hm2, rfl, hl', hown, hb⟩ := hrel
              have HW6 := Lib.hid hown
              have HB6 := Lib.hid hb
              have HL' := Lib.hid hl'
              clear hown hb hl'
              by_cases hmj : j < m
              · obtain ⟨m', rfl⟩ : ∃ m', m = m' + 1 := ⟨m - 1, by omega⟩
                obtain ⟨hgb, y6, hy6⟩ := own_cell HW6.out (k := m') (by omega)
                obtain ⟨hf6, hw6⟩ := own_put' HW6.out (k := m' + 1) (by omega) y6
                obtain ⟨_, y7, hy7⟩ := own_cell HW6.out (k := m' + 1) (by omega)
                have H6 := Lib.hid (And.intro hw6 (below_set HB6.out (p := ⟨g, m' + 1, none⟩) hgb (.int .u16 y6)))
                clear hw6
                go_wp2_with fail
                go_roundw
                case rel => exact ⟨m', l'.set (m' + 1) y6, by omega, by omega, by go_num, by rw [List.length_set]; exact HL'.out, H6.out.1, H6.out.2⟩
                case measure => simp [intOf]
              · obtain rfl : m = j := by omega
                obtain ⟨hgb, y6, hy6⟩ := own_cell HW6.out (k := m) (by omega)
                obtain ⟨hf6, hw6⟩ := own_put' HW6.out (k := m) (by omega) x
                have hc6 := (HB6.out.cell (p := ⟨b, off + k, none⟩) hbb).trans hc
                have H6 := Lib.hid (And.intro hw6 (below_set HB6.out (p := ⟨g, m, none⟩) hgb (.int .u16 x)))
                clear hw6
                go_wp2_with fail
                go_roundw
                case rel => exact ⟨k + 1, l'.set m x, by omega, by go_num, by rw [List.length_set, HL'.out]; omega, by rw [List.length_set, HL'.out]; exact H6.out.1, H6.out.2⟩
                case measure => simp [intOf]; omega
        · have e3 : decide ((j : Int) < (l.length : Int)) = false := by simp; omega
          go_upto_region 8 with fail
          go_quiet (fail)
          have HW4 := Lib.hid (own_drewN HW2.out nq)
          have HB4 := Lib.hid (below_drewN HB2.out nq)
          generalize wc.drewN nq = w4 at HW4 HB4 ⊢
          have hsz4 := HB4.out.size
          clear e0 e3 hc1
          go_upto_region 9 with fail
          · skip
            have T := HW4.out.alloc (.cells #[.int .u16 0] 28)
            go_wp2_with (at_builtin; refine wpList_append_own _ rfl _ _ 46 rfl w.heap.size 28 i0 (.int .u16 0) 1 2 Tryz.underlying46 hi hz0 hz1 hz2 rfl (by decide) (.slice p3 l.length c3) l.length (u16V l) rfl T ⟨w4.heap.size, 0, none⟩ 1 1 [.int .u16 0] rfl rfl ?d1 ?d2 ?d3 ?d4 ?d5 ?_)
            try (case d1 => (intro j u hj; cases j with | zero => (simp at hj; subst hj; simp [Addr.add]) | succ j => simp at hj))
            case d2 => first | rfl | (intro u hu; simp at hu; subst hu; rfl)
            case d3 => unfold maxLen; omega
            case d4 => omega
            case d5 => first | omega | (simp; omega)
            intro v' w5 hown' hgrow _
            clear T
            have hb5 : Below w.heap.size w w5 := below_grown HB4.out hsz4 HW4.out hgrow
            rw [u16V_snoc] at hown'
            obtain ⟨g, c, hg⟩ := own_some hown' (by omega)
            subst hg
            have HW5 := Lib.hid hown'
            have HB5 := Lib.hid hb5
            clear hown' hgrow hb5
            go_wp2_with fail
            go_loopw [6] (fun a wx => ∃ (m : Nat) (l' : List Int), j ≤ m ∧ m ≤ l.length ∧ a = .int .i64 m ∧ l'.length = l.length + 1 ∧ wx.ownsRow w.heap.size 28 1 (.slice (some ⟨g, 0, none⟩) (l.length + 1) c) (l.length + 1) (u16V l') ∧ Below w.heap.size w wx) (fun a _ => (intOf a).toNat)
            case atStart => exact ⟨l.length, l ++ [0], hj, Nat.le_refl _, by go_num, by simp, HW5.out, HB5.out⟩
            case round =>
              obtain ⟨m, l', hm1, hm2, rfl, hl', hown, hb⟩ := hrel
              have HW6 := Lib.hid hown
              have HB6 := Lib.hid hb
              have HL' := Lib.hid hl'
              clear hown hb hl'
              by_cases hmj : j < m
              · exfalso
                omega
              · obtain rfl : m = j := by omega
                obtain ⟨hgb, y6, hy6⟩ := own_cell HW6.out (k := m) (by omega)
                obtain ⟨hf6, hw6⟩ := own_put' HW6.out (k := m) (by omega) x
                have hc6 := (HB6.out.cell (p := ⟨b, off + k, none⟩) hbb).trans hc
                have H6 := Lib.hid (And.intro hw6 (below_set HB6.out (p := ⟨g, m, none⟩) hgb (.int .u16 x)))
                clear hw6
                go_wp2_with fail
                go_roundw
                case rel => exact ⟨k + 1, l'.set m x, by omega, by go_num, by rw [List.length_set, HL'.out]; omega, by rw [List.length_set, HL'.out]; exact H6.out.1, H6.out.2⟩
                case measure => simp [intOf]; omega
    · go_wp2_with fail
      go_ret
      exact ⟨p3, _, c3, rfl, by omega, hc3, HP3.out, fresh_of_own HW.out, HB.out⟩
end Go.Proofs.YtmcnpaehmnadeaaGreatDoor

/-
  EpochOf: sederuntref08.Least returns.
-/
namespace Go.Proofs.YtmcnpaehmnadeaaGreatDoor
open Go Go.RowKit

set_option maxHeartbeats 3200000 in
set_option maxRecDepth 1000000 in
theorem least_any (p : Option Addr) (n cap : Nat) (w : World) (hn : n ≤ 1000) (hp : SetP w p n) : Calls Tryz.prog 105 #[.slice p n cap] w (SetRet 1000 w) := by
  obtain ⟨i0, hi, hz0, hz1, hz2⟩ := info_parts Tryz.info28
  go_enter Tryz.func105, Tryz.ntmps105
  go_upto_region 3 with (go_at_call 147; refine (sorted_any p n cap _ hn hp).mono ?_; rintro e w1 ⟨p4, n4, c4, rfl, hn4, hc4, hp4, _, hb1⟩)
  have HP4 := Lib.hid hp4
  have HB1 := Lib.hid hb1
  have hsz1 := hb1.size
  clear hp4 hb1
  go_wp2_with fail
  go_loopw [3, 5] (fun v i wr => ∃ (k : Nat) (l : List Int), k ≤ n4 ∧ i = .int .i64 k ∧ l.length ≤ k ∧ wr.ownsRow w1.heap.size 28 1 v l.length (u16V l) ∧ Below w1.heap.size w1 wr) (fun _ i _ => n4 - (intOf i).toNat)
  case atStart => exact ⟨0, [], Nat.zero_le _, rfl, Nat.le_refl _, World.ownsRow_nil _ _ _ _, Below.refl _ _⟩
  case round =>
    obtain ⟨k, l, hk, rfl, hl, hown, hb⟩ := hrel
    have HW := Lib.hid hown
    have HB := Lib.hid hb
    clear hown hb
    by_cases hkn : k < n4
    · obtain ⟨b, off, x, rfl, hbb, hc⟩ := HP4.out.at hkn
      have e1 : (0 : Int) ≤ (k : Int) := by omega
      have e2 : (k : Int) < (n4 : Int) := by omega
      go_wp2_with fail
      go_loopw [6, 7] (fun f a wx => ∃ (fb : Bool) (j : Nat), j ≤ n4 ∧ f = .bool fb ∧ a = .int .i64 j ∧ wx.ownsRow w1.heap.size 28 1 u3 l.length (u16V l) ∧ Below w1.heap.size w1 wx) (fun _ a _ => n4 - (intOf a).toNat)
      case atStart => exact ⟨true, 0, Nat.zero_le _, rfl, rfl, HW.out, HB.out⟩
      case round =>
        obtain ⟨fb, j, hj, rfl, rfl, hown, hb⟩ := hrel
        have HW2 := Lib.hid hown
        have HB2 := Lib.hid hb
        have hsz2 := hb.size
        clear hown hb
        have hcx := (HB2.out.cell (p := ⟨b, off + k, none⟩) hbb).trans hc
        by_cases hjn : j < n4
        · obtain ⟨b', off', y, hpe, _, hcy0⟩ := HP4.out.at hjn
          obtain ⟨rfl, rfl⟩ : b' = b ∧ off' = off := by
            injection hpe with hpe
            injection hpe with h1 h2
            exact ⟨h1.symm, h2.symm⟩
          have hcy := (HB2.out.cell (p := ⟨b', off' + j, none⟩) hbb).trans hcy0
          have e3 : (0 : Int) ≤ (j : Int) := by omega
          have e4 : (j : Int) < (n4 : Int) := by omega
          clear hcy0
          by_cases hkj : k = j
          · subst hkj
            go_upto_region 10 with fail
            go_quiet (fail)
            go_wp2_with fail
            go_roundw
            case rel => exact ⟨fb, k + 1, by omega, rfl, by go_num, own_drewN HW2.out _, below_drewN HB2.out _⟩
            case measure => simp [intOf]; omega
          · have dkj : ((k : Int) != (j : Int)) = true := by simp; omega
            go_upto_region 10 with fail
            go_quiet ((go_at_call 146; refine Calls.quiet_of_same (contains_ex x y _)))
            clear dkj
            go_wp2_with fail
            all_goals
              go_roundw
              case rel => exact ⟨_, j + 1, by omega, rfl, by go_num, own_drewN HW2.out _, below_drewN HB2.out _⟩
              case measure => simp [intOf]; omega
        · cases fb
          · go_wp2_with fail
            go_roundw
            case rel => first | exact ⟨k + 1, l, by omega, by go_num, by omega, HW2.out, HB2.out⟩ | exact ⟨k + 1, by omega, by go_num, l, by omega, HW2.out, HB2.out⟩
            case measure => simp [intOf]; omega
          · go_wp2_with (at_builtin; refine wpList_append_own _ rfl _ _ 46 rfl w1.heap.size 28 i0 (.int .u16 0) 1 2 Tryz.underlying46 hi hz0 hz1 hz2 rfl (by decide) _ _ _ rfl (HW2.out.alloc _) ⟨wr.heap.size, 0, none⟩ 1 1 [.int .u16 x] rfl rfl ?c1 ?c2 ?c3 ?c4 ?c5 ?_)
            try (case c1 => (intro j u hj; cases j with | zero => (simp at hj; subst hj; simp [Addr.add]) | succ j => simp at hj))
            case c2 => first | rfl | (intro u hu; simp at hu; subst hu; rfl)
            case c3 => unfold maxLen; omega
            case c4 => omega
            case c5 => first | omega | (simp; omega)
            intro v' w5 hown' hgrow _
            have hb5 : Below w1.heap.size w1 w5 := below_grown HB2.out hsz2 HW2.out hgrow
            rw [u16V_snoc] at hown'
            have HO5 := Lib.hid hown'
            clear hown' hgrow
            go_wp2_with fail
            go_roundw
            case rel => exact ⟨k + 1, l ++ [x], by omega, by go_num, by rw [List.length_append]; show l.length + 1 ≤ _; omega, by rw [List.length_append]; exact HO5.out, hb5⟩
            case measure => simp [intOf]; omega
    · obtain ⟨p5, c5, hv5, hp5, hc5⟩ := setP_of_own HW.out
      subst hv5
      go_wp2_with fail
      go_ret
      exact ⟨p5, _, c5, rfl, by omega, hc5, hp5, fun q hq => Nat.le_trans hsz1 (fresh_of_own HW.out q hq), HB1.out.trans (HB.out.mono hsz1)⟩
end Go.Proofs.YtmcnpaehmnadeaaGreatDoor
