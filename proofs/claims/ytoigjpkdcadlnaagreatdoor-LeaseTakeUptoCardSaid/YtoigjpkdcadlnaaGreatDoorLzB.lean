/-
  LeaseTake: what lease.Take's two ways come to.
-/
import Derived.Test.YtoigjpkdcadlnaaGreatDoorLzA
namespace Go.Proofs.YtoigjpkdcadlnaaGreatDoor
open Go Go.RowKit

theorem take_low {L : List (Int × Int)} {t : Int} {i : Nat} (h : Cut L t i i) : ∀ x ∈ L.take i, x.1 < t := fun x hx => by
  obtain ⟨k, hk⟩ := List.mem_iff_getElem?.mp hx
  rw [List.getElem?_take] at hk
  split at hk
  · exact h.2.2.1 k x hk (by assumption)
  · cases hk
theorem insG_new {L : List (Int × Int)} {t u : Int} {i : Nat} (h : Cut L t i i) (hf : foundB L t i = false) : insG t u L = L.take i ++ (t, u) :: L.drop i := by
  conv => lhs; rw [← List.take_append_drop i L]
  rw [insG_low t u _ _ (take_low h)]
  congr 1
  cases hd : L.drop i with
  | nil => rfl
  | cons y r =>
    have hy : L[i]? = some y := by
      have := congrArg (fun l => l[0]?) hd
      simpa using this
    have h1 := h.2.2.2 i y hy (Nat.le_refl _)
    have h2 : y.1 ≠ t := by
      unfold foundB at hf
      rw [hy] at hf
      simpa using hf
    rw [insG, if_neg (by omega), if_neg (by omega)]
theorem insG_old {L : List (Int × Int)} {t u : Int} {i : Nat} {x : Int × Int} (h : Cut L t i i) (hx : L[i]? = some x) (he : x.1 = t) : insG t u L = L.set i (x.1, max x.2 u) := by
  have hi : i < L.length := (List.getElem?_eq_some_iff.mp hx).1
  have hd : L.drop i = x :: L.drop (i + 1) := by
    rw [List.drop_eq_getElem_cons hi]
    congr 1
    rw [List.getElem?_eq_getElem hi] at hx
    exact Option.some.inj hx
  conv => lhs; rw [← List.take_append_drop i L]
  rw [insG_low t u _ _ (take_low h), hd, insG, if_neg (by omega), if_pos he, List.set_eq_take_append_cons_drop, if_pos hi, he]

theorem ownsRow_mono {w : World} {a b e sz n : Nat} {v : Value} {xs : List Value} (h : w.ownsRow a e sz v n xs) (hab : b ≤ a) : w.ownsRow b e sz v n xs := by
  refine ⟨h.1, ?_⟩
  rcases h.2 with h0 | ⟨g, cap, cur, h1, h2, h3⟩
  · exact .inl h0
  · exact .inr ⟨g, cap, cur, h1, Nat.le_trans hab h2, h3⟩
theorem own_set {w : World} {base e sz n : Nat} {v : Value} {xs : List Value} (h : w.ownsRow base e sz v n xs) {p : Addr} (hp : p.block < base) (u : Value) : (w.setCell p u).ownsRow base e sz v n xs := by
  refine ⟨h.1, ?_⟩
  rcases h.2 with h0 | ⟨g, cap, cur, h1, h2, h3, h4⟩
  · exact .inl h0
  · exact .inr ⟨g, cap, cur, h1, h2, (Below.heap_setCell w p u g (by omega)).trans h3, h4⟩

theorem grV_set : ∀ (L : List (Int × Int)) (i : Nat) (x : Int × Int) (z : Int), L[i]? = some x → (grV L).set (i * 2 + 1) (.int .i64 z) = grV (L.set i (x.1, z))
  | [], _, _, _, h => by simp at h
  | a :: t, 0, x, z, h => by simp at h; subst h; rfl
  | a :: t, i + 1, x, z, h => by
    have := grV_set t i x z (by simpa using h)
    rw [show (i + 1) * 2 + 1 = (i * 2 + 1) + 1 + 1 by omega]
    simp only [grV, List.set_cons_succ, this]
theorem own_until {w : World} {base g n cap : Nat} {L : List (Int × Int)} {i : Nat} {x : Int × Int} (h : w.ownsRow base 41 2 (.slice (some ⟨g, 0, none⟩) n cap) n (grV L)) (hx : L[i]? = some x) (z : Int) :
    (w.setCell ⟨g, i * 2 + 1, none⟩ (.int .i64 z)).ownsRow base 41 2 (.slice (some ⟨g, 0, none⟩) n cap) n (grV (L.set i (x.1, z))) := by
  have hl := h.1
  rw [grV_length] at hl
  have hi : i < L.length := (List.getElem?_eq_some_iff.mp hx).1
  refine ⟨by rw [grV_length, List.length_set]; exact hl, .inr ?_⟩
  rcases h.2 with ⟨h0, _⟩ | ⟨g', cap', cur, h1, h2, h3, h4, h5, h6, h7⟩
  · cases h0
  · injection h1 with e1 e2 e3
    injection e1 with e1
    injection e1 with e1
    subst e1; subst e3
    refine ⟨g, cap, cur.set! (i * 2 + 1) (.int .i64 z), rfl, h2, ?_, h4, h5, by simpa using h6, ?_⟩
    · unfold World.setCell
      simp [Array.getElem?_modify, h3]
    · rw [← grV_set L i x z hx, ← h7]
      simp [List.take_set]
theorem own_cells {w : World} {base g n cap : Nat} {L : List (Int × Int)} (h : w.ownsRow base 41 2 (.slice (some ⟨g, 0, none⟩) n cap) n (grV L)) : ∃ cur, w.heap[g]? = some (.cells cur 41 (0, 0)) ∧ base ≤ g := by
  rcases h.2 with ⟨h0, _⟩ | ⟨g', cap', cur, h1, h2, h3, _⟩
  · cases h0
  · injection h1 with e1 e2 e3
    injection e1 with e1
    injection e1 with e1
    subst e1
    exact ⟨cur, h3, h2⟩
end Go.Proofs.YtoigjpkdcadlnaaGreatDoor

/-
  LeaseTake: lease.Take at a grant that is taken up.
-/
namespace Go.Proofs.YtoigjpkdcadlnaaGreatDoor
open Go Go.RowKit

theorem TB.below3 {m : Msg} {hv : Int} {p : Option Addr} {n cap : Nat} {w W W' : World} (h : TB m hv p n cap w W) (hb : Below (w.heap.size + 3) W W') : TB m hv p n cap w W' :=
  ⟨(hb.block _ (by omega)).trans h.b0, (hb.block _ (by omega)).trans h.b1, (hb.block _ (by omega)).trans h.b2, h.bl.trans (hb.mono (by omega)), Nat.lt_of_lt_of_le h.lt hb.size⟩
theorem grP_block {w : World} {p : Option Addr} {n cap k : Nat} {L : List (Int × Int)} (h : GrP w p n cap L) (hk : w.heap.size ≤ k) : p.map (·.block) ≠ some k := by
  obtain ⟨_, ⟨_, rfl, _⟩ | ⟨_, b, off, rfl, hb, _⟩⟩ := h
  · exact fun e => by cases e
  · intro e
    injection e with e
    have : b = k := e
    omega

/-- the grants that count for a view -/
def baseL (m : Msg) (hv : Int) (L : List (Int × Int)) : List (Int × Int) := if m.view = hv then L else []
/-- a slice of grants of its own, behind the three blocks -/
def TG (m : Msg) (hv : Int) (p : Option Addr) (n cap : Nat) (LL : List (Int × Int)) (w : World) (g : Value) (W : World) : Prop :=
  ∃ p' cap', g = .slice p' LL.length cap' ∧ GrP W p' LL.length cap' LL ∧ W.ownsRow (w.heap.size + 3) 41 2 (.slice p' LL.length cap') LL.length (grV LL) ∧ TB m hv p n cap w W

/-- the answer: a view and grants -/
def NewRet (view : Int) (L : List (Int × Int)) (w : World) (e : Ending) (w' : World) : Prop := ∃ p n cap, e = .returned (.agg #[.int .i64 view, .slice p n cap]) ∧ GrP w' p n cap L ∧ Below w.heap.size w w'

theorem hok_base {m : Msg} {hv : Int} {L : List (Int × Int)} (h : HOk hv L) : Asc (baseL m hv L) ∧ InR (baseL m hv L) := by
  unfold baseL
  split
  · exact ⟨h.2.2.2.1, h.2.2.2.2⟩
  · exact ⟨trivial, fun _ hx => (by cases hx)⟩

set_option maxHeartbeats 6400000 in
set_option maxRecDepth 1000000 in
theorem take_new (m : Msg) (hv : Int) (p : Option Addr) (n cap : Nat) (L : List (Int × Int)) (w : World) (hm : m.Ok w) (hg : GrP w p n cap L) (hh : HOk hv L) (hacc : Acc m hv) :
    Calls Tryz.prog 8 #[.agg #[.int .i64 hv, .slice p n cap], .agg #[.int .i64 m.kind, .int .i64 m.frm, .int .i64 m.dst, .int .i64 m.view, .int .i64 m.slot, .string m.value, .int .i64 m.untl, .int .i64 m.g0, .int .i64 m.g1, .int .i64 m.g2, .int .i64 m.g3, .string m.gd, .string m.gs, .slice m.stP m.stN m.stC, .slice m.enP m.enN m.enC, .int .i64 m.sl, .string m.rt, .slice m.ckP m.ckN m.ckC, .slice m.pfP m.pfN m.pfC, .slice m.hnP m.hnN m.hnC, .slice m.txP m.txN m.txC]] w (NewRet m.view (insG m.frm m.untl (baseL m hv L)) w) := by
  have hT := TB.first m hv p n cap w
  have HT := Lib.hid hT
  have HM := Lib.hid (hm.below hT.bl)
  have HG := Lib.hid (hg.below hT.bl)
  have hn20 : n ≤ 20 := by have := asc_len12 hh.2.2.2.1 hh.2.2.2.2; have := hg.1; omega
  have HH := Lib.hid (hok_base (m := m) hh)
  obtain ⟨hk, hok, hv1, hv2⟩ := hacc
  have HK := Lib.hid hk
  have HOK := Lib.hid hok
  have hf0 := hok.1
  have hf1 := hok.2.1
  have hu0 := hok.2.2.2.2.2.2.1
  have hu1 := hm.untlH.2
  clear hm hT hg hh hk hok
  go_enter Tryz.func8, Tryz.ntmps8
  go_upto_region 1 with fail
  revert HT HM HG
  generalize ((w.alloc (.cells #[.int .i64 hv, .slice p n cap] 26)).alloc (.cells #[.int .i64 m.kind, .int .i64 m.frm, .int .i64 m.dst, .int .i64 m.view, .int .i64 m.slot, .string m.value, .int .i64 m.untl, .int .i64 m.g0, .int .i64 m.g1, .int .i64 m.g2, .int .i64 m.g3, .string m.gd, .string m.gs, .slice m.stP m.stN m.stC, .slice m.enP m.enN m.enC, .int .i64 m.sl, .string m.rt, .slice m.ckP m.ckN m.ckC, .slice m.pfP m.pfN m.pfC, .slice m.hnP m.hnN m.hnC, .slice m.txP m.txN m.txC] 37)).alloc (.cells #[.int .i64 0, .slice none 0 0] 26) = W3
  intro HT HM HG
  go_step
  refine wpList_load_row rfl 37 (.tmp 3) rfl (w.heap.size + 1) rfl 37 #[.int .i64 m.kind, .int .i64 m.frm, .int .i64 m.dst, .int .i64 m.view, .int .i64 m.slot, .string m.value, .int .i64 m.untl, .int .i64 m.g0, .int .i64 m.g1, .int .i64 m.g2, .int .i64 m.g3, .string m.gd, .string m.gs, .slice m.stP m.stN m.stC, .slice m.enP m.enN m.enC, .int .i64 m.sl, .string m.rt, .slice m.ckP m.ckN m.ckC, .slice m.pfP m.pfN m.pfC, .slice m.hnP m.hnN m.hnC, .slice m.txP m.txN m.txC] (0, 0) _ HT.out.b1 Tryz.underlying37 rfl Tryz.size37 ?_
  generalize hMV : Value.agg #[.int .i64 m.kind, .int .i64 m.frm, .int .i64 m.dst, .int .i64 m.view, .int .i64 m.slot, .string m.value, .int .i64 m.untl, .int .i64 m.g0, .int .i64 m.g1, .int .i64 m.g2, .int .i64 m.g3, .string m.gd, .string m.gs, .slice m.stP m.stN m.stC, .slice m.enP m.enN m.enC, .int .i64 m.sl, .string m.rt, .slice m.ckP m.ckN m.ckC, .slice m.pfP m.pfN m.pfC, .slice m.hnP m.hnN m.hnC, .slice m.txP m.txN m.txC] = MV
  have HMV := Lib.hid hMV
  clear hMV
  go_wp2_with fail
  go_at_call 23
  obtain rfl := HMV.out
  refine (valid_grant m W3 HM.out HK.out).mono ?_
  rintro e w2 ⟨k, rfl, hk, hb2⟩
  obtain rfl : k = 0 := hk.mpr HOK.out
  have hT2 := HT.out.below hb2
  have HT2 := Lib.hid hT2
  have HG2 := Lib.hid (HG.out.below hb2)
  have m0 : w2.cell? ⟨w.heap.size + 1, 0, none⟩ = some (.int .i64 9) := by rw [← HK.out]; exact cellOf hT2.b1 (j := 0) rfl
  have m3 : w2.cell? ⟨w.heap.size + 1, 3, none⟩ = some (.int .i64 m.view) := cellOf hT2.b1 (j := 3) rfl
  have c0 : w2.cell? ⟨w.heap.size, 0, none⟩ = some (.int .i64 hv) := cellOf hT2.b0 (j := 0) rfl
  have c1 : w2.cell? ⟨w.heap.size, 1, none⟩ = some (.slice p n cap) := cellOf hT2.b0 (j := 1) rfl
  have lt2 := hT2.lt
  clear hT2 hk HT HM HG hb2
  go_upto_if 33 with fail
  go_cut [5] (fun g wx => TG m hv p n cap (baseL m hv L) w g wx)
  case first =>
    by_cases hveq : m.view = hv
    · have hbase : baseL m hv L = L := if_pos hveq
      have HBa := Lib.hid hbase
      have d1 : (m.view == hv) = true := by simpa using hveq
      have d2 : decide (m.view = hv) = true := by simpa using hveq
      clear hbase hveq
      go_wp2_with (go_at_call 7; refine (clone_any _ _ _ L _ hn20 HG2.out).mono ?_; rintro e w3 ⟨p', cap', rfl, hg', ho', hb3⟩)
      go_meet
      have hl : n = L.length := HG2.out.1
      rw [HBa.out]
      subst hl
      exact ⟨p', cap', rfl, hg', ownsRow_mono ho' (by omega), HT2.out.below hb3⟩
    · have hbase : baseL m hv L = [] := if_neg hveq
      have HBa := Lib.hid hbase
      have d1 : (m.view == hv) = false := by simpa using hveq
      have d2 : decide (m.view = hv) = false := by simpa using hveq
      clear hbase hveq
      go_wp2_with fail
      go_meet
      rw [HBa.out]
      exact ⟨none, 0, rfl, ⟨rfl, .inl ⟨rfl, rfl, rfl⟩⟩, World.ownsRow_nil _ _ _ _, HT2.out⟩
  case rest =>
    obtain ⟨p', cap', rfl, hg', ho', hT'⟩ := hcut
    have HGP := Lib.hid hg'
    have HO := Lib.hid ho'
    have HT' := Lib.hid hT'
    have m1 : wc.cell? ⟨w.heap.size + 1, 1, none⟩ = some (.int .i64 m.frm) := cellOf hT'.b1 (j := 1) rfl
    have lt3 := hT'.lt
    clear hg' ho' hT' m0 m3 c0 c1 HG2 HT2
    generalize hLL : baseL m hv L = LL at HGP HO HH ⊢
    have HLL := Lib.hid hLL
    clear hLL
    go_upto_if 44 with (go_at_call 24; refine (bs_any _ _ _ LL m.frm _ HH.out.1 HH.out.2 ⟨hf0, hf1⟩ HGP.out).mono ?_; rintro e w4 ⟨i, hC, rfl, hb4⟩; have HC := Lib.hid hC; have HB4 := Lib.hid hb4; clear hC hb4)
    have hT4 := HT'.out.below HB4.out
    have HT4 := Lib.hid hT4
    have HO4 := Lib.hid (own_below HO.out HB4.out)
    have HG4 := Lib.hid (HGP.out.below HB4.out)
    have lt4 := hT4.lt
    have n1 : w4.cell? ⟨w.heap.size + 1, 1, none⟩ = some (.int .i64 m.frm) := cellOf hT4.b1 (j := 1) rfl
    have n6 : w4.cell? ⟨w.heap.size + 1, 6, none⟩ = some (.int .i64 m.untl) := cellOf hT4.b1 (j := 6) rfl
    have n3 : w4.cell? ⟨w.heap.size + 1, 3, none⟩ = some (.int .i64 m.view) := cellOf hT4.b1 (j := 3) rfl
    have hiL : i ≤ LL.length := HC.out.2.1
    have hl12 := asc_len12 HH.out.1 HH.out.2
    clear hT4 m1
    cases hf : foundB LL m.frm i with
    | true =>
      obtain ⟨x, hx, hxe⟩ : ∃ x, LL[i]? = some x ∧ x.1 = m.frm := by
        unfold foundB at hf
        cases hq : LL[i]? with
        | none => rw [hq] at hf; cases hf
        | some x => rw [hq] at hf; exact ⟨x, rfl, by simpa using hf⟩
      have hil : i < LL.length := (List.getElem?_eq_some_iff.mp hx).1
      obtain ⟨g, hp'⟩ : ∃ g, p' = some ⟨g, 0, none⟩ := by
        rcases HO4.out.2 with ⟨h0, hn0⟩ | ⟨g, cap2, cur, h1, _⟩
        · omega
        · injection h1 with e1; exact ⟨g, e1⟩
      subst hp'
      obtain ⟨cur, hcur, hgb⟩ := own_cells HO4.out
      have x1 : w4.cell? ⟨g, i * 2 + 1, none⟩ = some (.int .i64 x.2) := by
        obtain ⟨_, ⟨h0, _⟩ | ⟨_, b, off, hb, _, h4⟩⟩ := HG4.out
        · rw [h0] at hil; simp at hil
        · injection hb with hb; injection hb with hb1 hb2; subst hb1; subst hb2; simpa using h4.c2 hx
      have x2 := frozenOf hcur (j := i * 2 + 1)
      have y1 : w4.drew.cell? ⟨g, i * 2 + 1, none⟩ = some (.int .i64 x.2) := x1
      have y2 : w4.drew.frozen? ⟨g, i * 2 + 1, none⟩ = false := x2
      have hneg : g ≠ w.heap.size + 1 := by omega
      have hneg2 : w.heap.size + 1 ≠ g := by omega
      have HX := Lib.hid hx
      have HXE := Lib.hid hxe
      clear hx hxe hcur
      go_upto_region 8 with fail
      go_region
      have hz : (if x.2 < m.untl then m.untl else x.2) = max x.2 m.untl := by split <;> omega
      have HZ := Lib.hid hz
      have hb5' : Below (w.heap.size + 3) w4 (w4.setCell ⟨g, i * 2 + 1, none⟩ (.int .i64 (if x.2 < m.untl then m.untl else x.2))).drew := (below_set (Below.refl _ _) (p := ⟨g, i * 2 + 1, none⟩) hgb _).trans ⟨rfl, rfl, rfl, Nat.le_refl _, fun _ _ => rfl⟩
      have ho5 : (w4.setCell ⟨g, i * 2 + 1, none⟩ (.int .i64 (if x.2 < m.untl then m.untl else x.2))).drew.ownsRow (w.heap.size + 3) 41 2 (.slice (some ⟨g, 0, none⟩) LL.length cap') LL.length (grV (insG m.frm m.untl LL)) := by
        rw [insG_old HC.out HX.out HXE.out, ← hz]
        exact own_until HO4.out HX.out _
      have hT5 := HT4.out.below3 hb5'
      clear y1 y2 x1 x2 n1 n6 n3 hz
      revert hb5' ho5 hT5
      generalize (w4.setCell ⟨g, i * 2 + 1, none⟩ (.int .i64 (if x.2 < m.untl then m.untl else x.2))).drew = w5
      intro hb5' ho5 hT5
      have HO5 := Lib.hid ho5
      have HT5 := Lib.hid hT5
      have q3 : w5.cell? ⟨w.heap.size + 1, 3, none⟩ = some (.int .i64 m.view) := cellOf hT5.b1 (j := 3) rfl
      have r0 := cellOf hT5.b2 (j := 0) rfl
      have r1 := cellOf hT5.b2 (j := 1) rfl
      have f0 := frozenOf hT5.b2 (j := 0)
      have f1 := frozenOf hT5.b2 (j := 1)
      clear ho5 hT5 hb5'
      go_wp2_with fail
      all_goals
        have hr := row_set2 HT5.out.b2 (.int .i64 m.view) (.slice (some ⟨g, 0, none⟩) LL.length cap')
        have hb := below_set (below_set HT5.out.bl (p := ⟨w.heap.size + 2, 0, none⟩) (by show _ ≤ w.heap.size + 2; omega) (.int .i64 m.view)) (p := ⟨w.heap.size + 2, 1, none⟩) (by show _ ≤ w.heap.size + 2; omega) (.slice (some ⟨g, 0, none⟩) LL.length cap')
        have hown := own_set (own_set HO5.out (p := ⟨w.heap.size + 2, 0, none⟩) (by show w.heap.size + 2 < _; omega) (.int .i64 m.view)) (p := ⟨w.heap.size + 2, 1, none⟩) (by show w.heap.size + 2 < _; omega) (.slice (some ⟨g, 0, none⟩) LL.length cap')
        obtain ⟨p6, cap6, he6, hg6⟩ := grP_of_own hown (by omega)
        injection he6 with e1 e2 e3
        subst e1; subst e3
        (try simp only [Exit.inBlock, Exit.then])
        refine bodyPost_ret (results_cell_row rfl _ _ (w.heap.size + 2) 26 #[.int .i64 m.view, .slice (some ⟨g, 0, none⟩) LL.length cap'] (0, 0) _ rfl hr Tryz.underlying26 rfl Tryz.size26) rfl ?_
        exact ⟨_, LL.length, cap', rfl, by rw [HLL.out]; exact hg6, hb⟩
    | false =>
      have HF := Lib.hid hf
      clear hf
      have hins : ∀ W, Below (w.heap.size + 3) w4 W → W.heap[w4.heap.size]? = some (.cells #[.int .i64 m.frm, .int .i64 m.untl] 41 (0, 0)) → W.ownsRow (w.heap.size + 3) 41 2 (.slice p' LL.length cap') LL.length (grV LL) → Calls Tryz.prog 26 #[.slice p' LL.length cap', .int .i64 i, .slice (some ⟨w4.heap.size, 0, none⟩) 1 1] W (InsRet (w.heap.size + 3) (LL.length + 1) (LL.take i ++ (m.frm, m.untl) :: LL.drop i) W) := fun W hb hvb ho =>
        ins_any (w.heap.size + 3) LL.length i w4.heap.size p' cap' LL m.frm m.untl W hiL (by omega) ho (grP_block HG4.out (Nat.le_refl _)) hvb (by have := hb.size; omega)
      have HI := Lib.hid hins
      clear hins
      go_upto_region 10 with (go_at_call 26; refine (HI.out _ ((Below.refl _ _).alloc (by omega) _) (heap_alloc_new _ _) (HO4.out.alloc _)).mono ?_; rintro e w5 ⟨v5, rfl, ho5, hb5⟩)
      have hb5' : Below (w.heap.size + 3) w4 w5 := ((Below.refl _ _).alloc (by omega) _).trans hb5
      have hT5 := HT4.out.below3 hb5'
      obtain ⟨p5, cap5, rfl, hg5⟩ := grP_of_own ho5 (by omega)
      have HO5 := Lib.hid ho5
      have HT5 := Lib.hid hT5
      have q3 : w5.cell? ⟨w.heap.size + 1, 3, none⟩ = some (.int .i64 m.view) := cellOf hT5.b1 (j := 3) rfl
      have r0 := cellOf hT5.b2 (j := 0) rfl
      have r1 := cellOf hT5.b2 (j := 1) rfl
      have f0 := frozenOf hT5.b2 (j := 0)
      have f1 := frozenOf hT5.b2 (j := 1)
      clear ho5 hT5 hb5 hb5' n1 n6 n3 hg5
      go_wp2_with fail
      have hr := row_set2 HT5.out.b2 (.int .i64 m.view) (.slice p5 (LL.length + 1) cap5)
      have hb := below_set (below_set HT5.out.bl (p := ⟨w.heap.size + 2, 0, none⟩) (by show _ ≤ w.heap.size + 2; omega) (.int .i64 m.view)) (p := ⟨w.heap.size + 2, 1, none⟩) (by show _ ≤ w.heap.size + 2; omega) (.slice p5 (LL.length + 1) cap5)
      have hown := own_set (own_set HO5.out (p := ⟨w.heap.size + 2, 0, none⟩) (by show w.heap.size + 2 < _; omega) (.int .i64 m.view)) (p := ⟨w.heap.size + 2, 1, none⟩) (by show w.heap.size + 2 < _; omega) (.slice p5 (LL.length + 1) cap5)
      obtain ⟨p6, cap6, he6, hg6⟩ := grP_of_own hown (by omega)
      injection he6 with e1 e2 e3
      subst e1; subst e3
      (try simp only [Exit.inBlock, Exit.then])
      refine bodyPost_ret (results_cell_row rfl _ _ (w.heap.size + 2) 26 #[.int .i64 m.view, .slice p5 (LL.length + 1) cap5] (0, 0) _ rfl hr Tryz.underlying26 rfl Tryz.size26) rfl ?_
      exact ⟨p5, LL.length + 1, cap5, rfl, by rw [HLL.out, insG_new HC.out HF.out]; exact hg6, hb⟩
end Go.Proofs.YtoigjpkdcadlnaaGreatDoor
