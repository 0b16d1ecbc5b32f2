/-
  EpochNext: family.And, exactly.
-/
import Derived.Test.YtmcnpaehmnadeaaGreatDoorFcMO
import Derived.Test.YtmcnpaehmnadeaaGreatDoorFdEF
set_option maxHeartbeats 6400000
set_option maxRecDepth 1000000
namespace Go.Proofs.YtmcnpaehmnadeaaGreatDoor
open Go Go.RowKit
theorem Tryz.info4 : (Tryz.prog.info? 4).map (fun i => (i.zero, i.size, i.bytes)) = some (some (.bool false), 1, 1) := by kernel_rfl
structure SN (w0 : World) (B : Nat) (P : List Nat) (W : World) : Prop where
 row : ∃ cs, W.heap[B]? = some (.cells cs 4 (0, 0)) ∧ ∀ s, s < 4096 → cs[s]? = some (.bool (decide (s ∈ P)))
 bl : Below w0.heap.size w0 W
theorem SN.cell {w0 : World} {B : Nat} {P : List Nat} {W : World} (h : SN w0 B P W) {s : Nat} (hs : s < 4096) : W.cell? ⟨B, s, none⟩ = some (.bool (decide (s ∈ P))) := by
 obtain ⟨cs, h1, h2⟩ := h.row
 exact cellOf h1 (h2 s hs)
theorem SN.frozen {w0 : World} {B : Nat} {P : List Nat} {W : World} (h : SN w0 B P W) (s : Nat) : W.frozen? ⟨B, s, none⟩ = false := by
 obtain ⟨cs, h1, _⟩ := h.row
 exact frozenOf h1
theorem SN.below {w0 : World} {B : Nat} {P : List Nat} {W W' : World} (h : SN w0 B P W) (hb : Below W.heap.size W W') : SN w0 B P W' := by
 obtain ⟨cs, h1, h2⟩ := h.row
 exact ⟨⟨cs, (hb.block B (gLt h1)).trans h1, h2⟩, h.bl.trans (hb.mono h.bl.size)⟩
theorem SN.set {w0 : World} {B : Nat} {P : List Nat} {W : World} (h : SN w0 B P W) (hB : w0.heap.size ≤ B) {s : Nat} (hs : s < 4096) : SN w0 B (P ++ [s]) (W.setCell ⟨B, s, none⟩ (.bool true)) := by
 obtain ⟨cs, h1, h2⟩ := h.row
 refine ⟨⟨cs.setIfInBounds s (.bool true), ?_, fun j hj => ?_⟩, below_set h.bl hB _⟩
 ·unfold World.setCell
  simp only [Array.getElem?_modify, h1, if_true, Option.map_some]
  rfl
 ·by_cases hjs : j = s
  ·subst hjs
   have hlt : j < cs.size := by
    have := h2 j hj
    exact (gLt this)
   simp [hlt]
  ·rw [Array.getElem?_setIfInBounds_ne (by omega), h2 j hj]
   simp [hjs]
theorem SN.made {w0 W : World} {n : Nat} (h : W.ownsRow w0.heap.size 4 1 (.slice (some ⟨n, 0, none⟩) 4096 4096) 4096 (madeCells #[.bool false] (4096 * 1)).toList) (hb : Below w0.heap.size w0 W) : SN w0 n [] W := by
 rcases h.2 with ⟨h0, _⟩ | ⟨g, cap, cur, h1, hg, hc, _, _, hsz, hx⟩
 ·cases h0
 ·injection h1 with h1 _ h2
  injection h1 with h1
  injection h1 with h1
  subst h1
  subst h2
  refine ⟨⟨cur, hc, fun s hs => ?_⟩, hb⟩
  have h3 : (cur.toList.take (4096 * 1))[s]? = some (.bool false) := by
   rw [hx]
   simp [madeCells, hs, Nat.mod_one]
  rw [List.getElem?_take_of_lt (by omega), Array.getElem?_toList] at h3
  rw [h3]
  simp
def seenL (P : List Nat) (k : Nat) : List Nat := (List.range k).filter fun s => decide (s ∈ P)
theorem seenL_yes {P : List Nat} {k : Nat} (h : k ∈ P) : seenL P (k + 1) = seenL P k ++ [k] := by simp [seenL, List.range_succ, List.filter_append, h]
theorem seenL_no {P : List Nat} {k : Nat} (h : k ∉ P) : seenL P (k + 1) = seenL P k := by simp [seenL, List.range_succ, List.filter_append, h]
theorem seenL_len (P : List Nat) (k : Nat) : (seenL P k).length ≤ k := by
 have := List.length_filter_le (fun s => decide (s ∈ P)) (List.range k)
 simpa [seenL] using this
theorem seenL_nodup (P : List Nat) (k : Nat) : (seenL P k).Nodup := List.Pairwise.sublist List.filter_sublist List.nodup_range
theorem seenL_lt (P : List Nat) (k : Nat) : ∀ x ∈ seenL P k, x < k := fun x hx => by
 unfold seenL at hx
 rw [List.mem_filter, List.mem_range] at hx
 exact hx.1
theorem seenL_sort {P : List Nat} (h : ∀ x ∈ P, x < 4096) : sortS (seenL P 4096) = sortS P := by
 refine asc_eq (sortS_asc _) (sortS_asc _) fun x => ?_
 rw [sortS_mem, sortS_mem]
 unfold seenL
 rw [List.mem_filter, List.mem_range]
 simp only [decide_eq_true_eq]
 exact ⟨fun h1 => h1.2, fun h1 => ⟨h x h1, h1⟩⟩
theorem limited_FR (p : Option Addr) (n cap : Nat) (R : List Nat) (w0 w : World) (hn : R.length = n) (hc : n ≤ cap) (hp : SetL w p R) (hf : FreshP w0.heap.size p) (hb : Below w0.heap.size w0 w) : Calls Tryz.prog 63 #[.slice p n cap] w (FR (if 400 < R.length then 3 else 0) (if 400 < R.length then [] else R) w0) := by
 subst hn
 refine (limited_ex p R.length cap w).mono ?_
 rintro e w' ⟨rfl, rfl⟩
 by_cases h : 400 < R.length
 ·rw [if_pos h, if_pos h, if_pos h]
  exact ⟨none, 0, 0, rfl, rfl, Nat.le_refl _, .inl rfl, fresh_none _, hb⟩
 ·rw [if_neg h, if_neg h, if_neg h]
  exact ⟨p, R.length, cap, rfl, rfl, hc, hp, hf, hb⟩
theorem andI_ex (p : Option Addr) (m cap : Nat) (f : List Nat) (q : Option Addr) (n cq : Nat) (g : List Nat) (w : World) (hm : f.length = m) (hmc : m ≤ cap) (hr : InR f) (h : SetL w p f) (hn : g.length = n) (hnc : n ≤ cq) (hrg : InR g) (hg : SetL w q g) :
  Calls Tryz.prog 41 #[.slice p m cap, .slice q n cq] w (FR (andE f g) (andL f g) w) := by
 have HB := Lib.hid (bothFam_ex p m cap f q n cq g w hm hmc hr h hn hnc hrg hg)
 obtain ⟨i1, hi, hz0, hz1, hz2⟩ := info_parts Tryz.info28
 obtain ⟨i4, hi4, hy0, hy1, hy2⟩ := info_parts Tryz.info4
 by_cases hb : bothE (famE f) (famE g) = 0
 ·obtain ⟨h1, h2⟩ := bothE_zero hb
  obtain ⟨hf4, hfl⟩ := famE_zero h1
  obtain ⟨hg4, hgl⟩ := famE_zero h2
  rw [hb] at HB
  have HAE := Lib.hid (show andE f g = if 400 < (minU f g).length then 3 else 0 by unfold andE; rw [if_neg (by rw [hb]; simp)])
  have HAL := Lib.hid (show andL f g = if 400 < (minU f g).length then [] else minU f g by unfold andL; rw [if_neg (by rw [hb]; simp)])
  have HMU := Lib.hid (show lstV (sortS (seenL (prods f g) 4096)) (sortS (seenL (prods f g) 4096)).length = minU f g by rw [seenL_sort (prods_lt hfl hgl)]; rfl)
  have HF := Lib.hid hfl
  have HG := Lib.hid hgl
  have HSF := Lib.hid h
  have HSG := Lib.hid hg
  have HM := Lib.hid hm
  have HN := Lib.hid hn
  rw [hm] at hf4
  rw [hn] at hg4
  clear hb h1 h2 hfl hgl h hg hr hrg hm hn
  go_enter Tryz.func41, Tryz.ntmps41
  go_upto_region 5 with (first
   | (go_at_call 62; (with_reducible refine HB.out.mono ?_); rintro e w1 ⟨rfl, hb1⟩)
   | (at_make; refine wpList_make_full _ rfl _ _ 111 rfl w1.heap.size 4 i4 (.bool false) 1 Tryz.underlying111 hi4 hy0 hy1 .i64 .i64 _ _ 4096 rfl rfl rfl rfl (by rw [hy2]; decide) (by unfold maxLen; omega) (Nat.le_refl _) ?_; intro w2 hown2 hgr2))
  have hb2 : Below w1.heap.size w1 w2 := (Below.refl _ _).grown hgr2 (Nat.le_refl _) (fun k hk => by cases hk)
  have HS0 := Lib.hid (SN.made hown2 hb2)
  have HB1 := Lib.hid hb1
  have HSF1 := Lib.hid (HSF.out.below hb1)
  have HSG1 := Lib.hid (HSG.out.below hb1)
  clear hown2 hgr2 hb2 hb1 HB HSF HSG
  go_wp2_with fail
  go_loopw [24] (fun i wr => ∃ k : Nat, k ≤ m ∧ i = .int .i64 k ∧ SN w1 w1.heap.size (prods (f.take k) g) wr) (fun i _ => m - (intOf i).toNat)
  case atStart => exact ⟨0, Nat.zero_le _, rfl, HS0.out⟩
  case round =>
   obtain ⟨k, hk, rfl, hsn⟩ := hrel
   have HSN := Lib.hid hsn
   clear hsn
   by_cases hkm : k < m
   ·have hkl : k < f.length := by have := HM.out; omega
    obtain ⟨b, off, rfl, hbb, hcx⟩ := HSF1.out.at hkl
    have hcx1 := (HSN.out.bl.cell (p := ⟨b, off + k, none⟩) hbb).trans hcx
    have HPS := Lib.hid (prods_succ (g := g) hkl)
    have HX := Lib.hid (HF.out _ (List.getElem_mem hkl))
    clear hcx
    generalize f[k] = x at hcx1 HPS HX
    generalize prods (f.take k) g = P0 at HSN HPS
    have e1 : (k : Int) < (m : Int) := by omega
    have e2 : (0 : Int) ≤ (k : Int) := by omega
    go_wp2_with fail
    clear hcx1
    go_loopw [30] (fun i wr => ∃ j : Nat, j ≤ n ∧ i = .int .i64 j ∧ SN w1 w1.heap.size (P0 ++ (g.take j).map fun t => x ||| t) wr) (fun i _ => n - (intOf i).toNat)
    case atStart => exact ⟨0, Nat.zero_le _, rfl, by simpa using HSN.out⟩
    case round =>
     obtain ⟨j, hj, rfl, hsn⟩ := hrel
     have HSN2 := Lib.hid hsn
     clear hsn
     by_cases hjn : j < n
     ·have hjl : j < g.length := by have := HN.out; omega
      obtain ⟨b', off', rfl, hbb', hcy⟩ := HSG1.out.at hjl
      have hcy1 := (HSN2.out.bl.cell (p := ⟨b', off' + j, none⟩) hbb').trans hcy
      have HSJ := Lib.hid (show P0 ++ (g.take (j + 1)).map (fun t => x ||| t) = (P0 ++ (g.take j).map (fun t => x ||| t)) ++ [x ||| g[j]] by rw [take_snoc hjl, List.map_append, ← List.append_assoc]; rfl)
      have hy := HG.out _ (List.getElem_mem hjl)
      clear hcy
      generalize g[j] = y at hcy1 HSJ hy
      have hx := HX.out
      have hz := Nat.or_lt_two_pow (n := 12) (x := x) (y := y) hx hy
      have hor := or_nat (a := x) (b := y) (by omega) (by omega)
      generalize x ||| y = z at hz hor HSJ
      have hz' : z < 4096 := hz
      have hcz := HSN2.out.cell hz'
      have hfz := HSN2.out.frozen z
      have e3 : (j : Int) < (n : Int) := by omega
      have e4 : (0 : Int) ≤ (j : Int) := by omega
      have e5 : (0 : Int) ≤ (z : Int) := by omega
      have e6 : (z : Int) < 4096 := by omega
      clear hx hy hz
      have HST := Lib.hid (HSN2.out.set (Nat.le_refl _) hz')
      go_wp2_with fail
      go_roundw
      case rel => exact ⟨j + 1, by omega, by go_num, by rw [HSJ.out]; exact HST.out⟩
      case measure => simp [intOf]; omega
     ·obtain rfl : j = n := by omega
      have hta : g.take j = g := List.take_of_length_le (by have := HN.out; omega)
      rw [hta] at HSN2
      go_wp2_with fail
      go_roundw
      case rel => exact ⟨k + 1, by omega, by go_num, by rw [HPS.out]; exact HSN2.out⟩
      case measure => simp [intOf]; omega
   ·obtain rfl : k = m := by omega
    have hta : f.take k = f := List.take_of_length_le (by have := HM.out; omega)
    rw [hta] at HSN
    clear hta
    have HPL := Lib.hid (prods_lt HF.out HG.out)
    generalize prods f g = P at HSN HMU HPL
    have hszw := HSN.out.bl.size
    rename World => wA
    go_wp2_with fail
    go_loopw [12, 43] (fun v i wx => ∃ (s : Nat) (L : List Nat), s ≤ 4096 ∧ i = .int .i64 s ∧ seenL P s = L ∧ wx.ownsRow wA.heap.size 28 1 v L.length (u16N L) ∧ Below wA.heap.size wA wx) (fun _ i _ => 4096 - (intOf i).toNat)
    case atStart => exact ⟨0, [], Nat.zero_le _, rfl, rfl, World.ownsRow_nil _ _ _ _, Below.refl _ _⟩
    case round =>
     obtain ⟨s, L, hs, rfl, hL, hown, hb⟩ := hrel
     have HL := Lib.hid hL
     have HW := Lib.hid hown
     have HBx := Lib.hid hb
     have hLn : L.length ≤ s := by rw [← hL]; exact seenL_len P s
     have HSNx := Lib.hid (HSN.out.below hb)
     clear hL hown hb
     by_cases hs4 : s < 4096
     ·have hcz := HSNx.out.cell hs4
      have e1 : (s : Int) < 4096 := by omega
      have e2 : (0 : Int) ≤ (s : Int) := by omega
      by_cases hsP : s ∈ P
      ·have HN1 := Lib.hid (show seenL P (s + 1) = L ++ [s] by rw [seenL_yes hsP, HL.out])
       rw [decide_eq_true hsP] at hcz
       have e5 : IntKind.u16.wrap (s : Int) = (s : Int) := by simp [IntKind.wrap, IntKind.bits, IntKind.signed]; omega
       clear hsP
       have hszx := HBx.out.size
       generalize hgv : u12 = v at HW ⊢
       clear hgv
       go_wp2_with (at_builtin; refine wpList_append_own _ rfl _ _ 46 rfl wA.heap.size 28 i1 (.int .u16 0) 1 2 Tryz.underlying46 hi hz0 hz1 hz2 rfl (by decide) _ _ _ rfl (HW.out.alloc _) ⟨wr.heap.size, 0, none⟩ 1 1 [.int .u16 (s : Int)] rfl rfl ?c1 ?c2 ?c3 ?c4 ?c5 ?_)
       try (case c1 => (intro j u hj; cases j with | zero => (simp at hj; subst hj; simp [Addr.add]) | succ j => simp at hj))
       case c2 => first | rfl | (intro u hu; simp at hu; subst hu; rfl)
       case c3 => unfold maxLen; omega
       case c4 => omega
       case c5 => first | omega | (simp; omega)
       intro v' w5 hown' hgrow _
       have hb5 : Below wA.heap.size wA w5 := below_grown HBx.out hszx HW.out hgrow
       rw [← u16N_snoc] at hown'
       have HW5 := Lib.hid (And.intro hown' hb5)
       clear hown' hgrow hb5
       go_wp2_with fail
       go_roundw
       case rel => exact ⟨s + 1, L ++ [s], by omega, by go_num, HN1.out, by simpa using HW5.out.1, HW5.out.2⟩
       case measure => simp [intOf]; omega
      ·have HN1 := Lib.hid (show seenL P (s + 1) = L by rw [seenL_no hsP, HL.out])
       rw [decide_eq_false hsP] at hcz
       clear hsP
       go_wp2_with fail
       go_roundw
       case rel => exact ⟨s + 1, L, by omega, by go_num, HN1.out, HW.out, HBx.out⟩
       case measure => simp [intOf]; omega
     ·obtain rfl : s = 4096 := by omega
      obtain ⟨p5, c5, hv5, hs5, hc5, _⟩ := setL_of_own HW.out
      have hpl : PlainP p5 := by have h := HW.out; rw [hv5] at h; exact plain_of_own h
      subst hv5
      obtain ⟨ml, hml⟩ : ∃ ml, L.length = ml := ⟨_, rfl⟩
      rw [hml] at hc5 hLn
      have HML := Lib.hid hml
      have HQ := Lib.hid (leastI_ex p5 ml c5 L wr hpl hml (by omega) (by rw [← HL.out]; exact seenL_lt P 4096) (by rw [← HL.out]; exact seenL_nodup P 4096) hs5)
      rw [← HL.out] at HQ
      rw [HMU.out] at HQ
      clear hml hs5 hpl HW
      generalize minU f g = R at HQ HAE HAL
      obtain ⟨mr, hmr⟩ : ∃ mr, R.length = mr := ⟨_, rfl⟩
      have HBw := Lib.hid (HB1.out.trans ((HSN.out.bl.trans (HBx.out.mono hszw)).mono HB1.out.size))
      have HLF := Lib.hid (fun (p6 : Option Addr) (c6 : Nat) (W : World) (hc : mr ≤ c6) (h6 : SetL W p6 R) (hf6 : FreshP w.heap.size p6) (hb6 : Below w.heap.size w W) => limited_FR p6 mr c6 R w W hmr hc h6 hf6 hb6)
      rw [← HAE.out, ← HAL.out] at HLF
      have HMR := Lib.hid hmr
      clear hmr
      obtain ⟨E, hE⟩ : ∃ E, andE f g = E := ⟨_, rfl⟩
      obtain ⟨Z, hZ⟩ : ∃ Z, andL f g = Z := ⟨_, rfl⟩
      rw [hE, hZ] at HLF
      have HEZ := Lib.hid (And.intro hE hZ)
      clear hE hZ HAE HAL
      go_wp2_with (first
       | (go_at_call 64; rw [HML.out]; (refine HQ.out.mono ?_); rintro e w6 ⟨p6, c6, rfl, hc6, hs6, hf6, hb6⟩; rw [HMR.out] at hc6)
       | (go_at_call 63; rw [HMR.out]; (refine (HLF.out p6 c6 w6 hc6 hs6 (hf6.mono HBw.out.size) (HBw.out.trans (hb6.mono HBw.out.size))).mono ?_); rintro e w7 ⟨p7, n7, c7, rfl, h7⟩; have H7 := Lib.hid h7; clear h7))
      go_ret2
      refine (show FR (andE f g) (andL f g) w _ _ from ?_)
      rw [HEZ.out.1, HEZ.out.2]
      exact ⟨p7, n7, c7, rfl, H7.out⟩
 ·have HAE := Lib.hid (show andE f g = bothE (famE f) (famE g) by unfold andE; rw [if_pos hb])
  have HAL := Lib.hid (show andL f g = [] by unfold andL; rw [if_pos hb])
  clear h hg hr hrg hm hn
  generalize bothE (famE f) (famE g) = E at HB HAE hb
  have e1 : ¬ (E : Int) = 0 := by omega
  have e2 : ((E : Int) != 0) = true := by simp; omega
  clear hb
  go_enter Tryz.func41, Tryz.ntmps41
  go_wp2_with (go_at_call 62; (with_reducible refine HB.out.mono ?_); rintro e w1 ⟨rfl, hb1⟩)
  go_ret2
  refine (show FR (andE f g) (andL f g) w _ _ from ?_)
  rw [HAE.out, HAL.out]
  exact ⟨none, 0, 0, rfl, rfl, Nat.le_refl _, .inl rfl, fresh_none _, hb1⟩
end Go.Proofs.YtmcnpaehmnadeaaGreatDoor
/-
  EpochNext: slices.Clone and slices.SortFunc at faults; what slices.Compact makes of a list in order.
-/
namespace Go.Proofs.YtmcnpaehmnadeaaGreatDoor
open Go Go.RowKit Go.Shelf Go.Sort
abbrev F12 := {f : Nat × Nat // f.1 < 4096 ∧ f.2 < 4096}
instance : Inhabited F12 := ⟨⟨(0, 0), by decide, by decide⟩⟩
def encF (x : F12) : List Value := [.int .u16 (x.1.1 : Int), .int .u16 (x.1.2 : Int)]
def cfF (x y : F12) : Int := cF x.1 y.1
theorem cF_total {a b : Nat × Nat} (h1 : ¬ cF a b < 0) (h2 : ¬ cF b a < 0) : a = b := by
 by_cases h : a = b
 ·exact h
 ·exact absurd (cF_three h1 h) h2
theorem cF_ntrans {a b c : Nat × Nat} (h1 : ¬ cF a b < 0) (h2 : ¬ cF b c < 0) : ¬ cF a c < 0 := by
 by_cases h3 : a = b
 ·exact h3 ▸ h2
 ·by_cases h4 : b = c
  ·exact h4 ▸ h1
  ·exact fun h => cF_anti _ _ h (cF_trans (cF_three h2 h4) (cF_three h1 h3))
theorem swoF : SWO (ltOf cfF) where
 irrefl _ := decide_eq_false (cF_irrefl _)
 trans _ _ _ h1 h2 := decide_eq_true (cF_trans (of_decide_eq_true h1) (of_decide_eq_true h2))
 ntrans _ _ _ h1 h2 := decide_eq_false (cF_ntrans (of_decide_eq_false h1) (of_decide_eq_false h2))
theorem totF (x y : F12) (h1 : ltOf cfF x y = false) (h2 : ltOf cfF y x = false) : x = y := Subtype.ext (cF_total (of_decide_eq_false h1) (of_decide_eq_false h2))
theorem cmpLaysF (blk off size : Nat) (w : World) : CmpLays Tryz.prog 130 #[] encF 2 cfF blk off size w :=
 fun _ _ _ _ x y => (compareF_d x.1.1 x.1.2 y.1.1 y.1.2 x.2.1 x.2.2 y.2.1 y.2.2 _).mono fun _ _ h => ⟨h.1, h.2.grown⟩
def toF (l : List (Nat × Nat)) (h : ∀ x ∈ l, x.1 < 4096 ∧ x.2 < 4096) : List F12 := l.pmap (fun x hx => ⟨x, hx⟩) h
theorem toF_val (l : List (Nat × Nat)) (h : ∀ x ∈ l, x.1 < 4096 ∧ x.2 < 4096) : (toF l h).map Subtype.val = l := by
 unfold toF
 rw [List.map_pmap]
 simp
theorem flat_ft (d : List F12) : (flatK encF 2 d.toArray).toList = ftV (zF (d.map Subtype.val)) := by
 apply List.ext_getElem?
 intro j
 by_cases hj : j < d.length * 2
 ·have hj2 : j / 2 < d.length := by omega
  obtain ⟨h1, h2⟩ := ftV_get (L := zF (d.map Subtype.val)) (i := j / 2) (x := ((d[j / 2].1.1 : Int), (d[j / 2].1.2 : Int))) (by simp [zF, hj2])
  have h0 : (flatK encF 2 d.toArray).toList[j]? = some ((encF d[j / 2])[j % 2]!) := by
   simp [flatK, hj, hj2]
  rw [h0]
  rcases Nat.mod_two_eq_zero_or_one j with h3 | h3
  ·have h4 : j / 2 * 2 = j := by omega
   rw [h4] at h1
   rw [h1, h3]; rfl
  ·have h4 : j / 2 * 2 + 1 = j := by omega
   rw [h4] at h2
   rw [h2, h3]; rfl
 ·rw [List.getElem?_eq_none (by simp [flatK]; omega), List.getElem?_eq_none (by rw [ftV_len, zF_len]; simp; omega)]
def SortRetF (base g cap : Nat) (l : List (Nat × Nat)) (w : World) (e : Ending) (w' : World) : Prop :=
 e = .returned (.tuple #[]) ∧ ∃ l' : List (Nat × Nat), l'.length = l.length ∧ (∀ y, y ∈ l' ↔ y ∈ l) ∧ l'.Pairwise (fun a b => ¬ cF b a < 0) ∧ w'.ownsRow base 69 2 (.slice (some ⟨g, 0, none⟩) l.length cap) l.length (ftV (zF l')) ∧ w.grownBy w' (some g)
theorem sortFault_ex (base g cap : Nat) (l : List (Nat × Nat)) (w : World) (h4 : ∀ x ∈ l, x.1 < 4096 ∧ x.2 < 4096) (hl : l.length ≤ 200000) (hown : w.ownsRow base 69 2 (.slice (some ⟨g, 0, none⟩) l.length cap) l.length (ftV (zF l))) :
  Calls Tryz.prog 138 #[.slice (some ⟨g, 0, none⟩) l.length cap, .func (.func 130) #[] #[]] w (SortRetF base g cap l w) := by
 rcases hown.2 with ⟨h0, _⟩ | ⟨g', cap', cur, h1, hbase, hc, hcap, hmax, hsz, hx⟩
 ·cases h0
 ·obtain ⟨rfl, rfl⟩ : g = g' ∧ cap = cap' := by
   injection h1 with h1 _ h2
   injection h1 with h1
   injection h1 with h1
   exact ⟨h1, h2⟩
  have hds : (toF l h4).toArray.size = l.length := by simp [toF]
  have eg : ∀ args w, (callFunc 130 args).run Tryz.prog w = .ok (.enter 130 args) w := enters_of Tryz.func130 (by kernel_rfl) rfl
  have hH : HoldsK encF 2 w g 0 (toF l h4).toArray := fun j hj => by
   rw [size_flatK, hds] at hj
   have h2 := congrArg (fun z => z[j]?) hx
   rw [List.getElem?_take_of_lt hj, Array.getElem?_toList] at h2
   have hft := flat_ft (toF l h4)
   rw [toF_val] at hft
   refine ⟨?_, frozenOf hc⟩
   refine cellOf hc ?_
   rw [Nat.zero_add, h2, ← hft, Array.getElem?_toList, getElem!_pos _ _ (by rw [size_flatK]; simp [toF]; omega), Array.getElem?_eq_getElem (by rw [size_flatK]; simp [toF]; omega)]
   rfl
  have h := AnyQ.slices_SortFunc_total Tryz.sortFault 2 Tryz.isAgg69 Tryz.sizeOf69 encF (fun _ => rfl) (fun x v hv => by simp [encF] at hv; rcases hv with rfl | rfl <;> rfl) cfF swoF 130 #[] g 0 cap (toF l h4).toArray w eg (cmpLaysF g 0 _ w) hH (gLt hc) (by rw [hds]; omega) totF
  rw [hds] at h
  refine h.mono ?_
  rintro e w' ⟨rfl, n, os, rfl⟩
  have hlen : ((toF l h4).mergeSort fun x y => !(ltOf cfF) y x).length = l.length := by simp [List.length_mergeSort, toF]
  refine ⟨rfl, ((toF l h4).mergeSort fun x y => !(ltOf cfF) y x).map Subtype.val, ?_, ?_, ?_, ?_, grownBy_sortG id _⟩
  ·rw [List.length_map, hlen]
  ·intro y
   rw [List.mem_map]
   constructor
   ·rintro ⟨x, hx, rfl⟩
    rw [List.mem_mergeSort] at hx
    rw [← toF_val l h4]
    exact List.mem_map_of_mem hx
   ·intro hy
    rw [← toF_val l h4, List.mem_map] at hy
    obtain ⟨x, hx, rfl⟩ := hy
    exact ⟨x, List.mem_mergeSort.mpr hx, rfl⟩
  ·rw [List.pairwise_map]
   have hle : ((toF l h4).mergeSort fun x y => !(ltOf cfF) y x).Pairwise fun x y => (!(ltOf cfF) y x) = true := List.pairwise_mergeSort (fun a b c h1 h2 => by
    simp only [Bool.not_eq_true'] at *
    exact swoF.ntrans _ _ _ h2 h1) (fun a b => by
    cases h1 : ltOf cfF b a
    ·simp
    ·cases h2 : ltOf cfF a b
     ·simp
     ·have := swoF.trans _ _ _ h1 h2
      rw [swoF.irrefl] at this
      cases this) _
   refine hle.imp ?_
   intro a b h1
   simp only [Bool.not_eq_true'] at h1
   exact of_decide_eq_false h1
  ·refine ⟨by rw [ftV_len, zF_len, List.length_map, hlen], .inr ⟨g, cap, _, rfl, hbase, heap_sortG id _ hc, hcap, hmax, by simp [putCells, hsz], ?_⟩⟩
   rw [← flat_ft]
   have h5 := take_putG id cur (flatK encF 2 ((toF l h4).mergeSort fun x y => !(ltOf cfF) y x).toArray).toList (by rw [Array.length_toList, size_flatK, List.size_toArray, hlen, hsz]; omega)
   rw [Array.toArray_toList, Array.length_toList, size_flatK, List.size_toArray, hlen, List.map_id] at h5
   exact h5
def CloneOwnF (l : List (Nat × Nat)) (w : World) (e : Ending) (w' : World) : Prop := ∃ v, e = .returned v ∧ w'.ownsRow w.heap.size 69 2 v l.length (ftV (zF l)) ∧ Below w.heap.size w w'
theorem cloneF_own (p : Option Addr) (m cap : Nat) (l : List (Nat × Nat)) (w : World) (hp : PlainP p) (hm : l.length = m) (hm4 : m ≤ 200000) (h : FltL w p l) : Calls Tryz.prog 27 #[.slice p m cap] w (CloneOwnF l w) := by
 obtain ⟨i0, hi, hz0, hz1, hz2⟩ := info_parts Tryz.info69
 rcases hp with rfl | ⟨b, off, rfl⟩
 ·have hl : l = [] := by
   rcases h with h | ⟨_, _, h1, _⟩
   ·exact h
   ·cases h1
  subst hl
  refine (AnyE.slices_Clone_nil Tryz.cloneFault m cap w).mono ?_
  rintro e w' ⟨rfl, rfl⟩
  exact ⟨_, rfl, World.ownsRow_nil _ _ _ _, Below.refl _ _⟩
 ·refine (AnyE.slices_Clone Tryz.cloneFault i0 (.agg #[.int .u16 0, .int .u16 0]) 2 4 hi hz0 hz1 hz2 rfl (by decide) Tryz.sizeOf69 b off m cap (ftV (zF l)) w (by rw [ftV_len, zF_len, hm]) (by unfold maxLen; omega) (by omega) (fun j u hj => ?_) (fun u hu => ftV_one _ u hu)).mono ?_
  ·rcases h with h | ⟨b', off', h1, hb, h2⟩
   ·subst h; simp [zF, ftV] at hj
   ·obtain ⟨rfl, rfl⟩ : b = b' ∧ off = off' := by
     injection h1 with h1
     injection h1 with h3 h4
     exact ⟨h3, h4⟩
    have hjl : j < l.length * 2 := by
     have := (List.getElem?_eq_some_iff.mp hj).1
     rwa [ftV_len, zF_len] at this
    have hj2 : j / 2 < l.length := by omega
    obtain ⟨h3, h4⟩ := ftV_get (L := zF l) (i := j / 2) (x := ((l[j / 2].1 : Int), (l[j / 2].2 : Int))) (by simp [zF, hj2])
    obtain ⟨c1, c2⟩ := h2 (j / 2) hj2
    rcases Nat.mod_two_eq_zero_or_one j with h5 | h5
    ·have h6 : j / 2 * 2 = j := by omega
     rw [h6] at h3 c1
     rw [h3] at hj
     injection hj with hj
     rw [← hj]; exact c1
    ·have h6 : j / 2 * 2 + 1 = j := by omega
     rw [h6] at h4
     rw [h4] at hj
     injection hj with hj
     rw [← hj, show off + j = off + j / 2 * 2 + 1 by omega]; exact c2
  ·rintro e w' ⟨v', rfl, hown, -, hb⟩
   subst hm
   exact ⟨_, rfl, hown, hb⟩
def cmpV (l : List (Nat × Nat)) : Nat → List (Nat × Nat)
 | 0 => []
 | j + 1 => if 0 < j ∧ l.getD j (0, 0) = l.getD (j - 1) (0, 0) then cmpV l j else cmpV l j ++ [l.getD j (0, 0)]
theorem cmpV_len (l : List (Nat × Nat)) : ∀ j, (cmpV l j).length ≤ j
 | 0 => Nat.le_refl _
 | j + 1 => by
  have := cmpV_len l j
  rw [cmpV]
  split
  ·omega
  ·rw [List.length_append, List.length_singleton]; omega
theorem cmpV_mem {l : List (Nat × Nat)} {y : Nat × Nat} : ∀ {j : Nat}, y ∈ cmpV l j ↔ ∃ i, i < j ∧ l.getD i (0, 0) = y
 | 0 => by simp [cmpV]
 | j + 1 => by
  rw [cmpV]
  split
  ·next h =>
   rw [cmpV_mem]
   constructor
   ·rintro ⟨i, h1, h2⟩; exact ⟨i, by omega, h2⟩
   ·rintro ⟨i, h1, h2⟩
    by_cases hij : i = j
    ·subst hij; exact ⟨i - 1, by omega, h.2 ▸ h2⟩
    ·exact ⟨i, by omega, h2⟩
  ·rw [List.mem_append, List.mem_singleton, cmpV_mem]
   constructor
   ·rintro (⟨i, h1, h2⟩ | rfl)
    ·exact ⟨i, by omega, h2⟩
    ·exact ⟨j, by omega, rfl⟩
   ·rintro ⟨i, h1, h2⟩
    by_cases hij : i = j
    ·subst hij; exact .inr h2.symm
    ·exact .inl ⟨i, by omega, h2⟩
theorem cmpV_asc {l : List (Nat × Nat)} (h : l.Pairwise fun a b => ¬ cF b a < 0) : ∀ j, j ≤ l.length → AscF (cmpV l j)
 | 0, _ => List.Pairwise.nil
 | j + 1, hj => by
  rw [cmpV]
  split
  ·exact cmpV_asc h j (by omega)
  ·next hn =>
   refine List.pairwise_append.mpr ⟨cmpV_asc h j (by omega), List.pairwise_singleton _ _, fun a ha b hb => ?_⟩
   rw [List.mem_singleton] at hb
   subst hb
   obtain ⟨i, hi, rfl⟩ := cmpV_mem.mp ha
   have hg : ∀ x y (hx : x < y) (hy : y < l.length), ¬ cF (l.getD y (0, 0)) (l.getD x (0, 0)) < 0 := fun x y hx hy => by
    have := List.pairwise_iff_getElem.mp h x y (by omega) hy hx
    simpa [hy, show x < l.length by omega] using this
   have h1 := hg i j hi (by omega)
   refine cF_three h1 fun he => hn ⟨by omega, ?_⟩
   by_cases hij : i = j - 1
   ·rw [he, hij]
   ·have h2 := hg i (j - 1) (by omega) (by omega)
    have h3 := hg (j - 1) j (by omega) (by omega)
    rw [he] at h3
    rw [he]
    exact cF_total h3 h2
theorem cmpV_of {l M : List (Nat × Nat)} (h : l.Pairwise fun a b => ¬ cF b a < 0) (hM : M = cmpV l l.length) : AscF M ∧ ∀ y, y ∈ M ↔ y ∈ l := by
 subst hM
 refine ⟨cmpV_asc h _ (Nat.le_refl _), fun y => ?_⟩
 rw [cmpV_mem]
 constructor
 ·rintro ⟨i, hi, rfl⟩
  simp [hi]
 ·intro hy
  obtain ⟨i, hi, rfl⟩ := List.getElem_of_mem hy
  exact ⟨i, hi, by simp [hi]⟩
end Go.Proofs.YtmcnpaehmnadeaaGreatDoor
