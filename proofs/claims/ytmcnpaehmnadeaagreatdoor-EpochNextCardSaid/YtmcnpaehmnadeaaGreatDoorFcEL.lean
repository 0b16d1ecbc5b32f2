/-
  EpochNext: sederuntref08.Least, exactly.
-/
import Derived.Test.YtmcnpaehmnadeaaGreatDoorFbK
import Derived.Shelf.SlicesE.Clone
set_option maxHeartbeats 6400000
set_option maxRecDepth 1000000
namespace Go.Proofs.YtmcnpaehmnadeaaGreatDoor
open Go Go.RowKit
def lstV (s : List Nat) : Nat → List Nat
 | 0 => []
 | i + 1 => if pinV s i s.length = true then lstV s i else lstV s i ++ [s.getD i 0]
theorem lstV_len (s : List Nat) : ∀ n, (lstV s n).length ≤ n
 | 0 => Nat.le_refl _
 | i + 1 => by
  have := lstV_len s i
  rw [lstV]
  split
  ·omega
  ·simp; omega
theorem fresh_none (B : Nat) : FreshP B none := fun _ h => by cases h
theorem FreshP.mono {a b : Nat} {p : Option Addr} (h : FreshP b p) (hab : a ≤ b) : FreshP a p := fun q hq => Nat.le_trans hab (h q hq)
theorem least_ex (p : Option Addr) (n cap : Nat) (f : List Nat) (w : World) (hn : f.length = n) (hn4 : n ≤ 200000) (hr : InR f) (hp : SetL w p f) : Calls Tryz.prog 105 #[.slice p n cap] w (SetsL (lstV (sortS f) (sortS f).length) w) := by
 obtain ⟨i0, hi, hz0, hz1, hz2⟩ := info_parts Tryz.info28
 have HC := Lib.hid (sorted_ex p n cap f w hn hn4 hr hp)
 have hsl := sortS_len f
 rw [hn] at hsl
 clear hp hr hn
 generalize sortS f = s at HC hsl
 go_enter Tryz.func105, Tryz.ntmps105
 go_upto_region 2 with fail
 obtain ⟨m, hm⟩ : ∃ m, s.length = m := ⟨_, rfl⟩
 have HM := Lib.hid hm
 rw [hm] at hsl
 go_wp2_with (go_at_call 147; refine HC.out.mono ?_; rintro e w1 ⟨p1, c1, rfl, hc1, hs1, hf1, hb1⟩; rw [HM.out] at hc1)
 clear hm
 have HS1 := Lib.hid hs1
 have HB1 := Lib.hid hb1
 have hsz1 := hb1.size
 clear hs1 hb1
 go_loopw [3, 5] (fun v a wr => ∃ (i : Nat) (L : List Nat), i ≤ m ∧ a = .int .i64 i ∧ lstV s i = L ∧ wr.ownsRow w1.heap.size 28 1 v L.length (u16N L) ∧ Below w1.heap.size w1 wr) (fun _ a _ => m - (intOf a).toNat)
 case atStart => exact ⟨0, [], Nat.zero_le _, rfl, rfl, World.ownsRow_nil _ _ _ _, Below.refl _ _⟩
 case round =>
  obtain ⟨i, L, hi', rfl, hL, hown, hb⟩ := hrel
  have HL := Lib.hid hL
  have HW := Lib.hid hown
  have HB := Lib.hid hb
  have hLn : L.length ≤ i := by have := lstV_len s i; rw [hL] at this; exact this
  clear hL hown hb
  by_cases him : i < m
  ·have hil : i < s.length := by have := HM.out; omega
   obtain ⟨b, off, rfl, hbb, hc0⟩ := HS1.out.at hil
   have HCI := Lib.hid hc0
   have hgi : s.getD i 0 = s[i] := by simp [hil]
   have HSI := Lib.hid (show lstV s (i + 1) = if pinV s i m = true then L else L ++ [s[i]] by rw [lstV, HL.out, hgi, HM.out])
   clear hc0
   have e8 : (i : Int) < (m : Int) := by omega
   have e11 : (0 : Int) ≤ (i : Int) := by omega
   generalize hgv : u3 = v at HW ⊢
   clear hgv
   go_wp2_with fail
   go_loopw [6, 7] (fun q a wx => ∃ (k : Nat) (r : Bool), k ≤ m ∧ a = .int .i64 k ∧ q = .bool r ∧ pinV s i k = !r ∧ wx.ownsRow w1.heap.size 28 1 v L.length (u16N L) ∧ Below w1.heap.size w1 wx) (fun _ a _ => m - (intOf a).toNat)
   case atStart => exact ⟨0, true, Nat.zero_le _, rfl, rfl, rfl, HW.out, HB.out⟩
   case round =>
    obtain ⟨k, r, hk, rfl, rfl, hpin, hown, hb⟩ := hrel
    have HPN := Lib.hid hpin
    have HW3 := Lib.hid hown
    have HB3 := Lib.hid hb
    clear hpin hown hb
    by_cases hkm : k < m
    ·have hkl : k < s.length := by have := HM.out; omega
     obtain ⟨b2, off2, hpe, _, hd0⟩ := HS1.out.at hkl
     obtain ⟨rfl, rfl⟩ : b2 = b ∧ off2 = off := by
      injection hpe with hpe
      injection hpe with h1 h2
      exact ⟨h1.symm, h2.symm⟩
     have hc := (HB3.out.cell (p := ⟨b2, off2 + i, none⟩) hbb).trans HCI.out
     have hd := (HB3.out.cell (p := ⟨b2, off2 + k, none⟩) hbb).trans hd0
     have hgk : s.getD k 0 = s[k] := by simp [hkl]
     have HSK := Lib.hid (show pinV s i (k + 1) = (!r || (decide (i ≠ k) && subB s[k] s[i])) by rw [pinV, HPN.out, hgk, hgi])
     clear hpe hd0 hgk
     generalize s[i] = x at hc HSK
     generalize s[k] = y at hd HSK
     have e9 : (k : Int) < (m : Int) := by omega
     have e10 : (0 : Int) ≤ (k : Int) := by omega
     clear hgi
     go_upto_region 10 with fail
     by_cases hik : i = k
     ·have HIK := Lib.hid hik
      have e12 : ((i : Int) != (k : Int)) = false := by simp; omega
      clear hik
      go_quiet (fail)
      go_wp2_with fail
      go_roundw
      case rel => exact ⟨k + 1, r, by omega, by go_num, rfl, by rw [HSK.out]; simp [HIK.out], own_drewN HW3.out _, below_drewN HB3.out _⟩
      case measure => simp [intOf]; omega
     ·have HIK := Lib.hid hik
      have e12 : ((i : Int) != (k : Int)) = true := by simp; omega
      clear hik
      have HCO := Lib.hid (fun W => contains_ex (x : Int) (y : Int) W)
      cases hsb : subB y x
      ·have HSB := Lib.hid hsb
       have hw : wB (y : Int) (x : Int) = false := hsb
       rw [hw] at HCO
       clear hsb hw
       go_quiet ((go_at_call 146; refine Calls.quiet_of_same (HCO.out _)))
       go_wp2_with fail
       go_roundw
       case rel => exact ⟨k + 1, r, by omega, by go_num, rfl, by rw [HSK.out, HSB.out]; simp, own_drewN HW3.out _, below_drewN HB3.out _⟩
       case measure => simp [intOf]; omega
      ·have HSB := Lib.hid hsb
       have hw : wB (y : Int) (x : Int) = true := hsb
       rw [hw] at HCO
       clear hsb hw
       go_quiet ((go_at_call 146; refine Calls.quiet_of_same (HCO.out _)))
       go_wp2_with fail
       go_roundw
       case rel => exact ⟨k + 1, false, by omega, by go_num, rfl, by rw [HSK.out, HSB.out]; simp [HIK.out], own_drewN HW3.out _, below_drewN HB3.out _⟩
       case measure => simp [intOf]; omega
    ·obtain rfl : k = m := by omega
     have hc := (HB3.out.cell (p := ⟨b, off + i, none⟩) hbb).trans HCI.out
     have HGI := Lib.hid hgi
     clear hgi
     generalize s[i] = x at hc HSI
     cases r
     ·have HN2 := Lib.hid (show lstV s (i + 1) = L by rw [HSI.out, if_pos (by rw [HPN.out]; rfl)])
      go_wp2_with fail
      go_roundw
      case rel => exact ⟨i + 1, L, by omega, by go_num, HN2.out, HW3.out, HB3.out⟩
      case measure => simp [intOf]; omega
     ·have HN2 := Lib.hid (show lstV s (i + 1) = L ++ [x] by rw [HSI.out, if_neg (by rw [HPN.out]; simp)])
      have hsz3 := HB3.out.size
      go_wp2_with (at_builtin; refine wpList_append_own _ rfl _ _ 46 rfl w1.heap.size 28 i0 (.int .u16 0) 1 2 Tryz.underlying46 hi hz0 hz1 hz2 rfl (by decide) _ _ _ rfl (HW3.out.alloc _) ⟨wr.heap.size, 0, none⟩ 1 1 [.int .u16 (x : Int)] rfl rfl ?c1 ?c2 ?c3 ?c4 ?c5 ?_)
      try (case c1 => (intro j u hj; cases j with | zero => (simp at hj; subst hj; simp [Addr.add]) | succ j => simp at hj))
      case c2 => first | rfl | (intro u hu; simp at hu; subst hu; rfl)
      case c3 => unfold maxLen; omega
      case c4 => omega
      case c5 => first | omega | (simp; omega)
      intro v' w5 hown' hgrow _
      have hb5 : Below w1.heap.size w1 w5 := below_grown HB3.out hsz3 HW3.out hgrow
      rw [← u16N_snoc] at hown'
      have HW5 := Lib.hid (And.intro hown' hb5)
      clear hown' hgrow hb5
      go_wp2_with fail
      go_roundw
      case rel => exact ⟨i + 1, L ++ [x], by omega, by go_num, HN2.out, by simpa using HW5.out.1, HW5.out.2⟩
      case measure => simp [intOf]; omega
  ·obtain rfl : i = m := by omega
   have HE := Lib.hid (show lstV s s.length = L by rw [HM.out]; exact HL.out)
   go_wp2_with fail
   go_ret
   refine (show SetsL (lstV s s.length) w _ _ from ?_)
   rw [HE.out]
   obtain ⟨p4, c4, hv4, hs4, hc4, _⟩ := setL_of_own HW.out
   subst hv4
   exact ⟨p4, c4, rfl, hc4, hs4, (fresh_of_own HW.out).mono hsz1, HB1.out.trans (HB.out.mono hsz1)⟩
end Go.Proofs.YtmcnpaehmnadeaaGreatDoor
/-
  EpochNext: sederuntref08.checked, Minimal, exactly (for sets of the twelve servers).
-/
namespace Go.Proofs.YtmcnpaehmnadeaaGreatDoor
open Go Go.RowKit
def ChkRet (n : Nat) (q : Option Addr) (cq : Nat) (w : World) (e : Ending) (w' : World) : Prop :=
 e = .returned (.tuple #[if 400 < n then .slice none 0 0 else .slice q n cq, .int .i64 (if 400 < n then 3 else 0)]) ∧ Below w.heap.size w w'
theorem checked_ex (p : Option Addr) (m cap : Nat) (l : List Nat) (q : Option Addr) (n cq : Nat) (w : World) (hm : l.length = m) (hm4 : m ≤ 200000) (h : SetL w p l) (hlt : ∀ x ∈ l, x < 4096) :
  Calls Tryz.prog 104 #[.slice p m cap, .slice q n cq] w (ChkRet n q cq w) := by
 have H := Lib.hid h
 have HM := Lib.hid hm
 have HR := Lib.hid hlt
 clear h hm hlt
 go_enter Tryz.func104, Tryz.ntmps104
 go_wp2_with fail
 go_loopw [6] (fun i wr => ∃ k : Nat, k ≤ m ∧ i = .int .i64 k ∧ Below w.heap.size w wr) (fun i _ => m - (intOf i).toNat)
 case atStart => exact ⟨0, Nat.zero_le _, rfl, Below.refl _ _⟩
 case round =>
  obtain ⟨k, hk, rfl, hb⟩ := hrel
  have HB := Lib.hid hb
  clear hb
  by_cases hkm : k < m
  ·have hkl : k < l.length := by have := HM.out; omega
   obtain ⟨b, off, rfl, hbb, hc0⟩ := H.out.at hkl
   have hc := (HB.out.cell (p := ⟨b, off + k, none⟩) hbb).trans hc0
   have hx := HR.out _ (List.getElem_mem hkl)
   clear hc0
   generalize l[k] = x at hc hx
   have HRG := Lib.hid (fun W => (show Calls Tryz.prog 144 #[.int .u16 (x : Int)] W fun e w' => e = .returned (.bool true) ∧ w' = W by have := range_ex x W; rwa [decide_eq_true hx] at this))
   have e1 : (k : Int) < (m : Int) := by omega
   have e2 : (0 : Int) ≤ (k : Int) := by omega
   go_wp2_with (go_at_call 144; refine (HRG.out _).mono ?_; rintro e w1 ⟨rfl, rfl⟩)
   go_roundw
   case rel => exact ⟨k + 1, by omega, by go_num, HB.out⟩
   case measure => simp [intOf]; omega
  ·obtain rfl : k = m := by omega
   by_cases h4 : 400 < n
   ·have e4 : (400 : Int) < (n : Int) := by omega
    have HE := Lib.hid h4
    clear h4
    go_wp2_with fail
    go_ret2
    exact ⟨by rw [if_pos HE.out, if_pos HE.out]; rfl, HB.out⟩
   ·have e4 : ¬ (400 : Int) < (n : Int) := by omega
    have HE := Lib.hid h4
    clear h4
    go_wp2_with fail
    go_ret2
    exact ⟨by rw [if_neg HE.out, if_neg HE.out]; rfl, HB.out⟩
def FamRet (l : List Nat) (w : World) (e : Ending) (w' : World) : Prop :=
 ∃ p n cap, e = .returned (.tuple #[.slice p n cap, .int .i64 (if 400 < l.length then 3 else 0)]) ∧ n = (if 400 < l.length then [] else l).length ∧ n ≤ cap ∧ SetL w' p (if 400 < l.length then [] else l) ∧ FreshP w.heap.size p ∧ Below w.heap.size w w'
theorem minimal_ex (p : Option Addr) (n cap : Nat) (f : List Nat) (w : World) (hn : f.length = n) (hn4 : n ≤ 200000) (hlt : ∀ x ∈ f, x < 4096) (hp : SetL w p f) :
  Calls Tryz.prog 69 #[.slice p n cap] w (FamRet (lstV (sortS f) (sortS f).length) w) := by
 have HC := Lib.hid (least_ex p n cap f w hn hn4 (fun x hx => by have := hlt x hx; omega) hp)
 have HP := Lib.hid hp
 have HN := Lib.hid hn
 have HR := Lib.hid hlt
 clear hp hn hlt
 generalize lstV (sortS f) (sortS f).length = L at HC
 obtain ⟨m, hm⟩ : ∃ m, L.length = m := ⟨_, rfl⟩
 have HM := Lib.hid hm
 clear hm
 by_cases h4 : 400 < m
 ·have H4 := Lib.hid h4
  have HK := Lib.hid (fun (p1 : Option Addr) (c1 : Nat) (w1 : World) (h : SetL w1 p f) => (show Calls Tryz.prog 104 #[.slice p n cap, .slice p1 m c1] w1 fun e w' => e = .returned (.tuple #[.slice none 0 0, .int .i64 3]) ∧ Below w1.heap.size w1 w' by
   have h1 := checked_ex p n cap f p1 m c1 w1 HN.out hn4 h HR.out
   unfold ChkRet at h1
   rw [if_pos h4, if_pos h4] at h1
   exact h1))
  clear h4
  go_enter Tryz.func69, Tryz.ntmps69
  go_wp2_with (first
   | (go_at_call 105; (with_reducible refine HC.out.mono ?_); rintro e w1 ⟨p1, c1, rfl, hc1, hs1, hf1, hb1⟩; rw [HM.out] at hc1)
   | (go_at_call 104; rw [HM.out]; refine (HK.out p1 c1 w1 (HP.out.below hb1)).mono ?_; rintro e w2 ⟨rfl, hb2⟩))
  go_ret2
  refine (show FamRet L w _ _ from ?_)
  unfold FamRet
  rw [HM.out, if_pos H4.out, if_pos H4.out]
  exact ⟨none, 0, 0, rfl, rfl, Nat.le_refl _, .inl rfl, fresh_none _, hb1.trans (hb2.mono hb1.size)⟩
 ·have H4 := Lib.hid h4
  have HK := Lib.hid (fun (p1 : Option Addr) (c1 : Nat) (w1 : World) (h : SetL w1 p f) => (show Calls Tryz.prog 104 #[.slice p n cap, .slice p1 m c1] w1 fun e w' => e = .returned (.tuple #[.slice p1 m c1, .int .i64 0]) ∧ Below w1.heap.size w1 w' by
   have h1 := checked_ex p n cap f p1 m c1 w1 HN.out hn4 h HR.out
   unfold ChkRet at h1
   rw [if_neg h4, if_neg h4] at h1
   exact h1))
  clear h4
  go_enter Tryz.func69, Tryz.ntmps69
  go_wp2_with (first
   | (go_at_call 105; (with_reducible refine HC.out.mono ?_); rintro e w1 ⟨p1, c1, rfl, hc1, hs1, hf1, hb1⟩; rw [HM.out] at hc1)
   | (go_at_call 104; rw [HM.out]; refine (HK.out p1 c1 w1 (HP.out.below hb1)).mono ?_; rintro e w2 ⟨rfl, hb2⟩))
  go_ret2
  refine (show FamRet L w _ _ from ?_)
  unfold FamRet
  rw [HM.out, if_neg H4.out, if_neg H4.out]
  exact ⟨p1, m, c1, rfl, HM.out.symm, hc1, hs1.below hb2, hf1, hb1.trans (hb2.mono hb1.size)⟩
end Go.Proofs.YtmcnpaehmnadeaaGreatDoor
/-
  EpochNext: sederuntref08.And, exactly.
-/
namespace Go.Proofs.YtmcnpaehmnadeaaGreatDoor
open Go Go.RowKit
theorem famR_zero {l : List Nat} (h : famR l = 0) : l.length ≤ 400 ∧ ∀ x ∈ l, x < 4096 := by
 unfold famR at h
 split at h
 ·omega
 ·rename_i h1
  split at h
  ·rename_i h2
   exact absurd h h2
  ·rename_i h2
   exact ⟨by omega, (scanV_zero (Decidable.not_not.mp h2)).1⟩
theorem famE_zero {l : List Nat} (h : famE l = 0) : l.length ≤ 400 ∧ ∀ x ∈ l, x < 4096 := famR_zero ((fam_one l).trans h)
theorem bothE_zero {a b : Nat} (h : bothE a b = 0) : a = 0 ∧ b = 0 := by
 unfold bothE at h
 split at h
 ·omega
 ·omega
theorem prods_lt {f g : List Nat} (hf : ∀ x ∈ f, x < 4096) (hg : ∀ x ∈ g, x < 4096) : ∀ x ∈ prods f g, x < 4096 := by
 intro x hx
 unfold prods at hx
 rw [List.mem_flatMap] at hx
 obtain ⟨a, ha, hx⟩ := hx
 rw [List.mem_map] at hx
 obtain ⟨b, hb, rfl⟩ := hx
 exact Nat.or_lt_two_pow (n := 12) (hf a ha) (hg b hb)
def minU (f g : List Nat) : List Nat := lstV (sortS (prods f g)) (sortS (prods f g)).length
def andE (f g : List Nat) : Nat := if bothE (famE f) (famE g) ≠ 0 then bothE (famE f) (famE g) else if 400 < (minU f g).length then 3 else 0
def andL (f g : List Nat) : List Nat := if bothE (famE f) (famE g) ≠ 0 then [] else if 400 < (minU f g).length then [] else minU f g
def FR (E : Nat) (R : List Nat) (w : World) (e : Ending) (w' : World) : Prop :=
 ∃ p n cap, e = .returned (.tuple #[.slice p n cap, .int .i64 E]) ∧ n = R.length ∧ n ≤ cap ∧ SetL w' p R ∧ FreshP w.heap.size p ∧ Below w.heap.size w w'
theorem andR_ex (p : Option Addr) (m cap : Nat) (f : List Nat) (q : Option Addr) (n cq : Nat) (g : List Nat) (w : World) (hm : f.length = m) (hr : InR f) (h : SetL w p f) (hn : g.length = n) (hrg : InR g) (hg : SetL w q g) :
  Calls Tryz.prog 45 #[.slice p m cap, .slice q n cq] w (FR (andE f g) (andL f g) w) := by
 have HB := Lib.hid (bothFamR_ex p m cap f q n cq g w hm hr h hn hrg hg)
 by_cases hb : bothE (famE f) (famE g) = 0
 ·obtain ⟨h1, h2⟩ := bothE_zero hb
  obtain ⟨hf4, hfl⟩ := famE_zero h1
  obtain ⟨hg4, hgl⟩ := famE_zero h2
  rw [hm] at hf4
  rw [hn] at hg4
  have hPn : (prods f g).length ≤ 160000 := by
   rw [prods_len, hm, hn]
   exact Nat.mul_le_mul hf4 hg4
  have HPR := Lib.hid (fun (w1 : World) (hw : Below w.heap.size w w1) => products_ex p m cap f q n cq g w1 hm hf4 hr (h.below hw) hn hg4 hrg (hg.below hw))
  have HPL := Lib.hid (prods_lt hfl hgl)
  have HAE := Lib.hid (show andE f g = if 400 < (minU f g).length then 3 else 0 by unfold andE; rw [if_neg (by rw [hb]; simp)])
  have HAL := Lib.hid (show andL f g = if 400 < (minU f g).length then [] else minU f g by unfold andL; rw [if_neg (by rw [hb]; simp)])
  have HMU := Lib.hid (show minU f g = lstV (sortS (prods f g)) (sortS (prods f g)).length from rfl)
  rw [hb] at HB
  clear hb h1 h2 hfl hgl h hg hr hrg hm hn
  generalize prods f g = P at HPR HPL HMU hPn
  obtain ⟨k, hk⟩ : ∃ k, P.length = k := ⟨_, rfl⟩
  rw [hk] at hPn
  have HK := Lib.hid hk
  have HMI := Lib.hid (fun (p1 : Option Addr) (c1 : Nat) (w1 : World) (h : SetL w1 p1 P) => minimal_ex p1 k c1 P w1 hk (by omega) HPL.out h)
  clear hk
  rw [← HMU.out] at HMI
  have HMJ := Lib.hid (fun (p1 : Option Addr) (c1 : Nat) (w1 : World) (h : SetL w1 p1 P) => (HMI.out p1 c1 w1 h).mono (show ∀ e w', FamRet (minU f g) w1 e w' → FR (andE f g) (andL f g) w1 e w' by
   rintro e w' ⟨p, n, cap, rfl, h⟩
   exact ⟨p, n, cap, by rw [HAE.out]; split <;> rfl, by rw [HAL.out]; exact h⟩))
  clear HMI HAE HAL HMU
  generalize andE f g = E at HMJ ⊢
  generalize andL f g = R at HMJ ⊢
  go_enter Tryz.func45, Tryz.ntmps45
  go_wp2_with (first
   | (go_at_call 68; (with_reducible refine HB.out.mono ?_); rintro e w1 ⟨rfl, hb1⟩)
   | (go_at_call 70; (with_reducible refine (HPR.out w1 hb1).mono ?_); rintro e w2 ⟨p2, c2, rfl, hc2, hs2, hf2, hb2⟩; rw [HK.out] at hc2)
   | (go_at_call 69; rw [HK.out]; (refine (HMJ.out p2 c2 w2 hs2).mono ?_); rintro e w3 ⟨p3, n3, c3, rfl, rfl, hc3, hs3, hf3, hb3⟩))
  go_ret2
  refine (show FR E R w _ _ from ?_)
  exact ⟨p3, R.length, c3, rfl, rfl, hc3, hs3, hf3.mono (Nat.le_trans hb1.size hb2.size), hb1.trans ((hb2.mono hb1.size).trans (hb3.mono (Nat.le_trans hb1.size hb2.size)))⟩
 ·have HAE := Lib.hid (show andE f g = bothE (famE f) (famE g) by unfold andE; rw [if_pos hb])
  have HAL := Lib.hid (show andL f g = [] by unfold andL; rw [if_pos hb])
  clear h hg hr hrg hm hn
  generalize bothE (famE f) (famE g) = E at HB HAE hb
  have e1 : ¬ (E : Int) = 0 := by omega
  have e2 : ((E : Int) != 0) = true := by simp; omega
  clear hb
  go_enter Tryz.func45, Tryz.ntmps45
  go_wp2_with (go_at_call 68; (with_reducible refine HB.out.mono ?_); rintro e w1 ⟨rfl, hb1⟩)
  go_ret2
  refine (show FR (andE f g) (andL f g) w _ _ from ?_)
  rw [HAE.out, HAL.out]
  exact ⟨none, 0, 0, rfl, rfl, Nat.le_refl _, .inl rfl, fresh_none _, hb1⟩
end Go.Proofs.YtmcnpaehmnadeaaGreatDoor
/-
  EpochNext, plain laws: the list of the minimal unions is told by its members.
-/
namespace Go.Proofs.YtmcnpaehmnadeaaGreatDoor
open Go Go.RowKit
theorem asc_pair {l : List Nat} : Asc l ↔ l.Pairwise (fun a b => cmpS a b < 0) := by
 induction l with
 | nil => simp [Asc]
 | cons x t ih => rw [Asc, List.pairwise_cons, ih]
theorem lstV_mem {s : List Nat} {y : Nat} : ∀ {n : Nat}, y ∈ lstV s n ↔ ∃ i, i < n ∧ pinV s i s.length = false ∧ s.getD i 0 = y
 | 0 => by simp [lstV]
 | n + 1 => by
  rw [lstV]
  split
  ·rename_i h
   rw [lstV_mem]
   constructor
   ·rintro ⟨i, h1, h2⟩
    exact ⟨i, by omega, h2⟩
   ·rintro ⟨i, h1, h2, h3⟩
    by_cases hi : i = n
    ·subst hi; rw [h] at h2; cases h2
    ·exact ⟨i, by omega, h2, h3⟩
  ·rename_i h
   rw [List.mem_append, lstV_mem, List.mem_singleton]
   constructor
   ·rintro (⟨i, h1, h2⟩ | rfl)
    ·exact ⟨i, by omega, h2⟩
    ·exact ⟨n, by omega, by simpa using h, rfl⟩
   ·rintro ⟨i, h1, h2, h3⟩
    by_cases hi : i = n
    ·subst hi; exact .inr h3.symm
    ·exact .inl ⟨i, by omega, h2, h3⟩
end Go.Proofs.YtmcnpaehmnadeaaGreatDoor
/-
  EpochNext, plain laws: the program's way to the minimal ones of an ascending list is the document's.
-/
namespace Go.Proofs.YtmcnpaehmnadeaaGreatDoor
open Go Go.RowKit
theorem sub_trans {a b c : Nat} (h1 : subB a b = true) (h2 : subB b c = true) : subB a c = true := by
 rw [subB_iff] at *
 exact fun k hk h => h2 k hk (h1 k hk h)
def gV (s : List Nat) : Nat → List Nat
 | 0 => []
 | i + 1 => if acc (gV s i) (s.getD i 0) = true then gV s i else gV s i ++ [s.getD i 0]
theorem pin_below {s : List Nat} (h : Asc s) (hr : InR s) {i k : Nat} (hi : i < s.length) (hk : k < s.length) (hik : i ≠ k) (hs : subB s[k] s[i] = true) : k < i := by
 rcases Nat.lt_or_gt_of_ne hik with h1 | h1
 ·have h2 := sub_not (hr _ (List.getElem_mem hk)) (hr _ (List.getElem_mem hi)) (h.get i k hi hk h1)
  rw [hs] at h2
  cases h2
 ·exact h1
theorem acc_pin {s : List Nat} (h : Asc s) (hr : InR s) {i : Nat} (hi : i < s.length) : acc (lstV s i) s[i] = pinV s i s.length := by
 have key : ∀ n k (hk : k < s.length), k < n → k < i → subB s[k] s[i] = true → ∃ x ∈ lstV s i, subB x s[i] = true := by
  intro n
  induction n with
  | zero => intro k _ h1; omega
  | succ n ih =>
   intro k hk hkn hki hs
   cases hp : pinV s k s.length
   ·exact ⟨s[k], lstV_mem.mpr ⟨k, hki, hp, by simp [hk]⟩, hs⟩
   ·obtain ⟨j, hj, hkj, hs2⟩ := pin_some.mp hp
    rw [show s.getD k 0 = s[k] by simp [hk], show s.getD j 0 = s[j] by simp [hj]] at hs2
    have hjk := pin_below h hr hk hj hkj hs2
    exact ih j hj (by omega) (by omega) (sub_trans hs2 hs)
 cases hp : pinV s i s.length
 ·cases ha : acc (lstV s i) s[i]
  ·rfl
  ·exfalso
   unfold acc at ha
   rw [List.any_eq_true] at ha
   obtain ⟨x, hx, hs⟩ := ha
   obtain ⟨k, hk, _, rfl⟩ := lstV_mem.mp hx
   have : pinV s i s.length = true := pin_some.mpr ⟨k, by omega, by omega, by rw [show s.getD i 0 = s[i] by simp [hi]]; exact hs⟩
   rw [hp] at this
   cases this
 ·obtain ⟨k, hk, hik, hs⟩ := pin_some.mp hp
  rw [show s.getD i 0 = s[i] by simp [hi], show s.getD k 0 = s[k] by simp [hk]] at hs
  obtain ⟨x, hx, hsx⟩ := key (k + 1) k hk (Nat.lt_succ_self k) (pin_below h hr hi hk hik hs) hs
  unfold acc
  rw [List.any_eq_true]
  exact ⟨x, hx, hsx⟩
theorem gV_lst {s : List Nat} (h : Asc s) (hr : InR s) : ∀ n, n ≤ s.length → gV s n = lstV s n
 | 0, _ => rfl
 | i + 1, hn => by
  have ih := gV_lst h hr i (by omega)
  have hg : s.getD i 0 = s[i] := by simp [show i < s.length by omega]
  rw [gV, lstV, ih, hg, acc_pin h hr (by omega)]
end Go.Proofs.YtmcnpaehmnadeaaGreatDoor
/-
  EpochNext: family.least, exactly, over what family.sorted answers.
-/
namespace Go.Proofs.YtmcnpaehmnadeaaGreatDoor
open Go Go.RowKit
theorem gV_len (s : List Nat) : ∀ n, (gV s n).length ≤ n
 | 0 => Nat.le_refl _
 | i + 1 => by
  have := gV_len s i
  rw [gV]
  split
  ·omega
  ·simp; omega
theorem leastI_of (p : Option Addr) (n cap : Nat) (s : List Nat) (w : World) (hn4 : s.length ≤ 200000) (hC : Calls Tryz.prog 96 #[.slice p n cap] w (SetsL s w)) : Calls Tryz.prog 64 #[.slice p n cap] w (SetsL (gV s s.length) w) := by
 obtain ⟨i0, hi, hz0, hz1, hz2⟩ := info_parts Tryz.info28
 have HC := Lib.hid hC
 clear hC
 go_enter Tryz.func64, Tryz.ntmps64
 go_upto_region 2 with fail
 obtain ⟨m, hm⟩ : ∃ m, s.length = m := ⟨_, rfl⟩
 have HM := Lib.hid hm
 rw [hm] at hn4
 go_wp2_with (go_at_call 96; refine HC.out.mono ?_; rintro e w1 ⟨p1, c1, rfl, hc1, hs1, hf1, hb1⟩; rw [HM.out] at hc1)
 clear hm
 have HS1 := Lib.hid hs1
 have HB1 := Lib.hid hb1
 have hsz1 := hb1.size
 clear hs1 hb1
 go_loopw [3, 9] (fun v a wr => ∃ (i : Nat) (L : List Nat), i ≤ m ∧ a = .int .i64 i ∧ gV s i = L ∧ wr.ownsRow w1.heap.size 28 1 v L.length (u16N L) ∧ Below w1.heap.size w1 wr) (fun _ a _ => m - (intOf a).toNat)
 case atStart => exact ⟨0, [], Nat.zero_le _, rfl, rfl, World.ownsRow_nil _ _ _ _, Below.refl _ _⟩
 case round =>
  obtain ⟨i, L, hi', rfl, hL, hown, hb⟩ := hrel
  have HL := Lib.hid hL
  have HW := Lib.hid hown
  have HB := Lib.hid hb
  have hLn : L.length ≤ i := by have := gV_len s i; rw [hL] at this; exact this
  clear hL hown hb
  obtain ⟨p3, c3, hv3, hs3, hc3, _⟩ := setL_of_own HW.out
  subst hv3
  by_cases him : i < m
  ·have hil : i < s.length := by have := HM.out; omega
   obtain ⟨b, off, rfl, hbb, hc0⟩ := HS1.out.at hil
   have hc := (HB.out.cell (p := ⟨b, off + i, none⟩) hbb).trans hc0
   have HSI := Lib.hid (show gV s (i + 1) = if acc L s[i] = true then L else L ++ [s[i]] by rw [gV, HL.out, show s.getD i 0 = s[i] by simp [hil]])
   clear hc0
   generalize s[i] = x at hc HSI
   have e8 : (i : Int) < (m : Int) := by omega
   have e11 : (0 : Int) ≤ (i : Int) := by omega
   have HAC := Lib.hid (fun k (hk : L.length = k) => accepts_ex p3 k c3 L x wr hk (by omega) hs3)
   have HLL := Lib.hid (HAC.out L.length rfl)
   clear hs3 HAC
   have hsz3 := HB.out.size
   cases ha : acc L x
   ·have HN2 := Lib.hid (show gV s (i + 1) = L ++ [x] by rw [HSI.out, if_neg (by rw [ha]; simp)])
    rw [ha] at HLL
    clear ha
    go_wp2_with (first
     | (go_at_call 97; refine HLL.out.mono ?_; rintro e w2 ⟨rfl, hb2⟩; have HW3 := Lib.hid (own_below HW.out hb2); have HB3 := Lib.hid (HB.out.trans (hb2.mono hsz3)); have hsz4 := HB3.out.size; replace hc := (hb2.cell (p := ⟨b, off + i, none⟩) (Nat.lt_of_lt_of_le hbb hsz3)).trans hc)
     | (at_builtin; refine wpList_append_own _ rfl _ _ 46 rfl w1.heap.size 28 i0 (.int .u16 0) 1 2 Tryz.underlying46 hi hz0 hz1 hz2 rfl (by decide) _ _ _ rfl (HW3.out.alloc _) ⟨w2.heap.size, 0, none⟩ 1 1 [.int .u16 (x : Int)] rfl rfl ?c1 ?c2 ?c3 ?c4 ?c5 ?_))
    try (case c1 => (intro j u hj; cases j with | zero => (simp at hj; subst hj; simp [Addr.add]) | succ j => simp at hj))
    case c2 => first | rfl | (intro u hu; simp at hu; subst hu; rfl)
    case c3 => unfold maxLen; omega
    case c4 => omega
    case c5 => first | omega | (simp; omega)
    intro v' w5 hown' hgrow _
    have hb5 : Below w1.heap.size w1 w5 := below_grown HB3.out hsz4 HW3.out hgrow
    rw [← u16N_snoc] at hown'
    have HW5 := Lib.hid (And.intro hown' hb5)
    clear hown' hgrow hb5
    go_wp2_with fail
    go_roundw
    case rel => exact ⟨i + 1, L ++ [x], by omega, by go_num, HN2.out, by simpa using HW5.out.1, HW5.out.2⟩
    case measure => simp [intOf]; omega
   ·have HN2 := Lib.hid (show gV s (i + 1) = L by rw [HSI.out, if_pos ha])
    rw [ha] at HLL
    clear ha
    go_wp2_with (go_at_call 97; refine HLL.out.mono ?_; rintro e w2 ⟨rfl, hb2⟩; have HW3 := Lib.hid (own_below HW.out hb2); have HB3 := Lib.hid (HB.out.trans (hb2.mono hsz3)))
    go_roundw
    case rel => exact ⟨i + 1, L, by omega, by go_num, HN2.out, HW3.out, HB3.out⟩
    case measure => simp [intOf]; omega
  ·obtain rfl : i = m := by omega
   have HE := Lib.hid (show gV s s.length = L by rw [HM.out]; exact HL.out)
   go_wp2_with fail
   go_ret
   refine (show SetsL (gV s s.length) w _ _ from ?_)
   rw [HE.out]
   exact ⟨p3, c3, rfl, hc3, hs3, (fresh_of_own HW.out).mono hsz1, HB1.out.trans (HB.out.mono hsz1)⟩
end Go.Proofs.YtmcnpaehmnadeaaGreatDoor
/-
  EpochNext: slices.Compact at lists of sets without equal neighbours.
-/
namespace Go.Proofs.YtmcnpaehmnadeaaGreatDoor
open Go Go.RowKit
def Apart (l : List Nat) : Prop := ∀ i (h : i + 1 < l.length), l[i + 1] ≠ l[i]
theorem Asc.apart {l : List Nat} (h : Asc l) : Apart l := fun i hi he => by
 have := h.get i (i + 1) (by omega) hi (Nat.lt_succ_self i)
 rw [he] at this
 exact cmp_irrefl _ this
def CompRet (p : Option Addr) (m cap : Nat) (w : World) (e : Ending) (w' : World) : Prop := e = .returned (.slice p m cap) ∧ Below w.heap.size w w'
theorem compact_ex (p : Option Addr) (m cap : Nat) (l : List Nat) (w : World) (hm : l.length = m) (hm4 : m ≤ 200000) (hd : Apart l) (h : SetL w p l) : Calls Tryz.prog 133 #[.slice p m cap] w (CompRet p m cap w) := by
 have H := Lib.hid h
 have HM := Lib.hid hm
 have HD := Lib.hid hd
 clear h hm hd
 by_cases h2 : m < 2
 ·have e1 : (m : Int) < 2 := by omega
  go_enter Tryz.func133, Tryz.ntmps133
  go_wp2_with fail
  go_ret
  exact ⟨rfl, Below.refl _ _⟩
 ·have e1 : ¬ (m : Int) < 2 := by omega
  go_enter Tryz.func133, Tryz.ntmps133
  go_wp2_with fail
  go_loopw [3] (fun i wr => ∃ k : Nat, k < m ∧ i = .int .i64 (k + 1 : Nat) ∧ Below w.heap.size w wr) (fun i _ => m - (intOf i).toNat)
  case atStart => exact ⟨0, by omega, rfl, Below.refl _ _⟩
  case round =>
   obtain ⟨k, hk, rfl, hb⟩ := hrel
   have HB := Lib.hid hb
   clear hb
   by_cases hkm : k + 1 < m
   ·have hkl : k + 1 < l.length := by have := HM.out; omega
    obtain ⟨b, off, rfl, hbb, hc0⟩ := H.out.at hkl
    obtain ⟨b2, off2, hpe, _, hd0⟩ := H.out.at (show k < l.length by omega)
    obtain ⟨rfl, rfl⟩ : b2 = b ∧ off2 = off := by
     injection hpe with hpe
     injection hpe with h1 h2
     exact ⟨h1.symm, h2.symm⟩
    have hc := (HB.out.cell (p := ⟨b2, off2 + (k + 1), none⟩) hbb).trans hc0
    have hd := (HB.out.cell (p := ⟨b2, off2 + k, none⟩) hbb).trans hd0
    have hne := HD.out k hkl
    clear hpe hc0 hd0
    generalize l[k + 1] = x at hc hne
    generalize l[k] = y at hd hne
    have e2 : decide ((x : Int) = (y : Int)) = false := by simp; omega
    have e3 : ((k + 1 : Nat) : Int) < (m : Int) := by omega
    have e4 : (0 : Int) ≤ ((k + 1 : Nat) : Int) := by omega
    have e5 : IntKind.i64.wrap (((k + 1 : Nat) : Int) - 1) = (k : Int) := by rw [show ((k + 1 : Nat) : Int) - 1 = (k : Int) by omega]; simp [IntKind.wrap, IntKind.bits, IntKind.signed]; omega
    have e6 : (0 : Int) ≤ (k : Int) := by omega
    have e7 : (k : Int) < (m : Int) := by omega
    go_upto_region 6 with fail
    go_quiet (fail)
    go_wp2_with fail
    go_roundw
    case rel => exact ⟨k + 1, by omega, by go_num, below_drewN HB.out _⟩
    case measure => simp [intOf]; omega
   ·go_wp2_with fail
    go_ret
    exact ⟨rfl, HB.out⟩
end Go.Proofs.YtmcnpaehmnadeaaGreatDoor
/-
  EpochNext: slices.Clone at sets, laid out of the kit's shelf.
-/
namespace Go.Proofs
open Go
def Tryz.cloneSet_ren : Go.Shelf.Ren := ⟨fun | 41 => 26 | n => n, fun | 22 => 46 | 23 => 28 | 4 => 4 | n => n, fun | n => n⟩
theorem Tryz.cloneSet : Go.Proofs.SlLaysE0.n41 Tryz.prog Tryz.cloneSet_ren := {
  mixed := by kernel_rfl
  f41 := ⟨Tryz.f26.name, by decide, Tryz.func26.trans (congrArg some (by kernel_rfl))⟩
  t4 := Tryz.underlying4
  a4 := Tryz.isAgg4
  z4 := Tryz.sizeOf4
  v4 := Tryz.zeroValue4
  t22 := Tryz.underlying46
  a22 := Tryz.isAgg46
  z22 := Tryz.sizeOf46
  v22 := Tryz.zeroValue46 }
def Tryz.cloneFault_ren : Go.Shelf.Ren := ⟨fun | 41 => 27 | n => n, fun | 22 => 47 | 23 => 69 | 4 => 4 | n => n, fun | n => n⟩
theorem Tryz.cloneFault : Go.Proofs.SlLaysE0.n41 Tryz.prog Tryz.cloneFault_ren := {
  mixed := by kernel_rfl
  f41 := ⟨Tryz.f27.name, by decide, Tryz.func27.trans (congrArg some (by kernel_rfl))⟩
  t4 := Tryz.underlying4
  a4 := Tryz.isAgg4
  z4 := Tryz.sizeOf4
  v4 := Tryz.zeroValue4
  t22 := Tryz.underlying47
  a22 := Tryz.isAgg47
  z22 := Tryz.sizeOf47
  v22 := Tryz.zeroValue47 }
end Go.Proofs
namespace Go.Proofs.YtmcnpaehmnadeaaGreatDoor
open Go Go.RowKit
def PlainP (p : Option Addr) : Prop := p = none ∨ ∃ b off, p = some ⟨b, off, none⟩
theorem plain_of_own {w : World} {base e sz n : Nat} {p : Option Addr} {m cap : Nat} {xs : List Value} (h : w.ownsRow base e sz (.slice p m cap) n xs) : PlainP p := by
 rcases h.2 with ⟨h0, _⟩ | ⟨g, cap', cur, h1, _⟩
 ·injection h0 with h0 _ _
  exact .inl h0
 ·injection h1 with h1 _ _
  exact .inr ⟨g, 0, h1⟩
theorem cap_of_own {w : World} {base e sz n m cap : Nat} {p : Option Addr} {xs : List Value} (h : w.ownsRow base e sz (.slice p m cap) n xs) : cap ≤ 9223372036854775807 := by
 rcases h.2 with ⟨h0, _⟩ | ⟨g, cap', cur, h1, _, _, _, hmax, _⟩
 ·injection h0 with _ _ h0
  omega
 ·injection h1 with _ _ h1
  subst h1
  unfold maxLen at hmax
  omega
theorem cloneS_ex (p : Option Addr) (m cap : Nat) (l : List Nat) (w : World) (hp : PlainP p) (hm : l.length = m) (hm4 : m ≤ 200000) (h : SetL w p l) : Calls Tryz.prog 26 #[.slice p m cap] w (SetsL l w) := by
 obtain ⟨i0, hi, hz0, hz1, hz2⟩ := info_parts Tryz.info28
 rcases hp with rfl | ⟨b, off, rfl⟩
 ·have hl : l = [] := by
   rcases h with h | ⟨_, _, h1, _⟩
   ·exact h
   ·cases h1
  subst hl
  refine (AnyE.slices_Clone_nil Tryz.cloneSet m cap w).mono ?_
  rintro e w' ⟨rfl, rfl⟩
  exact ⟨none, 0, rfl, Nat.le_refl _, .inl rfl, (fun _ h => by cases h), Below.refl _ _⟩
 ·refine (AnyE.slices_Clone Tryz.cloneSet i0 (.int .u16 0) 1 2 hi hz0 hz1 hz2 rfl (by decide) Tryz.sizeOf28 b off m cap (u16N l) w (by simp [u16N, hm]) (by unfold maxLen; omega) (by omega) (fun j u hj => ?_) (fun u hu => ?_)).mono ?_
  ·rcases h with h | ⟨b', off', h1, hb, h2⟩
   ·subst h; simp [u16N] at hj
   ·obtain ⟨rfl, rfl⟩ : b = b' ∧ off = off' := by
     injection h1 with h1
     injection h1 with h3 h4
     exact ⟨h3, h4⟩
    have hjl : j < l.length := by
     have := (List.getElem?_eq_some_iff.mp hj).1
     simpa [u16N] using this
    have h3 : u = .int .u16 (l[j] : Nat) := by simpa [u16N, hjl] using hj.symm
    rw [h3]
    exact h2 j hjl
  ·unfold u16N at hu
   rw [List.mem_map] at hu
   obtain ⟨x, _, rfl⟩ := hu
   rfl
  ·rintro e w' ⟨v', rfl, hown, -, hb⟩
   obtain ⟨p, c, rfl, h1, h2, h3⟩ := setL_of_own hown
   subst hm
   exact ⟨p, c, rfl, h2, h1, fresh_of_own hown, hb⟩
end Go.Proofs.YtmcnpaehmnadeaaGreatDoor
