/-
  EpochNext: sederuntref19.limited, Normalize, exactly.
-/
import Derived.Test.YtmcnpaehmnadeaaGreatDoorFdB
set_option maxHeartbeats 6400000
set_option maxRecDepth 1000000
namespace Go.Proofs.YtmcnpaehmnadeaaGreatDoor
open Go Go.RowKit
def MR (E : Nat) (R : List (Nat × Nat)) (w : World) (e : Ending) (w' : World) : Prop :=
 ∃ p n cap, e = .returned (.tuple #[.slice p n cap, .int .i64 E]) ∧ n = R.length ∧ n ≤ cap ∧ FltL w' p R ∧ FreshP w.heap.size p ∧ Below w.heap.size w w'
def chkV (L : List (Nat × Nat)) : Nat → Nat
 | 0 => 0
 | k + 1 => if chkV L k ≠ 0 then chkV L k else chkE (L.getD k (0, 0)).1 (L.getD k (0, 0)).2
theorem chkV_mono {l : List (Nat × Nat)} {k n e : Nat} (h : chkV l k = e) (he : e ≠ 0) (hk : k ≤ n) : chkV l n = e := by
 induction hk with
 | refl => exact h
 | step _ ih => rw [chkV, ih, if_pos he]
theorem chkV_zero {l : List (Nat × Nat)} : ∀ {n : Nat}, chkV l n = 0 → ∀ k, k < n → chkE (l.getD k (0, 0)).1 (l.getD k (0, 0)).2 = 0
 | 0, _, _, h => absurd h (Nat.not_lt_zero _)
 | n + 1, h, k, hk => by
  rw [chkV] at h
  by_cases h0 : chkV l n = 0
  ·rw [if_neg (by simpa using h0)] at h
   by_cases hkn : k = n
   ·subst hkn; exact h
   ·exact chkV_zero h0 k (by omega)
  ·rw [if_pos h0] at h
   exact absurd h h0
def nzE (L : List (Nat × Nat)) : Nat := if L.length = 0 then 9 else if chkV L L.length ≠ 0 then chkV L L.length else if 100 < (norR L L.length).length then 3 else 0
def nzL (L : List (Nat × Nat)) : List (Nat × Nat) := if L.length = 0 then [] else if chkV L L.length ≠ 0 then [] else if 100 < (norR L L.length).length then [] else norR L L.length
def LimF (p : Option Addr) (n cap : Nat) (w : World) (e : Ending) (w' : World) : Prop := e = .returned (if 100 < n then .tuple #[.slice none 0 0, .int .i64 3] else .tuple #[.slice p n cap, .int .i64 0]) ∧ w' = w
theorem limitedF_ex (p : Option Addr) (n cap : Nat) (w : World) : Calls Tryz.prog 107 #[.slice p n cap] w (LimF p n cap w) := by
 by_cases h : 100 < n
 ·have e0 : (100 : Int) < (n : Int) := by omega
  have HH := Lib.hid h
  clear h
  go_enter Tryz.func107, Tryz.ntmps107
  go_wp2_with fail
  go_ret2
  exact ⟨by rw [if_pos HH.out]; rfl, rfl⟩
 ·have e0 : ¬ (100 : Int) < (n : Int) := by omega
  have HH := Lib.hid h
  clear h
  go_enter Tryz.func107, Tryz.ntmps107
  go_wp2_with fail
  go_ret2
  exact ⟨by rw [if_neg HH.out]; rfl, rfl⟩
theorem limitedF_MR (p : Option Addr) (n cap : Nat) (R : List (Nat × Nat)) (w0 w : World) (hn : R.length = n) (hc : n ≤ cap) (hp : FltL w p R) (hf : FreshP w0.heap.size p) (hb : Below w0.heap.size w0 w) : Calls Tryz.prog 107 #[.slice p n cap] w (MR (if 100 < R.length then 3 else 0) (if 100 < R.length then [] else R) w0) := by
 subst hn
 refine (limitedF_ex p R.length cap w).mono ?_
 rintro e w' ⟨rfl, rfl⟩
 by_cases h : 100 < R.length
 ·rw [if_pos h, if_pos h, if_pos h]
  exact ⟨none, 0, 0, rfl, rfl, Nat.le_refl _, .inl rfl, fresh_none _, hb⟩
 ·rw [if_neg h, if_neg h, if_neg h]
  exact ⟨p, R.length, cap, rfl, rfl, hc, hp, hf, hb⟩
theorem normalizeR_ex (p : Option Addr) (n cap : Nat) (L : List (Nat × Nat)) (w : World) (hn : n ≤ 200000) (hm : L.length = n) (hr : InF L) (hp : FltL w p L) : Calls Tryz.prog 72 #[.slice p n cap] w (MR (nzE L) (nzL L) w) := by
 have HP := Lib.hid hp
 have HM := Lib.hid hm
 have HR := Lib.hid hr
 clear hp hr
 by_cases h0 : n = 0
 ·have HE := Lib.hid (show nzE L = 9 by unfold nzE; rw [if_pos (by omega)])
  have HL := Lib.hid (show nzL L = [] by unfold nzL; rw [if_pos (by omega)])
  clear hm
  subst h0
  go_enter Tryz.func72, Tryz.ntmps72
  go_wp2_with fail
  go_ret2
  refine (show MR (nzE L) (nzL L) w _ _ from ?_)
  rw [HE.out, HL.out]
  exact ⟨none, 0, 0, rfl, rfl, Nat.le_refl _, .inl rfl, fresh_none _, Below.refl _ _⟩
 ·have e0 : ¬ (n : Int) = 0 := by omega
  have e00 : ((n : Int) == 0) = false := by simp; omega
  have HE := Lib.hid (show nzE L = if chkV L n ≠ 0 then chkV L n else if 100 < (norR L n).length then 3 else 0 by unfold nzE; rw [if_neg (by omega), hm])
  have HL := Lib.hid (show nzL L = if chkV L n ≠ 0 then [] else if 100 < (norR L n).length then [] else norR L n by unfold nzL; rw [if_neg (by omega), hm])
  have HNL := Lib.hid (show (norR L n).length ≤ n from norR_len L n)
  clear hm
  go_enter Tryz.func72, Tryz.ntmps72
  go_wp2_with fail
  go_loopw [4, 5] (fun i _ wr => ∃ k : Nat, k ≤ n ∧ i = .int .i64 k ∧ chkV L k = 0 ∧ Below w.heap.size w wr) (fun i _ _ => n - (intOf i).toNat)
  case atStart => exact ⟨0, Nat.zero_le _, rfl, rfl, Below.refl _ _⟩
  case round =>
   obtain ⟨k, hk, rfl, hz, hb⟩ := hrel
   have HZ := Lib.hid hz
   have HB := Lib.hid hb
   clear hz hb
   by_cases hkn : k < n
   ·have hkl : k < L.length := by have := HM.out; omega
    obtain ⟨b, off, rfl, hbb, hx, hy⟩ := HP.out.at hkl
    obtain ⟨a1, b1, hg1⟩ : ∃ a1 b1, L[k] = (a1, b1) := ⟨_, _, rfl⟩
    have HC1 := Lib.hid (show chkV L (k + 1) = chkE a1 b1 by rw [chkV, HZ.out, if_neg (by simp), show L.getD k (0, 0) = (a1, b1) by simp [hkl, hg1]])
    have hR1 : a1 < 65536 ∧ b1 < 65536 := by have := HR.out L[k] (List.getElem_mem _); rw [hg1] at this; exact this
    have HS := Lib.hid (fun W => single_ex a1 b1 hR1.1 hR1.2 W)
    rw [hg1] at hx hy
    have hcx := (HB.out.cell (p := ⟨b, off + k * 2, none⟩) hbb).trans hx
    have hcy := (HB.out.cell (p := ⟨b, off + k * 2 + 1, none⟩) hbb).trans hy
    simp only at hcx hcy
    clear hx hy hg1 hR1
    have e1 : (0 : Int) ≤ (k : Int) := by omega
    have e2 : (k : Int) < (n : Int) := by omega
    generalize chkE a1 b1 = E at HC1 HS
    by_cases hE : E = 0
    ·subst hE
     go_wp2_with (go_at_call 106; (with_reducible refine (HS.out _).mono ?_); rintro e w1 ⟨rfl, hb1⟩; have HB1 := Lib.hid (HB.out.trans (hb1.mono HB.out.size)); clear hb1)
     go_roundw
     case rel => exact ⟨k + 1, by omega, by go_num, HC1.out, HB1.out⟩
     case measure => simp [intOf]; omega
    ·have e3 : ¬ (E : Int) = 0 := by omega
     have HEE := Lib.hid (show chkV L n = E from chkV_mono HC1.out hE (by omega))
     have HE0 := Lib.hid hE
     clear hE
     go_wp2_with (go_at_call 106; (with_reducible refine (HS.out _).mono ?_); rintro e w1 ⟨rfl, hb1⟩; have HB1 := Lib.hid (HB.out.trans (hb1.mono HB.out.size)); clear hb1)
     go_ret2
     refine (show MR (nzE L) (nzL L) w _ _ from ?_)
     rw [HE.out, HL.out, HEE.out, if_pos HE0.out, if_pos HE0.out]
     exact ⟨none, 0, 0, rfl, rfl, Nat.le_refl _, .inl rfl, fresh_none _, HB1.out⟩
   ·obtain rfl : k = n := by omega
    have HE1 := Lib.hid (show nzE L = if 100 < (norR L k).length then 3 else 0 by rw [HE.out, HZ.out]; rfl)
    have HL1 := Lib.hid (show nzL L = if 100 < (norR L k).length then [] else norR L k by rw [HL.out, HZ.out]; rfl)
    clear HE HL
    have HN := Lib.hid (fun (W : World) (hW : Below w.heap.size w W) => normalR_ex p k cap L W hn HM.out HR.out (HP.out.below hW))
    generalize norR L k = R at HN HE1 HL1 HNL
    obtain ⟨m, hm⟩ : ∃ m, R.length = m := ⟨_, rfl⟩
    have HLM := Lib.hid (fun (W : World) (p1 : Option Addr) (c1 : Nat) (hc : m ≤ c1) (h1 : FltL W p1 R) (hf : FreshP w.heap.size p1) (hb : Below w.heap.size w W) => limitedF_MR p1 m c1 R w W hm hc h1 hf hb)
    rw [← HE1.out, ← HL1.out] at HLM
    have HRM := Lib.hid hm
    clear hm
    obtain ⟨E, hE⟩ : ∃ E, nzE L = E := ⟨_, rfl⟩
    obtain ⟨Z, hZ⟩ : ∃ Z, nzL L = Z := ⟨_, rfl⟩
    rw [hE, hZ] at HLM
    have HEQ := Lib.hid (And.intro hE hZ)
    clear hE hZ
    go_wp2_with (first
     | (go_at_call 53; (with_reducible refine (HN.out _ HB.out).mono ?_); rintro e w1 ⟨p1, c1, rfl, hc1, hs1, hf1, hb1, _⟩; rw [HRM.out] at hc1)
     | (go_at_call 107; rw [HRM.out]; (refine (HLM.out _ p1 c1 hc1 hs1 (hf1.mono HB.out.size) (HB.out.trans (hb1.mono HB.out.size))).mono ?_); rintro e w2 ⟨p2, n2, c2, rfl, h2⟩; have HP2 := Lib.hid h2; clear h2))
    go_ret2
    refine (show MR (nzE L) (nzL L) w _ _ from ?_)
    rw [HEQ.out.1, HEQ.out.2]
    exact ⟨p2, n2, c2, rfl, HP2.out⟩
end Go.Proofs.YtmcnpaehmnadeaaGreatDoor
/-
  EpochNext: sederuntref29.Faults, exactly.
-/
namespace Go.Proofs.YtmcnpaehmnadeaaGreatDoor
open Go Go.RowKit
def jfN (kda : Int) (mba : Nat) (kdb : Int) (mbb : Nat) (f g : Nat × Nat) : Nat × Nat := ((jfR kda mba kdb mbb f.1 f.2 g.1 g.2).1.toNat, (jfR kda mba kdb mbb f.1 f.2 g.1 g.2).2.toNat)
theorem bits_rng (op : BinOp) (a b : Int) (h : op = .and ∨ op = .andNot) : ∃ n : Nat, bits op .u16 a b = (n : Int) ∧ n < 65536 := by
 rcases h with rfl | rfl
 ·exact ⟨_, bv_and a b, (bv a &&& bv b).isLt⟩
 ·exact ⟨_, bv_andNot a b, (bv a &&& ~~~bv b).isLt⟩
theorem jfN_cast (kda : Int) (mba : Nat) (kdb : Int) (mbb : Nat) (f g : Nat × Nat) : ((jfN kda mba kdb mbb f g).1 : Int) = (jfR kda mba kdb mbb f.1 f.2 g.1 g.2).1 ∧ ((jfN kda mba kdb mbb f g).2 : Int) = (jfR kda mba kdb mbb f.1 f.2 g.1 g.2).2 ∧ (jfN kda mba kdb mbb f g).1 < 65536 ∧ (jfN kda mba kdb mbb f g).2 < 65536 := by
 unfold jfN
 obtain ⟨n1, h1, h2⟩ : ∃ n : Nat, (jfR kda mba kdb mbb f.1 f.2 g.1 g.2).1 = (n : Int) ∧ n < 65536 := bits_rng _ _ _ (.inl rfl)
 obtain ⟨n2, h3, h4⟩ : ∃ n : Nat, (jfR kda mba kdb mbb f.1 f.2 g.1 g.2).2 = (n : Int) ∧ n < 65536 := bits_rng _ _ _ (.inr rfl)
 rw [h1, h3]
 simp [h2, h4]
def jfs (kda : Int) (mba : Nat) (kdb : Int) (mbb : Nat) (fa fb : List (Nat × Nat)) : List (Nat × Nat) := fa.flatMap fun f => fb.map fun g => jfN kda mba kdb mbb f g
theorem jfs_succ {kda : Int} {mba : Nat} {kdb : Int} {mbb : Nat} {f g : List (Nat × Nat)} {k : Nat} (h : k < f.length) : jfs kda mba kdb mbb (f.take (k + 1)) g = jfs kda mba kdb mbb (f.take k) g ++ g.map fun t => jfN kda mba kdb mbb f[k] t := by
 unfold jfs
 rw [take_snoc h, List.flatMap_append]
 simp
theorem jfs_len (kda : Int) (mba : Nat) (kdb : Int) (mbb : Nat) (f g : List (Nat × Nat)) : (jfs kda mba kdb mbb f g).length = f.length * g.length := by
 unfold jfs
 induction f with
 | nil => simp
 | cons x t ih => rw [List.flatMap_cons, List.length_append, ih, List.length_map, List.length_cons, Nat.succ_mul, Nat.add_comm]
theorem jfs_inF (kda : Int) (mba : Nat) (kdb : Int) (mbb : Nat) (f g : List (Nat × Nat)) : InF (jfs kda mba kdb mbb f g) := fun x hx => by
 unfold jfs at hx
 rw [List.mem_flatMap] at hx
 obtain ⟨a, _, hx⟩ := hx
 rw [List.mem_map] at hx
 obtain ⟨b, _, rfl⟩ := hx
 exact (jfN_cast kda mba kdb mbb a b).2.2
def fjE (kda : Int) (mba : Nat) (rda wra : List Nat) (fsa : List (Nat × Nat)) (kdb : Int) (mbb : Nat) (rdb wrb : List Nat) (fsb : List (Nat × Nat)) : Nat :=
 if bothE (valE kda mba rda wra fsa) (valE kdb mbb rdb wrb fsb) ≠ 0 then bothE (valE kda mba rda wra fsa) (valE kdb mbb rdb wrb fsb) else nzE (jfs kda mba kdb mbb fsa fsb)
def fjL (kda : Int) (mba : Nat) (rda wra : List Nat) (fsa : List (Nat × Nat)) (kdb : Int) (mbb : Nat) (rdb wrb : List Nat) (fsb : List (Nat × Nat)) : List (Nat × Nat) :=
 if bothE (valE kda mba rda wra fsa) (valE kdb mbb rdb wrb fsb) ≠ 0 then [] else nzL (jfs kda mba kdb mbb fsa fsb)
theorem valE_flt {kd : Int} {mb : Nat} {rd wr : List Nat} {fs : List (Nat × Nat)} (h : valE kd mb rd wr fs = 0) : fltE fs = 0 := by
 unfold valE at h
 repeat' split at h
 all_goals first | exact h | omega
theorem fltE_len {fs : List (Nat × Nat)} (h : fltE fs = 0) : fs.length ≤ 100 := by
 unfold fltE at h
 repeat' split at h
 all_goals omega
def JW (w0 : World) (v : Value) (l : List (Int × Int)) (W : World) : Prop := W.ownsRow w0.heap.size 69 2 v l.length (ftV l) ∧ Below w0.heap.size w0 W
theorem JW.below {w0 W W' : World} {v : Value} {l : List (Int × Int)} (h : JW w0 v l W) (hb : Below W.heap.size W W') : JW w0 v l W' := ⟨own_below h.1 hb, h.2.trans (hb.mono h.2.size)⟩
theorem cell_at {w0 W : World} (hb : Below w0.heap.size w0 W) {A j : Nat} {cs : Array Value} {t : TypeId} {fr : Nat × Nat} {v : Value} (hr : w0.heap[A]? = some (.cells cs t fr)) (hj : cs[j]? = some v) : W.cell? ⟨A, j, none⟩ = some v :=
 cellOf ((hb.block A (gLt hr)).trans hr) hj
theorem jwS {w0 W : World} {A b o : Nat} {nm : ByteArray} {kd mb : Int} {s3 s4 s5 : Value} {x y : Nat} {v : Value} {l : List (Int × Int)} (hr : w0.heap[A]? = some (.cells #[.string nm, .int .i64 kd, .int .u16 mb, s3, s4, s5] 49 (0, 0))) (hb : b < w0.heap.size)
  (h1 : w0.cell? ⟨b, o, none⟩ = some (.int .u16 (x : Int))) (h2 : w0.cell? ⟨b, o + 1, none⟩ = some (.int .u16 (y : Int))) (hW : JW w0 v l W) :
  W.cell? ⟨A, 0, none⟩ = some (.string nm) ∧ W.cell? ⟨A, 1, none⟩ = some (.int .i64 kd) ∧ W.cell? ⟨A, 2, none⟩ = some (.int .u16 mb) ∧ W.cell? ⟨A, 3, none⟩ = some s3 ∧ W.cell? ⟨A, 4, none⟩ = some s4 ∧ W.cell? ⟨A, 5, none⟩ = some s5 ∧ W.cell? ⟨b, o, none⟩ = some (.int .u16 (x : Int)) ∧ W.cell? ⟨b, o + 1, none⟩ = some (.int .u16 (y : Int)) ∧ JW w0 v l W :=
 ⟨cell_at hW.2 hr rfl, cell_at hW.2 hr rfl, cell_at hW.2 hr rfl, cell_at hW.2 hr rfl, cell_at hW.2 hr rfl, cell_at hW.2 hr rfl, (hW.2.cell (p := ⟨b, o, none⟩) hb).trans h1, (hW.2.cell (p := ⟨b, o + 1, none⟩) hb).trans h2, hW⟩
theorem zF_app (l m : List (Nat × Nat)) : zF (l ++ m) = zF l ++ zF m := by simp [zF]
theorem faultsR_ex (nma : ByteArray) (kda : Int) (mba : Nat) (p3a : Option Addr) (n3a c3a : Nat) (p4a : Option Addr) (n4a c4a : Nat) (p5a : Option Addr) (n5a c5a : Nat) (rda wra : List Nat) (fsa : List (Nat × Nat)) (nmb : ByteArray) (kdb : Int) (mbb : Nat) (p3b : Option Addr) (n3b c3b : Nat) (p4b : Option Addr) (n4b c4b : Nat) (p5b : Option Addr) (n5b c5b : Nat) (rdb wrb : List Nat) (fsb : List (Nat × Nat)) (w : World) (ha : CfgL w nma mba p3a n3a c3a p4a n4a c4a p5a n5a c5a rda wra fsa) (hb : CfgL w nmb mbb p3b n3b c3b p4b n4b c4b p5b n5b c5b rdb wrb fsb) :
  Calls Tryz.prog 46 #[.agg #[.string nma, .int .i64 kda, .int .u16 (mba : Int), .slice p3a n3a c3a, .slice p4a n4a c4a, .slice p5a n5a c5a], .agg #[.string nmb, .int .i64 kdb, .int .u16 (mbb : Int), .slice p3b n3b c3b, .slice p4b n4b c4b, .slice p5b n5b c5b]] w (MR (fjE kda mba rda wra fsa kdb mbb rdb wrb fsb) (fjL kda mba rda wra fsa kdb mbb rdb wrb fsb) w) := by
 obtain ⟨i0, hi, hz0, hz1, hz2⟩ := info_parts Tryz.info69
 have HV := Lib.hid (fun W (hW : Below w.heap.size w W) => bothR_ex nma kda mba p3a n3a c3a p4a n4a c4a p5a n5a c5a rda wra fsa nmb kdb mbb p3b n3b c3b p4b n4b c4b p5b n5b c5b rdb wrb fsb W (ha.below hW) (hb.below hW))
 have HA := Lib.hid ha
 have HBB := Lib.hid hb
 have HO := Lib.hid (And.intro (heap_alloc2_old w (.cells #[.string nma, .int .i64 kda, .int .u16 (mba : Int), .slice p3a n3a c3a, .slice p4a n4a c4a, .slice p5a n5a c5a] 49) (.cells #[.string nmb, .int .i64 kdb, .int .u16 (mbb : Int), .slice p3b n3b c3b, .slice p4b n4b c4b, .slice p5b n5b c5b] 49)) (And.intro (heap_alloc2_new w (.cells #[.string nma, .int .i64 kda, .int .u16 (mba : Int), .slice p3a n3a c3a, .slice p4a n4a c4a, .slice p5a n5a c5a] 49) (.cells #[.string nmb, .int .i64 kdb, .int .u16 (mbb : Int), .slice p3b n3b c3b, .slice p4b n4b c4b, .slice p5b n5b c5b] 49)) (show Below w.heap.size w ((w.alloc (.cells #[.string nma, .int .i64 kda, .int .u16 (mba : Int), .slice p3a n3a c3a, .slice p4a n4a c4a, .slice p5a n5a c5a] 49)).alloc (.cells #[.string nmb, .int .i64 kdb, .int .u16 (mbb : Int), .slice p3b n3b c3b, .slice p4b n4b c4b, .slice p5b n5b c5b] 49)) from ((Below.refl _ _).alloc (Nat.le_refl _) _).alloc (by simp) _)))
 have HE := Lib.hid (show fjE kda mba rda wra fsa kdb mbb rdb wrb fsb = if bothE (valE kda mba rda wra fsa) (valE kdb mbb rdb wrb fsb) ≠ 0 then bothE (valE kda mba rda wra fsa) (valE kdb mbb rdb wrb fsb) else nzE (jfs kda mba kdb mbb fsa fsb) from rfl)
 have HL := Lib.hid (show fjL kda mba rda wra fsa kdb mbb rdb wrb fsb = if bothE (valE kda mba rda wra fsa) (valE kdb mbb rdb wrb fsb) ≠ 0 then [] else nzL (jfs kda mba kdb mbb fsa fsb) from rfl)
 have HZ := Lib.hid (show bothE (valE kda mba rda wra fsa) (valE kdb mbb rdb wrb fsb) = 0 → fsa.length ≤ 100 ∧ fsb.length ≤ 100 from fun h => ⟨fltE_len (valE_flt (bothE_zero h).1), fltE_len (valE_flt (bothE_zero h).2)⟩)
 clear ha hb
 generalize bothE (valE kda mba rda wra fsa) (valE kdb mbb rdb wrb fsb) = E at HV HE HL HZ
 go_enter Tryz.func46, Tryz.ntmps46
 go_upto_region 1 with fail
 revert HO
 generalize (w.alloc (.cells #[.string nma, .int .i64 kda, .int .u16 (mba : Int), .slice p3a n3a c3a, .slice p4a n4a c4a, .slice p5a n5a c5a] 49)).alloc (.cells #[.string nmb, .int .i64 kdb, .int .u16 (mbb : Int), .slice p3b n3b c3b, .slice p4b n4b c4b, .slice p5b n5b c5b] 49) = W0
 intro HO
 obtain ⟨z0, z1, z2, z3, z4, z5⟩ := cs6 HO.out.1
 obtain ⟨y0, y1, y2, y3, y4, y5⟩ := cs6 HO.out.2.1
 by_cases hE : E = 0
 ·have HZ0 := Lib.hid (HZ.out hE)
  subst hE
  go_upto_region 4 with (go_at_call 44; (with_reducible refine (HV.out _ HO.out.2.2).mono ?_); rintro e w1 ⟨rfl, hb1⟩; have HB1 := Lib.hid (HO.out.2.2.trans (hb1.mono HO.out.2.2.size)); have HRA := Lib.hid ((hb1.block _ (gLt HO.out.1)).trans HO.out.1); have HRB := Lib.hid ((hb1.block _ (gLt HO.out.2.1)).trans HO.out.2.1); clear hb1)
  clear z0 z1 z2 z3 z4 z5 y0 y1 y2 y3 y4 y5 HO HV
  have HFA := Lib.hid (HA.out.s5.below HB1.out)
  have HFB := Lib.hid (HBB.out.s5.below HB1.out)
  have hna : n5a ≤ 100 := by rw [← HA.out.l5]; exact HZ0.out.1
  have hnb : n5b ≤ 100 := by rw [← HBB.out.l5]; exact HZ0.out.2
  go_wp2_with fail
  go_loopw [7, 8] (fun v i wr => ∃ (k : Nat) (L : List (Nat × Nat)), k ≤ n5a ∧ i = .int .i64 k ∧ jfs kda mba kdb mbb (fsa.take k) fsb = L ∧ wr.ownsRow w1.heap.size 69 2 v L.length (ftV (zF L)) ∧ Below w1.heap.size w1 wr) (fun _ i _ => n5a - (intOf i).toNat)
  case atStart => exact ⟨0, [], Nat.zero_le _, rfl, rfl, World.ownsRow_nil _ _ _ _, Below.refl _ _⟩
  case round =>
   obtain ⟨k, L0, hk, rfl, hL0, hown, hb⟩ := hrel
   have HL0 := Lib.hid hL0
   have HW := Lib.hid hown
   have HB := Lib.hid hb
   have z5 := cell_at hb HRA.out (j := 5) rfl
   clear hL0 hown hb
   by_cases hkm : k < n5a
   ·have hkl : k < fsa.length := by have := HA.out.l5; omega
    obtain ⟨b, off, rfl, hbb, hx, hy⟩ := HFA.out.at hkl
    have HPS := Lib.hid (jfs_succ (kda := kda) (mba := mba) (kdb := kdb) (mbb := mbb) (g := fsb) hkl)
    obtain ⟨x, y, hg1⟩ : ∃ x y, fsa[k] = (x, y) := ⟨_, _, rfl⟩
    rw [hg1] at hx hy HPS
    simp only at hx hy
    have HXY := Lib.hid (And.intro hx hy)
    have hLn : L0.length = k * n5b := by rw [← HL0.out, jfs_len, List.length_take, HBB.out.l5, HA.out.l5, Nat.min_eq_left hk]
    have hLn2 : k * n5b ≤ 10000 := by
     have h1 : k * n5b ≤ 100 * 100 := Nat.mul_le_mul (by omega) hnb
     omega
    have hLb : L0.length ≤ 10000 := by omega
    clear hx hy hg1 hLn hLn2
    have e1 : (k : Int) < (n5a : Int) := by omega
    have e2 : (0 : Int) ≤ (k : Int) := by omega
    generalize hgv : u7 = v7 at HW ⊢
    clear hgv
    go_wp2_with fail
    clear z5
    go_loopw [7, 9] (fun v i wr => ∃ (j : Nat) (L : List (Nat × Nat)), j ≤ n5b ∧ i = .int .i64 j ∧ L0 ++ (fsb.take j).map (fun t => jfN kda mba kdb mbb (x, y) t) = L ∧ wr.ownsRow w1.heap.size 69 2 v L.length (ftV (zF L)) ∧ Below w1.heap.size w1 wr) (fun _ i _ => n5b - (intOf i).toNat)
    case atStart => exact ⟨0, L0, Nat.zero_le _, rfl, by simp, HW.out, HB.out⟩
    case round =>
     obtain ⟨j, L, hj, rfl, hL, hown, hb⟩ := hrel
     have HLE := Lib.hid hL
     have HW2 := Lib.hid hown
     have HB2 := Lib.hid hb
     have hLl : L.length = L0.length + j := by rw [← hL, List.length_append, List.length_map, List.length_take, HBB.out.l5, Nat.min_eq_left hj]
     have hLl2 : L.length ≤ 10100 := by omega
     have y5 := cell_at hb HRB.out (j := 5) rfl
     clear hL hown hb hLl
     by_cases hjn : j < n5b
     ·have hjl : j < fsb.length := by have := HBB.out.l5; omega
      obtain ⟨b', off', rfl, hbb', hu, hv⟩ := HFB.out.at hjl
      have HSJ := Lib.hid (show L0 ++ (fsb.take (j + 1)).map (fun t => jfN kda mba kdb mbb (x, y) t) = (L0 ++ (fsb.take j).map (fun t => jfN kda mba kdb mbb (x, y) t)) ++ [jfN kda mba kdb mbb (x, y) fsb[j]] by rw [take_snoc hjl, List.map_append, ← List.append_assoc]; rfl)
      obtain ⟨u, q, hg2⟩ : ∃ u q, fsb[j] = (u, q) := ⟨_, _, rfl⟩
      rw [hg2] at hu hv HSJ
      simp only at hu hv
      have HUV := Lib.hid (And.intro hu hv)
      have HJN := Lib.hid (jfN_cast kda mba kdb mbb (x, y) (u, q))
      clear hu hv hg2
      have HQA := Lib.hid (fun W => allowedR_ex nma kda mba p3a n3a c3a p4a n4a c4a (some ⟨b, off, none⟩) n5a c5a x y W)
      have HQB := Lib.hid (fun W => allowedR_ex nmb kdb mbb p3b n3b c3b p4b n4b c4b (some ⟨b', off', none⟩) n5b c5b u q W)
      unfold jfR at HJN
      simp only at HJN
      generalize jfN kda mba kdb mbb (x, y) (u, q) = F at HJN HSJ
      generalize raB kda mba x = ab at HQA HJN
      generalize raF mba x y = af at HQA HJN
      generalize raB kdb mbb u = bb at HQB HJN
      generalize raF mbb u q = bf at HQB HJN
      have e3 : (j : Int) < (n5b : Int) := by omega
      have e4 : (0 : Int) ≤ (j : Int) := by omega
      generalize hgv : u7 = v at HW2 ⊢
      clear hgv
      clear HW HB
      have HJ := Lib.hid (show JW w1 v (zF L) wr from ⟨by rw [zF_len]; exact HW2.out, HB2.out⟩)
      clear HW2
      go_upto_region 11 with fail
      clear y5
      go_region_held3 (fun W => W.cell? ⟨w.heap.size, 0, none⟩ = some (.string nma) ∧ W.cell? ⟨w.heap.size, 1, none⟩ = some (.int .i64 kda) ∧ W.cell? ⟨w.heap.size, 2, none⟩ = some (.int .u16 (mba : Int)) ∧ W.cell? ⟨w.heap.size, 3, none⟩ = some (.slice p3a n3a c3a) ∧ W.cell? ⟨w.heap.size, 4, none⟩ = some (.slice p4a n4a c4a) ∧ W.cell? ⟨w.heap.size, 5, none⟩ = some (.slice (some ⟨b, off, none⟩) n5a c5a) ∧ W.cell? ⟨b, off + k * 2, none⟩ = some (.int .u16 (x : Int)) ∧ W.cell? ⟨b, off + k * 2 + 1, none⟩ = some (.int .u16 (y : Int)) ∧ JW w1 v (zF L) W)
       (first | exact jwS HRA.out hbb HXY.out.1 HXY.out.2 HJ.out | exact jwS HRA.out hbb HXY.out.1 HXY.out.2 (HJ.out.below (below_drew _)) | exact jwS HRA.out hbb HXY.out.1 HXY.out.2 hJ1)
       ((go_at_call 71; (with_reducible refine (HQA.out _).mono ?_); rintro e w2 ⟨rfl, hb2⟩; have hJ1 := (HJ.out.below (below_drew _)).below hb2))
      have HJ1 := Lib.hid hJ1
      clear hJ1 hb2 HJ
      go_upto_region 12 with fail
      go_region_held3 (fun W => W.cell? ⟨(w.heap.size + 1), 0, none⟩ = some (.string nmb) ∧ W.cell? ⟨(w.heap.size + 1), 1, none⟩ = some (.int .i64 kdb) ∧ W.cell? ⟨(w.heap.size + 1), 2, none⟩ = some (.int .u16 (mbb : Int)) ∧ W.cell? ⟨(w.heap.size + 1), 3, none⟩ = some (.slice p3b n3b c3b) ∧ W.cell? ⟨(w.heap.size + 1), 4, none⟩ = some (.slice p4b n4b c4b) ∧ W.cell? ⟨(w.heap.size + 1), 5, none⟩ = some (.slice (some ⟨b', off', none⟩) n5b c5b) ∧ W.cell? ⟨b', off' + j * 2, none⟩ = some (.int .u16 (u : Int)) ∧ W.cell? ⟨b', off' + j * 2 + 1, none⟩ = some (.int .u16 (q : Int)) ∧ JW w1 v (zF L) W)
       (first | exact jwS HRB.out hbb' HUV.out.1 HUV.out.2 HJ1.out | exact jwS HRB.out hbb' HUV.out.1 HUV.out.2 (HJ1.out.below (below_drew _)) | exact jwS HRB.out hbb' HUV.out.1 HUV.out.2 hJ2)
       ((go_at_call 71; (with_reducible refine (HQB.out _).mono ?_); rintro e w3 ⟨rfl, hb3⟩; have hJ2 := (HJ1.out.below (below_drew _)).below hb3))
      have HJ2 := Lib.hid hJ2
      have z2 := cell_at hJ2.2 HRA.out (j := 2) rfl
      have y2 := cell_at hJ2.2 HRB.out (j := 2) rfl
      have hsz3 := hJ2.2.size
      clear hJ2 hb3 HJ1
      go_wp2_with (at_builtin; refine wpList_append_own _ rfl _ _ 47 rfl w1.heap.size 69 i0 (.agg #[.int .u16 0, .int .u16 0]) 2 4 Tryz.underlying47 hi hz0 hz1 hz2 rfl (by decide) _ _ _ rfl (HJ2.out.1.alloc _) ⟨w3.heap.size, 0, none⟩ 1 1 [.int .u16 (bits .and .u16 (bits .and .u16 ab bb) (bits .or .u16 (mba : Int) (mbb : Int))), .int .u16 (bits .andNot .u16 (bits .and .u16 (bits .and .u16 af bf) (bits .or .u16 (mba : Int) (mbb : Int))) (bits .and .u16 ab bb))] rfl rfl ?n1 ?n2 ?n3 ?n4 ?n5 ?_)
      try (case n1 => (intro j u hj; rcases j with _ | _ | j <;> simp at hj <;> (subst hj; simp [Addr.add])))
      try (case n2 => (first | exact ⟨rfl, rfl⟩ | (intro u hu; simp at hu; rcases hu with rfl | rfl <;> rfl)))
      try (case n3 => (have := zF_len L; unfold maxLen; omega))
      try (case n4 => (have := zF_len L; omega))
      try (case n5 => (have := zF_len L; first | omega | (simp; omega)))
      intro v5 w5 hown5 hgrow _
      have hb5 : Below w1.heap.size w1 w5 := below_grown HJ2.out.2 hsz3 HJ2.out.1 hgrow
      have HW5 := Lib.hid (show w5.ownsRow w1.heap.size 69 2 v5 (L ++ [F]).length (ftV (zF (L ++ [F]))) by
       rw [zF_app, ftV_app, List.length_append]
       have h1 := HJN.out.1
       have h2 := HJN.out.2.1
       show w5.ownsRow w1.heap.size 69 2 v5 (L.length + 1) (ftV (zF L) ++ [.int .u16 (F.1 : Int), .int .u16 (F.2 : Int)])
       rw [h1, h2]
       rw [zF_len] at hown5
       exact hown5)
      have HB5 := Lib.hid hb5
      clear hown5 hgrow hb5 z2 y2
      go_wp2_with fail
      go_roundw
      case rel => exact ⟨j + 1, L ++ [F], by omega, by go_num, by rw [HSJ.out, HLE.out], HW5.out, HB5.out⟩
      case measure => simp [intOf]; omega
     ·obtain rfl : j = n5b := by omega
      have hta : fsb.take j = fsb := List.take_of_length_le (by have := HBB.out.l5; omega)
      rw [hta] at HLE
      go_wp2_with fail
      go_roundw
      case rel => exact ⟨k + 1, L, by omega, by go_num, by rw [HPS.out, HL0.out]; exact HLE.out, HW2.out, HB2.out⟩
      case measure => simp [intOf]; omega
   ·obtain rfl : k = n5a := by omega
    have hta : fsa.take k = fsa := List.take_of_length_le (by have := HA.out.l5; omega)
    rw [hta] at HL0
    have hJl : L0.length ≤ 10000 := by
     rw [← HL0.out, jfs_len, HBB.out.l5, HA.out.l5]
     have h1 : k * n5b ≤ 100 * 100 := Nat.mul_le_mul hna hnb
     omega
    have HE1 := Lib.hid (show fjE kda mba rda wra fsa kdb mbb rdb wrb fsb = nzE L0 by rw [HE.out, if_neg (by simp), HL0.out])
    have HL1 := Lib.hid (show fjL kda mba rda wra fsa kdb mbb rdb wrb fsb = nzL L0 by rw [HL.out, if_neg (by simp), HL0.out])
    have HIN := Lib.hid (show InF L0 by rw [← HL0.out]; exact jfs_inF _ _ _ _ _ _)
    obtain ⟨p5, c5, hv5, hs5, hc5, _⟩ := fltL_of_own HW.out
    subst hv5
    have HS5 := Lib.hid hs5
    clear hs5 hta HE HL
    obtain ⟨m, hm⟩ : ∃ m, L0.length = m := ⟨_, rfl⟩
    rw [hm] at hJl hc5
    have HM := Lib.hid hm
    have HQ := Lib.hid (normalizeR_ex p5 m c5 L0 wr (by omega) hm HIN.out HS5.out)
    clear hm HW
    obtain ⟨NE, hNE⟩ : ∃ E, nzE L0 = E := ⟨_, rfl⟩
    obtain ⟨NL, hNL⟩ : ∃ E, nzL L0 = E := ⟨_, rfl⟩
    have HNE := Lib.hid (And.intro hNE hNL)
    rw [hNE, hNL] at HQ
    clear hNE hNL
    go_wp2_with (go_at_call 72; rw [HM.out]; (refine HQ.out.mono ?_); rintro e w2 ⟨p2, n2, c2, rfl, hn2, hc2, hs2, hf2, hb2⟩; have HP2 := Lib.hid (And.intro hn2 (And.intro hc2 (And.intro hs2 (And.intro (hf2.mono (Nat.le_trans HB1.out.size HB.out.size)) (HB1.out.trans ((HB.out.trans (hb2.mono HB.out.size)).mono HB1.out.size)))))); clear hn2 hc2 hs2 hf2 hb2)
    go_ret2
    refine (show MR (fjE kda mba rda wra fsa kdb mbb rdb wrb fsb) (fjL kda mba rda wra fsa kdb mbb rdb wrb fsb) w _ _ from ?_)
    rw [HE1.out, HL1.out, HNE.out.1, HNE.out.2]
    exact ⟨p2, n2, c2, rfl, HP2.out⟩
 ·have e1 : ¬ (E : Int) = 0 := by omega
  have e2 : ((E : Int) != 0) = true := by simp; omega
  have HEE := Lib.hid hE
  clear hE
  go_wp2_with (go_at_call 44; (with_reducible refine (HV.out _ HO.out.2.2).mono ?_); rintro e w1 ⟨rfl, hb1⟩; have HB1 := Lib.hid (HO.out.2.2.trans (hb1.mono HO.out.2.2.size)); clear hb1)
  go_ret2
  refine (show MR (fjE kda mba rda wra fsa kdb mbb rdb wrb fsb) (fjL kda mba rda wra fsa kdb mbb rdb wrb fsb) w _ _ from ?_)
  rw [HE.out, HL.out, if_pos HEE.out, if_pos HEE.out]
  exact ⟨none, 0, 0, rfl, rfl, Nat.le_refl _, .inl rfl, fresh_none _, HB1.out⟩
end Go.Proofs.YtmcnpaehmnadeaaGreatDoor
