/-
  TopTransferred: merkle.Prove, merkle.steps, merkle.climb, exactly.
-/
import Derived.Test.YtnaglmigkbbljaaGreatDoorMaDMaF
import Derived.Laws.CopyRow
import Derived.Laws.IdiomCopy
import Derived.Lib.SliceRun
import Derived.Lib.Overlaps
import Derived.Lib.AppendZerosOnto
import Derived.Laws.NewBlocks
import Derived.Deep.RegionLaw
import Derived.Shelf.RegionOpenPlain
set_option maxHeartbeats 6400000
set_option maxRecDepth 1000000
namespace Go.Proofs.YtnaglmigkbbljaaGreatDoor
open Go Go.RowKit
theorem prove_ex (p : Option Addr) (n cap : Nat) (l : List ByteArray) (i : Nat) (w : World) (hl : l.length = n) (hn : n ≤ 1048576) (hi : i < n) (hz : SzL 1000000 l) (h : StrL w p l) : Calls Tryz.prog 13 #[.slice p n cap, .int .i64 i] w (ProofRet (proofH l i (i + 1)) w) := by
 obtain ⟨k, hk⟩ : ∃ k, k = i + 1 := ⟨_, rfl⟩
 have HP := Lib.hid (proveRange_ex p n cap l i k w hl hn (by omega) (by omega) hz h)
 have HK := Lib.hid hk
 rw [← hk]
 have a0 : ¬ (i : Int) < 0 := by omega
 have a1 : ¬ (i : Int) ≥ (n : Int) := by omega
 have a2 : IntKind.i64.wrap ((i : Int) + 1) = (k : Int) := by rw [IntKind.wrap_i64]; omega
 have a3 : (i : Int) + 1 = (k : Int) := by omega
 clear h hz hl hk
 generalize proofH l i k = P at HP ⊢
 go_enter Tryz.func13, Tryz.ntmps13
 go_wp2_with (go_at_call 11; refine HP.out.mono ?_; rintro e w1 ⟨v, rfl, ho, hb⟩)
 go_ret2
 exact ⟨v, rfl, ho, hb⟩
theorem steps_succ (f n i : Nat) (h : ¬ n ≤ 1) : Mk.steps (f + 1) n i = (if i % 2 = 1 ∨ i + 1 < n then 1 else 0) + Mk.steps f ((n + 1) / 2) (i / 2) := by rw [Mk.steps, if_neg h]
theorem steps_one (f n i : Nat) (h : n ≤ 1) : Mk.steps f n i = 0 := by
 cases f with
 | zero => rfl
 | succ f => rw [Mk.steps, if_pos h]
theorem steps_ex (n i : Nat) (w : World) (hn : n ≤ 1048576) (hi : i < n) : Calls Tryz.prog 43 #[.int .i64 n, .int .i64 i] w (fun e w' => e = .returned (.int .i64 (Mk.steps n n i : Nat)) ∧ w' = w) := by
 obtain ⟨T, hT⟩ : ∃ T, T = Mk.steps n n i := ⟨_, rfl⟩
 rw [← hT]
 go_enter Tryz.func43, Tryz.ntmps43
 go_wp2_with fail
 go_loopw [0, 1, 5] (fun x0 x1 x5 wr => ∃ f n' i' o : Nat, x0 = .int .i64 n' ∧ x1 = .int .i64 i' ∧ x5 = .int .i64 o ∧ n' ≤ f + 1 ∧ i' < n' ∧ n' ≤ 1048576 ∧ o ≤ 1048576 - n' ∧ o + Mk.steps f n' i' = T ∧ wr = w) (fun x0 _ _ _ => (intOf x0).toNat)
 case atStart => exact ⟨n, n, i, 0, rfl, rfl, rfl, by omega, hi, hn, by omega, by omega, rfl⟩
 case round =>
  obtain ⟨f, n', i', o, rfl, rfl, rfl, hf, hi', hn', ho, hT', rfl⟩ := hrel
  have HT := Lib.hid hT'
  clear hT' hT
  by_cases h1 : 1 < n'
  ·obtain ⟨f2, rfl⟩ : ∃ f2, f = f2 + 1 := ⟨f - 1, by omega⟩
   have e1 : (1 : Int) < (n' : Int) := by omega
   have HT2 := HT.out
   rw [steps_succ _ _ _ (by omega)] at HT2
   by_cases hi2 : i' % 2 = 1
   ·have ei : (i' : Int) % 2 = 1 := by omega
    rw [if_pos (.inl hi2)] at HT2
    have HT3 := Lib.hid HT2
    clear HT2 HT
    go_wp2_with fail
    go_roundw
    case rel => exact ⟨f2, (n' + 1) / 2, i' / 2, o + 1, by go_num, by go_num, by go_num, by omega, by omega, by omega, by omega, by have := HT3.out; omega, by first | rfl | trivial⟩
    case measure => simp [intOf]; omega
   ·have ei : ¬ (i' : Int) % 2 = 1 := by omega
    by_cases h2 : i' + 1 < n'
    ·have ek : (i' : Int) + 1 < (n' : Int) := by omega
     rw [if_pos (.inr h2)] at HT2
     have HT3 := Lib.hid HT2
     clear HT2 HT
     go_wp2_with fail
     go_roundw
     case rel => exact ⟨f2, (n' + 1) / 2, i' / 2, o + 1, by go_num, by go_num, by go_num, by omega, by omega, by omega, by omega, by have := HT3.out; omega, by first | rfl | trivial⟩
     case measure => simp [intOf]; omega
    ·have ek : ¬ (i' : Int) + 1 < (n' : Int) := by omega
     rw [if_neg (by omega)] at HT2
     have HT3 := Lib.hid HT2
     clear HT2 HT
     go_wp2_with fail
     go_roundw
     case rel => exact ⟨f2, (n' + 1) / 2, i' / 2, o, by go_num, by go_num, rfl, by omega, by omega, by omega, by omega, by have := HT3.out; omega, by first | rfl | trivial⟩
     case measure => simp [intOf]; omega
  ·have ho2 : o = T := by have := HT.out; rw [steps_one f n' i' (by omega)] at this; exact this
   have e1 : ¬ (1 : Int) < (n' : Int) := by omega
   subst ho2
   clear HT
   go_wp2_with fail
   go_ret
   exact ⟨rfl, rfl⟩
def textsH (n i : Nat) (s : ByteArray) (pf : List ByteArray) : List ByteArray :=
 leafT s :: ((Mk.climb nodeH n n i (leafH s) pf).1.map fun p => nodeT p.1 p.2) ++ [rootT n (Mk.climb nodeH n n i (leafH s) pf).2]
structure CW (w : World) (T : List ByteArray) (N f size i m : Nat) (v : Value) (q : Option Addr) (node : ByteArray) (acc pf : List ByteArray) (W : World) : Prop where
 all : acc ++ ((Mk.climb nodeH f size i node pf).1.map fun p => nodeT p.1 p.2) ++ [rootT N (Mk.climb nodeH f size i node pf).2] = T
 nd : node.size = 64
 len : pf.length = m
 stp : m = Mk.steps f size i
 dig : DigL pf
 prf : StrL w q pf
 own : W.ownsRow w.heap.size 9 1 v acc.length (strV acc)
 bl : Below w.heap.size w W
theorem climb_odd {f size i : Nat} {x p : ByteArray} {r : List ByteArray} (h : 1 < size) (hi : i % 2 = 1) : Mk.climb nodeH (f + 1) size i x (p :: r) = ((p, x) :: (Mk.climb nodeH f ((size + 1) / 2) (i / 2) (nodeH p x) r).1, (Mk.climb nodeH f ((size + 1) / 2) (i / 2) (nodeH p x) r).2) := by
 rw [Mk.climb_succ, if_neg (by omega)]
 simp only [if_pos hi]
theorem climb_even {f size i : Nat} {x p : ByteArray} {r : List ByteArray} (h : 1 < size) (hi : ¬ i % 2 = 1) (h2 : i + 1 < size) : Mk.climb nodeH (f + 1) size i x (p :: r) = ((x, p) :: (Mk.climb nodeH f ((size + 1) / 2) (i / 2) (nodeH x p) r).1, (Mk.climb nodeH f ((size + 1) / 2) (i / 2) (nodeH x p) r).2) := by
 rw [Mk.climb_succ, if_neg (by omega)]
 simp only [if_neg hi, if_pos h2]
theorem climb_skip {f size i : Nat} {x : ByteArray} {pf : List ByteArray} (h : 1 < size) (hi : ¬ i % 2 = 1) (h2 : ¬ i + 1 < size) : Mk.climb nodeH (f + 1) size i x pf = Mk.climb nodeH f ((size + 1) / 2) (i / 2) x pf := by
 rw [Mk.climb_succ, if_neg (by omega)]
 cases pf with
 | nil => simp only; rw [if_neg (by omega)]
 | cons p r => simp only [if_neg hi, if_neg h2]
theorem climb_end {f size i : Nat} {x : ByteArray} {pf : List ByteArray} (h : ¬ 1 < size) : Mk.climb nodeH f size i x pf = ([], x) := by
 cases f with
 | zero => rfl
 | succ f => rw [Mk.climb_succ, if_pos (by omega)]
end Go.Proofs.YtnaglmigkbbljaaGreatDoor
/-
  TopTransferred: merkle.climb, exactly (printed by mkMaH.py).
-/
namespace Go.Proofs.YtnaglmigkbbljaaGreatDoor
open Go Go.RowKit
theorem CW.step {w W W' : World} {T : List ByteArray} {N f size i m m' c g : Nat} {v : Value} {q : Option Addr} {node x y : ByteArray} {acc pf r : List ByteArray} {f2 : Nat} (h : CW w T N f size i m v q node acc pf W)
  (hc : Mk.climb nodeH f size i node pf = ((x, y) :: (Mk.climb nodeH f2 ((size + 1) / 2) (i / 2) (nodeH x y) r).1, (Mk.climb nodeH f2 ((size + 1) / 2) (i / 2) (nodeH x y) r).2))
  {q' : Option Addr} (hd : DigL r) (hp : StrL w q' r) (hl : r.length = m') (hs : m' = Mk.steps f2 ((size + 1) / 2) (i / 2)) (hb : Below W.heap.size W W')
  {k : Nat} (hk : acc.length = k) {W2 : World} (ho : W2.ownsRow w.heap.size 9 1 (.slice (some ⟨g, 0, none⟩) (k + 1) c) (k + 1) (strV (acc ++ [nodeT x y]))) (hg : W'.grownBy W2 v.ownBlock) :
  CW w T N f2 ((size + 1) / 2) (i / 2) m' (.slice (some ⟨g, 0, none⟩) (k + 1) c) q' (nodeH x y) (acc ++ [nodeT x y]) r W2 := by
 refine ⟨?_, by unfold nodeH; rw [hexF_size], hl, hs, hd, hp, by rw [List.length_append, hk]; exact ho, below_own (h.bl.trans (hb.mono h.bl.size)) (own_below h.own hb) (Nat.le_refl _) hg⟩
 have := h.all
 rw [hc] at this
 simp only [List.map_cons] at this
 simpa using this
theorem climb_ex (n i : Nat) (s : ByteArray) (q : Option Addr) (m cq : Nat) (pf : List ByteArray) (w : World) (hn : n ≤ 1048576) (hi : i < n) (hs : s.size ≤ 1000000) (hl : pf.length = m) (hmc : m ≤ cq) (hm : m = Mk.steps n n i) (hm2 : m ≤ 1048576) (hd : DigL pf) (hp : StrL w q pf) (hG : GL w) :
  Calls Tryz.prog 45 #[.int .i64 n, .int .i64 i, .string s, .slice q m cq] w (StrsRet (textsH n i s pf) w) := by
 obtain ⟨T, hT⟩ : ∃ T, T = textsH n i s pf := ⟨_, rfl⟩
 have HTE := Lib.hid hT
 have HT0 := Lib.hid (show [leafT s] ++ ((Mk.climb nodeH n n i (leafH s) pf).1.map fun p => nodeT p.1 p.2) ++ [rootT n (Mk.climb nodeH n n i (leafH s) pf).2] = T from by rw [hT]; rfl)
 have HD := Lib.hid hd
 have HP := Lib.hid hp
 have HG := Lib.hid hG
 have HM := Lib.hid hm
 have hls : (leafT s).size ≤ 1048576 := by rw [leafT_size]; omega
 have HX := Lib.hid (fun W => show Calls Tryz.prog 15 #[.string (leafT s)] W (IsS (leafH s) W) from hex_ex (leafT s) W hls)
 have HL := Lib.hid (leaf_ex s w (by omega))
 have hnd : (leafH s).size = 64 := by unfold leafH; rw [hexF_size]
 clear hT hd hp hG hm
 generalize leafH s = nd0 at HT0 HX hnd
 generalize leafT s = lt at HT0 HX HL hls
 go_enter Tryz.func45, Tryz.ntmps45
 go_upto_region 2 with (go_at_call 93; refine HL.out.mono ?_; rintro e w1 ⟨rfl, hw⟩; obtain rfl := hw.symm)
 have HO1 := Lib.hid (show (w.alloc (.cells #[.string lt] 9)).ownsRow w.heap.size 9 1 (.slice (some ⟨w.heap.size, 0, none⟩) 1 1) 1 [.string lt] from ⟨rfl, .inr ⟨_, _, _, rfl, Nat.le_refl _, heap_alloc_new w _, Nat.le_refl _, by unfold maxLen; omega, rfl, rfl⟩⟩)
 have HB1 := Lib.hid ((Below.refl _ w).alloc (Nat.le_refl _) (.cells #[.string lt] 9))
 have hc0 : (w.alloc (.cells #[.string lt] 9)).cell? ⟨w.heap.size, 0, none⟩ = some (.string lt) := cellOf (heap_alloc_new w _) rfl
 generalize w.alloc (.cells #[.string lt] 9) = w1 at HO1 HB1 hc0 ⊢
 go_upto_block 0 with (go_at_call 15; refine (HX.out _).mono ?_; rintro e w2 ⟨rfl, hb2⟩)
 have HW2 := Lib.hid (show CW w T n n n i m (.slice (some ⟨w.heap.size, 0, none⟩) 1 1) q nd0 [lt] pf w2 from ⟨HT0.out, hnd, hl, HM.out, HD.out, HP.out, own_below HO1.out hb2, HB1.out.trans (hb2.mono HB1.out.size)⟩)
 clear HO1 HB1 hc0 hb2 HX HL HT0 HD HP HM
 go_wp2_with fail
 go_loopw [1, 3, 9, 10, 11] (fun x1 x3 x9 x10 x11 wr => ∃ (f i size m cq k : Nat) (q' : Option Addr) (node : ByteArray) (acc pf : List ByteArray), x1 = .int .i64 i ∧ x3 = .slice q' m cq ∧ x10 = .string node ∧ x11 = .int .i64 size ∧ acc.length = k ∧ size ≤ f + 1 ∧ i < size ∧ size ≤ n ∧ m ≤ cq ∧ m ≤ 1048576 ∧ k ≤ 1 + (n - size) ∧ CW w T n f size i m x9 q' node acc pf wr) (fun _ _ _ _ x11 _ => (intOf x11).toNat)
 case atStart => exact ⟨n, i, n, m, cq, 1, q, nd0, [lt], pf, rfl, rfl, rfl, rfl, rfl, by omega, hi, by omega, hmc, hm2, by omega, HW2.out⟩
 case round =>
  clear HW2 hl hmc hm2
  obtain ⟨f, i, size, m, cq, k, q', node, acc, pf, rfl, rfl, rfl, rfl, hk, hf, hi, hsz, hmc, hm2, hkb, hW⟩ := hrel
  have HW := Lib.hid hW
  have hns := hW.nd
  clear hW
  by_cases h1 : 1 < size
  ·obtain ⟨f2, rfl⟩ : ∃ f2, f = f2 + 1 := ⟨f - 1, by omega⟩
   have e1 : (1 : Int) < (size : Int) := by omega
   by_cases hi2 : i % 2 = 1
   ·have ei : (i : Int) % 2 = 1 := by omega
    have HST := Lib.hid (show m = 1 + Mk.steps f2 ((size + 1) / 2) (i / 2) by rw [HW.out.stp, steps_succ _ _ _ (by omega), if_pos (.inl hi2)])
    cases pf with
    | nil =>
     exfalso
     have h3 := HW.out.len
     have h4 := HST.out
     simp at h3
     omega
    | cons x r =>
     have hmr : m = r.length + 1 := by have := HW.out.len; simpa using this.symm
     have ep1 : (0 : Int) < (m : Int) := by omega
     have ep2 : (1 : Int) ≤ (m : Int) := by omega
     have ep3 : (m : Int) ≤ (cq : Int) := by omega
     obtain ⟨qb, qo, rfl, hqb, hqc⟩ := HW.out.prf.at (j := 0) (by simp)
     have hq0 : w.cell? ⟨qb, qo, none⟩ = some (.string x) := hqc 0 (by simp)
     have hq1 := (HW.out.bl.cell (p := ⟨qb, qo, none⟩) hqb).trans hq0
     have hxs : x.size ≤ 64 := HW.out.dig.size x (by simp)
     have HMR := Lib.hid hmr
     have HPR := Lib.hid (HW.out.prf.tail' (c := cq) (by omega))
     have HNX := Lib.hid (inner_ex x node wr (by omega) (by omega))
     have hls : (nodeT x node).size ≤ 1048576 := by rw [nodeT_size]; omega
     have HHX := Lib.hid (fun W => show Calls Tryz.prog 15 #[.string (nodeT x node)] W (IsS (nodeH x node) W) from hex_ex (nodeT x node) W hls)
     have HCL := Lib.hid (climb_odd (f := f2) (x := node) (p := x) (r := r) h1 hi2)
     have HWO := Lib.hid (show wr.ownsRow w.heap.size 9 1 u9 k (strV acc) by have := HW.out.own; rwa [hk] at this)
     clear hmr hqc hq0
     obtain ⟨nt, hnt⟩ : ∃ t, t = nodeT x node := ⟨_, rfl⟩
     obtain ⟨nh, hnh⟩ : ∃ t, t = nodeH x node := ⟨_, rfl⟩
     rw [← hnt] at HNX HHX
     rw [← hnh] at HHX
     have HNT := Lib.hid (And.intro hnt hnh)
     clear hnt hnh
     go_upto_region 11 with (go_at_call 94; refine HNX.out.mono ?_; rintro e w3 ⟨rfl, hw⟩; obtain rfl := hw.symm)
     by_cases hc1 : cq = 1
     ·have HPR : StrL w (some ⟨qb, qo, none⟩) r := by have := HPR.out; rwa [if_pos hc1] at this
      have hr0 : r = [] := List.eq_nil_of_length_eq_zero (by have := HMR.out; omega)
      subst hc1
      go_region_held3 (fun _ => True) (first | trivial)
       (first | (go_at_call 15; refine (HHX.out _).mono ?_; rintro e w4 ⟨rfl, hb4⟩))
      all_goals
       have hb4 : Below wr.heap.size wr w4 := (below_drew wr).trans hb4
       have HO4 := Lib.hid (own_below HWO.out hb4)
       have hbs4 : w.heap.size ≤ w4.heap.size := Nat.le_trans HW.out.bl.size hb4.size
       clear hq1 ep1 ep2 ep3 ei
       go_wp2_with (at_builtin; refine appS (w := w4) rfl _ _ rfl rfl HO4.out rfl hk (by omega) hbs4 ?_; intro g7 c7 w7 hown7 hgr7 hat7)
       go_roundw
       case rel =>
        obtain ⟨y1, y2⟩ := HNT.out
        have z3 := HMR.out
        have z4 := HST.out
        subst y1 y2
        exact ⟨f2, i / 2, (size + 1) / 2, 0, 0, k + 1, some ⟨qb, qo, none⟩, nodeH x node, acc ++ [nodeT x node], r, by go_num, rfl, rfl, by go_num, by rw [List.length_append, hk]; rfl, by omega, by omega, by omega, by omega, by omega, by omega,
         CW.step HW.out HCL.out (fun z hz => HW.out.dig z (List.mem_cons_of_mem _ hz)) HPR (by omega) (by omega) hb4 hk hown7 hgr7⟩
       case measure => simp [intOf]; omega
     ·have HPR : StrL w (some ⟨qb, qo + 1, none⟩) r := by have := HPR.out; rwa [if_neg hc1] at this
      go_region_held3 (fun _ => True) (first | trivial)
       (first | (go_at_call 15; refine (HHX.out _).mono ?_; rintro e w4 ⟨rfl, hb4⟩))
      all_goals
       have hb4 : Below wr.heap.size wr w4 := (below_drew wr).trans hb4
       have HO4 := Lib.hid (own_below HWO.out hb4)
       have hbs4 : w.heap.size ≤ w4.heap.size := Nat.le_trans HW.out.bl.size hb4.size
       clear hq1 ep1 ep2 ep3 ei
       go_wp2_with (at_builtin; refine appS (w := w4) rfl _ _ rfl rfl HO4.out rfl hk (by omega) hbs4 ?_; intro g7 c7 w7 hown7 hgr7 hat7)
       go_roundw
       case rel =>
        obtain ⟨y1, y2⟩ := HNT.out
        have z3 := HMR.out
        have z4 := HST.out
        subst y1 y2
        exact ⟨f2, i / 2, (size + 1) / 2, m - 1, cq - 1, k + 1, some ⟨qb, qo + 1, none⟩, nodeH x node, acc ++ [nodeT x node], r, by go_num, rfl, rfl, by go_num, by rw [List.length_append, hk]; rfl, by omega, by omega, by omega, by omega, by omega, by omega,
         CW.step HW.out HCL.out (fun z hz => HW.out.dig z (List.mem_cons_of_mem _ hz)) HPR (by omega) (by omega) hb4 hk hown7 hgr7⟩
       case measure => simp [intOf]; omega
   ·have ei : ¬ (i : Int) % 2 = 1 := by omega
    by_cases h2 : i + 1 < size
    ·have ej : (i : Int) + 1 < (size : Int) := by omega
     have HST := Lib.hid (show m = 1 + Mk.steps f2 ((size + 1) / 2) (i / 2) by rw [HW.out.stp, steps_succ _ _ _ (by omega), if_pos (.inr h2)])
     cases pf with
     | nil =>
      exfalso
      have h3 := HW.out.len
      have h4 := HST.out
      simp at h3
      omega
     | cons x r =>
      have hmr : m = r.length + 1 := by have := HW.out.len; simpa using this.symm
      have ep1 : (0 : Int) < (m : Int) := by omega
      have ep2 : (1 : Int) ≤ (m : Int) := by omega
      have ep3 : (m : Int) ≤ (cq : Int) := by omega
      obtain ⟨qb, qo, rfl, hqb, hqc⟩ := HW.out.prf.at (j := 0) (by simp)
      have hq0 : w.cell? ⟨qb, qo, none⟩ = some (.string x) := hqc 0 (by simp)
      have hq1 := (HW.out.bl.cell (p := ⟨qb, qo, none⟩) hqb).trans hq0
      have hxs : x.size ≤ 64 := HW.out.dig.size x (by simp)
      have HMR := Lib.hid hmr
      have HPR := Lib.hid (HW.out.prf.tail' (c := cq) (by omega))
      have HNX := Lib.hid (inner_ex node x wr (by omega) (by omega))
      have hls : (nodeT node x).size ≤ 1048576 := by rw [nodeT_size]; omega
      have HHX := Lib.hid (fun W => show Calls Tryz.prog 15 #[.string (nodeT node x)] W (IsS (nodeH node x) W) from hex_ex (nodeT node x) W hls)
      have HCL := Lib.hid (climb_even (f := f2) (x := node) (p := x) (r := r) h1 hi2 h2)
      have HWO := Lib.hid (show wr.ownsRow w.heap.size 9 1 u9 k (strV acc) by have := HW.out.own; rwa [hk] at this)
      clear hmr hqc hq0
      obtain ⟨nt, hnt⟩ : ∃ t, t = nodeT node x := ⟨_, rfl⟩
      obtain ⟨nh, hnh⟩ : ∃ t, t = nodeH node x := ⟨_, rfl⟩
      rw [← hnt] at HNX HHX
      rw [← hnh] at HHX
      have HNT := Lib.hid (And.intro hnt hnh)
      clear hnt hnh
      go_upto_region 11 with (go_at_call 94; refine HNX.out.mono ?_; rintro e w3 ⟨rfl, hw⟩; obtain rfl := hw.symm)
      by_cases hc1 : cq = 1
      ·have HPR : StrL w (some ⟨qb, qo, none⟩) r := by have := HPR.out; rwa [if_pos hc1] at this
       have hr0 : r = [] := List.eq_nil_of_length_eq_zero (by have := HMR.out; omega)
       subst hc1
       go_region_held3 (fun _ => True) (first | trivial)
        (first | (go_at_call 15; refine (HHX.out _).mono ?_; rintro e w4 ⟨rfl, hb4⟩))
       all_goals
        have hb4 : Below wr.heap.size wr w4 := (below_drew wr).trans hb4
        have HO4 := Lib.hid (own_below HWO.out hb4)
        have hbs4 : w.heap.size ≤ w4.heap.size := Nat.le_trans HW.out.bl.size hb4.size
        clear hq1 ep1 ep2 ep3 ei ej
        go_wp2_with (at_builtin; refine appS (w := w4) rfl _ _ rfl rfl HO4.out rfl hk (by omega) hbs4 ?_; intro g7 c7 w7 hown7 hgr7 hat7)
        go_roundw
        case rel =>
         obtain ⟨y1, y2⟩ := HNT.out
         have z3 := HMR.out
         have z4 := HST.out
         subst y1 y2
         exact ⟨f2, i / 2, (size + 1) / 2, 0, 0, k + 1, some ⟨qb, qo, none⟩, nodeH node x, acc ++ [nodeT node x], r, by go_num, rfl, rfl, by go_num, by rw [List.length_append, hk]; rfl, by omega, by omega, by omega, by omega, by omega, by omega,
          CW.step HW.out HCL.out (fun z hz => HW.out.dig z (List.mem_cons_of_mem _ hz)) HPR (by omega) (by omega) hb4 hk hown7 hgr7⟩
        case measure => simp [intOf]; omega
      ·have HPR : StrL w (some ⟨qb, qo + 1, none⟩) r := by have := HPR.out; rwa [if_neg hc1] at this
       go_region_held3 (fun _ => True) (first | trivial)
        (first | (go_at_call 15; refine (HHX.out _).mono ?_; rintro e w4 ⟨rfl, hb4⟩))
       all_goals
        have hb4 : Below wr.heap.size wr w4 := (below_drew wr).trans hb4
        have HO4 := Lib.hid (own_below HWO.out hb4)
        have hbs4 : w.heap.size ≤ w4.heap.size := Nat.le_trans HW.out.bl.size hb4.size
        clear hq1 ep1 ep2 ep3 ei ej
        go_wp2_with (at_builtin; refine appS (w := w4) rfl _ _ rfl rfl HO4.out rfl hk (by omega) hbs4 ?_; intro g7 c7 w7 hown7 hgr7 hat7)
        go_roundw
        case rel =>
         obtain ⟨y1, y2⟩ := HNT.out
         have z3 := HMR.out
         have z4 := HST.out
         subst y1 y2
         exact ⟨f2, i / 2, (size + 1) / 2, m - 1, cq - 1, k + 1, some ⟨qb, qo + 1, none⟩, nodeH node x, acc ++ [nodeT node x], r, by go_num, rfl, rfl, by go_num, by rw [List.length_append, hk]; rfl, by omega, by omega, by omega, by omega, by omega, by omega,
          CW.step HW.out HCL.out (fun z hz => HW.out.dig z (List.mem_cons_of_mem _ hz)) HPR (by omega) (by omega) hb4 hk hown7 hgr7⟩
        case measure => simp [intOf]; omega
    ·have ej : ¬ (i : Int) + 1 < (size : Int) := by omega
     have HW3 := Lib.hid (show CW w T n f2 ((size + 1) / 2) (i / 2) m u9 q' node acc pf wr from ⟨by rw [← climb_skip h1 hi2 h2]; exact HW.out.all, hns, HW.out.len, by rw [HW.out.stp, steps_succ _ _ _ (by omega), if_neg (by omega)]; omega, HW.out.dig, HW.out.prf, HW.out.own, HW.out.bl⟩)
     clear HW
     go_wp2_with fail
     go_roundw
     case rel => exact ⟨f2, i / 2, (size + 1) / 2, m, cq, k, q', node, acc, pf, by go_num, rfl, rfl, by go_num, hk, by omega, by omega, by omega, hmc, hm2, by omega, HW3.out⟩
     case measure => simp [intOf]; omega
  ·have hT := HW.out.all
   rw [climb_end h1] at hT
   have HT := Lib.hid (show acc ++ [rootT n node] = T by simpa using hT)
   have e1 : ¬ (1 : Int) < (size : Int) := by omega
   have HB := Lib.hid HW.out.bl
   have HO := Lib.hid (show wr.ownsRow w.heap.size 9 1 u9 k (strV acc) by have := HW.out.own; rwa [hk] at this)
   have hbs := HB.out.size
   have HRT := Lib.hid (rootText_ex n node wr hn (by omega) (HG.out.below HB.out))
   clear HW hT
   generalize rootT n node = rt at HT HRT
   go_wp2_with (first
    | (go_at_call 72; refine HRT.out.mono ?_; rintro e w3 ⟨rfl, hb3⟩; have HO3 := Lib.hid (own_below HO.out hb3); have HB3 := Lib.hid (HB.out.trans (hb3.mono HB.out.size)); have hbs3 := HB3.out.size; clear hb3)
    | (at_builtin; refine appS (w := w3) rfl _ _ rfl rfl HO3.out rfl hk (by omega) hbs3 ?_; intro g7 c7 w7 hown7 hgr7 hat7))
   go_ret
   have hlen : T.length = k + 1 := by rw [← HT.out, List.length_append, hk]; rfl
   exact ⟨_, rfl, by rw [← HTE.out, hlen, ← HT.out]; exact hown7, below_own HB3.out HO3.out (Nat.le_refl _) hgr7⟩
end Go.Proofs.YtnaglmigkbbljaaGreatDoor
/-
  TopTransferred: two ways up from two different leaves to one root hold two different strings with one digest.
-/
namespace Go.Proofs.YtnaglmigkbbljaaGreatDoor
open Go Go.RowKit
theorem ba_ext {a b : ByteArray} (h : a.data.toList = b.data.toList) : a = b := by
 cases a
 cases b
 simp only at h
 congr 1
 exact Array.toList_inj.mp h
theorem ba_append (a b : ByteArray) : (a ++ b).data.toList = a.data.toList ++ b.data.toList := by simp
theorem leafT_inj {a b : ByteArray} (h : leafT a = leafT b) : a = b := by
 have := congrArg (fun s => s.data.toList) h
 simp only [leafT, ba_append] at this
 exact ba_ext (List.append_cancel_left this)
theorem rootT_inj {n : Nat} {a b : ByteArray} (h : rootT n a = rootT n b) : a = b := by
 have := congrArg (fun s => s.data.toList) h
 simp only [rootT, ba_append] at this
 exact ba_ext (List.append_cancel_left this)
theorem nodeT_inj {a b c d : ByteArray} (hs : a.size = c.size) (h : nodeT a b = nodeT c d) : a = c ∧ b = d := by
 have := congrArg (fun s => s.data.toList) h
 simp only [nodeT, ba_append] at this
 rw [List.append_assoc, List.append_assoc] at this
 have h2 := List.append_inj (List.append_cancel_left this) (by simpa using hs)
 exact ⟨ba_ext h2.1, ba_ext h2.2⟩
theorem leafH_size (s : ByteArray) : (leafH s).size = 64 := by unfold leafH; rw [hexF_size]
theorem nodeH_size (a b : ByteArray) : (nodeH a b).size = 64 := by unfold nodeH; rw [hexF_size]
def topOf (n i : Nat) (s : ByteArray) (pf : List ByteArray) : ByteArray := (Mk.climb nodeH n n i (leafH s) pf).2
theorem texts_len (n i : Nat) (a b : ByteArray) (pf : List ByteArray) (hi : i < n) : (textsH n i a pf).length = (textsH n i b pf).length := by
 simp [textsH, Mk.climb_steps nodeH n n i (leafH a) (leafH b) pf hi]
theorem texts_pos (n i : Nat) (a : ByteArray) (pf : List ByteArray) : 2 ≤ (textsH n i a pf).length := by simp [textsH]
theorem texts_last (n i : Nat) (a : ByteArray) (pf : List ByteArray) : (textsH n i a pf)[(textsH n i a pf).length - 1]? = some (rootT n (topOf n i a pf)) := by
 unfold textsH topOf
 simp
theorem texts_collide (n i : Nat) (a b : ByteArray) (pf : List ByteArray) (hi : i < n) (hd : SzL 64 pf ∧ ∀ p ∈ pf, p.size = 64) (hab : a ≠ b) (hl : hexF (rootT n (topOf n i a pf)) = hexF (rootT n (topOf n i b pf))) :
  ∃ (k : Nat) (x y : ByteArray), (textsH n i a pf)[k]? = some x ∧ (textsH n i b pf)[k]? = some y ∧ x ≠ y ∧ hexF x = hexF y := by
 by_cases h0 : leafH a = leafH b
 ·exact ⟨0, _, _, rfl, rfl, fun e => hab (leafT_inj e), h0⟩
 ·by_cases ht : topOf n i a pf = topOf n i b pf
  ·obtain ⟨k, x, y, u, v, e1, e2, hne, hN, hx, hy, hu, hv⟩ := Mk.climb_meet nodeH (fun s => s.size = 64) (fun _ _ => nodeH_size _ _) n n i _ _ pf hi (leafH_size _) (leafH_size _) hd.2 h0 ht
   obtain ⟨k1, k2⟩ := List.getElem?_eq_some_iff.1 e1
   obtain ⟨k3, k4⟩ := List.getElem?_eq_some_iff.1 e2
   refine ⟨k + 1, nodeT x y, nodeT u v, ?_, ?_, fun e => hne ?_, hN⟩
   ·unfold textsH
    simp only [List.cons_append, List.getElem?_cons_succ]
    rw [List.getElem?_append_left (by simpa using k1), List.getElem?_map, e1]
    rfl
   ·unfold textsH
    simp only [List.cons_append, List.getElem?_cons_succ]
    rw [List.getElem?_append_left (by simpa using k3), List.getElem?_map, e2]
    rfl
   ·obtain ⟨rfl, rfl⟩ := nodeT_inj (hx.trans hu.symm) e
    rfl
  ·refine ⟨(textsH n i a pf).length - 1, _, _, texts_last n i a pf, ?_, fun e => ht (rootT_inj e), hl⟩
   rw [texts_len n i a b pf hi]
   exact texts_last n i b pf
theorem climb_size : ∀ (f n i : Nat) (x : ByteArray) (pf : List ByteArray), x.size = 64 → (∀ p ∈ pf, p.size = 64) → (Mk.climb nodeH f n i x pf).2.size = 64 ∧ ∀ q ∈ (Mk.climb nodeH f n i x pf).1, q.1.size = 64 ∧ q.2.size = 64
 | 0, _, _, x, _, hx, _ => ⟨hx, fun q hq => by cases hq⟩
 | f + 1, n, i, x, pf, hx, hp => by
  rw [Mk.climb_succ]
  by_cases h1 : n ≤ 1
  ·rw [if_pos h1]
   exact ⟨hx, fun q hq => by cases hq⟩
  rw [if_neg h1]
  cases pf with
  | nil =>
   simp only
   split
   ·exact ⟨hx, fun q hq => by cases hq⟩
   ·exact climb_size f _ _ x [] hx hp
  | cons p r =>
   have hpp := hp p (List.mem_cons_self ..)
   have hr : ∀ q ∈ r, q.size = 64 := fun q hq => hp q (List.mem_cons_of_mem _ hq)
   simp only
   split
   ·have := climb_size f ((n + 1) / 2) (i / 2) (nodeH p x) r (nodeH_size _ _) hr
    refine ⟨this.1, fun q hq => ?_⟩
    rcases List.mem_cons.mp hq with rfl | hq
    ·exact ⟨hpp, hx⟩
    ·exact this.2 q hq
   ·split
    ·have := climb_size f ((n + 1) / 2) (i / 2) (nodeH x p) r (nodeH_size _ _) hr
     refine ⟨this.1, fun q hq => ?_⟩
     rcases List.mem_cons.mp hq with rfl | hq
     ·exact ⟨hx, hpp⟩
     ·exact this.2 q hq
    ·exact climb_size f _ _ x (p :: r) hx hp
theorem climb_len : ∀ (f n i : Nat) (x : ByteArray) (pf : List ByteArray), (Mk.climb nodeH f n i x pf).1.length ≤ f
 | 0, _, _, _, _ => Nat.le_refl _
 | f + 1, n, i, x, pf => by
  rw [Mk.climb_succ]
  by_cases h1 : n ≤ 1
  ·rw [if_pos h1]; exact Nat.zero_le _
  rw [if_neg h1]
  cases pf with
  | nil =>
   simp only
   split
   ·exact Nat.zero_le _
   ·exact Nat.le_succ_of_le (climb_len f _ _ x [])
  | cons p r =>
   simp only
   split
   ·exact Nat.succ_le_succ (climb_len f _ _ _ r)
   ·split
    ·exact Nat.succ_le_succ (climb_len f _ _ _ r)
    ·exact Nat.le_succ_of_le (climb_len f _ _ x (p :: r))
theorem texts_le (n i : Nat) (a : ByteArray) (pf : List ByteArray) : (textsH n i a pf).length ≤ n + 2 := by
 have := climb_len n n i (leafH a) pf
 simp [textsH]
 omega
theorem texts_size (n i : Nat) (a : ByteArray) (pf : List ByteArray) (hn : n ≤ 1048576) (ha : a.size ≤ 1000000) (hp : ∀ p ∈ pf, p.size = 64) : SzL 1048576 (textsH n i a pf) := by
 obtain ⟨h1, h2⟩ := climb_size n n i (leafH a) pf (leafH_size _) hp
 intro s hs
 unfold textsH at hs
 rcases List.mem_append.mp hs with h | h
 ·rcases List.mem_cons.mp h with rfl | h
  ·rw [leafT_size]; omega
  ·obtain ⟨q, hq, rfl⟩ := List.mem_map.mp h
   have := h2 q hq
   rw [nodeT_size]
   omega
 ·rw [List.mem_singleton] at h
  subst h
  have := rootT_size n (Mk.climb nodeH n n i (leafH a) pf).2 hn (by omega)
  omega
end Go.Proofs.YtnaglmigkbbljaaGreatDoor
/-
  TopTransferred: merkle.Collision, where two leaves lead to one root.
-/
namespace Go.Proofs.YtnaglmigkbbljaaGreatDoor
open Go Go.RowKit
def CollRet (w : World) (e : Ending) (w' : World) : Prop := ∃ x y : ByteArray, e = .returned (.tuple #[.string x, .string y, .int .i64 0]) ∧ x ≠ y ∧ hexF x = hexF y ∧ x.size ≤ 1048576 ∧ y.size ≤ 1048576 ∧ Below w.heap.size w w'
theorem two_cells {w W : World} {b o b' o' : Nat} {x y : Value} (hb : b < w.heap.size) (hb' : b' < w.heap.size) (h1 : w.cell? ⟨b, o, none⟩ = some x) (h2 : w.cell? ⟨b', o', none⟩ = some y) (hB : Below w.heap.size w W) : W.cell? ⟨b, o, none⟩ = some x ∧ W.cell? ⟨b', o', none⟩ = some y :=
 ⟨(hB.cell (p := ⟨b, o, none⟩) hb).trans h1, (hB.cell (p := ⟨b', o', none⟩) hb').trans h2⟩
theorem bne_str {x y : ByteArray} (h : x ≠ y) : (x.toList == y.toList) = false := (Lib.bytes_beq_false_iff x y).mpr h
theorem beq_str {x y : ByteArray} (h : x = y) : (x.toList == y.toList) = true := (Lib.bytes_beq_iff x y).mpr h
theorem collision_ex (n i : Nat) (a b : ByteArray) (q : Option Addr) (m cq : Nat) (pf : List ByteArray) (w : World) (hn : n ≤ 1048576) (hi : i < n) (ha : a.size ≤ 1000000) (hb : b.size ≤ 1000000) (hab : a ≠ b) (hl : pf.length = m) (hmc : m ≤ cq) (hm : m = Mk.steps n n i) (hm2 : m ≤ 1048576) (hd : DigL pf) (hp : StrL w q pf) (hG : GL w)
  (hr : hexF (rootT n (topOf n i a pf)) = hexF (rootT n (topOf n i b pf))) :
  Calls Tryz.prog 14 #[.int .i64 n, .int .i64 i, .string a, .slice q m cq, .string b, .slice q m cq] w (CollRet w) := by
 have hp64 : ∀ p ∈ pf, p.size = 64 := fun p hp => by obtain ⟨t, rfl⟩ := hd p hp; exact hexF_size t
 obtain ⟨j0, x0, y0, hj1, hj2, hne0, heq0⟩ := texts_collide n i a b pf hi ⟨hd.size, hp64⟩ hab hr
 have HCA := Lib.hid (fun W (hb : Below w.heap.size w W) => climb_ex n i a q m cq pf W hn hi ha hl hmc hm hm2 hd (hp.below hb) (hG.below hb))
 have HCB := Lib.hid (fun W (hw : Below w.heap.size w W) => climb_ex n i b q m cq pf W hn hi hb hl hmc hm hm2 hd (hp.below hw) (hG.below hw))
 have hzx := texts_size n i a pf hn ha hp64
 have hzy := texts_size n i b pf hn hb hp64
 have hlx := texts_len n i a b pf hi
 have hl2 := texts_pos n i a pf
 have hxl := texts_last n i a pf
 have hyl := texts_last n i b pf
 have HS := Lib.hid (fun W => steps_ex n i W hn hi)
 have HAD := Lib.hid (fun W (hb : Below w.heap.size w W) => areDigests_yes q m cq pf W hl (by omega) hd (hp.below hb))
 have hLb : (textsH n i a pf).length ≤ n + 2 := texts_le n i a pf
 generalize textsH n i a pf = Tx at hj1 HCA hzx hlx hl2 hxl hLb
 generalize textsH n i b pf = Ty at hj2 HCB hzy hlx hyl
 generalize rootT n (topOf n i a pf) = rx at hxl hr
 generalize rootT n (topOf n i b pf) = ry at hyl hr
 have HZX := Lib.hid hzx
 have HZY := Lib.hid hzy
 have HJ := Lib.hid (show ∃ (k : Nat) (x y : ByteArray), Tx[k]? = some x ∧ Ty[k]? = some y ∧ x ≠ y ∧ hexF x = hexF y from ⟨j0, x0, y0, hj1, hj2, hne0, heq0⟩)
 obtain ⟨L, hL⟩ : ∃ L, L = Tx.length := ⟨_, rfl⟩
 rw [← hlx] at hyl
 rw [← hL] at hxl hyl hlx hl2 hLb
 have HXL := Lib.hid (And.intro hxl (And.intro hyl hr))
 have hLx := hL.symm
 have hLy := hlx.symm
 have HM := Lib.hid hm
 have a0 : ¬ (n : Int) < 1 := by omega
 have a1 : ¬ (n : Int) > 1048576 := by omega
 have a2 : ¬ (i : Int) < 0 := by omega
 have a3 : ¬ (i : Int) ≥ (n : Int) := by omega
 have a4 : (a.toList == b.toList) = false := bne_str hab
 rw [← hm] at HS
 clear hzx hzy hj1 hj2 hne0 heq0 hxl hyl hr hd hp hG hl hp64 hm hL hlx
 go_enter Tryz.func14, Tryz.ntmps14
 go_upto_region 9 with (first
  | (go_at_call 43; refine (HS.out _).mono ?_; rintro e w1 ⟨rfl, hw1⟩; obtain rfl := hw1.symm)
  | (go_at_call 44; refine (HAD.out _ (Below.refl _ _)).mono ?_; rintro e w2 ⟨rfl, hb2⟩)
  | (go_at_call 44; refine (HAD.out _ hb2).mono ?_; rintro e w3 ⟨rfl, hb3⟩; have hb3 := hb2.trans (hb3.mono hb2.size)))
 have HB3 := Lib.hid hb3
 have HA := Lib.hid (HCA.out w3 hb3)
 clear hb3 hb2 HCA HS HAD a0 a1 a2 a3 a4
 go_upto_region 10 with (first
  | (go_at_call 45; (with_reducible refine HA.out.mono ?_); rintro e w4 ⟨v4, rfl, ho4, hb4⟩; obtain ⟨px, cx, rfl, hcx, hpx⟩ := strs_slice ho4; have HB4 := Lib.hid (HB3.out.trans (hb4.mono HB3.out.size)); have HCB4 := Lib.hid (HCB.out w4 HB4.out); have HPX := Lib.hid hpx; clear ho4 hb4 hpx)
  | (go_at_call 45; (with_reducible refine HCB4.out.mono ?_); rintro e w5 ⟨v5, rfl, ho5, hb5⟩; obtain ⟨py, cy, rfl, hcy, hpy⟩ := strs_slice ho5; have HB5 := Lib.hid (HB4.out.trans (hb5.mono HB4.out.size)); have HPX5 := Lib.hid (HPX.out.below hb5); have HPY := Lib.hid hpy; clear ho5 hb5 hpy))
 clear HA HB3 HB4 HCB HCB4 HPX
 obtain ⟨xb, xo, rfl, hxb, hxc⟩ := HPX5.out.at (j := 0) (by omega)
 obtain ⟨yb, yo, rfl, hyb, hyc⟩ := HPY.out.at (j := 0) (by omega)
 obtain ⟨z, hz⟩ : ∃ z, z = L - 1 := ⟨_, rfl⟩
 have ez : IntKind.i64.wrap ((L : Int) - 1) = (z : Int) := by rw [IntKind.wrap_i64]; omega
 have ez2 : (L : Int) - 1 = (z : Int) := by omega
 have ez3 : (0 : Int) ≤ (z : Int) := by omega
 have ez4 : (z : Int) < (L : Int) := by omega
 have hzl : z < Tx.length := by omega
 have hzl2 : z < Ty.length := by omega
 rw [← hz] at HXL
 have HX1 := HXL.out.1
 have HX2 := HXL.out.2.1
 rw [List.getElem?_eq_getElem hzl] at HX1
 rw [List.getElem?_eq_getElem hzl2] at HX2
 have hcz := hxc z hzl
 have hcz2 := hyc z hzl2
 rw [Option.some.inj HX1] at hcz
 rw [Option.some.inj HX2] at hcz2
 have hrx : rx.size ≤ 1048576 := by rw [← Option.some.inj HX1]; exact HZX.out _ (List.getElem_mem _)
 have hry : ry.size ≤ 1048576 := by rw [← Option.some.inj HX2]; exact HZY.out _ (List.getElem_mem _)
 have HXC := Lib.hid hxc
 have HYC := Lib.hid hyc
 have HR1 := Lib.hid (fun W => hex_ex rx W hrx)
 have HR2 := Lib.hid (fun W => hex_ex ry W hry)
 rw [← HXL.out.2.2] at HR2
 clear hxc hyc HX1 HX2 hz
 generalize hexF rx = hh at HR1 HR2
 have hS := two_cells hxb hyb hcz hcz2 (below_drew w5)
 have hhb : (hh.toList == hh.toList) = true := beq_str rfl
 go_upto_region 11 with fail
 go_region_held3 (fun W => W.cell? ⟨xb, xo + z, none⟩ = some (.string rx) ∧ W.cell? ⟨yb, yo + z, none⟩ = some (.string ry))
  (first | exact hS | exact two_cells hxb hyb hcz hcz2 HB6.out | exact two_cells hxb hyb hcz hcz2 HB7.out)
  (first
   | (go_at_call 15; (with_reducible refine (HR1.out _).mono ?_); rintro e w6 ⟨rfl, hb6⟩; have HB6 := Lib.hid ((below_drew w5).trans hb6); clear hb6)
   | (go_at_call 15; (with_reducible refine (HR2.out _).mono ?_); rintro e w7 ⟨rfl, hb7⟩; have HB7 := Lib.hid (HB6.out.trans (hb7.mono HB6.out.size)); clear hb7))
 obtain ⟨j0, x0, y0, hj1, hj2, hne0, heq0⟩ := HJ.out
 have hj1l : j0 < L := by rw [← hLx]; exact (List.getElem?_eq_some_iff.mp hj1).1
 have HJ0 := Lib.hid (And.intro hj1 (And.intro hj2 (And.intro hne0 heq0)))
 clear hj1 hj2 hne0 heq0 hcz hcz2 hS ez ez3 ez4 HR1 HR2 HXL
 go_upto_block 1 with fail
 clear hhb ez2
 go_wp2_with fail
 go_loopw [89] (fun v wr => ∃ k : Nat, k ≤ j0 ∧ v = .int .i64 k ∧ Below w5.heap.size w5 wr) (fun v _ => L - (intOf v).toNat)
 case atStart => exact ⟨0, Nat.zero_le _, rfl, HB7.out⟩
 case round =>
  obtain ⟨k, hk, rfl, hbk⟩ := hrel
  have HBK := Lib.hid hbk
  clear hbk
  have hkl : k < L := by omega
  have hkx : k < Tx.length := by omega
  have hky : k < Ty.length := by omega
  have hck := HXC.out k hkx
  have hcy := HYC.out k hky
  have hsx : Tx[k].size ≤ 1048576 := HZX.out _ (List.getElem_mem _)
  have hsy : Ty[k].size ≤ 1048576 := HZY.out _ (List.getElem_mem _)
  have HKJ := Lib.hid (show k = j0 → Tx[k] ≠ Ty[k] ∧ hexF Tx[k] = hexF Ty[k] from fun e => by
   subst e
   obtain ⟨h1, h2, h3, h4⟩ := HJ0.out
   rw [List.getElem?_eq_getElem hkx] at h1
   rw [List.getElem?_eq_getElem hky] at h2
   rw [Option.some.inj h1, Option.some.inj h2]
   exact ⟨h3, h4⟩)
  generalize Tx[k] = x at hck hsx HKJ
  generalize Ty[k] = y at hcy hsy HKJ
  have ek0 : (0 : Int) ≤ (k : Int) := by omega
  have ek1 : (k : Int) < (L : Int) := by omega
  have hS := two_cells hxb hyb hck hcy (below_drewN HBK.out 1)
  by_cases hxy : x = y
  ·have hkj : k ≠ j0 := fun e => (HKJ.out e).1 hxy
   have hbq : (x.toList == y.toList) = true := beq_str hxy
   have hS1 := (two_cells hxb hyb hck hcy HBK.out).1
   have hS2 := (two_cells hxb hyb hck hcy HBK.out).2
   clear hS hck hcy HKJ hxy
   go_upto_region 16 with fail
   go_quiet (fail)
   go_wp2_with fail
   go_roundw
   case rel => exact ⟨k + 1, by omega, by go_num, below_drewN HBK.out nq⟩
   case measure => simp [intOf]; omega
  ·have hbq : (x.toList == y.toList) = false := bne_str hxy
   have HR1 := Lib.hid (fun W => hex_ex x W hsx)
   have HR2 := Lib.hid (fun W => hex_ex y W hsy)
   have HXY := Lib.hid hxy
   have HHE := Lib.hid (show k = j0 → hexF x = hexF y from fun e => (HKJ.out e).2)
   have HGOOD := Lib.hid (fun (h : hexF x = hexF y) => h)
   obtain ⟨hx, hhx⟩ : ∃ h, h = hexF x := ⟨_, rfl⟩
   obtain ⟨hy, hhy⟩ : ∃ h, h = hexF y := ⟨_, rfl⟩
   rw [← hhx] at HR1 HHE HGOOD
   rw [← hhy] at HR2 HHE HGOOD
   have HHX := Lib.hid (And.intro hhx hhy)
   clear hhx hhy HKJ hxy
   by_cases heq : hx = hy
   ·have hhb : (hx.toList == hy.toList) = true := beq_str heq
    go_upto_region 16 with fail
    go_region_held3 (fun W => W.cell? ⟨xb, xo + k, none⟩ = some (.string x) ∧ W.cell? ⟨yb, yo + k, none⟩ = some (.string y))
     (first | exact hS | exact two_cells hxb hyb hck hcy HB8.out | exact two_cells hxb hyb hck hcy HB9.out)
     (first
      | (go_at_call 15; (with_reducible refine (HR1.out _).mono ?_); rintro e w8 ⟨rfl, hb8⟩; have HB8 := Lib.hid ((below_drewN HBK.out 1).trans (hb8.mono HBK.out.size)); clear hb8)
      | (go_at_call 15; (with_reducible refine (HR2.out _).mono ?_); rintro e w9 ⟨rfl, hb9⟩; have HB9 := Lib.hid (HB8.out.trans (hb9.mono HB8.out.size)); clear hb9))
    have hS9 := two_cells hxb hyb hck hcy HB9.out
    have hS91 := hS9.1
    have hS92 := hS9.2
    clear hS hS9 hck hcy hhb
    go_upto_region 17 with fail
    go_quiet (fail)
    go_wp2_with fail
    go_ret3
    obtain ⟨g1, g2⟩ := HHX.out
    exact ⟨x, y, rfl, HXY.out, by rw [← g1, ← g2]; exact heq, hsx, hsy, HB5.out.trans ((below_drewN HB9.out _).mono HB5.out.size)⟩
   ·have hkj : k ≠ j0 := fun e => heq (HHE.out e)
    have hhb : (hx.toList == hy.toList) = false := bne_str heq
    clear HHE HHX
    go_upto_region 16 with fail
    go_region_held3 (fun W => W.cell? ⟨xb, xo + k, none⟩ = some (.string x) ∧ W.cell? ⟨yb, yo + k, none⟩ = some (.string y))
     (first | exact hS | exact two_cells hxb hyb hck hcy HB8.out | exact two_cells hxb hyb hck hcy HB9.out)
     (first
      | (go_at_call 15; (with_reducible refine (HR1.out _).mono ?_); rintro e w8 ⟨rfl, hb8⟩; have HB8 := Lib.hid ((below_drewN HBK.out 1).trans (hb8.mono HBK.out.size)); clear hb8)
      | (go_at_call 15; (with_reducible refine (HR2.out _).mono ?_); rintro e w9 ⟨rfl, hb9⟩; have HB9 := Lib.hid (HB8.out.trans (hb9.mono HB8.out.size)); clear hb9))
    go_wp2_with fail
    go_roundw
    case rel => exact ⟨k + 1, by omega, by go_num, HB9.out⟩
    case measure => simp [intOf]; omega
end Go.Proofs.YtnaglmigkbbljaaGreatDoor
/-
  TopTransferred: transfer.Begin, valid, Missing, exactly.
-/
namespace Go.Proofs.YtnaglmigkbbljaaGreatDoor
open Go Go.RowKit
theorem mk_run (t e : TypeId) (i : TypeInfo) (z : Value) (h1 : Tryz.prog.underlying t = some (.slice e)) (h2 : Tryz.prog.info? e = some i) (h3 : i.zero = some z) (h4 : i.size = 1) (hz : z.cells = #[z]) (n : Nat) (b2 : i.bytes * n ≤ 281474976710656) (b3 : n ≤ 9223372036854775807) (W : World) :
  (Instr.makeSlice t (.int .i64 n) (.int .i64 n)).run Tryz.prog W = .ok (.slice (some ⟨W.heap.size, 0, none⟩) n n) (W.alloc (.cells (List.replicate n z).toArray e)) := by
 have hb : (i.bytes : Int) * (n : Int) ≤ 281474976710656 := by
  have h : ((i.bytes * n : Nat) : Int) ≤ 281474976710656 := by omega
  rwa [Int.natCast_mul] at h
 have hr := run_make (P := Tryz.prog) W t e i z h1 h2 h3 .i64 .i64 n n (by omega) (by omega) hb (by omega)
 have e1 : madeCells z.cells ((n : Int).toNat * i.size) = (List.replicate n z).toArray := by
  rw [h4, hz]
  simp only [Int.toNat_natCast, Nat.mul_one]
  apply Array.ext
  ·simp [madeCells]
  ·intro j h1 h2
   simp [madeCells, Nat.mod_one]
 rw [hr, e1, Int.toNat_natCast]
def boolV (l : List Bool) : List Value := l.map fun b => Value.bool b
def BoolL (W : World) (p : Option Addr) (l : List Bool) : Prop := CL W p (boolV l)
theorem boolV_len (l : List Bool) : (boolV l).length = l.length := by simp [boolV]
def fetV (root : ByteArray) (n : Nat) (cp : Option Addr) (cc : Nat) (hp : Option Addr) (hc : Nat) : Value := .agg #[.string root, .int .i64 n, .slice cp n cc, .slice hp n hc]
structure FetL (W : World) (n : Nat) (cp : Option Addr) (cc : Nat) (hp : Option Addr) (hc : Nat) (cs : List ByteArray) (hv : List Bool) : Prop where
 lc : cs.length = n
 lh : hv.length = n
 cap : n ≤ cc
 cap2 : n ≤ hc
 cl : StrL W cp cs
 bl : BoolL W hp hv
theorem FetL.below {W W' : World} {n : Nat} {cp : Option Addr} {cc : Nat} {hp : Option Addr} {hc : Nat} {cs : List ByteArray} {hv : List Bool} (h : FetL W n cp cc hp hc cs hv) (hb : Below W.heap.size W W') : FetL W' n cp cc hp hc cs hv :=
 ⟨h.lc, h.lh, h.cap, h.cap2, h.cl.below hb, CL.below h.bl hb⟩
def BeginRet (root : ByteArray) (n : Nat) (w : World) (e : Ending) (w' : World) : Prop :=
 ∃ cp cc hp hc, e = .returned (.tuple #[fetV root n cp cc hp hc, .int .i64 0]) ∧ FetL w' n cp cc hp hc (List.replicate n ByteArray.empty) (List.replicate n false) ∧ Below w.heap.size w w'
theorem Tryz.info4 : (Tryz.prog.info? 4).map (fun i => (i.zero, i.size, i.bytes)) = some (some (.bool false), 1, 1) := by kernel_rfl
theorem Tryz.info39 : (Tryz.prog.info? 39).map (·.size) = some 4 := by kernel_rfl
theorem beg_blk {W : World} {b : Nat} {a0 a1 a2 a3 c d e f : Value} {t : TypeId} (h : W.heap[b]? = some (.cells #[a0, a1, a2, a3] t (0, 0))) : Blk ((((W.setCell ⟨b, 0, none⟩ c).setCell ⟨b, 1, none⟩ d).setCell ⟨b, 2, none⟩ e).setCell ⟨b, 3, none⟩ f) b t [c, d, e, f] :=
 ((((show Blk W b t [a0, a1, a2, a3] from h).set 0 c).set 1 d).set 2 e).set 3 f
theorem beg_fet {W : World} {n bA bC : Nat} (kA : Blk W bA 9 (List.replicate n (.string ⟨#[]⟩))) (kC : Blk W bC 4 (List.replicate n (.bool false))) :
  FetL W n (some ⟨bA, 0, none⟩) n (some ⟨bC, 0, none⟩) n (List.replicate n ByteArray.empty) (List.replicate n false) := by
 refine ⟨by simp, by simp, Nat.le_refl _, Nat.le_refl _, ?_, ?_⟩
 ·have := kA.cl
  unfold StrL strV
  rw [List.map_replicate]
  exact this
 ·have := kC.cl
  unfold BoolL boolV
  rw [List.map_replicate]
  exact this
theorem set4_size (W : World) (b : Nat) (c d e f : Value) : ((((W.setCell ⟨b, 0, none⟩ c).setCell ⟨b, 1, none⟩ d).setCell ⟨b, 2, none⟩ e).setCell ⟨b, 3, none⟩ f).heap.size = W.heap.size := by simp [World.setCell]
theorem beg_fin {w w1 : World} {a0 a1 a2 a3 c d e f : Value} {A B : Obj} (h : w1.heap[w.heap.size]? = some (.cells #[a0, a1, a2, a3] 39 (0, 0))) (h1 : Below w.heap.size w w1) {W : World}
  (hW : W = (((((w1.setCell ⟨w.heap.size, 0, none⟩ c).setCell ⟨w.heap.size, 1, none⟩ d).setCell ⟨w.heap.size, 2, none⟩ e).setCell ⟨w.heap.size, 3, none⟩ f).alloc A).alloc B) :
  Blk W w.heap.size 39 [c, d, e, f] ∧ W.heap[w1.heap.size]? = some A ∧ W.heap[w1.heap.size + 1]? = some B ∧ Below w.heap.size w W := by
 have hlt : w.heap.size < w1.heap.size := (Array.getElem?_eq_some_iff.mp h).1
 have hs := set4_size w1 w.heap.size c d e f
 have hk := beg_blk (c := c) (d := d) (e := e) (f := f) h
 have hb : Below w.heap.size w ((((w1.setCell ⟨w.heap.size, 0, none⟩ c).setCell ⟨w.heap.size, 1, none⟩ d).setCell ⟨w.heap.size, 2, none⟩ e).setCell ⟨w.heap.size, 3, none⟩ f) :=
  below_set (below_set (below_set (below_set h1 (p := ⟨w.heap.size, 0, none⟩) (Nat.le_refl _) _) (p := ⟨w.heap.size, 1, none⟩) (Nat.le_refl _) _) (p := ⟨w.heap.size, 2, none⟩) (Nat.le_refl _) _) (p := ⟨w.heap.size, 3, none⟩) (Nat.le_refl _) _
 subst hW
 generalize (((w1.setCell ⟨w.heap.size, 0, none⟩ c).setCell ⟨w.heap.size, 1, none⟩ d).setCell ⟨w.heap.size, 2, none⟩ e).setCell ⟨w.heap.size, 3, none⟩ f = V at hs hk hb ⊢
 have hA := heap_alloc_new V A
 have hB := heap_alloc_new (V.alloc A) B
 rw [World.size_alloc, hs] at hB
 rw [hs] at hA
 have b1 := (Below.refl _ V).alloc (Nat.le_refl _) A
 have b2 := (Below.refl _ (V.alloc A)).alloc (Nat.le_refl _) B
 exact ⟨(hk.below b1).below b2, (b2.block _ (by simp [hs])).trans hA, hB, (hb.alloc hb.size A).alloc (by have := hb.size; simp; omega) B⟩
theorem results_row_tmp {P : Program} {fn : Func} {p u : Tmp} {ty : TypeId} (h : fn.results = #[.cell p ty, .tmp u]) (tmps : Array Value) (w : World) (g : Nat) (t : TypeId) (cs : Array Value) (fr : Nat × Nat) (d : TypeDesc)
  (hp : tmps.getD p undef = .pointer (some ⟨g, 0, none⟩)) (hg : w.heap[g]? = some (.cells cs t fr))
  (hu : P.underlying ty = some d) (hd : (match d with | .struct _ | .array _ _ => true | _ => false) = true) (hi : (P.info? ty).map (·.size) = some cs.size) :
  (results fn tmps).run P w = .ok (.tuple #[.agg cs, tmps.getD u undef]) w := by
 have hp' : tmps[p]?.getD undef = .pointer (some ⟨g, 0, none⟩) := by simpa using hp
 rw [results_cell_tmp h]
 simp [hp', asAddr, run_loadVar_row w g t ty cs fr d hg hu hd hi, Result.andThen]
theorem begin_ex (root : ByteArray) (n : Nat) (w : World) (hn : n ≤ 400) : Calls Tryz.prog 9 #[.string root, .int .i64 n] w (BeginRet root n w) := by
 obtain ⟨i0, hi, hz0, hz1, hz2⟩ := info_parts Tryz.info9
 obtain ⟨i4, hi4, hy0, hy1, hy2⟩ := info_parts Tryz.info4
 have a0 : ¬ (n : Int) < 0 := by omega
 have a1 : ¬ (n : Int) > 400 := by omega
 go_enter Tryz.func9, Tryz.ntmps9
 go_upto_region 3 with fail
 have HB1 := Lib.hid ((Below.refl _ w).alloc (Nat.le_refl _) (.cells #[.string ⟨#[]⟩, .int .i64 0, .slice none 0 0, .slice none 0 0] 39))
 have HR1 := Lib.hid (heap_alloc_new w (.cells #[.string ⟨#[]⟩, .int .i64 0, .slice none 0 0, .slice none 0 0] 39))
 generalize w.alloc (.cells #[.string ⟨#[]⟩, .int .i64 0, .slice none 0 0, .slice none 0 0] 39) = w1 at HB1 HR1 ⊢
 obtain ⟨A, hA⟩ : ∃ A, A = (List.replicate n (Value.string ⟨#[]⟩)).toArray := ⟨_, rfl⟩
 obtain ⟨C, hC⟩ : ∃ C, C = (List.replicate n (Value.bool false)).toArray := ⟨_, rfl⟩
 have mA := mk_run 35 9 i0 (.string ⟨#[]⟩) Tryz.underlying35 hi hz0 hz1 rfl n (by rw [hz2]; omega) (by omega)
 have mC := mk_run 37 4 i4 (.bool false) Tryz.underlying37 hi4 hy0 hy1 rfl n (by rw [hy2]; omega) (by omega)
 rw [← hA] at mA
 rw [← hC] at mC
 have HA := Lib.hid hA
 have HC := Lib.hid hC
 clear hA hC
 have hlt : w.heap.size < w1.heap.size := (Array.getElem?_eq_some_iff.mp HR1.out).1
 have f1 := (Below.refl _ w1).alloc (Nat.le_refl _) (.cells A 9) |>.alloc (by simp) (.cells C 4)
 have f2 := (Below.refl _ w1).alloc (Nat.le_refl _) (.cells C 4) |>.alloc (by simp) (.cells A 9)
 have r1 := (f1.block _ hlt).trans HR1.out
 have r2 := (f2.block _ hlt).trans HR1.out
 have c0 := cellOf HR1.out (j := 0) rfl; have d0 := frozenOf HR1.out (j := 0); have c10 := cellOf r1 (j := 0) rfl; have d10 := frozenOf r1 (j := 0); have c20 := cellOf r2 (j := 0) rfl; have d20 := frozenOf r2 (j := 0)
 have c1 := cellOf HR1.out (j := 1) rfl; have d1 := frozenOf HR1.out (j := 1); have c11 := cellOf r1 (j := 1) rfl; have d11 := frozenOf r1 (j := 1); have c21 := cellOf r2 (j := 1) rfl; have d21 := frozenOf r2 (j := 1)
 have c2 := cellOf HR1.out (j := 2) rfl; have d2 := frozenOf HR1.out (j := 2); have c12 := cellOf r1 (j := 2) rfl; have d12 := frozenOf r1 (j := 2); have c22 := cellOf r2 (j := 2) rfl; have d22 := frozenOf r2 (j := 2)
 have c3 := cellOf HR1.out (j := 3) rfl; have d3 := frozenOf HR1.out (j := 3); have c13 := cellOf r1 (j := 3) rfl; have d13 := frozenOf r1 (j := 3); have c23 := cellOf r2 (j := 3) rfl; have d23 := frozenOf r2 (j := 3)
 have g1 := Lib.hid f1
 have g2 := Lib.hid f2
 have HRA := Lib.hid r1
 have HRC := Lib.hid r2
 clear f1 f2 r1 r2
 go_region
 ·go_wp2_with fail
  obtain ⟨W, hW⟩ : ∃ W, W = (((((w1.setCell ⟨w.heap.size, 0, none⟩ (.string root)).setCell ⟨w.heap.size, 1, none⟩ (.int .i64 n)).setCell ⟨w.heap.size, 2, none⟩ (.slice (some ⟨w1.heap.size, 0, none⟩) n n)).setCell ⟨w.heap.size, 3, none⟩ (.slice (some ⟨w1.heap.size + 1, 0, none⟩) n n)).alloc (.cells A 9)).alloc (.cells C 4) := ⟨_, rfl⟩
  obtain ⟨k1, k2, k3, k4⟩ := beg_fin HR1.out HB1.out hW
  rw [← hW]
  refine bodyPost_ret (results_row_tmp rfl _ _ w.heap.size 39 _ (0, 0) _ rfl (show W.drew.heap[w.heap.size]? = _ from k1) Tryz.underlying39 rfl Tryz.info39) rfl ?_
  refine ⟨some ⟨w1.heap.size, 0, none⟩, n, some ⟨w1.heap.size + 1, 0, none⟩, n, rfl, beg_fet (W := W.drew) ?_ ?_, below_drewN k4 1⟩
  ·exact k2.trans (by rw [HA.out])
  ·exact k3.trans (by rw [HC.out])
 ·go_wp2_with fail
  obtain ⟨W, hW⟩ : ∃ W, W = (((((w1.setCell ⟨w.heap.size, 0, none⟩ (.string root)).setCell ⟨w.heap.size, 1, none⟩ (.int .i64 n)).setCell ⟨w.heap.size, 2, none⟩ (.slice (some ⟨w1.heap.size + 1, 0, none⟩) n n)).setCell ⟨w.heap.size, 3, none⟩ (.slice (some ⟨w1.heap.size, 0, none⟩) n n)).alloc (.cells C 4)).alloc (.cells A 9) := ⟨_, rfl⟩
  obtain ⟨k1, k2, k3, k4⟩ := beg_fin HR1.out HB1.out hW
  rw [← hW]
  refine bodyPost_ret (results_row_tmp rfl _ _ w.heap.size 39 _ (0, 0) _ rfl (show W.drew.heap[w.heap.size]? = _ from k1) Tryz.underlying39 rfl Tryz.info39) rfl ?_
  refine ⟨some ⟨w1.heap.size + 1, 0, none⟩, n, some ⟨w1.heap.size, 0, none⟩, n, rfl, beg_fet (W := W.drew) ?_ ?_, below_drewN k4 1⟩
  ·exact k3.trans (by rw [HA.out])
  ·exact k2.trans (by rw [HC.out])
end Go.Proofs.YtnaglmigkbbljaaGreatDoor
/-
  TopTransferred: rows of elements of three cells; copy at such elements.
-/
namespace Go.Proofs.YtnaglmigkbbljaaGreatDoor
open Go Go.RowKit
theorem run_copy_rowK {P : Program} (w : World) (dT sT ty elem : TypeId) (k g o dLen dCap : Nat) (a : Addr) (sLen sCap : Nat) (cur : Array Value) (t : TypeId) (cs : List Value)
  (hu : P.underlying dT = some (.slice elem)) (hs : (P.info? elem).map (·.size) = some k)
  (hg : w.heap[g]? = some (.cells cur t (0, 0))) (hn : cs.length = Nat.min sLen dLen * k)
  (hsrc : ∀ j v, cs[j]? = some v → w.cell? (a.add j) = some v) (hfit : o + cs.length ≤ cur.size) (h1 : ∀ v ∈ cs, v.oneCell' = true) :
  (Builtin.copy_ #[dT, sT] ty #[.slice (some ⟨g, o, none⟩) dLen dCap, .slice (some a) sLen sCap]).run P w =
   .ok (goInt (Nat.min sLen dLen)) (w.setRow g (cur.toList.take o ++ cs ++ cur.toList.drop (o + cs.length)).toArray) := by
 have hl := run_loadCells_list (P := P) w a cs hsrc
 have hst := run_storeCells_at P g o t cs 0 cur w hg (by simpa using hfit) h1
 cases hq : P.info? elem with
 | none => simp [hq] at hs
 | some i =>
  have hi : i.size = k := by simpa [hq] using hs
  have hn' : min sLen dLen * k = cs.length := hn.symm
  simp [Builtin.copy_, run_underlying hu, Builtin.lenOf, Builtin.firstCells, sizeOf, typeInfo, hq, hi, hn', hl, hst]
def flat {α : Type} (enc : α → List Value) (L : List α) : List Value := L.flatMap enc
structure Enc3 {α : Type} (enc : α → List Value) : Prop where
 len : ∀ x, (enc x).length = 3
 one : ∀ x, ∀ u ∈ enc x, u.oneCell' = true
section
variable {α : Type} {enc : α → List Value}
theorem flat_length (h : Enc3 enc) : ∀ L : List α, (flat enc L).length = L.length * 3
 | [] => rfl
 | x :: t => by
  have := flat_length h t
  unfold flat at *
  rw [List.flatMap_cons, List.length_append, h.len, this, List.length_cons]
  omega
theorem flat_append (A B : List α) : flat enc (A ++ B) = flat enc A ++ flat enc B := by simp [flat]
theorem flat_one (h : Enc3 enc) (L : List α) : ∀ u ∈ flat enc L, u.oneCell' = true := fun u hu => by
 obtain ⟨x, _, hx⟩ := List.mem_flatMap.mp hu
 exact h.one x u hx
theorem flat_take (h : Enc3 enc) (L : List α) (i : Nat) (hi : i ≤ L.length) : (flat enc L).take (i * 3) = flat enc (L.take i) := by
 have h1 : flat enc L = flat enc (L.take i) ++ flat enc (L.drop i) := by rw [← flat_append, List.take_append_drop]
 have hl : (flat enc (L.take i)).length = i * 3 := by rw [flat_length h, List.length_take]; omega
 rw [h1, ← hl, List.take_left]
theorem flat_drop (h : Enc3 enc) (L : List α) (i : Nat) (hi : i ≤ L.length) : (flat enc L).drop (i * 3) = flat enc (L.drop i) := by
 have h1 : flat enc L = flat enc (L.take i) ++ flat enc (L.drop i) := by rw [← flat_append, List.take_append_drop]
 have hl : (flat enc (L.take i)).length = i * 3 := by rw [flat_length h, List.length_take]; omega
 rw [h1, ← hl, List.drop_left]
theorem flat_get (h : Enc3 enc) {L : List α} {i : Nat} {x : α} (hx : L[i]? = some x) {j : Nat} (hj : j < 3) : (flat enc L)[i * 3 + j]? = (enc x)[j]? := by
 obtain ⟨hi, rfl⟩ := List.getElem?_eq_some_iff.mp hx
 rw [← List.getElem?_drop, flat_drop h L i (by omega), List.drop_eq_getElem_cons hi]
 unfold flat
 rw [List.flatMap_cons, List.getElem?_append_left (by rw [h.len]; omega)]
def row1 (enc : α → List Value) (cur : List Value) (L : List α) (i : Nat) : List Value := cur.take ((i + 1) * 3) ++ flat enc (L.drop i) ++ cur.drop ((i + 1) * 3 + (flat enc (L.drop i)).length)
def row2 (enc : α → List Value) (R : List Value) (x : α) (i : Nat) : List Value := R.take (i * 3) ++ enc x ++ R.drop (i * 3 + 3)
theorem row1_len (h : Enc3 enc) {cur : List Value} {L : List α} {i n cap : Nat} (hi : i < n) (hl : n = L.length) (hroom : n + 1 ≤ cap) (hcs : cur.length = cap * 3) : (row1 enc cur L i).length = cap * 3 := by
 unfold row1
 simp only [List.length_append, List.length_take, List.length_drop, flat_length h]
 omega
theorem row2_len (h : Enc3 enc) {R : List Value} {x : α} {i k : Nat} (hR : R.length = k) (hi : i * 3 + 3 ≤ k) : (row2 enc R x i).length = k := by
 unfold row2
 simp only [List.length_append, List.length_take, List.length_drop, h.len]
 omega
theorem row2_take (h : Enc3 enc) {cur : List Value} {L : List α} {i n cap : Nat} {x : α} (hi : i < n) (hl : n = L.length) (hroom : n + 1 ≤ cap) (hcs : cur.length = cap * 3) (hx : cur.take (n * 3) = flat enc L) :
  (row2 enc (row1 enc cur L i) x i).take ((n + 1) * 3) = flat enc (L.take i ++ x :: L.drop i) := by
 have e1 : (row1 enc cur L i).take (i * 3) = flat enc (L.take i) := by
  unfold row1
  rw [List.append_assoc, List.take_append_of_le_length (by rw [List.length_take]; omega), List.take_take, show min (i * 3) ((i + 1) * 3) = i * 3 by omega]
  rw [← flat_take h L i (by omega), ← hx, List.take_take, show min (i * 3) (n * 3) = i * 3 by omega]
 have hl1 : (cur.take ((i + 1) * 3)).length = i * 3 + 3 := by rw [List.length_take]; omega
 have e2 : (row1 enc cur L i).drop (i * 3 + 3) = flat enc (L.drop i) ++ cur.drop ((i + 1) * 3 + (flat enc (L.drop i)).length) := by
  unfold row1
  rw [List.append_assoc, ← hl1, List.drop_left]
 have hl2 : (flat enc (L.drop i)).length = (n - i) * 3 := by rw [flat_length h, List.length_drop]; omega
 have hl3 : (flat enc (L.take i)).length = i * 3 := by rw [flat_length h, List.length_take]; omega
 have hl4 := h.len x
 unfold row2
 rw [e1, e2, ← List.append_assoc, List.take_append_of_le_length (by simp only [List.length_append]; omega)]
 rw [List.take_of_length_le (by simp only [List.length_append]; omega)]
 rw [flat_append]
 simp [flat]
theorem rowB_take (h : Enc3 enc) {R : List Value} {L : List α} {i n k : Nat} {x : α} (hi : i < n) (hl : n = L.length) (_hk : n + 1 ≤ k) (_hR : R.length = k * 3) (hx : R.take (i * 3) = flat enc (L.take i)) :
  (row1 enc (row2 enc R x i) L i).take ((n + 1) * 3) = flat enc (L.take i ++ x :: L.drop i) := by
 have hl2 : (flat enc (L.drop i)).length = (n - i) * 3 := by rw [flat_length h, List.length_drop]; omega
 have hl3 : (flat enc (L.take i)).length = i * 3 := by rw [flat_length h, List.length_take]; omega
 have hl4 := h.len x
 have e1 : (row2 enc R x i).take ((i + 1) * 3) = flat enc (L.take i) ++ enc x := by
  unfold row2
  rw [hx, List.take_append_of_le_length (by simp only [List.length_append]; omega), List.take_of_length_le (by simp only [List.length_append]; omega)]
 unfold row1
 rw [e1, List.take_append_of_le_length (by simp only [List.length_append]; omega), List.take_of_length_le (by simp only [List.length_append]; omega), flat_append]
 simp [flat]
def FL (enc : α → List Value) (W : World) (p : Option Addr) (L : List α) : Prop := CL W p (flat enc L)
theorem FL.below {W W' : World} {p : Option Addr} {L : List α} (h : FL enc W p L) (hb : Below W.heap.size W W') : FL enc W' p L := CL.below h hb
theorem FL.at (he : Enc3 enc) {W : World} {p : Option Addr} {L : List α} (h : FL enc W p L) (hl : 0 < L.length) : ∃ b off, p = some ⟨b, off, none⟩ ∧ b < W.heap.size ∧ ∀ j u, (flat enc L)[j]? = some u → W.cell? ⟨b, off + j, none⟩ = some u := by
 obtain ⟨b, off, h1, h2, h3⟩ := CL.at h (j := 0) (by rw [flat_length he]; omega)
 refine ⟨b, off, h1, h2, fun j u hu => ?_⟩
 obtain ⟨h4, rfl⟩ := List.getElem?_eq_some_iff.mp hu
 exact h3 j h4
def FRet (enc : α → List Value) (T : TypeId) (base : Nat) (L : List α) (w : World) (e : Ending) (w' : World) : Prop := ∃ v', e = .returned v' ∧ w'.ownsRow base T 3 v' L.length (flat enc L) ∧ Below base w w'
theorem fl_of_own {w : World} {base n : Nat} {T : TypeId} {v : Value} {L : List α} (h : w.ownsRow base T 3 v n (flat enc L)) : ∃ p cap, v = .slice p n cap ∧ n ≤ cap ∧ FL enc w p L := by
 rcases h.2 with ⟨rfl, h0⟩ | ⟨g, cap, cur, rfl, _, hc, hcap, _, hsz, hx⟩
 ·subst h0
  have := h.1
  exact ⟨none, 0, rfl, Nat.le_refl _, .inl (List.eq_nil_of_length_eq_zero (by simpa using this))⟩
 ·have hg : g < w.heap.size := (Array.getElem?_eq_some_iff.mp hc).1
  refine ⟨_, cap, rfl, hcap, .inr ⟨g, 0, rfl, hg, fun i hi => ?_⟩⟩
  have hj2 : (cur.toList.take (n * 3))[i]? = some (flat enc L)[i] := by rw [hx]; simp
  rw [List.getElem?_take] at hj2
  split at hj2
  ·simp [World.cell?, hc]
   simpa using hj2
  ·cases hj2
end
theorem zeroCells_size (z : Array Value) (k : Nat) : (Builtin.zeroCells z k).size = k * z.size := by
 unfold Builtin.zeroCells
 simp
end Go.Proofs.YtnaglmigkbbljaaGreatDoor
