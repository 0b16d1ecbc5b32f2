/-
  EpochNext: sederuntref08.Products, exactly.
-/
import Derived.Test.YtmcnpaehmnadeaaGreatDoorFbIJ
import Derived.Test.YtmcnpaehmnadeaaGreatDoorEwAG
set_option maxHeartbeats 6400000
set_option maxRecDepth 1000000
namespace Go.Proofs.YtmcnpaehmnadeaaGreatDoor
open Go Go.RowKit
def u16N (l : List Nat) : List Value := l.map fun (x : Nat) => Value.int .u16 (x : Int)
theorem u16N_snoc (l : List Nat) (x : Nat) : u16N (l ++ [x]) = u16N l ++ [.int .u16 (x : Int)] := by simp [u16N]
theorem setL_of_own {w : World} {base n : Nat} {v : Value} {l : List Nat} (h : w.ownsRow base 28 1 v n (u16N l)) : ∃ p cap, v = .slice p n cap ∧ SetL w p l ∧ n ≤ cap ∧ l.length = n := by
 have hl : l.length = n := by have := h.1; simp [u16N] at this; omega
 subst hl
 rcases h.2 with ⟨rfl, h0⟩ | ⟨g, cap, cur, rfl, _, hc, hcap, _, hsz, hx⟩
 ·have : l = [] := List.eq_nil_of_length_eq_zero h0
  subst this
  exact ⟨none, 0, rfl, .inl rfl, Nat.le_refl _, rfl⟩
 ·have hg : g < w.heap.size := (gLt hc)
  refine ⟨_, cap, rfl, .inr ⟨g, 0, rfl, hg, fun i hi => ?_⟩, hcap, rfl⟩
  have hj2 : (cur.toList.take (l.length * 1))[i]? = some (.int .u16 (l[i] : Nat)) := by rw [hx]; simp [u16N, hi]
  rw [List.getElem?_take] at hj2
  split at hj2
  ·simp [World.cell?, hc]
   simpa using hj2
  ·cases hj2
def prods (f g : List Nat) : List Nat := f.flatMap fun s => g.map fun t => s ||| t
theorem prods_succ {f g : List Nat} {k : Nat} (h : k < f.length) : prods (f.take (k + 1)) g = prods (f.take k) g ++ g.map fun t => f[k] ||| t := by
 unfold prods
 rw [take_snoc h, List.flatMap_append]
 simp
theorem prods_len (f g : List Nat) : (prods f g).length = f.length * g.length := by
 unfold prods
 induction f with
 | nil => simp
 | cons x t ih => rw [List.flatMap_cons, List.length_append, ih, List.length_map, List.length_cons, Nat.succ_mul, Nat.add_comm]
theorem pwS {w W : World} {b o b' o' x y : Nat} (h : Below w.heap.size w W) (hb : b < w.heap.size) (hb' : b' < w.heap.size) (h1 : w.cell? ⟨b, o, none⟩ = some (.int .u16 (x : Int))) (h2 : w.cell? ⟨b', o', none⟩ = some (.int .u16 (y : Int))) :
  W.cell? ⟨b, o, none⟩ = some (.int .u16 (x : Int)) ∧ W.cell? ⟨b', o', none⟩ = some (.int .u16 (y : Int)) ∧ Below w.heap.size w W :=
 ⟨(h.cell (p := ⟨b, o, none⟩) hb).trans h1, (h.cell (p := ⟨b', o', none⟩) hb').trans h2, h⟩
def SetsL (l : List Nat) (w : World) (e : Ending) (w' : World) : Prop := ∃ p cap, e = .returned (.slice p l.length cap) ∧ l.length ≤ cap ∧ SetL w' p l ∧ FreshP w.heap.size p ∧ Below w.heap.size w w'
theorem products_ex (p : Option Addr) (m cap : Nat) (f : List Nat) (q : Option Addr) (n cq : Nat) (g : List Nat) (w : World) (hm : f.length = m) (hm4 : m ≤ 400) (hr : InR f) (h : SetL w p f) (hn : g.length = n) (hn4 : n ≤ 400) (hrg : InR g) (hg : SetL w q g) :
  Calls Tryz.prog 70 #[.slice p m cap, .slice q n cq] w (SetsL (prods f g) w) := by
 obtain ⟨i0, hi, hz0, hz1, hz2⟩ := info_parts Tryz.info28
 have H := Lib.hid h
 have HM := Lib.hid hm
 have HR := Lib.hid hr
 have HG := Lib.hid hg
 have HN := Lib.hid hn
 have HRG := Lib.hid hrg
 clear h hm hr hg hn hrg
 go_enter Tryz.func70, Tryz.ntmps70
 go_wp2_with fail
 go_loopw [5, 6] (fun v i wr => ∃ (k : Nat) (L : List Nat), k ≤ m ∧ i = .int .i64 k ∧ prods (f.take k) g = L ∧ wr.ownsRow w.heap.size 28 1 v L.length (u16N L) ∧ Below w.heap.size w wr) (fun _ i _ => m - (intOf i).toNat)
 case atStart => exact ⟨0, [], Nat.zero_le _, rfl, rfl, World.ownsRow_nil _ _ _ _, Below.refl _ _⟩
 case round =>
  obtain ⟨k, L0, hk, rfl, hL0, hown, hb⟩ := hrel
  have HL0 := Lib.hid hL0
  have HW := Lib.hid hown
  have HB := Lib.hid hb
  clear hL0 hown hb
  by_cases hkm : k < m
  ·have hkl : k < f.length := by have := HM.out; omega
   obtain ⟨b, off, rfl, hbb, hcx⟩ := H.out.at hkl
   have HCX := Lib.hid hcx
   have HPS := Lib.hid (prods_succ (g := g) hkl)
   have HX := Lib.hid (HR.out _ (List.getElem_mem hkl))
   have hLn : L0.length = k * n := by rw [← HL0.out, prods_len, List.length_take, HN.out, HM.out, Nat.min_eq_left hk]
   have hLn2 : k * n ≤ 160000 := by
    have h1 : k * n ≤ 400 * 400 := Nat.mul_le_mul (by omega) hn4
    omega
   have HLN := Lib.hid hLn
   have hLb : L0.length ≤ 160000 := by omega
   clear hcx hLn hLn2
   generalize f[k] = x at HCX HPS HX
   have e1 : (k : Int) < (m : Int) := by omega
   have e2 : (0 : Int) ≤ (k : Int) := by omega
   generalize hgv : u5 = v5 at HW ⊢
   clear hgv
   go_wp2_with fail
   go_loopw [5, 7] (fun v i wr => ∃ (j : Nat) (L : List Nat), j ≤ n ∧ i = .int .i64 j ∧ L0 ++ (g.take j).map (fun t => x ||| t) = L ∧ wr.ownsRow w.heap.size 28 1 v L.length (u16N L) ∧ Below w.heap.size w wr) (fun _ i _ => n - (intOf i).toNat)
   case atStart => exact ⟨0, L0, Nat.zero_le _, rfl, by simp, HW.out, HB.out⟩
   case round =>
    obtain ⟨j, L, hj, rfl, hL, hown, hb⟩ := hrel
    have HLE := Lib.hid hL
    have HW2 := Lib.hid hown
    have HB2 := Lib.hid hb
    have hLl : L.length = L0.length + j := by rw [← hL, List.length_append, List.length_map, List.length_take, HN.out, Nat.min_eq_left hj]
    have hLl2 : L.length ≤ 160400 := by omega
    clear hL hown hb hLl
    by_cases hjn : j < n
    ·have hjl : j < g.length := by have := HN.out; omega
     obtain ⟨b', off', rfl, hbb', hcy⟩ := HG.out.at hjl
     have HCY := Lib.hid hcy
     have HSJ := Lib.hid (show L0 ++ (g.take (j + 1)).map (fun t => x ||| t) = (L0 ++ (g.take j).map (fun t => x ||| t)) ++ [x ||| g[j]] by rw [take_snoc hjl, List.map_append, ← List.append_assoc]; rfl)
     have hy := HRG.out _ (List.getElem_mem hjl)
     clear hcy
     generalize g[j] = y at HCY HSJ hy
     have hor := or_nat HX.out hy
     have e3 : (j : Int) < (n : Int) := by omega
     have e4 : (0 : Int) ≤ (j : Int) := by omega
     generalize hgv : u5 = v at HW2 ⊢
     clear hgv
     clear HW HB
     have HB := HB2
     go_upto_region 8 with fail
     have hBd := HB2.out.trans ((below_drew wr).mono HB2.out.size)
     have HWd := Lib.hid (own_below HW2.out (below_drew wr))
     refine wp_region_noPanic ?_
     refine wp_region_x 12 (fun W => W.cell? ⟨b, off + k, none⟩ = some (.int .u16 (x : Int)) ∧ W.cell? ⟨b', off' + j, none⟩ = some (.int .u16 (y : Int)) ∧ Below w.heap.size w W) (by kernel_rfl) ?_ (fun hHeld => ?_)
     ·exact pwS hBd hbb hbb' HCX.out HCY.out
     refine tkX 0 20 ?_ rfl ?_ ?_
     rotate_left
     ·intro w hSw; (try dsimp only at hSw); go_simp; try with_reducible rfl
     try simp only [Act.put, sA, sZ, sS]
     refine tkX 1 21 ?_ rfl ?_ ?_
     rotate_left
     ·intro w hSw; (try dsimp only at hSw); go_simp; try with_reducible rfl
     try simp only [Act.put, sA, sZ, sS]
     refine tkX 2 22 ?_ rfl ?_ ?_
     rotate_left
     ·intro w hSw; (try dsimp only at hSw); go_simp; try with_reducible rfl
     try simp only [Act.put, sA, sZ, sS]
     refine tkX 3 23 ?_ rfl ?_ ?_
     rotate_left
     ·intro w hSw; (try dsimp only at hSw); go_simp; try with_reducible rfl
     try simp only [Act.put, sA, sZ, sS]
     refine tkX 4 24 ?_ rfl ?_ ?_
     rotate_left
     ·intro w hSw; (try dsimp only at hSw); go_simp; try with_reducible rfl
     try simp only [Act.put, sA, sZ, sS]
     refine tkX 5 25 ?_ rfl ?_ ?_
     rotate_left
     ·intro w hSw; (try dsimp only at hSw); go_simp; try with_reducible rfl
     try simp only [Act.put, sA, sZ, sS]
     refine tkX 6 26 ?_ rfl ?_ ?_
     rotate_left
     ·intro w hSw; (try dsimp only at hSw); go_simp; try with_reducible rfl
     try simp only [Act.put, sA, sZ, sS]
     refine tkX 7 27 ?_ rfl ?_ ?_
     rotate_left
     ·intro w hSw; (try dsimp only at hSw); go_simp; try with_reducible rfl
     try simp only [Act.put, sA, sZ, sS]
     refine tkX 8 28 ?_ rfl ?_ ?_
     rotate_left
     ·intro w hSw; (try dsimp only at hSw); go_simp; try with_reducible rfl
     try simp only [Act.put, sA, sZ, sS]
     refine tkX 9 29 ?_ rfl ?_ ?_
     rotate_left
     ·intro w hSw; (try dsimp only at hSw); go_simp; try with_reducible rfl
     try simp only [Act.put, sA, sZ, sS]
     refine wpAnyX_ready (rs := [10]) (by kernel_rfl) (by simp) ?_
     refine AllReadyX.cons (o := ⟨some 30, _, _, _, _, _⟩) rfl (fun K hK => ?_) ?_
     ·go_simp
      refine hK.out _ _ ?_ (fun hHeld => ?_)
      ·exact pwS (hBd.trans (((Below.refl _ _).alloc (Nat.le_refl _) _).mono hBd.size)) hbb hbb' HCX.out HCY.out
      clear hK K
      try simp only [Act.put, sA, sZ, sS]
      refine wpAnyX_ready (rs := [11]) (by kernel_rfl) (by simp) ?_
      refine AllReadyX.cons (o := ⟨some 31, _, _, _, _, _⟩) rfl (fun K hK => ?_) ?_
      ·refine step_append_lies _ (by rfl) _ _ _ (by rfl) w.heap.size 28 i0 (.int .u16 0) 1 2 Tryz.underlying46 hi hz0 hz1 hz2 rfl (by omega) v L.length (u16N L) (by rfl) (HWd.out.alloc _) ⟨wr.heap.size, 0, none⟩ 1 1 [.int .u16 ((x ||| y : Nat) : Int)] (by rfl) ?g1 (World.news_of_block (cs := #[.int .u16 ((x ||| y : Nat) : Int)]) (t := 28) (fr := (0, 0)) (heap_alloc_new wr.drew _)) ?g2 (by omega) (by unfold maxLen; omega) (by omega) (by simp; have := HB.out.size; omega) (wr.heap.size + 1) (by simp) ?_
       case g1 => rfl
       case g2 => simp [Value.oneCell']
       intro g5 c5' w5 hown5 hgrow hat hlt
       have hB7 := below_grown hBd hBd.size HWd.out hgrow
       refine hK.out _ _ ?_ (fun hHeld => ?_)
       ·exact pwS hB7 hbb hbb' HCX.out HCY.out
       clear hK K
       have HO5 := Lib.hid (show w5.ownsRow w.heap.size 28 1 (.slice (some ⟨g5, 0, none⟩) (L.length + 1) c5') (L ++ [x ||| y]).length (u16N (L ++ [x ||| y])) by rw [u16N_snoc, List.length_append]; exact hown5)
       clear hown5 hgrow hat hlt
       try simp only [Act.put, sA, sZ, sS]
       refine wpAnyX_ready (rs := [12]) (by kernel_rfl) (by simp) ?_
       refine AllReadyX.last (o := ⟨some 5, _, _, _, _, _⟩) rfl (fun K hK => ?_) ?_
       ·go_simp
        refine hK.out _ _ ?_
        clear hK K
        try simp only [Act.put, sA, sZ, sS]
        refine wpAnyX_done (by kernel_rfl) ?_ _
        refine NoPanic.normal ?_
        go_wp2_with fail
        go_roundw
        case rel => exact ⟨j + 1, L ++ [x ||| y], by omega, by go_num, by rw [HSJ.out, HLE.out], HO5.out, hB7⟩
        case measure => simp [intOf]; omega
       exact AllReadyX.nil
      exact AllReadyX.nil
     exact AllReadyX.nil
    ·obtain rfl : j = n := by omega
     have hta : g.take j = g := List.take_of_length_le (by have := HN.out; omega)
     rw [hta] at HLE
     go_wp2_with fail
     go_roundw
     case rel => exact ⟨k + 1, L, by omega, by go_num, by rw [HPS.out, HL0.out]; exact HLE.out, HW2.out, HB2.out⟩
     case measure => simp [intOf]; omega
  ·obtain rfl : k = m := by omega
   have hta : f.take k = f := List.take_of_length_le (by have := HM.out; omega)
   rw [hta] at HL0
   obtain ⟨p5, c5, hv5, hs5, hc5, _⟩ := setL_of_own HW.out
   have hfr : FreshP w.heap.size p5 := by have h := HW.out; rw [hv5] at h; exact fresh_of_own h
   subst hv5
   have HE := Lib.hid (And.intro hs5 hfr)
   clear hs5 hfr hta
   go_wp2_with fail
   go_ret
   exact ⟨p5, c5, by rw [HL0.out]; rfl, by rw [HL0.out]; exact hc5, by rw [HL0.out]; exact HE.out.1, HE.out.2, HB.out⟩
end Go.Proofs.YtmcnpaehmnadeaaGreatDoor
/-
  EpochNext, plain laws: insertion into an ascending list of sets.
-/
namespace Go.Proofs.YtmcnpaehmnadeaaGreatDoor
open Go Go.RowKit
def insS : List Nat → Nat → List Nat
 | [], x => [x]
 | y :: t, x => if befB y x = true then y :: insS t x else if y = x then y :: t else x :: y :: t
def sortS (f : List Nat) : List Nat := f.foldl insS []
theorem sortS_snoc (f : List Nat) (x : Nat) : sortS (f ++ [x]) = insS (sortS f) x := by simp [sortS, List.foldl_append]
theorem sortS_succ {f : List Nat} {k : Nat} (h : k < f.length) : sortS (f.take (k + 1)) = insS (sortS (f.take k)) f[k] := by rw [take_snoc h, sortS_snoc]
theorem insS_end : ∀ {l : List Nat} {x : Nat}, (∀ i (h : i < l.length), befB l[i] x = true) → insS l x = l ++ [x]
 | [], _, _ => rfl
 | y :: t, x, h => by
  have h0 : befB y x = true := h 0 (by simp)
  have ih := insS_end (l := t) (x := x) fun i hi => h (i + 1) (by simpa using hi)
  rw [insS, if_pos h0, ih]
  rfl
theorem insS_at : ∀ {l : List Nat} {x : Nat} (j : Nat) (hj : j < l.length), (∀ i (h : i < l.length), i < j → befB l[i] x = true) → befB l[j] x = false → insS l x = if l[j] = x then l else l.take j ++ x :: l.drop j
 | y :: t, x, 0, _, _, hb => by
  have hb' : befB y x = false := hb
  rw [insS, if_neg (by rw [hb']; simp)]
  rfl
 | y :: t, x, j + 1, hj, h, hb => by
  have h0 : befB y x = true := h 0 (by simp) (Nat.succ_pos _)
  have ih := insS_at (l := t) (x := x) j (by simpa using hj) (fun i hi hij => h (i + 1) (by simpa using hi) (by omega)) hb
  rw [insS, if_pos h0, ih]
  simp only [List.getElem_cons_succ, List.take_succ_cons, List.drop_succ_cons]
  split <;> rfl
theorem insS_mem : ∀ {l : List Nat} {x y : Nat}, y ∈ insS l x ↔ y = x ∨ y ∈ l
 | [], x, y => by simp [insS]
 | z :: t, x, y => by
  rw [insS]
  split
  ·rw [List.mem_cons, insS_mem, List.mem_cons]
   constructor <;> (rintro (h | h | h) <;> simp [h])
  ·split
   ·rename_i h1
    rw [← h1]
    simp
   ·simp
theorem sortS_mem (f : List Nat) (y : Nat) : y ∈ sortS f ↔ y ∈ f := by
 unfold sortS
 have : ∀ (f acc : List Nat), y ∈ f.foldl insS acc ↔ y ∈ f ∨ y ∈ acc := by
  intro f
  induction f with
  | nil => intro acc; simp
  | cons x t ih =>
   intro acc
   rw [List.foldl_cons, ih, insS_mem, List.mem_cons]
   constructor
   ·rintro (h | h | h) <;> simp [h]
   ·rintro ((h | h) | h) <;> simp [h]
 simpa using this f []
theorem befB_iff {a b : Nat} : befB a b = true ↔ cmpS a b < 0 := by rw [bef_cmp]; simp
theorem cmp_three {a b : Nat} (h1 : ¬ cmpS a b < 0) (h2 : a ≠ b) : cmpS b a < 0 := by
 rw [cmpS_lt] at *
 omega
theorem insS_asc : ∀ {l : List Nat} {x : Nat}, Asc l → Asc (insS l x)
 | [], x, _ => ⟨(fun _ h => by cases h), trivial⟩
 | y :: t, x, h => by
  rw [insS]
  split
  ·rename_i h1
   refine ⟨fun z hz => ?_, insS_asc h.2⟩
   rcases insS_mem.mp hz with rfl | hz
   ·exact befB_iff.mp h1
   ·exact h.1 z hz
  ·rename_i h1
   split
   ·exact h
   ·rename_i h2
    have h3 : cmpS x y < 0 := cmp_three (fun hc => h1 (befB_iff.mpr hc)) h2
    refine ⟨fun z hz => ?_, h⟩
    rcases List.mem_cons.mp hz with rfl | hz
    ·exact h3
    ·exact cmpS_trans h3 (h.1 z hz)
theorem sortS_asc (f : List Nat) : Asc (sortS f) := by
 unfold sortS
 have : ∀ (f acc : List Nat), Asc acc → Asc (f.foldl insS acc) := by
  intro f
  induction f with
  | nil => intro acc h; exact h
  | cons x t ih => intro acc h; exact ih _ (insS_asc h)
 exact this f [] trivial
theorem cmp_irrefl (a : Nat) : ¬ cmpS a a < 0 := by
 rw [cmpS_lt]; omega
theorem asc_eq : ∀ {l m : List Nat}, Asc l → Asc m → (∀ x, x ∈ l ↔ x ∈ m) → l = m
 | [], [], _, _, _ => rfl
 | [], y :: t, _, _, h => by have := (h y).mpr (by simp); cases this
 | x :: s, [], _, _, h => by have := (h x).mp (by simp); cases this
 | x :: s, y :: t, hl, hm, h => by
  have hxy : x = y := by
   rcases List.mem_cons.mp ((h x).mp (by simp)) with h1 | h1
   ·exact h1
   ·rcases List.mem_cons.mp ((h y).mpr (by simp)) with h2 | h2
    ·exact h2.symm
    ·exact absurd (cmpS_trans (hl.1 y h2) (hm.1 x h1)) (cmp_irrefl x)
  subst hxy
  have ht : ∀ z, z ∈ s ↔ z ∈ t := by
   intro z
   constructor
   ·intro hz
    rcases List.mem_cons.mp ((h z).mp (by simp [hz])) with h1 | h1
    ·exact absurd (h1 ▸ hl.1 z hz) (cmp_irrefl x)
    ·exact h1
   ·intro hz
    rcases List.mem_cons.mp ((h z).mpr (by simp [hz])) with h1 | h1
    ·exact absurd (h1 ▸ hm.1 z hz) (cmp_irrefl x)
    ·exact h1
  rw [asc_eq hl.2 hm.2 ht]
theorem sortS_inR {f : List Nat} (h : InR f) : InR (sortS f) := fun x hx => h x ((sortS_mem f x).mp hx)
theorem insS_len (l : List Nat) (x : Nat) : (insS l x).length ≤ l.length + 1 := by
 induction l with
 | nil => simp [insS]
 | cons y t ih =>
  rw [insS]
  split
  ·simpa using ih
  ·split <;> simp
theorem sortS_len : ∀ (f : List Nat), (sortS f).length ≤ f.length := by
 have : ∀ (f acc : List Nat), (f.foldl insS acc).length ≤ acc.length + f.length := by
  intro f
  induction f with
  | nil => intro acc; simp
  | cons x t ih =>
   intro acc
   have h1 := ih (insS acc x)
   have h2 := insS_len acc x
   rw [List.foldl_cons, List.length_cons]
   omega
 intro f
 simpa [sortS] using this f []
def zN (l : List Nat) : List Int := l.map fun (x : Nat) => (x : Int)
theorem zN_len (l : List Nat) : (zN l).length = l.length := by simp [zN]
theorem u16_zN (l : List Nat) : u16V (zN l) = u16N l := by simp [u16V, u16N, zN]
theorem shift_one {L : List Int} {m : Nat} (h : m < L.length) (y z : Int) (hz : (L.take (m + 1) ++ y :: L.drop (m + 1))[m]? = some z) :
  (L.take (m + 1) ++ y :: L.drop (m + 1)).set (m + 1) z = L.take m ++ L[m] :: L.drop m := by
 have hm : (L.take (m + 1)).length = m + 1 := by rw [List.length_take]; omega
 rw [List.getElem?_append_left (by omega), List.getElem?_take, if_pos (by omega), List.getElem?_eq_getElem h] at hz
 injection hz with hz
 subst hz
 rw [List.set_append_right _ _ (by omega), hm, Nat.sub_self, List.set_cons_zero, List.take_succ_eq_append_getElem h, List.append_assoc, List.drop_eq_getElem_cons h]
 rfl
theorem shift_end {L : List Int} {m : Nat} (h : m ≤ L.length) (y x : Int) : (L.take m ++ y :: L.drop m).set m x = L.take m ++ x :: L.drop m := by
 have hm : (L.take m).length = m := by rw [List.length_take]; omega
 rw [List.set_append_right _ _ (by omega), hm, Nat.sub_self, List.set_cons_zero]
theorem zN_ins (l : List Nat) (x m : Nat) : zN (l.take m ++ x :: l.drop m) = (zN l).take m ++ (x : Int) :: (zN l).drop m := by simp [zN, List.map_take, List.map_drop]
theorem own_cellX {w : World} {base n g cap : Nat} {l : List Int} (h : w.ownsRow base 28 1 (.slice (some ⟨g, 0, none⟩) n cap) n (u16V l)) {k : Nat} (hk : k < n) : base ≤ g ∧ ∃ y : Int, l[k]? = some y ∧ w.cell? ⟨g, k, none⟩ = some (.int .u16 y) := by
 have hl : l.length = n := by have := h.1; rw [u16V_len] at this; omega
 rcases h.2 with ⟨h1, _⟩ | ⟨g', cap', cur, h1, hg, hc, hcap, _, hsz, hx⟩
 ·cases h1
 ·injection h1 with h1 h2 h3
  injection h1 with h1
  injection h1 with h1
  subst h1
  refine ⟨hg, l[k]'(by omega), List.getElem?_eq_getElem (by omega), ?_⟩
  have hj2 : (cur.toList.take (n * 1))[k]? = some (.int .u16 (l[k]'(by omega))) := by rw [hx]; simp [u16V, hl, hk]
  rw [List.getElem?_take] at hj2
  split at hj2
  ·simp [World.cell?, hc]
   simpa using hj2
  ·cases hj2
end Go.Proofs.YtmcnpaehmnadeaaGreatDoor
/-
  EpochNext: sederuntref08.Sorted, exactly.
-/
namespace Go.Proofs.YtmcnpaehmnadeaaGreatDoor
open Go Go.RowKit
def Scan (l : List Nat) (x j : Nat) : Prop := ∀ i (h : i < l.length), i < j → befB l[i] x = true
def Stop (l : List Nat) (x j : Nat) : Prop := Scan l x j ∧ ∀ h : j < l.length, befB l[j] x = false
theorem zN_zero (l : List Nat) : zN l ++ [0] = (zN l).take l.length ++ 0 :: (zN l).drop l.length := by
 rw [← zN_len, List.take_length, List.drop_length]
theorem own_cellN {w : World} {base n g cap : Nat} {l : List Nat} (h : w.ownsRow base 28 1 (.slice (some ⟨g, 0, none⟩) n cap) n (u16V (zN l))) {k : Nat} (hk : k < l.length) : base ≤ g ∧ w.cell? ⟨g, k, none⟩ = some (.int .u16 (l[k] : Nat)) := by
 have hl : l.length = n := by have := h.1; rw [u16V_len, zN_len] at this; omega
 obtain ⟨h1, y, h2, h3⟩ := own_cellX h (k := k) (by omega)
 have : y = (l[k] : Nat) := by
  have h4 : (zN l)[k]? = some ((l[k] : Nat) : Int) := by simp [zN, hk]
  rw [h4] at h2
  injection h2 with h2
  exact h2.symm
 exact ⟨h1, this ▸ h3⟩
theorem sorted_ex (p : Option Addr) (n cap : Nat) (f : List Nat) (w : World) (hn : f.length = n) (hn4 : n ≤ 200000) (hr : InR f) (hp : SetL w p f) : Calls Tryz.prog 147 #[.slice p n cap] w (SetsL (sortS f) w) := by
 obtain ⟨i0, hi, hz0, hz1, hz2⟩ := info_parts Tryz.info28
 have HP := Lib.hid hp
 have HR := Lib.hid hr
 have HN := Lib.hid hn
 clear hp hr hn
 go_enter Tryz.func147, Tryz.ntmps147
 go_wp2_with fail
 go_loopw [3, 4] (fun v i wr => ∃ (k : Nat) (l : List Nat), k ≤ n ∧ i = .int .i64 k ∧ sortS (f.take k) = l ∧ wr.ownsRow w.heap.size 28 1 v l.length (u16V (zN l)) ∧ Below w.heap.size w wr) (fun _ i _ => n - (intOf i).toNat)
 case atStart => exact ⟨0, [], Nat.zero_le _, rfl, rfl, World.ownsRow_nil _ _ _ _, Below.refl _ _⟩
 case round =>
  obtain ⟨k, l, hk, rfl, hl0, hown, hb⟩ := hrel
  have HW := Lib.hid hown
  have HB := Lib.hid hb
  have HL0 := Lib.hid hl0
  have hl : l.length ≤ k := by
   have h1 := sortS_len (f.take k)
   rw [hl0, List.length_take] at h1
   omega
  have HLR := Lib.hid (show InR l from fun z hz => by
   rw [← HL0.out, sortS_mem] at hz
   exact HR.out z (List.mem_of_mem_take hz))
  clear hown hb hl0
  obtain ⟨p3, c3, hv3, hp3, hc3⟩ := setP_of_own HW.out
  subst hv3
  have HP3 := Lib.hid hp3
  clear hp3
  by_cases hkn : k < n
  ·have hkl : k < f.length := by have := HN.out; omega
   obtain ⟨b, off, rfl, hbb, hcx⟩ := HP.out.at hkl
   have HCX := Lib.hid hcx
   have HSS := Lib.hid (show sortS (f.take (k + 1)) = insS l f[k] by rw [sortS_succ hkl, HL0.out])
   have HX := Lib.hid (HR.out _ (List.getElem_mem hkl))
   clear hcx
   generalize f[k] = x at HCX HSS HX
   have e1 : (0 : Int) ≤ (k : Int) := by omega
   have e2 : (k : Int) < (n : Int) := by omega
   go_upto_block 2 with fail
   go_cut [5] (fun a wx => ∃ j : Nat, j ≤ l.length ∧ a = .int .i64 j ∧ Stop l x j ∧ wx.ownsRow w.heap.size 28 1 (.slice p3 l.length c3) l.length (u16V (zN l)) ∧ Below w.heap.size w wx)
   case first =>
    go_wp2_with fail
    go_loopw [5] (fun a wx => ∃ j : Nat, j ≤ l.length ∧ a = .int .i64 j ∧ Scan l x j ∧ wx.ownsRow w.heap.size 28 1 (.slice p3 l.length c3) l.length (u16V (zN l)) ∧ Below w.heap.size w wx) (fun a _ => l.length - (intOf a).toNat)
    case atStart => exact ⟨0, Nat.zero_le _, rfl, (fun i _ h => by omega), HW.out, HB.out⟩
    case round =>
     obtain ⟨j, hj, rfl, hsc, hown, hb⟩ := hrel
     have HW2 := Lib.hid hown
     have HB2 := Lib.hid hb
     have HSC := Lib.hid hsc
     clear hown hb hsc
     have e0 : (0 : Int) ≤ (j : Int) := by omega
     by_cases hjl : j < l.length
     ·obtain ⟨g, c, hg⟩ := own_some HW2.out (by omega)
      injection hg with hg1 _ hg3
      subst hg1
      subst hg3
      obtain ⟨_, hy⟩ := own_cellN HW2.out hjl
      have e3 : (j : Int) < (l.length : Int) := by omega
      have HY := Lib.hid (HLR.out _ (List.getElem_mem hjl))
      have HV := Lib.hid (show VT w (.slice (some ⟨g, 0, none⟩) l.length c3) (zN l) b (off + k) g j (x : Int) (l[j] : Nat) _ from ⟨(HB2.out.cell (p := ⟨b, off + k, none⟩) hbb).trans HCX.out, hy, by rw [zN_len]; exact HW2.out, HB2.out⟩)
      have HST := Lib.hid (show befB l[j] x = false → Stop l x j from fun h => ⟨HSC.out, fun _ => h⟩)
      have HSN := Lib.hid (show befB l[j] x = true → Scan l x (j + 1) from fun h i hi hij => by
       by_cases hh : i = j
       ·subst hh; exact h
       ·exact HSC.out i hi (by omega))
      clear hy
      generalize l[j] = y at HV HST HSN HY
      have HBF := Lib.hid (fun W => before_ex y x HY.out HX.out W)
      generalize befB y x = r at HST HSN HBF
      go_upto_region 6 with fail
      go_region_held3 (fun W => W.cell? ⟨b, off + k, none⟩ = some (.int .u16 (x : Int)) ∧ W.cell? ⟨g, j, none⟩ = some (.int .u16 (y : Int)) ∧ VT w (.slice (some ⟨g, 0, none⟩) l.length c3) (zN l) b (off + k) g j (x : Int) (y : Int) W)
       (first | exact vtS HV.out | exact vtS HV.out.drew | exact vtS hV2)
       ((go_at_call 145; refine (HBF.out _).mono ?_; rintro e w2 ⟨rfl, rfl⟩; have hV2 := HV.out.drew))
      cases r
      ·go_wp2_with fail
       go_meet
       exact ⟨j, hj, rfl, HST.out (by simp), by have h := hV2.2.2.1; rw [zN_len] at h; exact h, hV2.2.2.2⟩
      ·go_wp2_with fail
       go_roundw
       case rel => exact ⟨j + 1, by omega, by go_num, HSN.out (by simp), by have h := hV2.2.2.1; rw [zN_len] at h; exact h, hV2.2.2.2⟩
       case measure => simp [intOf]; omega
     ·have e3 : decide ((j : Int) < (l.length : Int)) = false := by simp; omega
      go_upto_region 6 with fail
      go_quiet (fail)
      go_wp2_with fail
      go_meet
      exact ⟨j, hj, rfl, ⟨HSC.out, fun h => absurd h hjl⟩, own_drewN HW2.out _, below_drewN HB2.out _⟩
   case rest =>
    obtain ⟨j, hj, rfl, hst, hown, hb⟩ := hcut
    have HW2 := Lib.hid hown
    have HB2 := Lib.hid hb
    have HST := Lib.hid hst
    have hsz2 := hb.size
    clear hown hb hst
    have e0 : (0 : Int) ≤ (j : Int) := by omega
    have hc1 := (HB2.out.cell (p := ⟨b, off + k, none⟩) hbb).trans HCX.out
    by_cases hjl : j < l.length
    ·obtain ⟨g0, c0, hg⟩ := own_some HW2.out (by omega)
     injection hg with hg1 _ hg3
     subst hg1
     subst hg3
     obtain ⟨_, hy⟩ := own_cellN HW2.out hjl
     have e3 : (j : Int) < (l.length : Int) := by omega
     have HIN := Lib.hid (insS_at j hjl HST.out.1 (HST.out.2 hjl))
     generalize l[j] = y at hy HIN
     by_cases hyx : y = x
     ·subst hyx
      have HIN2 := Lib.hid (show insS l y = l by rw [HIN.out, if_pos rfl])
      clear HIN
      go_upto_region 8 with fail
      go_quiet (fail)
      have HW4 := Lib.hid (own_drewN HW2.out nq)
      have HB4 := Lib.hid (below_drewN HB2.out nq)
      generalize wc.drewN nq = w4 at HW4 HB4 ⊢
      have hsz4 := HB4.out.size
      clear hy e0 e3 hc1
      go_wp2_with fail
      go_roundw
      case rel => exact ⟨k + 1, l, by omega, by go_num, by rw [HSS.out, HIN2.out], HW4.out, HB4.out⟩
      case measure => simp [intOf]; omega
     ·have HINS := Lib.hid (show insS l x = l.take j ++ x :: l.drop j by rw [HIN.out, if_neg hyx])
      have e4 : decide ((y : Int) = (x : Int)) = false := by simp; omega
      clear HIN
      go_upto_region 8 with fail
      go_quiet (fail)
      have HW4 := Lib.hid (own_drewN HW2.out nq)
      have HB4 := Lib.hid (below_drewN HB2.out nq)
      generalize wc.drewN nq = w4 at HW4 HB4 ⊢
      have hsz4 := HB4.out.size
      clear hy e0 e3 hc1
      go_upto_region 9 with fail
      have T := HW4.out.alloc (.cells #[.int .u16 0] 28)
      go_wp2_with (at_builtin; refine wpList_append_own _ rfl _ _ 46 rfl w.heap.size 28 i0 (.int .u16 0) 1 2 Tryz.underlying46 hi hz0 hz1 hz2 rfl (by decide) (.slice (some ⟨g0, 0, none⟩) l.length c3) l.length (u16V (zN l)) rfl T ⟨w4.heap.size, 0, none⟩ 1 1 [.int .u16 0] rfl rfl ?c1 ?c2 ?c3 ?c4 ?c5 ?_)
      try (case c1 => (intro j u hj; cases j with | zero => (simp at hj; subst hj; simp [Addr.add]) | succ j => simp at hj))
      case c2 => first | rfl | (intro u hu; simp at hu; subst hu; rfl)
      case c3 => unfold maxLen; omega
      case c4 => omega
      case c5 => first | omega | (simp; omega)
      intro v' w5 hown' hgrow _
      clear T
      have hb5 : Below w.heap.size w w5 := below_grown HB4.out hsz4 HW4.out hgrow
      rw [u16V_snoc, zN_zero] at hown'
      obtain ⟨g, c, hg⟩ := own_some hown' (by omega)
      subst hg
      have HW5 := Lib.hid hown'
      have HB5 := Lib.hid hb5
      clear hown' hgrow hb5
      go_wp2_with fail
      go_loopw [6] (fun a wx => ∃ (m : Nat) (y' : Int), j ≤ m ∧ m ≤ l.length ∧ a = .int .i64 m ∧ wx.ownsRow w.heap.size 28 1 (.slice (some ⟨g, 0, none⟩) (l.length + 1) c) (l.length + 1) (u16V ((zN l).take m ++ y' :: (zN l).drop m)) ∧ Below w.heap.size w wx) (fun a _ => (intOf a).toNat)
      case atStart => exact ⟨l.length, 0, hj, Nat.le_refl _, by go_num, HW5.out, HB5.out⟩
      case round =>
       obtain ⟨m, y', hm1, hm2, rfl, hown, hb⟩ := hrel
       have HW6 := Lib.hid hown
       have HB6 := Lib.hid hb
       clear hown hb
       by_cases hmj : j < m
       ·obtain ⟨m', rfl⟩ : ∃ m', m = m' + 1 := ⟨m - 1, by omega⟩
        obtain ⟨hgb, y6, hya, hy6⟩ := own_cellX HW6.out (k := m') (by omega)
        obtain ⟨hf6, hw6⟩ := own_put' HW6.out (k := m' + 1) (by omega) y6
        obtain ⟨_, y7, hy7⟩ := own_cell HW6.out (k := m' + 1) (by omega)
        rw [shift_one (by rw [zN_len]; omega) y' y6 hya] at hw6
        have H6 := Lib.hid (And.intro hw6 (below_set HB6.out (p := ⟨g, m' + 1, none⟩) hgb (.int .u16 y6)))
        clear hw6 hya
        go_wp2_with fail
        go_roundw
        case rel => exact ⟨m', _, by omega, by omega, by go_num, H6.out.1, H6.out.2⟩
        case measure => simp [intOf]
       ·obtain rfl : m = j := by omega
        obtain ⟨hgb, y6, hy6⟩ := own_cell HW6.out (k := m) (by omega)
        obtain ⟨hf6, hw6⟩ := own_put' HW6.out (k := m) (by omega) (x : Int)
        have hc6 := (HB6.out.cell (p := ⟨b, off + k, none⟩) hbb).trans HCX.out
        rw [shift_end (by rw [zN_len]; omega), ← zN_ins, ← HINS.out] at hw6
        have hlen : (insS l x).length = l.length + 1 := by rw [HINS.out, List.length_append, List.length_cons, List.length_take, List.length_drop]; omega
        have H6 := Lib.hid (And.intro hw6 (below_set HB6.out (p := ⟨g, m, none⟩) hgb (.int .u16 (x : Int))))
        have HLEN := Lib.hid hlen
        clear hw6 hlen
        go_wp2_with fail
        go_roundw
        case rel => exact ⟨k + 1, insS l x, by omega, by go_num, HSS.out, by rw [HLEN.out]; exact H6.out.1, H6.out.2⟩
        case measure => simp [intOf]; omega
    ·have e3 : decide ((j : Int) < (l.length : Int)) = false := by simp; omega
     have HINS := Lib.hid (show insS l x = l.take j ++ x :: l.drop j by
      have hjl2 : j = l.length := by omega
      rw [insS_end fun i hi => HST.out.1 i hi (by omega), hjl2]
      simp)
     go_upto_region 8 with fail
     go_quiet (fail)
     have HW4 := Lib.hid (own_drewN HW2.out nq)
     have HB4 := Lib.hid (below_drewN HB2.out nq)
     generalize wc.drewN nq = w4 at HW4 HB4 ⊢
     have hsz4 := HB4.out.size
     clear e0 e3 hc1
     go_upto_region 9 with fail
     have T := HW4.out.alloc (.cells #[.int .u16 0] 28)
     go_wp2_with (at_builtin; refine wpList_append_own _ rfl _ _ 46 rfl w.heap.size 28 i0 (.int .u16 0) 1 2 Tryz.underlying46 hi hz0 hz1 hz2 rfl (by decide) (.slice p3 l.length c3) l.length (u16V (zN l)) rfl T ⟨w4.heap.size, 0, none⟩ 1 1 [.int .u16 0] rfl rfl ?d1 ?d2 ?d3 ?d4 ?d5 ?_)
     try (case d1 => (intro j u hj; cases j with | zero => (simp at hj; subst hj; simp [Addr.add]) | succ j => simp at hj))
     case d2 => first | rfl | (intro u hu; simp at hu; subst hu; rfl)
     case d3 => unfold maxLen; omega
     case d4 => omega
     case d5 => first | omega | (simp; omega)
     intro v' w5 hown' hgrow _
     clear T
     have hb5 : Below w.heap.size w w5 := below_grown HB4.out hsz4 HW4.out hgrow
     rw [u16V_snoc, zN_zero] at hown'
     obtain ⟨g, c, hg⟩ := own_some hown' (by omega)
     subst hg
     have HW5 := Lib.hid hown'
     have HB5 := Lib.hid hb5
     clear hown' hgrow hb5
     go_wp2_with fail
     go_loopw [6] (fun a wx => ∃ (m : Nat) (y' : Int), j ≤ m ∧ m ≤ l.length ∧ a = .int .i64 m ∧ wx.ownsRow w.heap.size 28 1 (.slice (some ⟨g, 0, none⟩) (l.length + 1) c) (l.length + 1) (u16V ((zN l).take m ++ y' :: (zN l).drop m)) ∧ Below w.heap.size w wx) (fun a _ => (intOf a).toNat)
     case atStart => exact ⟨l.length, 0, hj, Nat.le_refl _, by go_num, HW5.out, HB5.out⟩
     case round =>
      obtain ⟨m, y', hm1, hm2, rfl, hown, hb⟩ := hrel
      have HW6 := Lib.hid hown
      have HB6 := Lib.hid hb
      clear hown hb
      by_cases hmj : j < m
      ·exfalso
       omega
      ·obtain rfl : m = j := by omega
       obtain ⟨hgb, y6, hy6⟩ := own_cell HW6.out (k := m) (by omega)
       obtain ⟨hf6, hw6⟩ := own_put' HW6.out (k := m) (by omega) (x : Int)
       have hc6 := (HB6.out.cell (p := ⟨b, off + k, none⟩) hbb).trans HCX.out
       rw [shift_end (by rw [zN_len]; omega), ← zN_ins, ← HINS.out] at hw6
       have hlen : (insS l x).length = l.length + 1 := by rw [HINS.out, List.length_append, List.length_cons, List.length_take, List.length_drop]; omega
       have H6 := Lib.hid (And.intro hw6 (below_set HB6.out (p := ⟨g, m, none⟩) hgb (.int .u16 (x : Int))))
       have HLEN := Lib.hid hlen
       clear hw6 hlen
       go_wp2_with fail
       go_roundw
       case rel => exact ⟨k + 1, insS l x, by omega, by go_num, HSS.out, by rw [HLEN.out]; exact H6.out.1, H6.out.2⟩
       case measure => simp [intOf]; omega
  ·have hkn2 : k = n := by omega
   have HE := Lib.hid (show sortS f = l by rw [← HL0.out, List.take_of_length_le (by have := HN.out; omega)])
   go_wp2_with fail
   go_ret
   have hw := HW.out
   rw [u16_zN] at hw
   obtain ⟨p4, c4, hv4, hs4, hc4, _⟩ := setL_of_own hw
   injection hv4 with q1 q2 q3
   subst q1
   subst q3
   refine (show SetsL (sortS f) w _ _ from ?_)
   rw [HE.out]
   exact ⟨p3, c3, rfl, hc3, hs4, fresh_of_own HW.out, HB.out⟩
end Go.Proofs.YtmcnpaehmnadeaaGreatDoor
