/-
  TopTransferred: slices.Insert and slices.Clone at sessions (printed by mkIns.py).
-/
import Derived.Test.YtnaglmigkbbljaaGreatDoorMaGSeA
import Derived.Shelf.SlicesE.Clone
set_option maxHeartbeats 6400000
set_option maxRecDepth 1000000
namespace Go.Proofs
open Go
def Tryz.cloneSes_ren : Go.Shelf.Ren := ⟨fun | 41 => 32 | n => n, fun | 22 => 27 | 23 => 87 | 4 => 4 | n => n, fun | n => n⟩
theorem Tryz.cloneSes : Go.Proofs.SlLaysE0.n41 Tryz.prog Tryz.cloneSes_ren := {
 mixed := by kernel_rfl
 f41 := ⟨Tryz.f32.name, by decide, Tryz.func32.trans (congrArg some (by kernel_rfl))⟩
 t4 := Tryz.underlying4
 a4 := Tryz.isAgg4
 z4 := Tryz.sizeOf4
 v4 := Tryz.zeroValue4
 t22 := Tryz.underlying27
 a22 := Tryz.isAgg27
 z22 := Tryz.sizeOf27
 v22 := Tryz.zeroValue27 }
end Go.Proofs
namespace Go.Proofs.YtnaglmigkbbljaaGreatDoor
open Go Go.RowKit
structure Ses where
 c : Nat
 n : Nat
 r : ByteArray
def encS (x : Ses) : List Value := [.int .i64 x.c, .int .i64 x.n, .string x.r]
theorem encS3 : Enc3 encS := ⟨fun _ => rfl, fun x u hu => by
 simp only [encS, List.mem_cons, List.not_mem_nil, or_false] at hu
 rcases hu with rfl | rfl | rfl <;> rfl⟩
theorem Tryz.info87 : (Tryz.prog.info? 87).map (fun i => (i.zero, i.size, i.bytes)) = some (some (.agg #[.int .i64 0, .int .i64 0, .string ⟨#[]⟩]), 3, 32) := by kernel_rfl
theorem sizeOf87' : ∀ w, (Go.sizeOf 87).run Tryz.prog w = .ok 3 w := fun w => by
 obtain ⟨i0, hi, hz0, hz1, hz2⟩ := info_parts Tryz.info87
 simp [sizeOf, typeInfo, hi, hz1]
theorem size87 : (Tryz.prog.info? 87).map (·.size) = some 3 := by
 obtain ⟨i0, hi, hz0, hz1, hz2⟩ := info_parts Tryz.info87
 rw [hi]; simp [hz1]
theorem cloneSes_ex (p : Option Addr) (n c : Nat) (L : List Ses) (w : World) (hn : L.length = n) (hn2 : n ≤ 100000) (h : FL encS w p L) (hp : n = 0 → p = none ∨ ∃ b off, p = some ⟨b, off, none⟩) : Calls Tryz.prog 32 #[.slice p n c] w (FRet encS 87 w.heap.size L w) := by
 subst hn
 obtain ⟨i0, hi0, hz0, hz1, hz2⟩ := info_parts Tryz.info87
 have key : ∀ b off, p = some ⟨b, off, none⟩ → (∀ j u, (flat encS L)[j]? = some u → w.cell? ⟨b, off + j, none⟩ = some u) → Calls Tryz.prog 32 #[.slice p L.length c] w (FRet encS 87 w.heap.size L w) := fun b off e hc => by
  subst e
  refine (AnyE.slices_Clone Tryz.cloneSes i0 _ 3 32 hi0 hz0 hz1 hz2 rfl (by decide) sizeOf87' b off L.length c (flat encS L) w (flat_length encS3 L) (by unfold maxLen; omega) (by omega) hc (flat_one encS3 L)).mono ?_
  rintro e w' ⟨v', rfl, ho, _, hb⟩
  exact ⟨v', rfl, ho, hb⟩
 by_cases h0 : L.length = 0
 ·have hL : L = [] := List.eq_nil_of_length_eq_zero h0
  subst hL
  rcases hp rfl with e | ⟨b, off, e⟩
  ·subst e
   refine (AnyE.slices_Clone_nil Tryz.cloneSes 0 c w).mono ?_
   rintro e w' ⟨rfl, rfl⟩
   exact ⟨_, rfl, World.ownsRow_nil _ _ _ _, Below.refl _ _⟩
  ·exact key b off e fun j u hu => by simp [flat] at hu
 ·obtain ⟨b, off, e, _, hc⟩ := h.at encS3 (by omega)
  exact key b off e hc
theorem insSes_end (base n vb : Nat) (v : Value) (L : List Ses) (x : Ses) (w : World) (hn : n ≤ 1000) (hown : w.ownsRow base 87 3 v n (flat encS L)) (hv : ∃ p cap, v = .slice p n cap) (hvb : w.heap[vb]? = some (.cells (encS x).toArray 87 (0, 0))) (hbase : base ≤ w.heap.size) :
  Calls Tryz.prog 33 #[v, .int .i64 n, .slice (some ⟨vb, 0, none⟩) 1 1] w (FRet encS 87 base (L ++ [x]) w) := by
 obtain ⟨i0, hi, hz0, hz1, hz2⟩ := info_parts Tryz.info87
 obtain ⟨p, cap, rfl⟩ := hv
 have hnl : n = L.length := by have := hown.1; rw [flat_length encS3] at this; omega
 have hs1 : ∀ j v, (encS x)[j]? = some v → w.cell? ((⟨vb, 0, none⟩ : Addr).add j) = some v := fun j v hj => by
  rw [Addr.add_lit]
  exact cellOf hvb (by simpa using hj)
 have hlt : ∀ c k, (Value.slice p n c).ownBlock = some k → base ≤ k := fun c k hk => (hown.lt k (by cases p with | none => simp [Value.ownBlock] at hk | some a => simpa [Value.ownBlock] using hk)).1
 have HLT := Lib.hid hlt
 clear hlt
 have HO := Lib.hid hown
 have HS1 := Lib.hid hs1
 have HS2 := Lib.hid (encS3.one x)
 have HS3 := Lib.hid (encS3.len x)
 have HNL := Lib.hid hnl
 have hm : n + 1 ≤ maxLen := by unfold maxLen; omega
 clear hown hs1 hnl hvb
 obtain ⟨ex, hex⟩ : ∃ ex, ex = encS x := ⟨_, rfl⟩
 rw [← hex] at HS1 HS2 HS3
 have HEX := Lib.hid hex
 clear hex
 go_enter Tryz.func33, Tryz.ntmps33
 go_wp2_with (at_builtin; refine wpList_append_own _ rfl _ _ 27 rfl base 87 i0 (.agg #[.int .i64 0, .int .i64 0, .string ⟨#[]⟩]) 3 32 Tryz.underlying27 hi hz0 hz1 hz2 rfl (by decide) _ _ _ rfl HO.out ⟨vb, 0, none⟩ 1 1 ex rfl HS3.out HS1.out HS2.out hm (by omega) hbase ?_)
 all_goals
  intro v' w' hown' hgrow _
  have hb1 : Below base w w' := (Below.refl base w).grown hgrow hbase (fun k hk => HLT.out _ k hk)
  have HO' := Lib.hid hown'
  clear hown' hgrow
  go_wp2
  go_ret
  refine ⟨v', rfl, ?_, hb1⟩
  have h1 := HO'.out
  rw [HEX.out] at h1
  rw [flat_append, List.length_append, ← HNL.out]
  simpa [flat] using h1
theorem insSes_shift (base n cap g i vb : Nat) (L : List Ses) (x : Ses) (w : World) (cur : List Value) (hi : i < n) (hn : n ≤ 1000) (hl : n = L.length) (hroom : n + 1 ≤ cap) (hcap : cap ≤ maxLen) (hg : w.heap[g]? = some (.cells cur.toArray 87 (0, 0))) (hcs : cur.length = cap * 3) (hx : cur.take (n * 3) = flat encS L)
  (hvg : vb ≠ g) (hvb : w.heap[vb]? = some (.cells (encS x).toArray 87 (0, 0))) (hbg : base ≤ g) :
  Calls Tryz.prog 33 #[.slice (some ⟨g, 0, none⟩) n cap, .int .i64 i, .slice (some ⟨vb, 0, none⟩) 1 1] w (FRet encS 87 base (L.take i ++ x :: L.drop i) w) := by
 subst hl
 obtain ⟨n, hN⟩ : ∃ n, n = L.length := ⟨_, rfl⟩
 have hz2 : ¬ ((i : Int) = (L.length : Int)) := by omega
 have hgs : w.shape? g = some (87, cap * 3) := by unfold World.shape?; rw [hg]; simp [hcs]
 have hvs : w.shape? vb = some (87, 3) := by unfold World.shape?; rw [hvb]; simp [encS3.len]
 have hov : ∀ lb cb, (callFunc 84 #[.slice (some ⟨vb, 0, none⟩) 1 1, .slice (some ⟨g, (i + 1) * 3, none⟩) lb cb]).run Tryz.prog w = .ok (.value (.bool false)) w := fun lb cb => by
  rw [run_callFunc_extern Tryz.func84 (by kernel_rfl) (by kernel_rfl) (by kernel_rfl) (e := Extern.SlicesOverlaps.overlaps #[27, 27] #[4]) (by kernel_rfl),
   Lib.run_overlaps_apart w 27 4 87 Tryz.underlying27 3 sizeOf87' ⟨vb, 0, none⟩ ⟨g, (i + 1) * 3, none⟩ 1 1 lb cb hvg 87 87 3 (cap * 3) hvs hgs (by omega) (by unfold World.frozen?; rw [hvb]; rfl) (by unfold World.frozen?; rw [hvb]; rfl)]
  rfl
 have HOV := Lib.hid hov
 unfold maxLen at hcap
 have hdl : (flat encS (L.drop i)).length = (L.length - i) * 3 := by rw [flat_length encS3, List.length_drop]
 have hgx : ∀ (W : World), (∀ x, W.cell? x = w.cell? x) → ∀ j v, (flat encS (L.drop i))[j]? = some v → W.cell? ((⟨g, i * 3, none⟩ : Addr).add j) = some v := fun W hW j v hj => by
  rw [Addr.add_lit, hW]
  rw [← flat_drop encS3 L i (by omega), List.getElem?_drop, ← hx, List.getElem?_take] at hj
  split at hj
  ·unfold World.cell?
   rw [hg]
   simpa using hj
  ·cases hj
 have hcp1 : ∀ (W : World), W.heap = w.heap → ∀ ty dl dc sl sc, Nat.min sl dl = L.length - i → (Builtin.copy_ #[27, 27] ty #[.slice (some ⟨g, (i + 1) * 3, none⟩) dl dc, .slice (some ⟨g, i * 3, none⟩) sl sc]).run Tryz.prog W = .ok (goInt (Nat.min sl dl)) (W.setRow g (row1 encS cur L i).toArray) := fun W hW ty dl dc sl sc hm => by
  have h := run_copy_rowK (P := Tryz.prog) W 27 27 ty 87 3 g ((i + 1) * 3) dl dc ⟨g, i * 3, none⟩ sl sc cur.toArray 87 (flat encS (L.drop i)) Tryz.underlying27 size87 (by rw [hW]; exact hg) (by rw [hm, hdl]) (hgx W (fun x => by unfold World.cell?; rw [hW])) (by rw [hdl]; simp; omega) (flat_one encS3 _)
  simpa [row1] using h
 have hR1 := row1_len encS3 (n := L.length) hi rfl hroom hcs
 have hel := encS3.len x
 have hcp2 : ∀ (W : World), W.heap[g]? = some (.cells (row1 encS cur L i).toArray 87 (0, 0)) → W.heap[vb]? = some (.cells (encS x).toArray 87 (0, 0)) → ∀ ty dl dc, 1 ≤ dl → (Builtin.copy_ #[27, 27] ty #[.slice (some ⟨g, i * 3, none⟩) dl dc, .slice (some ⟨vb, 0, none⟩) 1 1]).run Tryz.prog W = .ok (goInt 1) (W.setRow g (row2 encS (row1 encS cur L i) x i).toArray) := fun W hW hWv ty dl dc hm => by
  have hmin : Nat.min 1 dl = 1 := by simp only [Nat.min_def]; split <;> omega
  have h := run_copy_rowK (P := Tryz.prog) W 27 27 ty 87 3 g (i * 3) dl dc ⟨vb, 0, none⟩ 1 1 (row1 encS cur L i).toArray 87 (encS x) Tryz.underlying27 size87 hW (by rw [hmin, hel])
   (fun j v hj => by
    rw [Addr.add_lit]
    exact cellOf hWv (by simpa using hj)) (by rw [hel]; simp [hR1]; omega) (encS3.one x)
  rw [hmin, hel] at h
  simpa [row2] using h
 have HC1 := Lib.hid hcp1
 have HC2 := Lib.hid hcp2
 have HR2 := Lib.hid (row2_take encS3 (x := x) (n := L.length) hi rfl hroom hcs hx)
 have HG := Lib.hid hg
 have HVB := Lib.hid hvb
 have HR1 := Lib.hid hR1
 clear hov hcp1 hcp2 hgx hg hvb hgs hvs hx hdl hR1 hel
 have hb1 : (0 : Int) ≤ (i : Int) + 1 := by omega
 have hin : i ≤ L.length := by omega
 have hb2 : ¬ (cap = i + 1) := by omega
 have hb4 : ¬ (cap = i) := by omega
 have hb5 : ¬ ((cap : Int) < (L.length : Int) + 1) := by omega
 have hw1 : IntKind.i64.wrap ((i : Int) + 1) = (i : Int) + 1 := by rw [IntKind.wrap_i64]; omega
 have htn : ((i : Int) + 1).toNat = i + 1 := by omega
 have hb6 : (i : Int) + 1 ≤ (L.length : Int) + 1 := by omega
 have hb7 : (i : Int) ≤ (L.length : Int) + 1 := by omega
 have mixed : Tryz.prog.follows Departure.mixedOrders = true := by kernel_rfl
 go_enter Tryz.func33, Tryz.ntmps33
 go_wp2_with (simp only [HOV.out])
 have hE := HC1.out w.drew rfl 3 (L.length - i) (cap - (i + 1)) (L.length + 1 - i) (cap - i) (by simp only [Nat.min_def]; split <;> omega)
 obtain ⟨k1, hk1⟩ : ∃ k1, k1 = (L.length + 1 - i).min (L.length - i) := ⟨_, rfl⟩
 rw [← hk1] at hE
 go_region
 have hg3 : (w.drew.setRow g (row1 encS cur L i).toArray).heap[g]? = some (.cells (row1 encS cur L i).toArray 87 (0, 0)) := setRow_heap w.drew g _ _ _ _ HG.out
 have hv3 : (w.drew.setRow g (row1 encS cur L i).toArray).heap[vb]? = some (.cells (encS x).toArray 87 (0, 0)) := (setRow_other w.drew g vb _ hvg).trans HVB.out
 have HG3 := Lib.hid hg3
 have HV3 := Lib.hid hv3
 have hb8 : Below base w (w.drew.setRow g (row1 encS cur L i).toArray) := ⟨rfl, rfl, rfl, by simp [World.setRow], fun k hk => setRow_other w.drew g k _ (by omega)⟩
 have HB8 := Lib.hid hb8
 clear hE hg3 hv3 hb8
 generalize w.drew.setRow g (row1 encS cur L i).toArray = W3 at HG3 HV3 HB8 ⊢
 have hE2 := HC2.out W3 HG3.out HV3.out 3 (L.length + 1 - i) (cap - i) (by omega)
 go_wp2
 have hb9 : Below base w (W3.setRow g (row2 encS (row1 encS cur L i) x i).toArray) := HB8.out.trans ⟨rfl, rfl, rfl, by simp [World.setRow], fun k hk => setRow_other W3 g k _ (by omega)⟩
 have hg4 : (W3.setRow g (row2 encS (row1 encS cur L i) x i).toArray).heap[g]? = some (.cells (row2 encS (row1 encS cur L i) x i).toArray 87 (0, 0)) := setRow_heap W3 g _ _ _ _ HG3.out
 go_ret
 have hll : (L.take i ++ x :: L.drop i).length = L.length + 1 := by simp; omega
 refine ⟨_, rfl, ?_, hb9⟩
 rw [hll]
 refine ⟨?_, .inr ⟨g, cap, (row2 encS (row1 encS cur L i) x i).toArray, rfl, hbg, hg4, by omega, by unfold maxLen; omega, ?_, ?_⟩⟩
 ·rw [flat_length encS3, hll]
 ·simp [row2_len encS3 HR1.out (x := x) (i := i) (by omega)]
 ·exact HR2.out
theorem z87cells : (.agg #[.int .i64 0, .int .i64 0, .string ⟨#[]⟩] : Value).cells.size = 3 := rfl
theorem insSes_grow (base n cap g i vb : Nat) (L : List Ses) (x : Ses) (w : World) (cur : List Value) (hi : i < n) (hn : n ≤ 1000) (hl : n = L.length) (hroom : cap < n + 1) (hnc : n ≤ cap) (hg : w.heap[g]? = some (.cells cur.toArray 87 (0, 0))) (hcs : cur.length = cap * 3) (hx : cur.take (n * 3) = flat encS L)
  (hvb : w.heap[vb]? = some (.cells (encS x).toArray 87 (0, 0))) (hbw : base ≤ w.heap.size) :
  Calls Tryz.prog 33 #[.slice (some ⟨g, 0, none⟩) n cap, .int .i64 i, .slice (some ⟨vb, 0, none⟩) 1 1] w (FRet encS 87 base (L.take i ++ x :: L.drop i) w) := by
 subst hl
 obtain rfl : cap = L.length := by omega
 obtain ⟨i0, hi0, hz0, hz1, hz2⟩ := info_parts Tryz.info87
 have hgw : g < w.heap.size := (Array.getElem?_eq_some_iff.mp hg).1
 have hvw : vb < w.heap.size := (Array.getElem?_eq_some_iff.mp hvb).1
 have hel := encS3.len x
 have hcell : ∀ (a : Nat) j v, (flat encS L)[a + j]? = some v → w.cell? ⟨g, a + j, none⟩ = some v := fun a j v hj => by
  rw [← hx, List.getElem?_take] at hj
  split at hj
  ·unfold World.cell?
   rw [hg]
   simpa using hj
  ·cases hj
 have hold : (Builtin.firstCells i0.size i (.slice (some ⟨g, 0, none⟩) i L.length)).run Tryz.prog w.drew = .ok (flat encS (L.take i)).toArray w.drew := by
  rw [hz1]
  exact run_firstCells_some w.drew 3 i ⟨g, 0, none⟩ i L.length (flat encS (L.take i)) (by rw [flat_length encS3, List.length_take]; omega) (fun j v hj => by
   rw [Addr.add_lit]
   rw [← flat_take encS3 L i (by omega), List.getElem?_take] at hj
   split at hj
   ·exact hcell 0 j v (by simpa using hj)
   ·cases hj)
 have hik : i + (L.length + 1 - i) = L.length + 1 := by omega
 have hkk : (L.length : Int) + 1 - (i : Int) = ((L.length + 1 - i : Nat) : Int) := by omega
 obtain ⟨G, hG⟩ : ∃ G, G = grownCap w (L.length + 1) L.length 87 := ⟨_, rfl⟩
 have hGn : L.length + 1 ≤ G := by rw [hG]; exact grownCap_ge w _ _ _
 have hG63 : G ≤ maxLen := by rw [hG]; exact grownCap_le_maxLen w (L.length + 1) L.length 87 (by unfold maxLen; omega)
 obtain ⟨ROW, hROW⟩ : ∃ ROW : List Value, ROW = flat encS (L.take i) ++ (Builtin.zeroCells (.agg #[.int .i64 0, .int .i64 0, .string ⟨#[]⟩] : Value).cells (L.length + 1 - i)).toList ++ (Builtin.zeroCells (.agg #[.int .i64 0, .int .i64 0, .string ⟨#[]⟩] : Value).cells (G - (L.length + 1))).toList := ⟨_, rfl⟩
 have hRl : ROW.length = G * 3 := by
  rw [hROW]
  simp only [List.length_append, flat_length encS3, List.length_take, Array.length_toList, zeroCells_size, z87cells]
  omega
 have hRx : ROW.take (i * 3) = flat encS (L.take i) := by
  rw [hROW, List.append_assoc, List.take_append_of_le_length (by rw [flat_length encS3, List.length_take]; omega), List.take_of_length_le (by rw [flat_length encS3, List.length_take]; omega)]
 have hrz : (Builtin.append_ #[27, 3] 27 #[.slice (some ⟨g, 0, none⟩) i L.length, .int .i64 ((L.length : Int) + 1 - (i : Int))]).run Tryz.prog w =
   .ok (.slice (some ⟨w.heap.size, 0, none⟩) (L.length + 1) G) (w.drew.alloc (.cells ROW.toArray 87)) := by
  have h := Lib.run_append_grow_zeros (P := Tryz.prog) w 27 3 27 87 i0 _ .i64 .i64 Tryz.underlying27 Tryz.underlying3 hi0 hz0 (some ⟨g, 0, none⟩) i L.length (flat encS (L.take i)) hold (L.length + 1 - i) (by omega) (by omega) (by omega) (by omega) (by rw [hz2]; omega) (by rw [hz2, hik]; exact growslice_fits (by omega) (by omega))
  rw [hik, ← hG] at h
  have e : (flat encS (L.take i)).toArray ++ Builtin.zeroCells (.agg #[.int .i64 0, .int .i64 0, .string ⟨#[]⟩] : Value).cells (L.length + 1 - i) ++ Builtin.zeroCells (.agg #[.int .i64 0, .int .i64 0, .string ⟨#[]⟩] : Value).cells (G - (L.length + 1)) = ROW.toArray := by
   rw [hROW]
   apply Array.toList_inj.mp
   simp only [Array.toList_append]
  rw [e] at h
  rw [hkk]
  exact h
 have hbN : g ≠ w.heap.size := by omega
 have hvN : vb ≠ w.heap.size := by omega
 have hW1 : ∀ k, k < w.heap.size → (w.drew.alloc (.cells ROW.toArray 87)).heap[k]? = w.heap[k]? := fun k hk => Below.heap_alloc w.drew _ k hk
 have hN1 : (w.drew.alloc (.cells ROW.toArray 87)).heap[w.heap.size]? = some (.cells ROW.toArray 87 (0, 0)) := heap_alloc_new w.drew _
 have hcpA : ∀ (W : World), W.heap = (w.drew.alloc (.cells ROW.toArray 87)).heap → ∀ ty dl dc, 1 ≤ dl → (Builtin.copy_ #[27, 27] ty #[.slice (some ⟨w.heap.size, i * 3, none⟩) dl dc, .slice (some ⟨vb, 0, none⟩) 1 1]).run Tryz.prog W = .ok (goInt 1) (W.setRow w.heap.size (row2 encS ROW x i).toArray) := fun W hW ty dl dc hm => by
  have hmin : Nat.min 1 dl = 1 := by simp only [Nat.min_def]; split <;> omega
  have hWv : W.heap[vb]? = some (.cells (encS x).toArray 87 (0, 0)) := by rw [hW]; exact (hW1 vb hvw).trans hvb
  have h := run_copy_rowK (P := Tryz.prog) W 27 27 ty 87 3 w.heap.size (i * 3) dl dc ⟨vb, 0, none⟩ 1 1 ROW.toArray 87 (encS x) Tryz.underlying27 size87 (by rw [hW]; exact hN1) (by rw [hmin, hel])
   (fun j v hj => by
    rw [Addr.add_lit]
    exact cellOf hWv (by simpa using hj)) (by rw [hel]; simp [hRl]; omega) (encS3.one x)
  rw [hmin, hel] at h
  simpa [row2] using h
 have hA := row2_len encS3 (x := x) (i := i) hRl (by omega)
 have hdl : (flat encS (L.drop i)).length = (L.length - i) * 3 := by rw [flat_length encS3, List.length_drop]
 have hcpB : ∀ (W : World), W.heap[w.heap.size]? = some (.cells (row2 encS ROW x i).toArray 87 (0, 0)) → W.heap[g]? = some (.cells cur.toArray 87 (0, 0)) → ∀ ty dl dc sl sc, Nat.min sl dl = L.length - i → (Builtin.copy_ #[27, 27] ty #[.slice (some ⟨w.heap.size, (i + 1) * 3, none⟩) dl dc, .slice (some ⟨g, i * 3, none⟩) sl sc]).run Tryz.prog W = .ok (goInt (Nat.min sl dl)) (W.setRow w.heap.size (row1 encS (row2 encS ROW x i) L i).toArray) := fun W hW hWg ty dl dc sl sc hm => by
  have h := run_copy_rowK (P := Tryz.prog) W 27 27 ty 87 3 w.heap.size ((i + 1) * 3) dl dc ⟨g, i * 3, none⟩ sl sc (row2 encS ROW x i).toArray 87 (flat encS (L.drop i)) Tryz.underlying27 size87 hW (by rw [hm, hdl])
   (fun j v hj => by
    rw [Addr.add_lit]
    rw [← flat_drop encS3 L i (by omega), List.getElem?_drop] at hj
    have := hcell (i * 3) j v hj
    unfold World.cell? at this ⊢
    rw [hWg]
    rw [hg] at this
    exact this) (by rw [hdl]; simp [hA]; omega) (flat_one encS3 _)
  simpa [row1] using h
 have HR2 := Lib.hid (rowB_take encS3 (x := x) (n := L.length) hi rfl hGn hRl hRx)
 have HRZ := Lib.hid hrz
 have HCA := Lib.hid hcpA
 have HCB := Lib.hid hcpB
 have HG := Lib.hid hg
 have hBl := row1_len encS3 (cur := row2 encS ROW x i) (L := L) (i := i) (n := L.length) hi rfl hGn hA
 have HBl := Lib.hid hBl
 clear hold hik hkk hROW hRl hRx hcpA hcpB hcell hx hg hvb hG hA hdl hBl hW1 hN1 hrz hz0 hz1 hz2 hi0 hel
 unfold maxLen at hG63
 have hz3 : ¬ ((i : Int) = (L.length : Int)) := by omega
 have hb1 : (0 : Int) ≤ (i : Int) + 1 := by omega
 have hin : i ≤ L.length := by omega
 have hb4 : ¬ (L.length = i) := by omega
 have hb5 : (L.length : Int) < (L.length : Int) + 1 := by omega
 have hw1 : IntKind.i64.wrap ((i : Int) + 1) = (i : Int) + 1 := by rw [IntKind.wrap_i64]; omega
 have htn : ((i : Int) + 1).toNat = i + 1 := by omega
 have hb6 : (i : Int) + 1 ≤ (L.length : Int) + 1 := by omega
 have hb7 : (i : Int) ≤ (L.length : Int) + 1 := by omega
 have hGi : ¬ (G = i) := by omega
 have hGi1 : ¬ (G = i + 1) := by omega
 have hE := HCA.out ((w.alloc (.cells ROW.toArray 87)).drew) rfl 3 (L.length + 1 - i) (G - i) (by omega)
 have hW1 : Below w.heap.size w ((w.alloc (.cells ROW.toArray 87)).drew) := ((Below.refl w.heap.size w).alloc (Nat.le_refl _) _).trans ⟨rfl, rfl, rfl, Nat.le_refl _, fun _ _ => rfl⟩
 have hN1 : ((w.alloc (.cells ROW.toArray 87)).drew).heap[w.heap.size]? = some (.cells ROW.toArray 87 (0, 0)) := heap_alloc_new w _
 have HW1 := Lib.hid hW1
 have HN1 := Lib.hid hN1
 clear hW1 hN1
 go_enter Tryz.func33, Tryz.ntmps33
 go_wp2_with (at_builtin; refine Lib.wpList_append_run _ rfl _ _ _ _ rfl _ _ rfl rfl _ _ HRZ.out ?_)
 have hW2 : Below w.heap.size w (((w.alloc (.cells ROW.toArray 87)).drew).setRow w.heap.size (row2 encS ROW x i).toArray) := HW1.out.trans ⟨rfl, rfl, rfl, by simp [World.setRow], fun k hk => setRow_other _ _ k _ (by omega)⟩
 have hN2 : (((w.alloc (.cells ROW.toArray 87)).drew).setRow w.heap.size (row2 encS ROW x i).toArray).heap[w.heap.size]? = some (.cells (row2 encS ROW x i).toArray 87 (0, 0)) := setRow_heap _ _ _ _ _ _ HN1.out
 clear hE
 revert hW2 hN2
 generalize ((w.alloc (.cells ROW.toArray 87)).drew).setRow w.heap.size (row2 encS ROW x i).toArray = W2
 intro hW2 hN2
 have hE2 := HCB.out W2.drew hN2 ((hW2.block g hgw).trans HG.out) 3 (L.length - i) (G - (i + 1)) (L.length - i) (L.length - i) (by simp only [Nat.min_def]; split <;> omega)
 obtain ⟨k1, hk1⟩ : ∃ k1, k1 = (L.length - i).min (L.length - i) := ⟨_, rfl⟩
 rw [← hk1] at hE2
 go_region
 have hW3 : Below w.heap.size w (W2.drew.setRow w.heap.size (row1 encS (row2 encS ROW x i) L i).toArray) := hW2.trans ⟨rfl, rfl, rfl, by simp [World.setRow], fun k hk => setRow_other W2.drew _ k _ (by omega)⟩
 have hN3 : (W2.drew.setRow w.heap.size (row1 encS (row2 encS ROW x i) L i).toArray).heap[w.heap.size]? = some (.cells (row1 encS (row2 encS ROW x i) L i).toArray 87 (0, 0)) := setRow_heap W2.drew _ _ _ _ _ hN2
 clear hE2
 go_wp2
 go_ret
 have hll : (L.take i ++ x :: L.drop i).length = L.length + 1 := by simp; omega
 refine ⟨_, rfl, ?_, hW3.mono hbw⟩
 rw [hll]
 refine ⟨?_, .inr ⟨w.heap.size, G, (row1 encS (row2 encS ROW x i) L i).toArray, rfl, hbw, hN3, hGn, by unfold maxLen; omega, ?_, ?_⟩⟩
 ·rw [flat_length encS3, hll]
 ·simp [HBl.out]
 ·exact HR2.out
theorem insSes_ex (base n i vb : Nat) (p : Option Addr) (cap : Nat) (L : List Ses) (x : Ses) (w : World) (hi : i ≤ n) (hn : n ≤ 1000) (hown : w.ownsRow base 87 3 (.slice p n cap) n (flat encS L)) (hnvb : p.map (·.block) ≠ some vb) (hvb : w.heap[vb]? = some (.cells (encS x).toArray 87 (0, 0))) (hbase : base ≤ w.heap.size) :
  Calls Tryz.prog 33 #[.slice p n cap, .int .i64 i, .slice (some ⟨vb, 0, none⟩) 1 1] w (FRet encS 87 base (L.take i ++ x :: L.drop i) w) := by
 have hl : n = L.length := by have := hown.1; rw [flat_length encS3] at this; omega
 by_cases hin : i = n
 ·subst hin
  have h := insSes_end base i vb (.slice p i cap) L x w hn hown ⟨p, cap, rfl⟩ hvb hbase
  rw [hl, List.take_of_length_le (Nat.le_refl _), List.drop_eq_nil_of_le (Nat.le_refl _)]
  rw [hl] at h
  exact h
 ·rcases hown.2 with ⟨h1, h2⟩ | ⟨g, cap', cur, h1, hbg, hc, hcap, hmax, hsz, hx⟩
  ·omega
  ·injection h1 with e1 e2 e3
   subst e1; subst e3
   have hc' : w.heap[g]? = some (.cells cur.toList.toArray 87 (0, 0)) := by simpa using hc
   have hne : vb ≠ g := fun e => hnvb (by rw [e]; rfl)
   by_cases hroom : n + 1 ≤ cap
   ·exact insSes_shift base n cap g i vb L x w cur.toList (by omega) hn hl hroom hmax hc' (by simpa using hsz) hx hne hvb hbg
   ·exact insSes_grow base n cap g i vb L x w cur.toList (by omega) hn hl (by omega) hcap hc' (by simpa using hsz) hx hvb hbase
end Go.Proofs.YtnaglmigkbbljaaGreatDoor
/-
  TopTransferred: slices.Insert and slices.Clone at pairs (printed by mkIns.py).
-/
namespace Go.Proofs
open Go
def Tryz.clonePar_ren : Go.Shelf.Ren := ⟨fun | 41 => 83 | n => n, fun | 22 => 26 | 23 => 115 | 4 => 4 | n => n, fun | n => n⟩
theorem Tryz.clonePar : Go.Proofs.SlLaysE0.n41 Tryz.prog Tryz.clonePar_ren := {
 mixed := by kernel_rfl
 f41 := ⟨Tryz.f83.name, by decide, Tryz.func83.trans (congrArg some (by kernel_rfl))⟩
 t4 := Tryz.underlying4
 a4 := Tryz.isAgg4
 z4 := Tryz.sizeOf4
 v4 := Tryz.zeroValue4
 t22 := Tryz.underlying26
 a22 := Tryz.isAgg26
 z22 := Tryz.sizeOf26
 v22 := Tryz.zeroValue26 }
end Go.Proofs
namespace Go.Proofs.YtnaglmigkbbljaaGreatDoor
open Go Go.RowKit
structure Par where
 k : ByteArray
 v : ByteArray
 ver : Nat
def encP (x : Par) : List Value := [.string x.k, .string x.v, .int .i64 x.ver]
theorem encP3 : Enc3 encP := ⟨fun _ => rfl, fun x u hu => by
 simp only [encP, List.mem_cons, List.not_mem_nil, or_false] at hu
 rcases hu with rfl | rfl | rfl <;> rfl⟩
theorem Tryz.info115 : (Tryz.prog.info? 115).map (fun i => (i.zero, i.size, i.bytes)) = some (some (.agg #[.string ⟨#[]⟩, .string ⟨#[]⟩, .int .i64 0]), 3, 40) := by kernel_rfl
theorem sizeOf115' : ∀ w, (Go.sizeOf 115).run Tryz.prog w = .ok 3 w := fun w => by
 obtain ⟨i0, hi, hz0, hz1, hz2⟩ := info_parts Tryz.info115
 simp [sizeOf, typeInfo, hi, hz1]
theorem size115 : (Tryz.prog.info? 115).map (·.size) = some 3 := by
 obtain ⟨i0, hi, hz0, hz1, hz2⟩ := info_parts Tryz.info115
 rw [hi]; simp [hz1]
theorem clonePar_ex (p : Option Addr) (n c : Nat) (L : List Par) (w : World) (hn : L.length = n) (hn2 : n ≤ 100000) (h : FL encP w p L) (hp : n = 0 → p = none ∨ ∃ b off, p = some ⟨b, off, none⟩) : Calls Tryz.prog 83 #[.slice p n c] w (FRet encP 115 w.heap.size L w) := by
 subst hn
 obtain ⟨i0, hi0, hz0, hz1, hz2⟩ := info_parts Tryz.info115
 have key : ∀ b off, p = some ⟨b, off, none⟩ → (∀ j u, (flat encP L)[j]? = some u → w.cell? ⟨b, off + j, none⟩ = some u) → Calls Tryz.prog 83 #[.slice p L.length c] w (FRet encP 115 w.heap.size L w) := fun b off e hc => by
  subst e
  refine (AnyE.slices_Clone Tryz.clonePar i0 _ 3 40 hi0 hz0 hz1 hz2 rfl (by decide) sizeOf115' b off L.length c (flat encP L) w (flat_length encP3 L) (by unfold maxLen; omega) (by omega) hc (flat_one encP3 L)).mono ?_
  rintro e w' ⟨v', rfl, ho, _, hb⟩
  exact ⟨v', rfl, ho, hb⟩
 by_cases h0 : L.length = 0
 ·have hL : L = [] := List.eq_nil_of_length_eq_zero h0
  subst hL
  rcases hp rfl with e | ⟨b, off, e⟩
  ·subst e
   refine (AnyE.slices_Clone_nil Tryz.clonePar 0 c w).mono ?_
   rintro e w' ⟨rfl, rfl⟩
   exact ⟨_, rfl, World.ownsRow_nil _ _ _ _, Below.refl _ _⟩
  ·exact key b off e fun j u hu => by simp [flat] at hu
 ·obtain ⟨b, off, e, _, hc⟩ := h.at encP3 (by omega)
  exact key b off e hc
theorem insPar_end (base n vb : Nat) (v : Value) (L : List Par) (x : Par) (w : World) (hn : n ≤ 1000) (hown : w.ownsRow base 115 3 v n (flat encP L)) (hv : ∃ p cap, v = .slice p n cap) (hvb : w.heap[vb]? = some (.cells (encP x).toArray 115 (0, 0))) (hbase : base ≤ w.heap.size) :
  Calls Tryz.prog 138 #[v, .int .i64 n, .slice (some ⟨vb, 0, none⟩) 1 1] w (FRet encP 115 base (L ++ [x]) w) := by
 obtain ⟨i0, hi, hz0, hz1, hz2⟩ := info_parts Tryz.info115
 obtain ⟨p, cap, rfl⟩ := hv
 have hnl : n = L.length := by have := hown.1; rw [flat_length encP3] at this; omega
 have hs1 : ∀ j v, (encP x)[j]? = some v → w.cell? ((⟨vb, 0, none⟩ : Addr).add j) = some v := fun j v hj => by
  rw [Addr.add_lit]
  exact cellOf hvb (by simpa using hj)
 have hlt : ∀ c k, (Value.slice p n c).ownBlock = some k → base ≤ k := fun c k hk => (hown.lt k (by cases p with | none => simp [Value.ownBlock] at hk | some a => simpa [Value.ownBlock] using hk)).1
 have HLT := Lib.hid hlt
 clear hlt
 have HO := Lib.hid hown
 have HS1 := Lib.hid hs1
 have HS2 := Lib.hid (encP3.one x)
 have HS3 := Lib.hid (encP3.len x)
 have HNL := Lib.hid hnl
 have hm : n + 1 ≤ maxLen := by unfold maxLen; omega
 clear hown hs1 hnl hvb
 obtain ⟨ex, hex⟩ : ∃ ex, ex = encP x := ⟨_, rfl⟩
 rw [← hex] at HS1 HS2 HS3
 have HEX := Lib.hid hex
 clear hex
 go_enter Tryz.func138, Tryz.ntmps138
 go_wp2_with (at_builtin; refine wpList_append_own _ rfl _ _ 26 rfl base 115 i0 (.agg #[.string ⟨#[]⟩, .string ⟨#[]⟩, .int .i64 0]) 3 40 Tryz.underlying26 hi hz0 hz1 hz2 rfl (by decide) _ _ _ rfl HO.out ⟨vb, 0, none⟩ 1 1 ex rfl HS3.out HS1.out HS2.out hm (by omega) hbase ?_)
 all_goals
  intro v' w' hown' hgrow _
  have hb1 : Below base w w' := (Below.refl base w).grown hgrow hbase (fun k hk => HLT.out _ k hk)
  have HO' := Lib.hid hown'
  clear hown' hgrow
  go_wp2
  go_ret
  refine ⟨v', rfl, ?_, hb1⟩
  have h1 := HO'.out
  rw [HEX.out] at h1
  rw [flat_append, List.length_append, ← HNL.out]
  simpa [flat] using h1
theorem insPar_shift (base n cap g i vb : Nat) (L : List Par) (x : Par) (w : World) (cur : List Value) (hi : i < n) (hn : n ≤ 1000) (hl : n = L.length) (hroom : n + 1 ≤ cap) (hcap : cap ≤ maxLen) (hg : w.heap[g]? = some (.cells cur.toArray 115 (0, 0))) (hcs : cur.length = cap * 3) (hx : cur.take (n * 3) = flat encP L)
  (hvg : vb ≠ g) (hvb : w.heap[vb]? = some (.cells (encP x).toArray 115 (0, 0))) (hbg : base ≤ g) :
  Calls Tryz.prog 138 #[.slice (some ⟨g, 0, none⟩) n cap, .int .i64 i, .slice (some ⟨vb, 0, none⟩) 1 1] w (FRet encP 115 base (L.take i ++ x :: L.drop i) w) := by
 subst hl
 obtain ⟨n, hN⟩ : ∃ n, n = L.length := ⟨_, rfl⟩
 have hz2 : ¬ ((i : Int) = (L.length : Int)) := by omega
 have hgs : w.shape? g = some (115, cap * 3) := by unfold World.shape?; rw [hg]; simp [hcs]
 have hvs : w.shape? vb = some (115, 3) := by unfold World.shape?; rw [hvb]; simp [encP3.len]
 have hov : ∀ lb cb, (callFunc 179 #[.slice (some ⟨vb, 0, none⟩) 1 1, .slice (some ⟨g, (i + 1) * 3, none⟩) lb cb]).run Tryz.prog w = .ok (.value (.bool false)) w := fun lb cb => by
  rw [run_callFunc_extern Tryz.func179 (by kernel_rfl) (by kernel_rfl) (by kernel_rfl) (e := Extern.SlicesOverlaps.overlaps #[26, 26] #[4]) (by kernel_rfl),
   Lib.run_overlaps_apart w 26 4 115 Tryz.underlying26 3 sizeOf115' ⟨vb, 0, none⟩ ⟨g, (i + 1) * 3, none⟩ 1 1 lb cb hvg 115 115 3 (cap * 3) hvs hgs (by omega) (by unfold World.frozen?; rw [hvb]; rfl) (by unfold World.frozen?; rw [hvb]; rfl)]
  rfl
 have HOV := Lib.hid hov
 unfold maxLen at hcap
 have hdl : (flat encP (L.drop i)).length = (L.length - i) * 3 := by rw [flat_length encP3, List.length_drop]
 have hgx : ∀ (W : World), (∀ x, W.cell? x = w.cell? x) → ∀ j v, (flat encP (L.drop i))[j]? = some v → W.cell? ((⟨g, i * 3, none⟩ : Addr).add j) = some v := fun W hW j v hj => by
  rw [Addr.add_lit, hW]
  rw [← flat_drop encP3 L i (by omega), List.getElem?_drop, ← hx, List.getElem?_take] at hj
  split at hj
  ·unfold World.cell?
   rw [hg]
   simpa using hj
  ·cases hj
 have hcp1 : ∀ (W : World), W.heap = w.heap → ∀ ty dl dc sl sc, Nat.min sl dl = L.length - i → (Builtin.copy_ #[26, 26] ty #[.slice (some ⟨g, (i + 1) * 3, none⟩) dl dc, .slice (some ⟨g, i * 3, none⟩) sl sc]).run Tryz.prog W = .ok (goInt (Nat.min sl dl)) (W.setRow g (row1 encP cur L i).toArray) := fun W hW ty dl dc sl sc hm => by
  have h := run_copy_rowK (P := Tryz.prog) W 26 26 ty 115 3 g ((i + 1) * 3) dl dc ⟨g, i * 3, none⟩ sl sc cur.toArray 115 (flat encP (L.drop i)) Tryz.underlying26 size115 (by rw [hW]; exact hg) (by rw [hm, hdl]) (hgx W (fun x => by unfold World.cell?; rw [hW])) (by rw [hdl]; simp; omega) (flat_one encP3 _)
  simpa [row1] using h
 have hR1 := row1_len encP3 (n := L.length) hi rfl hroom hcs
 have hel := encP3.len x
 have hcp2 : ∀ (W : World), W.heap[g]? = some (.cells (row1 encP cur L i).toArray 115 (0, 0)) → W.heap[vb]? = some (.cells (encP x).toArray 115 (0, 0)) → ∀ ty dl dc, 1 ≤ dl → (Builtin.copy_ #[26, 26] ty #[.slice (some ⟨g, i * 3, none⟩) dl dc, .slice (some ⟨vb, 0, none⟩) 1 1]).run Tryz.prog W = .ok (goInt 1) (W.setRow g (row2 encP (row1 encP cur L i) x i).toArray) := fun W hW hWv ty dl dc hm => by
  have hmin : Nat.min 1 dl = 1 := by simp only [Nat.min_def]; split <;> omega
  have h := run_copy_rowK (P := Tryz.prog) W 26 26 ty 115 3 g (i * 3) dl dc ⟨vb, 0, none⟩ 1 1 (row1 encP cur L i).toArray 115 (encP x) Tryz.underlying26 size115 hW (by rw [hmin, hel])
   (fun j v hj => by
    rw [Addr.add_lit]
    exact cellOf hWv (by simpa using hj)) (by rw [hel]; simp [hR1]; omega) (encP3.one x)
  rw [hmin, hel] at h
  simpa [row2] using h
 have HC1 := Lib.hid hcp1
 have HC2 := Lib.hid hcp2
 have HR2 := Lib.hid (row2_take encP3 (x := x) (n := L.length) hi rfl hroom hcs hx)
 have HG := Lib.hid hg
 have HVB := Lib.hid hvb
 have HR1 := Lib.hid hR1
 clear hov hcp1 hcp2 hgx hg hvb hgs hvs hx hdl hR1 hel
 have hb1 : (0 : Int) ≤ (i : Int) + 1 := by omega
 have hin : i ≤ L.length := by omega
 have hb2 : ¬ (cap = i + 1) := by omega
 have hb4 : ¬ (cap = i) := by omega
 have hb5 : ¬ ((cap : Int) < (L.length : Int) + 1) := by omega
 have hw1 : IntKind.i64.wrap ((i : Int) + 1) = (i : Int) + 1 := by rw [IntKind.wrap_i64]; omega
 have htn : ((i : Int) + 1).toNat = i + 1 := by omega
 have hb6 : (i : Int) + 1 ≤ (L.length : Int) + 1 := by omega
 have hb7 : (i : Int) ≤ (L.length : Int) + 1 := by omega
 have mixed : Tryz.prog.follows Departure.mixedOrders = true := by kernel_rfl
 go_enter Tryz.func138, Tryz.ntmps138
 go_wp2_with (simp only [HOV.out])
 have hE := HC1.out w.drew rfl 3 (L.length - i) (cap - (i + 1)) (L.length + 1 - i) (cap - i) (by simp only [Nat.min_def]; split <;> omega)
 obtain ⟨k1, hk1⟩ : ∃ k1, k1 = (L.length + 1 - i).min (L.length - i) := ⟨_, rfl⟩
 rw [← hk1] at hE
 go_region
 have hg3 : (w.drew.setRow g (row1 encP cur L i).toArray).heap[g]? = some (.cells (row1 encP cur L i).toArray 115 (0, 0)) := setRow_heap w.drew g _ _ _ _ HG.out
 have hv3 : (w.drew.setRow g (row1 encP cur L i).toArray).heap[vb]? = some (.cells (encP x).toArray 115 (0, 0)) := (setRow_other w.drew g vb _ hvg).trans HVB.out
 have HG3 := Lib.hid hg3
 have HV3 := Lib.hid hv3
 have hb8 : Below base w (w.drew.setRow g (row1 encP cur L i).toArray) := ⟨rfl, rfl, rfl, by simp [World.setRow], fun k hk => setRow_other w.drew g k _ (by omega)⟩
 have HB8 := Lib.hid hb8
 clear hE hg3 hv3 hb8
 generalize w.drew.setRow g (row1 encP cur L i).toArray = W3 at HG3 HV3 HB8 ⊢
 have hE2 := HC2.out W3 HG3.out HV3.out 3 (L.length + 1 - i) (cap - i) (by omega)
 go_wp2
 have hb9 : Below base w (W3.setRow g (row2 encP (row1 encP cur L i) x i).toArray) := HB8.out.trans ⟨rfl, rfl, rfl, by simp [World.setRow], fun k hk => setRow_other W3 g k _ (by omega)⟩
 have hg4 : (W3.setRow g (row2 encP (row1 encP cur L i) x i).toArray).heap[g]? = some (.cells (row2 encP (row1 encP cur L i) x i).toArray 115 (0, 0)) := setRow_heap W3 g _ _ _ _ HG3.out
 go_ret
 have hll : (L.take i ++ x :: L.drop i).length = L.length + 1 := by simp; omega
 refine ⟨_, rfl, ?_, hb9⟩
 rw [hll]
 refine ⟨?_, .inr ⟨g, cap, (row2 encP (row1 encP cur L i) x i).toArray, rfl, hbg, hg4, by omega, by unfold maxLen; omega, ?_, ?_⟩⟩
 ·rw [flat_length encP3, hll]
 ·simp [row2_len encP3 HR1.out (x := x) (i := i) (by omega)]
 ·exact HR2.out
theorem z115cells : (.agg #[.string ⟨#[]⟩, .string ⟨#[]⟩, .int .i64 0] : Value).cells.size = 3 := rfl
theorem insPar_grow (base n cap g i vb : Nat) (L : List Par) (x : Par) (w : World) (cur : List Value) (hi : i < n) (hn : n ≤ 1000) (hl : n = L.length) (hroom : cap < n + 1) (hnc : n ≤ cap) (hg : w.heap[g]? = some (.cells cur.toArray 115 (0, 0))) (hcs : cur.length = cap * 3) (hx : cur.take (n * 3) = flat encP L)
  (hvb : w.heap[vb]? = some (.cells (encP x).toArray 115 (0, 0))) (hbw : base ≤ w.heap.size) :
  Calls Tryz.prog 138 #[.slice (some ⟨g, 0, none⟩) n cap, .int .i64 i, .slice (some ⟨vb, 0, none⟩) 1 1] w (FRet encP 115 base (L.take i ++ x :: L.drop i) w) := by
 subst hl
 obtain rfl : cap = L.length := by omega
 obtain ⟨i0, hi0, hz0, hz1, hz2⟩ := info_parts Tryz.info115
 have hgw : g < w.heap.size := (Array.getElem?_eq_some_iff.mp hg).1
 have hvw : vb < w.heap.size := (Array.getElem?_eq_some_iff.mp hvb).1
 have hel := encP3.len x
 have hcell : ∀ (a : Nat) j v, (flat encP L)[a + j]? = some v → w.cell? ⟨g, a + j, none⟩ = some v := fun a j v hj => by
  rw [← hx, List.getElem?_take] at hj
  split at hj
  ·unfold World.cell?
   rw [hg]
   simpa using hj
  ·cases hj
 have hold : (Builtin.firstCells i0.size i (.slice (some ⟨g, 0, none⟩) i L.length)).run Tryz.prog w.drew = .ok (flat encP (L.take i)).toArray w.drew := by
  rw [hz1]
  exact run_firstCells_some w.drew 3 i ⟨g, 0, none⟩ i L.length (flat encP (L.take i)) (by rw [flat_length encP3, List.length_take]; omega) (fun j v hj => by
   rw [Addr.add_lit]
   rw [← flat_take encP3 L i (by omega), List.getElem?_take] at hj
   split at hj
   ·exact hcell 0 j v (by simpa using hj)
   ·cases hj)
 have hik : i + (L.length + 1 - i) = L.length + 1 := by omega
 have hkk : (L.length : Int) + 1 - (i : Int) = ((L.length + 1 - i : Nat) : Int) := by omega
 obtain ⟨G, hG⟩ : ∃ G, G = grownCap w (L.length + 1) L.length 115 := ⟨_, rfl⟩
 have hGn : L.length + 1 ≤ G := by rw [hG]; exact grownCap_ge w _ _ _
 have hG63 : G ≤ maxLen := by rw [hG]; exact grownCap_le_maxLen w (L.length + 1) L.length 115 (by unfold maxLen; omega)
 obtain ⟨ROW, hROW⟩ : ∃ ROW : List Value, ROW = flat encP (L.take i) ++ (Builtin.zeroCells (.agg #[.string ⟨#[]⟩, .string ⟨#[]⟩, .int .i64 0] : Value).cells (L.length + 1 - i)).toList ++ (Builtin.zeroCells (.agg #[.string ⟨#[]⟩, .string ⟨#[]⟩, .int .i64 0] : Value).cells (G - (L.length + 1))).toList := ⟨_, rfl⟩
 have hRl : ROW.length = G * 3 := by
  rw [hROW]
  simp only [List.length_append, flat_length encP3, List.length_take, Array.length_toList, zeroCells_size, z115cells]
  omega
 have hRx : ROW.take (i * 3) = flat encP (L.take i) := by
  rw [hROW, List.append_assoc, List.take_append_of_le_length (by rw [flat_length encP3, List.length_take]; omega), List.take_of_length_le (by rw [flat_length encP3, List.length_take]; omega)]
 have hrz : (Builtin.append_ #[26, 3] 26 #[.slice (some ⟨g, 0, none⟩) i L.length, .int .i64 ((L.length : Int) + 1 - (i : Int))]).run Tryz.prog w =
   .ok (.slice (some ⟨w.heap.size, 0, none⟩) (L.length + 1) G) (w.drew.alloc (.cells ROW.toArray 115)) := by
  have h := Lib.run_append_grow_zeros (P := Tryz.prog) w 26 3 26 115 i0 _ .i64 .i64 Tryz.underlying26 Tryz.underlying3 hi0 hz0 (some ⟨g, 0, none⟩) i L.length (flat encP (L.take i)) hold (L.length + 1 - i) (by omega) (by omega) (by omega) (by omega) (by rw [hz2]; omega) (by rw [hz2, hik]; exact growslice_fits (by omega) (by omega))
  rw [hik, ← hG] at h
  have e : (flat encP (L.take i)).toArray ++ Builtin.zeroCells (.agg #[.string ⟨#[]⟩, .string ⟨#[]⟩, .int .i64 0] : Value).cells (L.length + 1 - i) ++ Builtin.zeroCells (.agg #[.string ⟨#[]⟩, .string ⟨#[]⟩, .int .i64 0] : Value).cells (G - (L.length + 1)) = ROW.toArray := by
   rw [hROW]
   apply Array.toList_inj.mp
   simp only [Array.toList_append]
  rw [e] at h
  rw [hkk]
  exact h
 have hbN : g ≠ w.heap.size := by omega
 have hvN : vb ≠ w.heap.size := by omega
 have hW1 : ∀ k, k < w.heap.size → (w.drew.alloc (.cells ROW.toArray 115)).heap[k]? = w.heap[k]? := fun k hk => Below.heap_alloc w.drew _ k hk
 have hN1 : (w.drew.alloc (.cells ROW.toArray 115)).heap[w.heap.size]? = some (.cells ROW.toArray 115 (0, 0)) := heap_alloc_new w.drew _
 have hcpA : ∀ (W : World), W.heap = (w.drew.alloc (.cells ROW.toArray 115)).heap → ∀ ty dl dc, 1 ≤ dl → (Builtin.copy_ #[26, 26] ty #[.slice (some ⟨w.heap.size, i * 3, none⟩) dl dc, .slice (some ⟨vb, 0, none⟩) 1 1]).run Tryz.prog W = .ok (goInt 1) (W.setRow w.heap.size (row2 encP ROW x i).toArray) := fun W hW ty dl dc hm => by
  have hmin : Nat.min 1 dl = 1 := by simp only [Nat.min_def]; split <;> omega
  have hWv : W.heap[vb]? = some (.cells (encP x).toArray 115 (0, 0)) := by rw [hW]; exact (hW1 vb hvw).trans hvb
  have h := run_copy_rowK (P := Tryz.prog) W 26 26 ty 115 3 w.heap.size (i * 3) dl dc ⟨vb, 0, none⟩ 1 1 ROW.toArray 115 (encP x) Tryz.underlying26 size115 (by rw [hW]; exact hN1) (by rw [hmin, hel])
   (fun j v hj => by
    rw [Addr.add_lit]
    exact cellOf hWv (by simpa using hj)) (by rw [hel]; simp [hRl]; omega) (encP3.one x)
  rw [hmin, hel] at h
  simpa [row2] using h
 have hA := row2_len encP3 (x := x) (i := i) hRl (by omega)
 have hdl : (flat encP (L.drop i)).length = (L.length - i) * 3 := by rw [flat_length encP3, List.length_drop]
 have hcpB : ∀ (W : World), W.heap[w.heap.size]? = some (.cells (row2 encP ROW x i).toArray 115 (0, 0)) → W.heap[g]? = some (.cells cur.toArray 115 (0, 0)) → ∀ ty dl dc sl sc, Nat.min sl dl = L.length - i → (Builtin.copy_ #[26, 26] ty #[.slice (some ⟨w.heap.size, (i + 1) * 3, none⟩) dl dc, .slice (some ⟨g, i * 3, none⟩) sl sc]).run Tryz.prog W = .ok (goInt (Nat.min sl dl)) (W.setRow w.heap.size (row1 encP (row2 encP ROW x i) L i).toArray) := fun W hW hWg ty dl dc sl sc hm => by
  have h := run_copy_rowK (P := Tryz.prog) W 26 26 ty 115 3 w.heap.size ((i + 1) * 3) dl dc ⟨g, i * 3, none⟩ sl sc (row2 encP ROW x i).toArray 115 (flat encP (L.drop i)) Tryz.underlying26 size115 hW (by rw [hm, hdl])
   (fun j v hj => by
    rw [Addr.add_lit]
    rw [← flat_drop encP3 L i (by omega), List.getElem?_drop] at hj
    have := hcell (i * 3) j v hj
    unfold World.cell? at this ⊢
    rw [hWg]
    rw [hg] at this
    exact this) (by rw [hdl]; simp [hA]; omega) (flat_one encP3 _)
  simpa [row1] using h
 have HR2 := Lib.hid (rowB_take encP3 (x := x) (n := L.length) hi rfl hGn hRl hRx)
 have HRZ := Lib.hid hrz
 have HCA := Lib.hid hcpA
 have HCB := Lib.hid hcpB
 have HG := Lib.hid hg
 have hBl := row1_len encP3 (cur := row2 encP ROW x i) (L := L) (i := i) (n := L.length) hi rfl hGn hA
 have HBl := Lib.hid hBl
 clear hold hik hkk hROW hRl hRx hcpA hcpB hcell hx hg hvb hG hA hdl hBl hW1 hN1 hrz hz0 hz1 hz2 hi0 hel
 unfold maxLen at hG63
 have hz3 : ¬ ((i : Int) = (L.length : Int)) := by omega
 have hb1 : (0 : Int) ≤ (i : Int) + 1 := by omega
 have hin : i ≤ L.length := by omega
 have hb4 : ¬ (L.length = i) := by omega
 have hb5 : (L.length : Int) < (L.length : Int) + 1 := by omega
 have hw1 : IntKind.i64.wrap ((i : Int) + 1) = (i : Int) + 1 := by rw [IntKind.wrap_i64]; omega
 have htn : ((i : Int) + 1).toNat = i + 1 := by omega
 have hb6 : (i : Int) + 1 ≤ (L.length : Int) + 1 := by omega
 have hb7 : (i : Int) ≤ (L.length : Int) + 1 := by omega
 have hGi : ¬ (G = i) := by omega
 have hGi1 : ¬ (G = i + 1) := by omega
 have hE := HCA.out ((w.alloc (.cells ROW.toArray 115)).drew) rfl 3 (L.length + 1 - i) (G - i) (by omega)
 have hW1 : Below w.heap.size w ((w.alloc (.cells ROW.toArray 115)).drew) := ((Below.refl w.heap.size w).alloc (Nat.le_refl _) _).trans ⟨rfl, rfl, rfl, Nat.le_refl _, fun _ _ => rfl⟩
 have hN1 : ((w.alloc (.cells ROW.toArray 115)).drew).heap[w.heap.size]? = some (.cells ROW.toArray 115 (0, 0)) := heap_alloc_new w _
 have HW1 := Lib.hid hW1
 have HN1 := Lib.hid hN1
 clear hW1 hN1
 go_enter Tryz.func138, Tryz.ntmps138
 go_wp2_with (at_builtin; refine Lib.wpList_append_run _ rfl _ _ _ _ rfl _ _ rfl rfl _ _ HRZ.out ?_)
 have hW2 : Below w.heap.size w (((w.alloc (.cells ROW.toArray 115)).drew).setRow w.heap.size (row2 encP ROW x i).toArray) := HW1.out.trans ⟨rfl, rfl, rfl, by simp [World.setRow], fun k hk => setRow_other _ _ k _ (by omega)⟩
 have hN2 : (((w.alloc (.cells ROW.toArray 115)).drew).setRow w.heap.size (row2 encP ROW x i).toArray).heap[w.heap.size]? = some (.cells (row2 encP ROW x i).toArray 115 (0, 0)) := setRow_heap _ _ _ _ _ _ HN1.out
 clear hE
 revert hW2 hN2
 generalize ((w.alloc (.cells ROW.toArray 115)).drew).setRow w.heap.size (row2 encP ROW x i).toArray = W2
 intro hW2 hN2
 have hE2 := HCB.out W2.drew hN2 ((hW2.block g hgw).trans HG.out) 3 (L.length - i) (G - (i + 1)) (L.length - i) (L.length - i) (by simp only [Nat.min_def]; split <;> omega)
 obtain ⟨k1, hk1⟩ : ∃ k1, k1 = (L.length - i).min (L.length - i) := ⟨_, rfl⟩
 rw [← hk1] at hE2
 go_region
 have hW3 : Below w.heap.size w (W2.drew.setRow w.heap.size (row1 encP (row2 encP ROW x i) L i).toArray) := hW2.trans ⟨rfl, rfl, rfl, by simp [World.setRow], fun k hk => setRow_other W2.drew _ k _ (by omega)⟩
 have hN3 : (W2.drew.setRow w.heap.size (row1 encP (row2 encP ROW x i) L i).toArray).heap[w.heap.size]? = some (.cells (row1 encP (row2 encP ROW x i) L i).toArray 115 (0, 0)) := setRow_heap W2.drew _ _ _ _ _ hN2
 clear hE2
 go_wp2
 go_ret
 have hll : (L.take i ++ x :: L.drop i).length = L.length + 1 := by simp; omega
 refine ⟨_, rfl, ?_, hW3.mono hbw⟩
 rw [hll]
 refine ⟨?_, .inr ⟨w.heap.size, G, (row1 encP (row2 encP ROW x i) L i).toArray, rfl, hbw, hN3, hGn, by unfold maxLen; omega, ?_, ?_⟩⟩
 ·rw [flat_length encP3, hll]
 ·simp [HBl.out]
 ·exact HR2.out
theorem insPar_ex (base n i vb : Nat) (p : Option Addr) (cap : Nat) (L : List Par) (x : Par) (w : World) (hi : i ≤ n) (hn : n ≤ 1000) (hown : w.ownsRow base 115 3 (.slice p n cap) n (flat encP L)) (hnvb : p.map (·.block) ≠ some vb) (hvb : w.heap[vb]? = some (.cells (encP x).toArray 115 (0, 0))) (hbase : base ≤ w.heap.size) :
  Calls Tryz.prog 138 #[.slice p n cap, .int .i64 i, .slice (some ⟨vb, 0, none⟩) 1 1] w (FRet encP 115 base (L.take i ++ x :: L.drop i) w) := by
 have hl : n = L.length := by have := hown.1; rw [flat_length encP3] at this; omega
 by_cases hin : i = n
 ·subst hin
  have h := insPar_end base i vb (.slice p i cap) L x w hn hown ⟨p, cap, rfl⟩ hvb hbase
  rw [hl, List.take_of_length_le (Nat.le_refl _), List.drop_eq_nil_of_le (Nat.le_refl _)]
  rw [hl] at h
  exact h
 ·rcases hown.2 with ⟨h1, h2⟩ | ⟨g, cap', cur, h1, hbg, hc, hcap, hmax, hsz, hx⟩
  ·omega
  ·injection h1 with e1 e2 e3
   subst e1; subst e3
   have hc' : w.heap[g]? = some (.cells cur.toList.toArray 115 (0, 0)) := by simpa using hc
   have hne : vb ≠ g := fun e => hnvb (by rw [e]; rfl)
   by_cases hroom : n + 1 ≤ cap
   ·exact insPar_shift base n cap g i vb L x w cur.toList (by omega) hn hl hroom hmax hc' (by simpa using hsz) hx hne hvb hbg
   ·exact insPar_grow base n cap g i vb L x w cur.toList (by omega) hn hl (by omega) hcap hc' (by simpa using hsz) hx hvb hbase
end Go.Proofs.YtnaglmigkbbljaaGreatDoor
/-
  TopTransferred: the search among sessions (printed by mkBs.py).
-/
namespace Go.Proofs.YtnaglmigkbbljaaGreatDoor
open Go Go.RowKit
def Cut {α : Type} (cf : α → Int) (L : List α) (i j : Nat) : Prop := i ≤ j ∧ j ≤ L.length ∧ (∀ k x, L[k]? = some x → k < i → cf x < 0) ∧ (∀ k x, L[k]? = some x → j ≤ k → 0 ≤ cf x)
def Mono {α : Type} (cf : α → Int) (L : List α) : Prop := ∀ (i j : Nat) (x y : α), L[i]? = some x → L[j]? = some y → i ≤ j → cf y < 0 → cf x < 0
theorem Cut.up {α : Type} {cf : α → Int} {L : List α} {i j h : Nat} {x : α} (hc : Cut cf L i j) (hA : Mono cf L) (hx : L[h]? = some x) (_hi : i ≤ h) (hj : h < j) (hl : cf x < 0) : Cut cf L (h + 1) j :=
 ⟨hj, hc.2.1, fun k y hy hk => hA k h y x hy hx (by omega) hl, hc.2.2.2⟩
theorem Cut.down {α : Type} {cf : α → Int} {L : List α} {i j h : Nat} {x : α} (hc : Cut cf L i j) (hA : Mono cf L) (hx : L[h]? = some x) (hi : i ≤ h) (hj : h < j) (hl : ¬ cf x < 0) : Cut cf L i h :=
 ⟨hi, by have := hc.2.1; omega, hc.2.2.1, fun k y hy hk => Int.not_lt.mp fun hlt => hl (hA h k x y hx hy hk hlt)⟩
def cfSes (t : Int) (x : Ses) : Int := (x.c : Int) - t
def foundSes (L : List Ses) (t : Int) (i : Nat) : Bool := match L[i]? with | some x => decide (cfSes t x = 0) | none => false
def BsSes (L : List Ses) (t : Int) (w : World) (e : Ending) (w' : World) : Prop := ∃ i, Cut (cfSes t) L i i ∧ e = .returned (.tuple #[.int .i64 (i : Int), .bool (foundSes L t i)]) ∧ Below w.heap.size w w'
theorem cmpSes_ex (t : Int) (x : Ses) (w : World) (hc : x.c ≤ 1000000) (ht : 0 ≤ t ∧ t ≤ 1000000) : Calls Tryz.prog 74 #[.agg #[.int .i64 x.c, .int .i64 x.n, .string x.r], .int .i64 t] w fun e w' => e = .returned (.int .i64 (cfSes t x)) ∧ Below w.heap.size w w' := by
 unfold cfSes
 go_enter Tryz.func74, Tryz.ntmps74
 go_wp2
 go_ret
 exact ⟨rfl, (Below.refl _ _).alloc (Nat.le_refl _) _⟩
theorem bsSes_nil (c : Nat) (p : Option Addr) (t : Int) (w : World) : Calls Tryz.prog 73 #[.slice p 0 c, .int .i64 t, .func (.func 74) #[] #[]] w (BsSes [] t w) := by
 go_enter Tryz.func73, Tryz.ntmps73
 go_wp2
 go_loop [9, 10] (fun i j => i = .int .i64 0 ∧ j = .int .i64 0) (fun _ _ => 0)
 case atStart => exact ⟨rfl, rfl⟩
 case round =>
  obtain ⟨rfl, rfl⟩ := hrel
  go_wp2
  go_ret2
  exact ⟨0, ⟨Nat.le_refl _, Nat.le_refl _, fun k x hk => by simp at hk, fun k x hk => by simp at hk⟩, rfl, Below.refl _ _⟩
theorem bsSes_some (b off n cap : Nat) (L : List Ses) (t : Int) (w : World) (hl : n = L.length) (hn : n ≤ 1000) (hb : b < w.heap.size) (hA : Mono (cfSes t) L) (hR : ∀ x ∈ L, x.c ≤ 1000000) (ht : 0 ≤ t ∧ t ≤ 1000000) (h : ∀ j u, (flat encS L)[j]? = some u → w.cell? ⟨b, off + j, none⟩ = some u) :
    Calls Tryz.prog 73 #[.slice (some ⟨b, off, none⟩) n cap, .int .i64 t, .func (.func 74) #[] #[]] w (BsSes L t w) := by
  subst hl
  have H := Lib.hid h
  have HA := Lib.hid hA
  clear h hA
  have HC3 : Hid (∀ (wr : World) (i : Nat) (x : Ses), Below w.heap.size w wr → L[i]? = some x → wr.cell? ⟨b, off + i * 3, none⟩ = some (.int .i64 x.c) ∧ wr.cell? ⟨b, off + i * 3 + 1, none⟩ = some (.int .i64 x.n) ∧ wr.cell? ⟨b, off + i * 3 + 2, none⟩ = some (.string x.r)) := Lib.hid fun wr i x hbl hx =>
    ⟨(hbl.cell (p := ⟨b, off + (i * 3 + 0), none⟩) hb).trans (H.out _ _ ((flat_get encS3 hx (j := 0) (by omega)).trans rfl)),
     (hbl.cell (p := ⟨b, off + (i * 3 + 1), none⟩) hb).trans (H.out _ _ ((flat_get encS3 hx (j := 1) (by omega)).trans rfl)),
     (hbl.cell (p := ⟨b, off + (i * 3 + 2), none⟩) hb).trans (H.out _ _ ((flat_get encS3 hx (j := 2) (by omega)).trans rfl))⟩
  have HR := Lib.hid hR
  clear hR
  go_enter Tryz.func73, Tryz.ntmps73
  go_wp2
  go_loopw [9, 10] (fun i j wr => ∃ a c : Nat, i = .int .i64 a ∧ j = .int .i64 c ∧ Cut (cfSes t) L a c ∧ Below w.heap.size w wr) (fun i j _ => (intOf j).toNat - (intOf i).toNat)
  case atStart => exact ⟨0, L.length, rfl, rfl, ⟨Nat.zero_le _, by omega, fun k x _ hk => absurd hk (Nat.not_lt_zero k), fun k x hk hn' => by have := (List.getElem?_eq_some_iff.mp hk).1; omega⟩, Below.refl _ _⟩
  case round =>
    obtain ⟨a, c, rfl, rfl, hC, hbl⟩ := hrel
    have hac := hC.1
    have hcl : c ≤ L.length := by have := hC.2.1; omega
    by_cases hlt : a < c
    · obtain ⟨x, hx⟩ : ∃ x, L[(a + c) / 2]? = some x := ⟨_, List.getElem?_eq_getElem (by omega)⟩
      obtain ⟨hc1, hc2, hc3⟩ := HC3.out wr _ x hbl hx
      have HXC := Lib.hid (HR.out x (List.mem_of_getElem? hx))
      have HX := Lib.hid hx
      have HC := Lib.hid hC
      clear hx hC
      go_wp2_with (go_at_call 74; with_reducible refine (cmpSes_ex t x _ HXC.out ht).mono ?_; rintro e w2 ⟨rfl, hb2⟩)
      all_goals
        have hb3 : Below w.heap.size w w2 := hbl.trans (hb2.mono hbl.size)
      · go_roundw
        case rel => exact ⟨(a + c) / 2 + 1, c, by go_num, rfl, HC.out.up HA.out HX.out (by omega) (by omega) (by omega), hb3⟩
        case measure => simp [intOf]; omega
      · go_roundw
        case rel => exact ⟨a, (a + c) / 2, rfl, by go_num, HC.out.down HA.out HX.out (by omega) (by omega) (by omega), hb3⟩
        case measure => simp [intOf]; omega
    · obtain rfl : a = c := by omega
      by_cases hal : a < L.length
      · obtain ⟨x, hx⟩ : ∃ x, L[a]? = some x := ⟨_, List.getElem?_eq_getElem hal⟩
        obtain ⟨hc1, hc2, hc3⟩ := HC3.out wr _ x hbl hx
        have HXC := Lib.hid (HR.out x (List.mem_of_getElem? hx))
        have HF : Hid (foundSes L t a = decide (cfSes t x = 0)) := Lib.hid (by unfold foundSes; rw [hx])
        have HC := Lib.hid hC
        clear hx hC
        go_wp2_with (go_at_call 74; with_reducible refine (cmpSes_ex t x _ HXC.out ht).mono ?_; rintro e w2 ⟨rfl, hb2⟩)
        go_ret2
        exact ⟨a, HC.out, by rw [HF.out]; rfl, hbl.trans (hb2.mono hbl.size)⟩
      · have HF : Hid (foundSes L t a = false) := Lib.hid (by unfold foundSes; rw [List.getElem?_eq_none (by omega)])
        have HC := Lib.hid hC
        clear hC
        go_wp2
        go_ret2
        exact ⟨a, HC.out, by rw [HF.out]; rfl, hbl⟩
theorem bsSes_any (p : Option Addr) (n cap : Nat) (L : List Ses) (t : Int) (w : World) (hl : n = L.length) (hn : n ≤ 1000) (hA : Mono (cfSes t) L) (hR : ∀ x ∈ L, x.c ≤ 1000000) (ht : 0 ≤ t ∧ t ≤ 1000000) (h : FL encS w p L) :
  Calls Tryz.prog 73 #[.slice p n cap, .int .i64 t, .func (.func 74) #[] #[]] w (BsSes L t w) := by
 by_cases h0 : L.length = 0
 ·obtain rfl : L = [] := List.eq_nil_of_length_eq_zero h0
  subst hl
  exact bsSes_nil cap p t w
 ·obtain ⟨b, off, rfl, hb, h4⟩ := h.at encS3 (by omega)
  exact bsSes_some b off n cap L t w hl hn hb hA hR ht h4
/-- find among sessions -/
theorem findSes_ex (p : Option Addr) (n cap : Nat) (L : List Ses) (t : Int) (w : World) (hl : n = L.length) (hn : n ≤ 1000) (hA : Mono (cfSes t) L) (hR : ∀ x ∈ L, x.c ≤ 1000000) (ht : 0 ≤ t ∧ t ≤ 1000000) (h : FL encS w p L) :
  Calls Tryz.prog 29 #[.slice p n cap, .int .i64 t] w (BsSes L t w) := by
 have HH := Lib.hid h
 have HA := Lib.hid hA
 have HL := Lib.hid hl
 clear h hA hl
 have HR := Lib.hid hR
 clear hR
 go_enter Tryz.func29, Tryz.ntmps29
 go_wp2_with (go_at_call 73; (with_reducible refine (bsSes_any _ _ _ L t _ HL.out hn HA.out HR.out ht HH.out).mono ?_); rintro e w' ⟨i, hcut, rfl, hb⟩; have HB := Lib.hid hb; have HC := Lib.hid hcut; clear hb hcut)
 go_ret2
 exact ⟨i, HC.out, rfl, HB.out⟩
end Go.Proofs.YtnaglmigkbbljaaGreatDoor
/-
  TopTransferred: the search among pairs (printed by mkBs.py).
-/
namespace Go.Proofs.YtnaglmigkbbljaaGreatDoor
open Go Go.RowKit
def cfPar (t : ByteArray) (x : Par) : Int := Lib.compareBytes x.k.data.toList t.data.toList
def foundPar (L : List Par) (t : ByteArray) (i : Nat) : Bool := match L[i]? with | some x => decide (cfPar t x = 0) | none => false
def BsPar (L : List Par) (t : ByteArray) (w : World) (e : Ending) (w' : World) : Prop := ∃ i, Cut (cfPar t) L i i ∧ e = .returned (.tuple #[.int .i64 (i : Int), .bool (foundPar L t i)]) ∧ Below w.heap.size w w'
theorem cmpPar_ex (t : ByteArray) (x : Par) (w : World) : Calls Tryz.prog 136 #[.agg #[.string x.k, .string x.v, .int .i64 x.ver], .string t] w fun e w' => e = .returned (.int .i64 (cfPar t x)) ∧ Below w.heap.size w w' := by
 unfold cfPar
 go_enter Tryz.func136, Tryz.ntmps136
 go_wp2_with (go_at_call 137; refine (Tryz.strings_Compare _ _ _).mono ?_; rintro e w1 ⟨rfl, hw⟩; obtain rfl := hw.symm)
 go_ret
 exact ⟨rfl, (Below.refl _ _).alloc (Nat.le_refl _) _⟩
theorem bsPar_nil (c : Nat) (p : Option Addr) (t : ByteArray) (w : World) : Calls Tryz.prog 135 #[.slice p 0 c, .string t, .func (.func 136) #[] #[]] w (BsPar [] t w) := by
 go_enter Tryz.func135, Tryz.ntmps135
 go_wp2
 go_loop [9, 10] (fun i j => i = .int .i64 0 ∧ j = .int .i64 0) (fun _ _ => 0)
 case atStart => exact ⟨rfl, rfl⟩
 case round =>
  obtain ⟨rfl, rfl⟩ := hrel
  go_wp2
  go_ret2
  exact ⟨0, ⟨Nat.le_refl _, Nat.le_refl _, fun k x hk => by simp at hk, fun k x hk => by simp at hk⟩, rfl, Below.refl _ _⟩
theorem bsPar_some (b off n cap : Nat) (L : List Par) (t : ByteArray) (w : World) (hl : n = L.length) (hn : n ≤ 1000) (hb : b < w.heap.size) (hA : Mono (cfPar t) L)  (h : ∀ j u, (flat encP L)[j]? = some u → w.cell? ⟨b, off + j, none⟩ = some u) :
    Calls Tryz.prog 135 #[.slice (some ⟨b, off, none⟩) n cap, .string t, .func (.func 136) #[] #[]] w (BsPar L t w) := by
  subst hl
  have H := Lib.hid h
  have HA := Lib.hid hA
  clear h hA
  have HC3 : Hid (∀ (wr : World) (i : Nat) (x : Par), Below w.heap.size w wr → L[i]? = some x → wr.cell? ⟨b, off + i * 3, none⟩ = some (.string x.k) ∧ wr.cell? ⟨b, off + i * 3 + 1, none⟩ = some (.string x.v) ∧ wr.cell? ⟨b, off + i * 3 + 2, none⟩ = some (.int .i64 x.ver)) := Lib.hid fun wr i x hbl hx =>
    ⟨(hbl.cell (p := ⟨b, off + (i * 3 + 0), none⟩) hb).trans (H.out _ _ ((flat_get encP3 hx (j := 0) (by omega)).trans rfl)),
     (hbl.cell (p := ⟨b, off + (i * 3 + 1), none⟩) hb).trans (H.out _ _ ((flat_get encP3 hx (j := 1) (by omega)).trans rfl)),
     (hbl.cell (p := ⟨b, off + (i * 3 + 2), none⟩) hb).trans (H.out _ _ ((flat_get encP3 hx (j := 2) (by omega)).trans rfl))⟩
  skip
  go_enter Tryz.func135, Tryz.ntmps135
  go_wp2
  go_loopw [9, 10] (fun i j wr => ∃ a c : Nat, i = .int .i64 a ∧ j = .int .i64 c ∧ Cut (cfPar t) L a c ∧ Below w.heap.size w wr) (fun i j _ => (intOf j).toNat - (intOf i).toNat)
  case atStart => exact ⟨0, L.length, rfl, rfl, ⟨Nat.zero_le _, by omega, fun k x _ hk => absurd hk (Nat.not_lt_zero k), fun k x hk hn' => by have := (List.getElem?_eq_some_iff.mp hk).1; omega⟩, Below.refl _ _⟩
  case round =>
    obtain ⟨a, c, rfl, rfl, hC, hbl⟩ := hrel
    have hac := hC.1
    have hcl : c ≤ L.length := by have := hC.2.1; omega
    by_cases hlt : a < c
    · obtain ⟨x, hx⟩ : ∃ x, L[(a + c) / 2]? = some x := ⟨_, List.getElem?_eq_getElem (by omega)⟩
      obtain ⟨hc1, hc2, hc3⟩ := HC3.out wr _ x hbl hx
      skip
      have HX := Lib.hid hx
      have HC := Lib.hid hC
      clear hx hC
      go_wp2_with (go_at_call 136; with_reducible refine (cmpPar_ex t x _).mono ?_; rintro e w2 ⟨rfl, hb2⟩)
      all_goals
        have hb3 : Below w.heap.size w w2 := hbl.trans (hb2.mono hbl.size)
      · go_roundw
        case rel => exact ⟨(a + c) / 2 + 1, c, by go_num, rfl, HC.out.up HA.out HX.out (by omega) (by omega) (by omega), hb3⟩
        case measure => simp [intOf]; omega
      · go_roundw
        case rel => exact ⟨a, (a + c) / 2, rfl, by go_num, HC.out.down HA.out HX.out (by omega) (by omega) (by omega), hb3⟩
        case measure => simp [intOf]; omega
    · obtain rfl : a = c := by omega
      by_cases hal : a < L.length
      · obtain ⟨x, hx⟩ : ∃ x, L[a]? = some x := ⟨_, List.getElem?_eq_getElem hal⟩
        obtain ⟨hc1, hc2, hc3⟩ := HC3.out wr _ x hbl hx
        skip
        have HF : Hid (foundPar L t a = decide (cfPar t x = 0)) := Lib.hid (by unfold foundPar; rw [hx])
        have HC := Lib.hid hC
        clear hx hC
        go_wp2_with (go_at_call 136; with_reducible refine (cmpPar_ex t x _).mono ?_; rintro e w2 ⟨rfl, hb2⟩)
        go_ret2
        exact ⟨a, HC.out, by rw [HF.out]; rfl, hbl.trans (hb2.mono hbl.size)⟩
      · have HF : Hid (foundPar L t a = false) := Lib.hid (by unfold foundPar; rw [List.getElem?_eq_none (by omega)])
        have HC := Lib.hid hC
        clear hC
        go_wp2
        go_ret2
        exact ⟨a, HC.out, by rw [HF.out]; rfl, hbl⟩
theorem bsPar_any (p : Option Addr) (n cap : Nat) (L : List Par) (t : ByteArray) (w : World) (hl : n = L.length) (hn : n ≤ 1000) (hA : Mono (cfPar t) L)  (h : FL encP w p L) :
  Calls Tryz.prog 135 #[.slice p n cap, .string t, .func (.func 136) #[] #[]] w (BsPar L t w) := by
 by_cases h0 : L.length = 0
 ·obtain rfl : L = [] := List.eq_nil_of_length_eq_zero h0
  subst hl
  exact bsPar_nil cap p t w
 ·obtain ⟨b, off, rfl, hb, h4⟩ := h.at encP3 (by omega)
  exact bsPar_some b off n cap L t w hl hn hb hA  h4
/-- find among pairs -/
theorem findPar_ex (p : Option Addr) (n cap : Nat) (L : List Par) (t : ByteArray) (w : World) (hl : n = L.length) (hn : n ≤ 1000) (hA : Mono (cfPar t) L)  (h : FL encP w p L) :
  Calls Tryz.prog 80 #[.slice p n cap, .string t] w (BsPar L t w) := by
 have HH := Lib.hid h
 have HA := Lib.hid hA
 have HL := Lib.hid hl
 clear h hA hl
 skip
 go_enter Tryz.func80, Tryz.ntmps80
 go_wp2_with (go_at_call 135; (with_reducible refine (bsPar_any _ _ _ L t _ HL.out hn HA.out  HH.out).mono ?_); rintro e w' ⟨i, hcut, rfl, hb⟩; have HB := Lib.hid hb; have HC := Lib.hid hcut; clear hb hcut)
 go_ret2
 exact ⟨i, HC.out, rfl, HB.out⟩
end Go.Proofs.YtnaglmigkbbljaaGreatDoor
