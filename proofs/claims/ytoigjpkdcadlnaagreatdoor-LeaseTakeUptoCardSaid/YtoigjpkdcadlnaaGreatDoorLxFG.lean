/-
  LeaseTake: slices.Insert of one grant before others, in place.
-/
import Derived.Test.YtoigjpkdcadlnaaGreatDoorLxDE
namespace Go.Proofs.YtoigjpkdcadlnaaGreatDoor
open Go Go.RowKit

theorem sizeOf41 : ∀ w, (Go.sizeOf 41).run Tryz.prog w = .ok 2 w := fun w => by
  obtain ⟨i0, hi, hz0, hz1, hz2⟩ := info_parts Tryz.info41b
  simp [sizeOf, typeInfo, hi, hz1]
theorem size41 : (Tryz.prog.info? 41).map (·.size) = some 2 := by
  obtain ⟨i0, hi, hz0, hz1, hz2⟩ := info_parts Tryz.info41b
  rw [hi]; simp [hz1]

def row1 (cur : List Value) (L : List (Int × Int)) (i _n : Nat) : List Value := cur.take ((i + 1) * 2) ++ grV (L.drop i) ++ cur.drop ((i + 1) * 2 + (grV (L.drop i)).length)
def row2 (R : List Value) (s u : Int) (i : Nat) : List Value := R.take (i * 2) ++ [.int .i64 s, .int .i64 u] ++ R.drop (i * 2 + 2)

theorem row1_len {cur : List Value} {L : List (Int × Int)} {i n cap : Nat} (hi : i < n) (hl : n = L.length) (hroom : n + 1 ≤ cap) (hcs : cur.length = cap * 2) : (row1 cur L i n).length = cap * 2 := by
  unfold row1
  simp only [List.length_append, List.length_take, List.length_drop, grV_length]
  omega
theorem row2_len {R : List Value} {s u : Int} {i k : Nat} (hR : R.length = k) (hi : i * 2 + 2 ≤ k) : (row2 R s u i).length = k := by
  unfold row2
  simp only [List.length_append, List.length_take, List.length_drop, List.length_cons, List.length_nil]
  omega
theorem row2_take {cur : List Value} {L : List (Int × Int)} {i n cap : Nat} {s u : Int} (hi : i < n) (hl : n = L.length) (hroom : n + 1 ≤ cap) (hcs : cur.length = cap * 2) (hx : cur.take (n * 2) = grV L) :
    (row2 (row1 cur L i n) s u i).take ((n + 1) * 2) = grV (L.take i ++ (s, u) :: L.drop i) := by
  have e1 : (row1 cur L i n).take (i * 2) = grV (L.take i) := by
    unfold row1
    rw [List.append_assoc, List.take_append_of_le_length (by rw [List.length_take]; omega), List.take_take, show min (i * 2) ((i + 1) * 2) = i * 2 by omega]
    rw [← grV_take L i (by omega), ← hx, List.take_take, show min (i * 2) (n * 2) = i * 2 by omega]
  have hl1 : (cur.take ((i + 1) * 2)).length = i * 2 + 2 := by rw [List.length_take]; omega
  have e2 : (row1 cur L i n).drop (i * 2 + 2) = grV (L.drop i) ++ cur.drop ((i + 1) * 2 + (grV (L.drop i)).length) := by
    unfold row1
    rw [List.append_assoc, ← hl1, List.drop_left]
  have hl2 : (grV (L.drop i)).length = (n - i) * 2 := by rw [grV_length, List.length_drop]; omega
  have hl3 : (grV (L.take i)).length = i * 2 := by rw [grV_length, List.length_take]; omega
  unfold row2
  rw [e1, e2, ← List.append_assoc, List.take_append_of_le_length (by simp only [List.length_append, List.length_cons, List.length_nil]; omega)]
  rw [List.take_of_length_le (by simp only [List.length_append, List.length_cons, List.length_nil]; omega)]
  rw [grV_append]
  simp [grV]

set_option maxHeartbeats 3200000 in
set_option maxRecDepth 1000000 in
theorem ins_shift (base n cap g i vb : Nat) (L : List (Int × Int)) (s u : Int) (w : World) (cur : List Value) (hi : i < n) (hn : n ≤ 20) (hl : n = L.length) (hroom : n + 1 ≤ cap) (hcap : cap ≤ maxLen) (hg : w.heap[g]? = some (.cells cur.toArray 41 (0, 0))) (hcs : cur.length = cap * 2) (hx : cur.take (n * 2) = grV L)
    (hvg : vb ≠ g) (hvb : w.heap[vb]? = some (.cells #[.int .i64 s, .int .i64 u] 41 (0, 0))) (hbg : base ≤ g) :
    Calls Tryz.prog 26 #[.slice (some ⟨g, 0, none⟩) n cap, .int .i64 i, .slice (some ⟨vb, 0, none⟩) 1 1] w (InsRet base (n + 1) (L.take i ++ (s, u) :: L.drop i) w) := by
  subst hl
  obtain ⟨n, hN⟩ : ∃ n, n = L.length := ⟨_, rfl⟩
  have hz2 : ¬ ((i : Int) = (L.length : Int)) := by omega
  have hgs : w.shape? g = some (41, cap * 2) := by unfold World.shape?; rw [hg]; simp [hcs]
  have hvs : w.shape? vb = some (41, 2) := by unfold World.shape?; rw [hvb]; rfl
  have hov : ∀ lb cb, (callFunc 59 #[.slice (some ⟨vb, 0, none⟩) 1 1, .slice (some ⟨g, (i + 1) * 2, none⟩) lb cb]).run Tryz.prog w = .ok (.value (.bool false)) w := fun lb cb => by
    rw [run_callFunc_extern Tryz.func59 (by kernel_rfl) (by kernel_rfl) (by kernel_rfl) (e := Extern.SlicesOverlaps.overlaps #[24, 24] #[4]) (by kernel_rfl),
      Lib.run_overlaps_apart w 24 4 41 Tryz.underlying24 2 sizeOf41 ⟨vb, 0, none⟩ ⟨g, (i + 1) * 2, none⟩ 1 1 lb cb hvg 41 41 2 (cap * 2) hvs hgs (by omega) (by unfold World.frozen?; rw [hvb]; rfl) (by unfold World.frozen?; rw [hvb]; rfl)]
    rfl
  have HOV := Lib.hid hov
  unfold maxLen at hcap
  have hdl : (grV (L.drop i)).length = (L.length - i) * 2 := by rw [grV_length, List.length_drop]
  have hgx : ∀ (W : World), (∀ x, W.cell? x = w.cell? x) → ∀ j v, (grV (L.drop i))[j]? = some v → W.cell? ((⟨g, i * 2, none⟩ : Addr).add j) = some v := fun W hW j v hj => by
    rw [Addr.add_lit, hW]
    rw [← grV_drop L i (by omega), List.getElem?_drop, ← hx, List.getElem?_take] at hj
    split at hj
    · unfold World.cell?
      rw [hg]
      simpa using hj
    · cases hj
  have hcp1 : ∀ (W : World), W.heap = w.heap → ∀ ty dl dc sl sc, Nat.min sl dl = L.length - i → (Builtin.copy_ #[24, 24] ty #[.slice (some ⟨g, (i + 1) * 2, none⟩) dl dc, .slice (some ⟨g, i * 2, none⟩) sl sc]).run Tryz.prog W = .ok (goInt (Nat.min sl dl)) (W.setRow g (row1 cur L i L.length).toArray) := fun W hW ty dl dc sl sc hm => by
    have h := run_copy_rowK (P := Tryz.prog) W 24 24 ty 41 2 g ((i + 1) * 2) dl dc ⟨g, i * 2, none⟩ sl sc cur.toArray 41 (grV (L.drop i)) Tryz.underlying24 size41 (by rw [hW]; exact hg) (by rw [hm, hdl]) (hgx W (fun x => by unfold World.cell?; rw [hW])) (by rw [hdl]; simp; omega) (grV_one _)
    simpa [row1] using h
  have hR1 := row1_len (n := L.length) hi rfl hroom hcs
  have hcp2 : ∀ (W : World), W.heap[g]? = some (.cells (row1 cur L i L.length).toArray 41 (0, 0)) → W.heap[vb]? = some (.cells #[.int .i64 s, .int .i64 u] 41 (0, 0)) → ∀ ty dl dc, 1 ≤ dl → (Builtin.copy_ #[24, 24] ty #[.slice (some ⟨g, i * 2, none⟩) dl dc, .slice (some ⟨vb, 0, none⟩) 1 1]).run Tryz.prog W = .ok (goInt 1) (W.setRow g (row2 (row1 cur L i L.length) s u i).toArray) := fun W hW hWv ty dl dc hm => by
    have hmin : Nat.min 1 dl = 1 := by simp only [Nat.min_def]; split <;> omega
    have h := run_copy_rowK (P := Tryz.prog) W 24 24 ty 41 2 g (i * 2) dl dc ⟨vb, 0, none⟩ 1 1 (row1 cur L i L.length).toArray 41 [.int .i64 s, .int .i64 u] Tryz.underlying24 size41 hW (by rw [hmin]; rfl)
      (fun j v hj => by
        rw [Addr.add_lit]
        unfold World.cell?
        rw [hWv]
        match j, hj with
        | 0, hj => exact hj
        | 1, hj => exact hj
        | j + 2, hj => simp at hj) (by simp [hR1]; omega) (fun v hv => by
          rcases List.mem_cons.mp hv with rfl | hv
          · rfl
          · rcases List.mem_cons.mp hv with rfl | hv
            · rfl
            · cases hv)
    rw [hmin] at h
    simpa [row2] using h
  have HC1 := Lib.hid hcp1
  have HC2 := Lib.hid hcp2
  have HR2 := Lib.hid (row2_take (s := s) (u := u) (n := L.length) hi rfl hroom hcs hx)
  have HG := Lib.hid hg
  have HVB := Lib.hid hvb
  clear hov hcp1 hcp2 hgx hg hvb hgs hvs hx hdl
  have hb1 : (0 : Int) ≤ (i : Int) + 1 := by omega
  have hin : i ≤ L.length := by omega
  have hb2 : ¬ (cap = i + 1) := by omega
  have hb4 : ¬ (cap = i) := by omega
  have hb5 : ¬ ((cap : Int) < (L.length : Int) + 1) := by omega
  have hw1 : IntKind.i64.wrap ((i : Int) + 1) = (i : Int) + 1 := by rw [IntKind.wrap_i64]; omega
  have htn : ((i : Int) + 1).toNat = i + 1 := by omega
  have hb6 : (i : Int) + 1 ≤ (L.length : Int) + 1 := by omega
  have hb7 : (i : Int) ≤ (L.length : Int) + 1 := by omega
  have mixed : Tryz.prog.follows Departure.mixedOrders = true := by kernel_rfl
  go_enter Tryz.func26, Tryz.ntmps26
  go_wp2_with (simp only [HOV.out])
  have hE := HC1.out w.drew rfl 3 (L.length - i) (cap - (i + 1)) (L.length + 1 - i) (cap - i) (by simp only [Nat.min_def]; split <;> omega)
  obtain ⟨k1, hk1⟩ : ∃ k1, k1 = (L.length + 1 - i).min (L.length - i) := ⟨_, rfl⟩
  rw [← hk1] at hE
  go_region
  have hg3 : (w.drew.setRow g (row1 cur L i L.length).toArray).heap[g]? = some (.cells (row1 cur L i L.length).toArray 41 (0, 0)) := setRow_heap w.drew g _ _ _ _ HG.out
  have hv3 : (w.drew.setRow g (row1 cur L i L.length).toArray).heap[vb]? = some (.cells #[.int .i64 s, .int .i64 u] 41 (0, 0)) := (setRow_other w.drew g vb _ hvg).trans HVB.out
  have HG3 := Lib.hid hg3
  have HV3 := Lib.hid hv3
  have hb8 : Below base w (w.drew.setRow g (row1 cur L i L.length).toArray) := ⟨rfl, rfl, rfl, by simp [World.setRow], fun k hk => setRow_other w.drew g k _ (by omega)⟩
  have HB8 := Lib.hid hb8
  clear hE hg3 hv3 hb8
  generalize w.drew.setRow g (row1 cur L i L.length).toArray = W3 at HG3 HV3 HB8 ⊢
  have hE2 := HC2.out W3 HG3.out HV3.out 3 (L.length + 1 - i) (cap - i) (by omega)
  go_wp2
  have hb9 : Below base w (W3.setRow g (row2 (row1 cur L i L.length) s u i).toArray) := HB8.out.trans ⟨rfl, rfl, rfl, by simp [World.setRow], fun k hk => setRow_other W3 g k _ (by omega)⟩
  have hg4 : (W3.setRow g (row2 (row1 cur L i L.length) s u i).toArray).heap[g]? = some (.cells (row2 (row1 cur L i L.length) s u i).toArray 41 (0, 0)) := setRow_heap W3 g _ _ _ _ HG3.out
  go_ret
  refine ⟨_, rfl, ⟨?_, .inr ⟨g, cap, (row2 (row1 cur L i L.length) s u i).toArray, rfl, hbg, hg4, by omega, by unfold maxLen; omega, ?_, ?_⟩⟩, hb9⟩
  · rw [grV_length]; simp; omega
  · simp [row2_len hR1 (s := s) (u := u) (i := i) (by omega)]
  · exact HR2.out
end Go.Proofs.YtoigjpkdcadlnaaGreatDoor

/-
  LeaseTake: slices.Insert of one grant before others, into a new row.
-/
namespace Go.Proofs.YtoigjpkdcadlnaaGreatDoor
open Go Go.RowKit

theorem rowB_take {R : List Value} {L : List (Int × Int)} {i n k : Nat} {s u : Int} (hi : i < n) (hl : n = L.length) (_hk : n + 1 ≤ k) (_hR : R.length = k * 2) (hx : R.take (i * 2) = grV (L.take i)) :
    (row1 (row2 R s u i) L i n).take ((n + 1) * 2) = grV (L.take i ++ (s, u) :: L.drop i) := by
  have hl2 : (grV (L.drop i)).length = (n - i) * 2 := by rw [grV_length, List.length_drop]; omega
  have hl3 : (grV (L.take i)).length = i * 2 := by rw [grV_length, List.length_take]; omega
  have e1 : (row2 R s u i).take ((i + 1) * 2) = grV (L.take i) ++ [.int .i64 s, .int .i64 u] := by
    unfold row2
    rw [hx, List.take_append_of_le_length (by simp only [List.length_append, List.length_cons, List.length_nil]; omega), List.take_of_length_le (by simp only [List.length_append, List.length_cons, List.length_nil]; omega)]
  unfold row1
  rw [e1, List.take_append_of_le_length (by simp only [List.length_append, List.length_cons, List.length_nil]; omega), List.take_of_length_le (by simp only [List.length_append, List.length_cons, List.length_nil]; omega), grV_append]
  simp [grV]

theorem z41cells : (Value.agg #[.int .i64 0, .int .i64 0]).cells.size = 2 := rfl
theorem zeroCells_size (z : Array Value) (k : Nat) : (Builtin.zeroCells z k).size = k * z.size := by
  unfold Builtin.zeroCells
  simp

set_option maxHeartbeats 3200000 in
set_option maxRecDepth 1000000 in
theorem ins_grow (base n cap g i vb : Nat) (L : List (Int × Int)) (s u : Int) (w : World) (cur : List Value) (hi : i < n) (hn : n ≤ 20) (hl : n = L.length) (hroom : cap < n + 1) (hnc : n ≤ cap) (hg : w.heap[g]? = some (.cells cur.toArray 41 (0, 0))) (hcs : cur.length = cap * 2) (hx : cur.take (n * 2) = grV L)
    (hvb : w.heap[vb]? = some (.cells #[.int .i64 s, .int .i64 u] 41 (0, 0))) (hbw : base ≤ w.heap.size) :
    Calls Tryz.prog 26 #[.slice (some ⟨g, 0, none⟩) n cap, .int .i64 i, .slice (some ⟨vb, 0, none⟩) 1 1] w (InsRet base (n + 1) (L.take i ++ (s, u) :: L.drop i) w) := by
  subst hl
  obtain rfl : cap = L.length := by omega
  obtain ⟨i0, hi0, hz0, hz1, hz2⟩ := info_parts Tryz.info41b
  have hgw : g < w.heap.size := (Array.getElem?_eq_some_iff.mp hg).1
  have hvw : vb < w.heap.size := (Array.getElem?_eq_some_iff.mp hvb).1
  have hcell : ∀ (a : Nat) j v, (grV L)[a + j]? = some v → w.cell? ⟨g, a + j, none⟩ = some v := fun a j v hj => by
    rw [← hx, List.getElem?_take] at hj
    split at hj
    · unfold World.cell?
      rw [hg]
      simpa using hj
    · cases hj
  have hold : (Builtin.firstCells i0.size i (.slice (some ⟨g, 0, none⟩) i L.length)).run Tryz.prog w.drew = .ok (grV (L.take i)).toArray w.drew := by
    rw [hz1]
    exact run_firstCells_some w.drew 2 i ⟨g, 0, none⟩ i L.length (grV (L.take i)) (by rw [grV_length, List.length_take]; omega) (fun j v hj => by
      rw [Addr.add_lit]
      rw [← grV_take L i (by omega), List.getElem?_take] at hj
      split at hj
      · exact hcell 0 j v (by simpa using hj)
      · cases hj)
  have hik : i + (L.length + 1 - i) = L.length + 1 := by omega
  have hkk : (L.length : Int) + 1 - (i : Int) = ((L.length + 1 - i : Nat) : Int) := by omega
  obtain ⟨G, hG⟩ : ∃ G, G = grownCap w (L.length + 1) L.length 41 := ⟨_, rfl⟩
  have hGn : L.length + 1 ≤ G := by rw [hG]; exact grownCap_ge w _ _ _
  have hG63 : G ≤ maxLen := by rw [hG]; exact grownCap_le_maxLen w (L.length + 1) L.length 41 (by unfold maxLen; omega)
  obtain ⟨ROW, hROW⟩ : ∃ ROW : List Value, ROW = grV (L.take i) ++ (Builtin.zeroCells (Value.agg #[.int .i64 0, .int .i64 0]).cells (L.length + 1 - i)).toList ++ (Builtin.zeroCells (Value.agg #[.int .i64 0, .int .i64 0]).cells (G - (L.length + 1))).toList := ⟨_, rfl⟩
  have hRl : ROW.length = G * 2 := by
    rw [hROW]
    simp only [List.length_append, grV_length, List.length_take, Array.length_toList, zeroCells_size, z41cells]
    omega
  have hRx : ROW.take (i * 2) = grV (L.take i) := by
    rw [hROW, List.append_assoc, List.take_append_of_le_length (by rw [grV_length, List.length_take]; omega), List.take_of_length_le (by rw [grV_length, List.length_take]; omega)]
  have hrz : (Builtin.append_ #[24, 3] 24 #[.slice (some ⟨g, 0, none⟩) i L.length, .int .i64 ((L.length : Int) + 1 - (i : Int))]).run Tryz.prog w =
      .ok (.slice (some ⟨w.heap.size, 0, none⟩) (L.length + 1) G) (w.drew.alloc (.cells ROW.toArray 41)) := by
    have h := Lib.run_append_grow_zeros (P := Tryz.prog) w 24 3 24 41 i0 _ .i64 .i64 Tryz.underlying24 Tryz.underlying3 hi0 hz0 (some ⟨g, 0, none⟩) i L.length (grV (L.take i)) hold (L.length + 1 - i) (by omega) (by omega) (by omega) (by omega) (by rw [hz2]; omega) (by rw [hz2, hik]; exact growslice_fits (by omega) (by omega))
    rw [hik, ← hG] at h
    have e : (grV (L.take i)).toArray ++ Builtin.zeroCells (Value.agg #[.int .i64 0, .int .i64 0]).cells (L.length + 1 - i) ++ Builtin.zeroCells (Value.agg #[.int .i64 0, .int .i64 0]).cells (G - (L.length + 1)) = ROW.toArray := by
      rw [hROW]
      apply Array.toList_inj.mp
      simp only [Array.toList_append]
    rw [e] at h
    rw [hkk]
    exact h
  have hbN : g ≠ w.heap.size := by omega
  have hvN : vb ≠ w.heap.size := by omega
  have hW1 : ∀ k, k < w.heap.size → (w.drew.alloc (.cells ROW.toArray 41)).heap[k]? = w.heap[k]? := fun k hk => Below.heap_alloc w.drew _ k hk
  have hN1 : (w.drew.alloc (.cells ROW.toArray 41)).heap[w.heap.size]? = some (.cells ROW.toArray 41 (0, 0)) := heap_alloc_new w.drew _
  have hcpA : ∀ (W : World), W.heap = (w.drew.alloc (.cells ROW.toArray 41)).heap → ∀ ty dl dc, 1 ≤ dl → (Builtin.copy_ #[24, 24] ty #[.slice (some ⟨w.heap.size, i * 2, none⟩) dl dc, .slice (some ⟨vb, 0, none⟩) 1 1]).run Tryz.prog W = .ok (goInt 1) (W.setRow w.heap.size (row2 ROW s u i).toArray) := fun W hW ty dl dc hm => by
    have hmin : Nat.min 1 dl = 1 := by simp only [Nat.min_def]; split <;> omega
    have hWv : W.heap[vb]? = some (.cells #[.int .i64 s, .int .i64 u] 41 (0, 0)) := by rw [hW]; exact (hW1 vb hvw).trans hvb
    have h := run_copy_rowK (P := Tryz.prog) W 24 24 ty 41 2 w.heap.size (i * 2) dl dc ⟨vb, 0, none⟩ 1 1 ROW.toArray 41 [.int .i64 s, .int .i64 u] Tryz.underlying24 size41 (by rw [hW]; exact hN1) (by rw [hmin]; rfl)
      (fun j v hj => by
        rw [Addr.add_lit]
        unfold World.cell?
        rw [hWv]
        match j, hj with
        | 0, hj => exact hj
        | 1, hj => exact hj
        | j + 2, hj => simp at hj) (by simp [hRl]; omega) (fun v hv => by
          rcases List.mem_cons.mp hv with rfl | hv
          · rfl
          · rcases List.mem_cons.mp hv with rfl | hv
            · rfl
            · cases hv)
    rw [hmin] at h
    simpa [row2] using h
  have hA := row2_len (s := s) (u := u) (i := i) hRl (by omega)
  have hdl : (grV (L.drop i)).length = (L.length - i) * 2 := by rw [grV_length, List.length_drop]
  have hcpB : ∀ (W : World), W.heap[w.heap.size]? = some (.cells (row2 ROW s u i).toArray 41 (0, 0)) → W.heap[g]? = some (.cells cur.toArray 41 (0, 0)) → ∀ ty dl dc sl sc, Nat.min sl dl = L.length - i → (Builtin.copy_ #[24, 24] ty #[.slice (some ⟨w.heap.size, (i + 1) * 2, none⟩) dl dc, .slice (some ⟨g, i * 2, none⟩) sl sc]).run Tryz.prog W = .ok (goInt (Nat.min sl dl)) (W.setRow w.heap.size (row1 (row2 ROW s u i) L i L.length).toArray) := fun W hW hWg ty dl dc sl sc hm => by
    have h := run_copy_rowK (P := Tryz.prog) W 24 24 ty 41 2 w.heap.size ((i + 1) * 2) dl dc ⟨g, i * 2, none⟩ sl sc (row2 ROW s u i).toArray 41 (grV (L.drop i)) Tryz.underlying24 size41 hW (by rw [hm, hdl])
      (fun j v hj => by
        rw [Addr.add_lit]
        rw [← grV_drop L i (by omega), List.getElem?_drop] at hj
        have := hcell (i * 2) j v hj
        unfold World.cell? at this ⊢
        rw [hWg]
        rw [hg] at this
        exact this) (by rw [hdl]; simp [hA]; omega) (grV_one _)
    simpa [row1] using h
  have HR2 := Lib.hid (rowB_take (s := s) (u := u) (n := L.length) hi rfl hGn hRl hRx)
  have HRZ := Lib.hid hrz
  have HCA := Lib.hid hcpA
  have HCB := Lib.hid hcpB
  have HG := Lib.hid hg
  have hBl := row1_len (cur := row2 ROW s u i) (L := L) (i := i) (n := L.length) hi rfl hGn hA
  have HBl := Lib.hid hBl
  clear hold hik hkk hROW hRl hRx hcpA hcpB hcell hx hg hvb hG hA hdl hBl hW1 hN1 hrz hz0 hz1 hz2 hi0
  unfold maxLen at hG63
  have hz3 : ¬ ((i : Int) = (L.length : Int)) := by omega
  have hb1 : (0 : Int) ≤ (i : Int) + 1 := by omega
  have hin : i ≤ L.length := by omega
  have hb4 : ¬ (L.length = i) := by omega
  have hb5 : (L.length : Int) < (L.length : Int) + 1 := by omega
  have hw1 : IntKind.i64.wrap ((i : Int) + 1) = (i : Int) + 1 := by rw [IntKind.wrap_i64]; omega
  have htn : ((i : Int) + 1).toNat = i + 1 := by omega
  have hb6 : (i : Int) + 1 ≤ (L.length : Int) + 1 := by omega
  have hb7 : (i : Int) ≤ (L.length : Int) + 1 := by omega
  have hGi : ¬ (G = i) := by omega
  have hGi1 : ¬ (G = i + 1) := by omega
  have hE := HCA.out ((w.alloc (.cells ROW.toArray 41)).drew) rfl 3 (L.length + 1 - i) (G - i) (by omega)
  have hW1 : Below w.heap.size w ((w.alloc (.cells ROW.toArray 41)).drew) := ((Below.refl w.heap.size w).alloc (Nat.le_refl _) _).trans ⟨rfl, rfl, rfl, Nat.le_refl _, fun _ _ => rfl⟩
  have hN1 : ((w.alloc (.cells ROW.toArray 41)).drew).heap[w.heap.size]? = some (.cells ROW.toArray 41 (0, 0)) := heap_alloc_new w _
  have HW1 := Lib.hid hW1
  have HN1 := Lib.hid hN1
  clear hW1 hN1
  go_enter Tryz.func26, Tryz.ntmps26
  go_wp2_with (at_builtin; refine Lib.wpList_append_run _ rfl _ _ _ _ rfl _ _ rfl rfl _ _ HRZ.out ?_)
  have hW2 : Below w.heap.size w (((w.alloc (.cells ROW.toArray 41)).drew).setRow w.heap.size (row2 ROW s u i).toArray) := HW1.out.trans ⟨rfl, rfl, rfl, by simp [World.setRow], fun k hk => setRow_other _ _ k _ (by omega)⟩
  have hN2 : (((w.alloc (.cells ROW.toArray 41)).drew).setRow w.heap.size (row2 ROW s u i).toArray).heap[w.heap.size]? = some (.cells (row2 ROW s u i).toArray 41 (0, 0)) := setRow_heap _ _ _ _ _ _ HN1.out
  clear hE
  revert hW2 hN2
  generalize ((w.alloc (.cells ROW.toArray 41)).drew).setRow w.heap.size (row2 ROW s u i).toArray = W2
  intro hW2 hN2
  have hE2 := HCB.out W2.drew hN2 ((hW2.block g hgw).trans HG.out) 3 (L.length - i) (G - (i + 1)) (L.length - i) (L.length - i) (by simp only [Nat.min_def]; split <;> omega)
  obtain ⟨k1, hk1⟩ : ∃ k1, k1 = (L.length - i).min (L.length - i) := ⟨_, rfl⟩
  rw [← hk1] at hE2
  go_region
  have hW3 : Below w.heap.size w (W2.drew.setRow w.heap.size (row1 (row2 ROW s u i) L i L.length).toArray) := hW2.trans ⟨rfl, rfl, rfl, by simp [World.setRow], fun k hk => setRow_other W2.drew _ k _ (by omega)⟩
  have hN3 : (W2.drew.setRow w.heap.size (row1 (row2 ROW s u i) L i L.length).toArray).heap[w.heap.size]? = some (.cells (row1 (row2 ROW s u i) L i L.length).toArray 41 (0, 0)) := setRow_heap W2.drew _ _ _ _ _ hN2
  clear hE2
  go_wp2
  go_ret
  refine ⟨_, rfl, ⟨?_, .inr ⟨w.heap.size, G, (row1 (row2 ROW s u i) L i L.length).toArray, rfl, hbw, hN3, hGn, by unfold maxLen; omega, ?_, ?_⟩⟩, hW3.mono hbw⟩
  · rw [grV_length]; simp; omega
  · simp [HBl.out]
  · exact HR2.out

/-- slices.Insert of one grant: a row of its own again -/
theorem ins_any (base n i vb : Nat) (p : Option Addr) (cap : Nat) (L : List (Int × Int)) (s u : Int) (w : World) (hi : i ≤ n) (hn : n ≤ 20) (hown : w.ownsRow base 41 2 (.slice p n cap) n (grV L)) (hnvb : p.map (·.block) ≠ some vb) (hvb : w.heap[vb]? = some (.cells #[.int .i64 s, .int .i64 u] 41 (0, 0))) (hbase : base ≤ w.heap.size) :
    Calls Tryz.prog 26 #[.slice p n cap, .int .i64 i, .slice (some ⟨vb, 0, none⟩) 1 1] w (InsRet base (n + 1) (L.take i ++ (s, u) :: L.drop i) w) := by
  have hl : n = L.length := by have := hown.1; rw [grV_length] at this; omega
  by_cases hin : i = n
  · subst hin
    have h := ins_end base i vb (.slice p i cap) L s u w hn hown ⟨p, cap, rfl⟩ hvb hbase
    rw [hl, List.take_of_length_le (Nat.le_refl _), List.drop_eq_nil_of_le (Nat.le_refl _)]
    rw [hl] at h
    exact h
  · rcases hown.2 with ⟨h1, h2⟩ | ⟨g, cap', cur, h1, hbg, hc, hcap, hmax, hsz, hx⟩
    · omega
    · injection h1 with e1 e2 e3
      subst e1; subst e3
      have hc' : w.heap[g]? = some (.cells cur.toList.toArray 41 (0, 0)) := by simpa using hc
      have hne : vb ≠ g := fun e => hnvb (by rw [e]; rfl)
      by_cases hroom : n + 1 ≤ cap
      · exact ins_shift base n cap g i vb L s u w cur.toList (by omega) hn hl hroom hmax hc' (by simpa using hsz) hx hne hvb hbg
      · exact ins_grow base n cap g i vb L s u w cur.toList (by omega) hn hl (by omega) hcap hc' (by simpa using hsz) hx hvb hbase
end Go.Proofs.YtoigjpkdcadlnaaGreatDoor
