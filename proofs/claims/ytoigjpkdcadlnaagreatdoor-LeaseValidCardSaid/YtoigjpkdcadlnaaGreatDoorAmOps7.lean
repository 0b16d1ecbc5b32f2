/-
  append, copy and the other built-in functions.
-/
import Derived.Test.YtoigjpkdcadlnaaGreatDoorAmOps6
namespace Go.AM
open Go Go.RowKit

section
variable {base : Nat} {μ : Mp} {P : Program} {w : World} {s s' : St}

/-- what the second argument of an append yields -/
theorem src_sound (hr : Rel base μ s.hp w) {xt : TypeId} {size m : Nat} {y : AV} {y' : Value} {cs : List AV} (hk : isSliceOrStr P xt = true) (h : srcCells s size y = some (m, cs)) (hy : VR μ y y') :
    ∃ news, LR (CR μ) cs news ∧ Src P size xt y' m news w := by
  have hkind : (∃ e', P.underlying xt = some (.slice e')) ∨ P.underlying xt = some .string := by
    unfold isSliceOrStr at hk
    split at hk
    · rename_i e hu; exact .inl ⟨e, hu⟩
    · rename_i hu; exact .inr hu
    · cases hk
  unfold srcCells at h
  split at h
  · rename_i l
    split at h
    · rename_i hs
      have hs := Nat.eq_of_beq_eq_true hs
      subst hs
      simp at h; obtain ⟨rfl, rfl⟩ := h
      rw [str_inv hy]
      have hsz : (⟨l.toArray⟩ : ByteArray).size = l.length := by simp [ByteArray.size]
      have hbc : byteCells ⟨l.toArray⟩ = l.map fun b => Value.int .u8 b.toNat := rfl
      have hfc : ∀ w', (Builtin.firstCells 1 l.length (.string ⟨l.toArray⟩)).run P w' = .ok (l.map fun b => Value.int .u8 b.toNat).toArray w' := fun w' => by
        have := firstCells_string (P := P) ⟨l.toArray⟩ w'
        rw [hsz, hbc] at this
        exact this
      refine ⟨l.map fun b => Value.int .u8 b.toNat, ofBytes_rel l, hkind, fun w' => by simp [Builtin.lenOf, hsz], hfc w, hfc w.drew, by simp, ?_⟩
      intro u hu
      obtain ⟨b, _, rfl⟩ := List.mem_map.1 hu
      rfl
    · cases h
  · simp at h; obtain ⟨rfl, rfl⟩ := h
    have hy : y' = _ := hy
    subst hy
    exact ⟨[], trivial, hkind, fun _ => rfl, run_firstCells_none w size 0 0 0, run_firstCells_none w.drew size 0 0 0, by simp, by simp⟩
  · simp at h; obtain ⟨rfl, rfl⟩ := h
    obtain ⟨a, cap, rfl⟩ := hy
    exact ⟨[], trivial, hkind, fun _ => rfl, by simp [Builtin.firstCells, loadCells, loadCellsFrom], by simp [Builtin.firstCells, loadCells, loadCellsFrom], by simp, by simp⟩
  · rename_i a n e
    split at h
    · rename_i hs
      have hs := Nat.eq_of_beq_eq_true hs
      subst hs
      split at h
      · rename_i cs' hc
        simp at h; obtain ⟨rfl, rfl⟩ := h
        obtain ⟨blk, k, cap, hm, rfl, _⟩ := hy
        obtain ⟨vs, hv, hn, hcell⟩ := read_cells hr hc ⟨blk, k, hm, rfl⟩
        have hl := hv.length
        exact ⟨vs, hv, hkind, fun _ => rfl, run_firstCells_some w e n _ n cap vs (by omega) hcell, run_firstCells_some w.drew e n _ n cap vs (by omega) (by simpa using hcell), by omega, hv.oneCell⟩
      · cases h
    · cases h
  · cases h

theorem grownCap_ge (w : World) (need old : Nat) (e : TypeId) : need ≤ grownCap w need old e := by
  unfold grownCap Question.cut
  simp

theorem grow_size {z : Value} {zs : List Value} (hz : z.cells = zs.toArray) (olds : List Value) (k : Nat) : (olds.toArray ++ Builtin.zeroCells z.cells k).size = olds.length + k * zs.length := by
  simp [Builtin.zeroCells, hz]

theorem append_sound (hi : Inv base μ s w) {t xt ty : TypeId} {x y v : AV} {x' y' : Value} (h : appendO P s t xt x y = some (v, s')) (hx : VR μ x x') (hy : VR μ y y') :
    (∃ v' w' μ', (Builtin.append_ #[t, xt] ty #[x', y']).run P w = .ok v' w' ∧ VR μ' v v' ∧ Stp base μ μ' s s' w w') ∧ s'.gl = s.gl ∧ s'.gl = s.gl := by
  unfold appendO at h
  split at h
  · rename_i e ht hk
    split at h
    · cases h
    · rename_i i hinfo
      split at h
      · cases h
      · rename_i cs hsrc
        obtain ⟨news, hn1, hn2⟩ := src_sound hi.rel hk hsrc hy
        have hn0 : news = [] := List.eq_nil_of_length_eq_zero (by simpa using hn2.newsLen)
        subst hn0
        split at h
        · simp at h; obtain ⟨rfl, rfl⟩ := h
          have hx : x' = _ := hx
          subst hx
          exact ⟨⟨_, w, μ, run_append_nothing w t xt ty e i ht hinfo none 0 0 (Nat.le_refl _) y' hn2, rfl, Stp.refl hi⟩, rfl, rfl⟩
        · simp at h; obtain ⟨rfl, rfl⟩ := h
          obtain ⟨a, cap, rfl⟩ := hx
          exact ⟨⟨_, w, μ, run_append_nothing w t xt ty e i ht hinfo (some a) 0 cap (Nat.zero_le _) y' hn2, ⟨_, _, rfl⟩, Stp.refl hi⟩, rfl, rfl⟩
        · simp at h; obtain ⟨rfl, rfl⟩ := h
          obtain ⟨blk, m, cap, hm, rfl, hle, hcap⟩ := hx
          exact ⟨⟨_, w, μ, run_append_nothing w t xt ty e i ht hinfo _ _ cap hle y' hn2, ⟨blk, m, cap, hm, rfl, hle, hcap⟩, Stp.refl hi⟩, rfl, rfl⟩
        · cases h
      · rename_i m cs hsrc
        obtain ⟨news, hn1, hn2⟩ := src_sound hi.rel hk hsrc hy
        have hnl : news.length = (m + 1) * i.size := hn2.newsLen
        have hcl : cs.length = news.length := hn1.length
        split at h
        · cases h
        · rename_i zz hzz
          obtain ⟨i', z, zs, hi', hz, hzc, hzl, _⟩ := zeros_sound (μ := μ) hzz
          rw [hinfo] at hi'
          injection hi' with hi'
          subst hi'
          split at h
          · -- nil
            split at h
            · rename_i hcond
              simp only [Bool.and_eq_true, ble_iff] at hcond
              simp at h; obtain ⟨rfl, rfl⟩ := h
              have hx : x' = _ := hx
              subst hx
              have hrun := run_append_grow_src (P := P) w t xt ty e i z ht hinfo hz none 0 0 [] (run_firstCells_none w.drew i.size 0 0 0) y' (m + 1) news hn2 (by omega) (by omega)
                (by rw [Nat.zero_add]; exact growslice_fits (by omega) (by omega))
              simp only [List.nil_append, Nat.zero_add] at hrun
              have hge := grownCap_ge w (m + 1) 0 e
              have hsz := grow_size hzc news (grownCap w (m + 1) 0 e - (m + 1))
              have hsize : (news.toArray ++ Builtin.zeroCells z.cells (grownCap w (m + 1) 0 e - (m + 1))).size = grownCap w (m + 1) 0 e * i.size := by
                rw [hsz, hnl, hzl, ← Nat.add_mul]; congr 1; omega
              have hstp := Stp.alloc hi e cs false (news.toArray ++ Builtin.zeroCells z.cells (grownCap w (m + 1) 0 e - (m + 1))) (0, 0) (by rw [hsz]; omega)
                (by
                  rw [Array.toList_append, List.take_left' (by simp; omega)]
                  exact hn1) (by simp) (by simp)
              refine ⟨⟨_, _, μ.put s.nx 0 (w.heap.size, (news.toArray ++ Builtin.zeroCells z.cells (grownCap w (m + 1) 0 e - (m + 1))).size), hrun, ?_, hstp.heap rfl rfl rfl rfl⟩, rfl, rfl⟩
              exact ⟨w.heap.size, _, _, Mp.put_same _ _ _ _, rfl, hge, by rw [hsize]; show 0 + _ ≤ _; omega⟩
            · cases h
          · -- a row of the call's own
            rename_i a n esz
            split at h
            · cases h
            · rename_i r hg
              split at h
              · rename_i hcond
                simp only [Bool.and_eq_true, ble_iff] at hcond
                obtain ⟨⟨hown, helem, hesz, hoff, hgen, hmark⟩, hb1, hb2⟩ := hcond
                have helem := Nat.eq_of_beq_eq_true helem
                have hesz := Nat.eq_of_beq_eq_true hesz
                have hoff := Nat.eq_of_beq_eq_true hoff
                have hgen := Nat.eq_of_beq_eq_true hgen
                have hmark := Nat.eq_of_beq_eq_true hmark
                subst hesz
                simp at h; obtain ⟨rfl, rfl⟩ := h
                obtain ⟨blk, N, cap, hm, rfl, hle, hcap⟩ := hx
                obtain ⟨r', hg', hrow⟩ := hi.rel.row _ _ _ _ hm
                rw [hg] at hg'
                injection hg' with hg'
                subst hg'
                obtain ⟨arr, fz, hh, hsz, hex, hfr⟩ := hrow.at_
                have hext : extent r a.g = some r.len := by rw [hgen]; exact extent_gen hrow.gens
                obtain ⟨hlN, _, hLR⟩ := hex _ hext
                have hrl := hrow.len
                rw [List.take_of_length_le (by omega)] at hLR
                obtain ⟨hfz1, hfz2⟩ := hfr hgen hown
                have hbase : base ≤ blk := by have := hrow.own; rw [if_pos hown] at this; exact this
                have hfresh : μ a.b (r.gen + 1) = none := by
                  cases hq : μ a.b (r.gen + 1) with
                  | none => rfl
                  | some q =>
                    obtain ⟨q1, q2⟩ := q
                    obtain ⟨r2, hg2, hrow2⟩ := hi.rel.row _ _ _ _ hq
                    rw [hg] at hg2
                    injection hg2 with hg2
                    subst hg2
                    have := hrow2.gen
                    omega
                have hbn := hi.dom _ _ _ hm
                have hkeep : ({ hset s a.b { r with cells := r.cells ++ cs, len := r.len + cs.length, gen := r.gen + 1, lens := r.len :: r.lens } with low := Nat.min s.low a.b } : St) = { hset s a.b (grown r cs) with low := Nat.min s.low a.b } := rfl
                rw [hkeep]
                rw [hoff] at hcap
                refine ⟨?_, rfl, rfl⟩
                by_cases hroom : n + (m + 1) ≤ cap
                · -- there is room
                  have hrn : r.len + cs.length ≤ N := by
                    have : (n + (m + 1)) * i.size ≤ cap * i.size := Nat.mul_le_mul_right _ hroom
                    rw [Nat.add_mul, ← hnl] at this
                    omega
                  have hrun := run_append_room_src (P := P) w t xt ty e i ht hinfo blk a.off n cap y' (m + 1) news hn2 hroom
                    (fun j hj => by rw [cell_of_heap hh]; simp; omega)
                    (fun j hj => by
                      rw [frozen_of_heap hh]
                      have := hfz1 (a.off + n * i.size + j) (by have := hrow.fzl; omega) (by omega)
                      simpa using this)
                  obtain ⟨arr', hh', harr'⟩ := setCells_heap blk news (a.off + n * i.size) w arr r.elem fz hh (by omega)
                  have hoff' : a.off + n * i.size = r.len := by omega
                  rw [hoff'] at hrun hh' harr'
                  have hl1 : arr'.size = N := by
                    rw [← Array.length_toList, harr', spl_length _ _ _ (by simp; omega)]
                    simpa using hsz
                  obtain ⟨e1, e2, e3, e4⟩ := setCells_rest blk news r.len w
                  have hstp := grow_row hi hg hown hrow.gens hrl hrow.fzl cs blk N (w.setCells blk r.len news)
                    ⟨arr', fz, hh', hl1, hrn, ?_, hfz1, hfz2⟩
                    (fun k _ hk => setCells_other blk news r.len w k hk) (fun _ => ⟨a.g, hm⟩) (fun _ => ⟨arr, arr', fz, hh, hh', hl1.trans hsz.symm, ?_⟩)
                    hbase hbn hfresh (by omega) e2 e3 e4
                  · refine ⟨_, _, μ.put a.b (r.gen + 1) (blk, N), hrun, ?_, hstp⟩
                    exact ⟨blk, N, cap, Mp.put_same _ _ _ _, by rw [hoff], by omega, by show 0 + _ ≤ _; omega⟩
                  · rw [harr']
                    have : (spl arr.toList r.len news).take (r.len + cs.length) = arr.toList.take r.len ++ news := by
                      unfold spl
                      rw [List.take_append, List.take_of_length_le (by simp; omega)]
                      congr 1
                      rw [show r.len + cs.length - (arr.toList.take r.len).length = news.length by simp; omega]
                      simp
                    rw [this]
                    exact hLR.append hn1
                  · rw [harr', spl_take _ _ _ _ (Nat.le_refl _) (by simp; omega)]
                · -- there is none
                  have hfirst : (Builtin.firstCells i.size n (.slice (some ⟨blk, a.off, none⟩) n cap)).run P w.drew = .ok (arr.toList.take r.len).toArray w.drew := by
                    refine run_firstCells_some w.drew i.size n _ n cap (arr.toList.take r.len) (by simp; omega) ?_
                    intro j v hj
                    have hjl : j < r.len := by
                      rcases Nat.lt_or_ge j r.len with h | h
                      · exact h
                      · rw [List.getElem?_eq_none (by simp; omega)] at hj; cases hj
                    rw [hoff, add_addr]
                    show w.cell? _ = _
                    rw [cell_of_heap hh, Nat.zero_add]
                    rw [List.getElem?_take, if_pos hjl] at hj
                    simpa using hj
                  have hrun := run_append_grow_src (P := P) w t xt ty e i z ht hinfo hz (some ⟨blk, a.off, none⟩) n cap (arr.toList.take r.len) hfirst y' (m + 1) news hn2 (by omega) (by omega)
                    (growslice_fits (by omega) (by omega))
                  have hge := grownCap_ge w (n + (m + 1)) cap e
                  have hsz2 := grow_size hzc (arr.toList.take r.len ++ news) (grownCap w (n + (m + 1)) cap e - (n + (m + 1)))
                  have hol : (arr.toList.take r.len ++ news).length = (n + (m + 1)) * i.size := by
                    rw [Nat.add_mul]; simp; omega
                  have hsize : ((arr.toList.take r.len ++ news).toArray ++ Builtin.zeroCells z.cells (grownCap w (n + (m + 1)) cap e - (n + (m + 1)))).size = grownCap w (n + (m + 1)) cap e * i.size := by
                    rw [hsz2, hol, hzl, ← Nat.add_mul]; congr 1; omega
                  have hstp := grow_row hi hg hown hrow.gens hrl hrow.fzl cs w.heap.size _ (w.drew.alloc (.cells ((arr.toList.take r.len ++ news).toArray ++ Builtin.zeroCells z.cells (grownCap w (n + (m + 1)) cap e - (n + (m + 1)))) e))
                    ⟨_, (0, 0), by rw [helem]; exact Array.getElem?_push_size, rfl, ?_, ?_, by simp, by simp⟩
                    (fun k hk _ => Below.heap_alloc w.drew _ k hk) (fun h => absurd h (Nat.lt_irrefl _)) (fun h => absurd h (Nat.lt_irrefl _)) hi.size hbn hfresh
                    (by show w.heap.size ≤ (w.heap.push _).size; simp) rfl rfl rfl
                  · refine ⟨_, _, _, hrun, ?_, hstp⟩
                    exact ⟨w.heap.size, _, _, Mp.put_same _ _ _ _, rfl, hge, by rw [hsize]; show 0 + _ ≤ _; omega⟩
                  · rw [hsz2, hol]
                    have : (n + (m + 1)) * i.size = r.len + cs.length := by rw [Nat.add_mul, ← hnl]; omega
                    omega
                  · rw [Array.toList_append]
                    have : (arr.toList.take r.len ++ news).length = r.len + cs.length := by simp; omega
                    rw [List.take_left' (by simpa using this)]
                    exact hLR.append hn1
              · cases h
          · cases h
  · cases h
end
end Go.AM
