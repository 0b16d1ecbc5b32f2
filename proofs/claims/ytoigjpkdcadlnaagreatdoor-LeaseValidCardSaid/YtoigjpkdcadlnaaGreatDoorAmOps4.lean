/-
  Structs and arrays that are built; loads, stores and new memory.
-/
import Derived.Test.YtoigjpkdcadlnaaGreatDoorAmOps3
namespace Go.AM
open Go Go.RowKit

section
variable {base : Nat} {μ : Mp} {P : Program} {w : World} {s s' : St}

theorem foldl_spl (off : Nat) : ∀ (vs : List Value) (k : Nat) (cs : Array Value), off + k + vs.length ≤ cs.size →
    ((vs.zipIdx k).foldl (fun cs p => cs.setIfInBounds (off + p.2) p.1) cs).toList = spl cs.toList (off + k) vs
  | [], k, cs, _ => by simp [spl_nil]
  | v :: r, k, cs, h => by
    simp only [List.zipIdx_cons, List.foldl_cons]
    rw [foldl_spl off r (k + 1) _ (by simp at h ⊢; omega), spl_cons _ _ _ _ (by simp at h ⊢; omega)]
    simp [Nat.add_assoc]

theorem fill_step (off : Nat) (vs cs : List Value) (h : off + vs.length ≤ cs.length) :
    vs.toArray.zipIdx.foldl (fun cs (p : Value × Nat) => cs.setIfInBounds (off + p.2) p.1) cs.toArray = (spl cs off vs).toArray := by
  apply Array.ext'
  rw [← Array.foldl_toList]
  have := foldl_spl off vs 0 cs.toArray (by simpa using h)
  simpa using this

def PR (μ : Mp) : List (Nat × AV) → List (Nat × Value) → Prop := LR fun p q => p.1 = q.1 ∧ VR μ p.2 q.2

theorem fill_sound {place : Nat → Option (Nat × Nat)} : ∀ {parts : List (Nat × AV)} {cells r : List AV} {cs : List Value} {parts' : List (Nat × Value)}, fillO place cells parts = some r → LR (CR μ) cells cs → PR μ parts parts' →
    ∃ rs, Instr.fill place cs.toArray parts' = some rs.toArray ∧ LR (CR μ) r rs
  | [], cells, r, cs, parts', h, hc, hp => by
    have := hp.nil_left
    subst this
    simp [fillO] at h
    subst h
    exact ⟨cs, rfl, hc⟩
  | (i, v) :: rest, cells, r, cs, parts', h, hc, hp => by
    obtain ⟨⟨i', v'⟩, parts2, rfl, ⟨hi, hv⟩, hp2⟩ := hp.cons_left
    have hi : i = i' := hi
    subst hi
    simp only [fillO] at h
    split at h
    · rename_i off size vs hpl hcl
      split at h
      · rename_i hcond
        simp only [Bool.and_eq_true, ble_iff] at hcond
        have hsz := Nat.eq_of_beq_eq_true hcond.1
        obtain ⟨us, hus, hcv⟩ := cells_sound hcl hv
        have hlu := hus.length
        have hlc := hc.length
        obtain ⟨rs, h1, h2⟩ := fill_sound h (hc.spl off hus) hp2
        refine ⟨rs, ?_, h2⟩
        simp only [Instr.fill, hpl, hcv]
        have hn : (decide (us.toArray.size ≠ size) || decide (off + us.toArray.size > cs.toArray.size)) = false := by simp; omega
        rw [if_neg (by simpa using hn)]
        rw [fill_step off us cs (by omega)]
        exact h1
      · cases h
    · cases h

theorem mapM_places : ∀ (fs : List Field) (ps : List (Nat × Nat)), mapO (fun f => (sizeT P f.type).map fun n => (f.offset, n)) fs = some ps →
    ∀ w, (fs.mapM (fun f => do pure (f.offset, ← sizeOf f.type)) : Sem (List (Nat × Nat))).run P w = .ok ps w
  | [], ps, h, w => by simp [mapO] at h; subst h; simp
  | f :: fs, ps, h, w => by
    simp only [mapO] at h
    cases h1 : sizeT P f.type with
    | none => simp [h1] at h
    | some n =>
      simp only [h1, Option.map_some] at h
      cases h2 : mapO (fun f => (sizeT P f.type).map fun n => (f.offset, n)) fs with
      | none => simp [h2] at h
      | some qs =>
        simp [h2] at h
        subst h
        have ih := mapM_places fs qs h2
        rw [List.mapM_cons]
        simp only [Sem.run_bind, size_run h1, Result.andThen_ok, Sem.run_pure, ih]

theorem build_sound {t : TypeId} {parts : List (Nat × AV)} {v : AV} {parts' : List (Nat × Value)} (h : buildO P t parts = some v) (hp : PR μ parts parts') :
    ∃ v', VR μ v v' ∧ ∀ w, (Instr.build t parts'.toArray).run P w = .ok v' w := by
  unfold buildO at h
  split at h
  · rename_i zero hz
    obtain ⟨i, z, hi, hiz, hv⟩ := zero_sound (μ := μ) hz
    obtain ⟨zs, hzs, rfl⟩ := hv
    have hzv : ∀ w, (zeroValue t).run P w = .ok (.agg zs.toArray) w := fun w => by simp [zeroValue, typeInfo, hi, hiz]
    split at h
    · rename_i fields hu
      split at h
      · rename_i places hpl
        split at h
        · rename_i cs hf
          simp at h; subst h
          obtain ⟨rs, h1, h2⟩ := fill_sound hf hzs hp
          refine ⟨.agg rs.toArray, ⟨rs, h2, rfl⟩, fun w => ?_⟩
          have hm := mapM_places _ _ hpl
          simp only [Instr.build, Sem.run_bind, hzv, Result.andThen_ok, run_underlying hu, Array.mapM_eq_mapM_toList, Sem.run_map, hm]
          simp [Value.cells, h1]
        · cases h
      · cases h
    · rename_i n e hu
      split at h
      · rename_i size hs
        split at h
        · rename_i cs hf
          simp at h; subst h
          obtain ⟨rs, h1, h2⟩ := fill_sound hf hzs hp
          refine ⟨.agg rs.toArray, ⟨rs, h2, rfl⟩, fun w => ?_⟩
          simp [Instr.build, hzv, run_underlying hu, size_run hs, Value.cells, h1]
        · cases h
      · cases h
    · cases h
  · cases h

/-! memory -/
theorem load_sound (hr : Rel base μ s.hp w) {t : TypeId} {a : AA} {v : AV} (h : loadT P s t a = some v) {c : Addr} (hc : AR μ a c) : ∃ v', V1 μ v v' ∧ (loadVar t c).run P w = .ok v' w := by
  unfold loadT at h
  split at h
  · rename_i n h1 h2
    split at h
    · rename_i l hl
      simp at h; subst h
      obtain ⟨vs, hv, hn, hcell⟩ := read_cells hr hl hc
      have hlen := hv.length
      have hrun := run_loadCells_list (P := P) w c vs hcell
      rw [show vs.length = n by omega] at hrun
      exact ⟨.agg vs.toArray, ⟨vs, hv, rfl⟩, by simp [loadVar, agg_run h1, size_run h2, hrun]⟩
    · cases h
  · rename_i h1
    split at h
    · rename_i v0 hl
      simp at h; subst h
      obtain ⟨vs, hv, hn, hcell⟩ := read_cells hr hl hc
      obtain ⟨u, us, rfl, hu, hus⟩ := hv.cons_left
      have h0 := hcell 0 u (by simp)
      have ha : c.add 0 = c := by simp [Addr.add]
      rw [ha] at h0
      exact ⟨u, hu.v1, by simp [loadVar, agg_run h1, h0]⟩
    · cases h
  · cases h

theorem store_sound (hi : Inv base μ s w) {t : TypeId} {a : AA} {v : AV} (h : storeT P s t a v = some s') {c : Addr} (hc : AR μ a c) {v' : Value} (hv : VR μ v v') :
    ∃ w', (storeVar t c v').run P w = .ok () w' ∧ Stp base μ μ s s' w w' ∧ s'.gl = s.gl ∧ s'.gl = s.gl := by
  unfold storeT at h
  split at h
  · rename_i l n hl hs
    split at h
    · rename_i hn
      have hn := Nat.eq_of_beq_eq_true hn
      obtain ⟨vs, hvs, hcv⟩ := cells_sound hl hv
      have hlen := hvs.length
      obtain ⟨w', h1, h2⟩ := write_cells (P := P) hi h hc hvs
      refine ⟨w', ?_, h2⟩
      have hz : vs.length = n := by omega
      simp [storeVar, hcv, size_run hs, hz, h1]
    · cases h
  · cases h

theorem new_sound (hi : Inv base μ s w) (elem : TypeId) (cells : List AV) (vs : List Value) (hv : LR (CR μ) cells vs) :
    VR (μ.put s.nx 0 (w.heap.size, vs.length)) (.ptr (newRow s elem cells).1) (.pointer (some ⟨w.heap.size, 0, none⟩)) ∧
    Stp base μ (μ.put s.nx 0 (w.heap.size, vs.length)) s (newRow s elem cells).2 w (w.alloc (.cells vs.toArray elem)) := by
  have hl := hv.length
  have h := Stp.alloc hi elem cells false vs.toArray (0, 0) (by simp; omega) (by rw [List.take_of_length_le (by simp; omega)]; exact hv) (by simp) (by simp)
  refine ⟨⟨⟨w.heap.size, 0, none⟩, ⟨w.heap.size, vs.length, Mp.put_same _ _ _ _, rfl⟩, rfl⟩, ?_⟩
  simpa using h
end
end Go.AM
