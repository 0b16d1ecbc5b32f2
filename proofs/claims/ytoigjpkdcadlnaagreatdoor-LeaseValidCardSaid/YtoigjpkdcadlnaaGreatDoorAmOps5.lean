/-
  Bytes and strings, slices that are made, conversions, append and copy.
-/
import Derived.Test.YtoigjpkdcadlnaaGreatDoorAmOps4
import Derived.Lib.UnsafeStr
import Derived.Lib.ConvBytes
import Derived.Laws.BytesString
import Derived.Laws.MakeOwn
namespace Go.AM
open Go Go.RowKit

section
variable {base : Nat} {μ : Mp} {P : Program} {w : World} {s s' : St}

theorem bytes_sound : ∀ {cs : List AV} {l : List UInt8} {vs : List Value}, bytesO cs = some l → LR (CR μ) cs vs → vs = l.map fun b => Value.int .u8 b.toNat
  | [], l, vs, h, hv => by
    simp [bytesO] at h; subst h
    rw [hv.nil_left]; rfl
  | c :: cs, l, vs, h, hv => by
    obtain ⟨v, vs', rfl, h1, h2⟩ := hv.cons_left
    unfold bytesO at h
    split at h
    · rename_i heq; cases heq
    · rename_i n r heq
      injection heq with e1 e2
      subst e1; subst e2
      split at h
      · rename_i hn
        have hn : 0 ≤ n ∧ n < 256 := by simpa using hn
        split at h
        · rename_i l' hl'
          simp at h; subst h
          have := bytes_sound hl' h2
          subst this
          have hv : v = .int .u8 n := h1
          subst hv
          simp only [List.map_cons, List.cons.injEq, and_true]
          congr 1
          simp
          omega
        · cases h
      · cases h
    · cases h

theorem ofBytes_rel (l : List UInt8) : LR (CR μ) (ofBytes l) (l.map fun b => Value.int .u8 b.toNat) := by
  induction l with
  | nil => trivial
  | cons b l ih => exact ⟨rfl, ih⟩

theorem foldl_bytes : ∀ (l acc : List UInt8), (l.map fun b => (b.toNat : Int)).foldl (fun (r : ByteArray) n => r.push (UInt8.ofNat n.toNat)) ⟨acc.toArray⟩ = ⟨(acc ++ l).toArray⟩
  | [], acc => by simp
  | b :: l, acc => by
    simp only [List.map_cons, List.foldl_cons]
    have : (⟨acc.toArray⟩ : ByteArray).push (UInt8.ofNat (b.toNat : Int).toNat) = ⟨(acc ++ [b]).toArray⟩ := by
      apply ByteArray.ext
      simp [ByteArray.push]
    rw [this, foldl_bytes l (acc ++ [b])]
    simp

theorem bytesToString_run {a : Addr} {l : List UInt8} {cap : Nat} (h : ∀ j v, (l.map fun b => Value.int .u8 b.toNat)[j]? = some v → w.cell? (a.add j) = some v) :
    (Conv.bytesToString (.slice (some a) l.length cap)).run P w = .ok (.string ⟨l.toArray⟩) w := by
  have h1 := run_loadCells_list (P := P) w a (l.map fun b => Value.int .u8 b.toNat) h
  have h2 : (l.map fun b => Value.int .u8 b.toNat) = (l.map fun b => (b.toNat : Int)).map (Value.int .u8) := by simp
  rw [h2] at h1
  simp only [List.length_map] at h1
  rw [run_bytesToString w a l.length cap _ h1]
  have := foldl_bytes l []
  simp only [List.nil_append] at this
  congr 2

/-! rows of zeros -/
theorem reps_get (zs : List AV) : ∀ (n i : Nat), i < n * zs.length → (reps zs n)[i]? = zs[i % zs.length]?
  | 0, i, h => by simp at h
  | n + 1, i, h => by
    simp only [reps]
    by_cases hi : i < zs.length
    · rw [List.getElem?_append_left hi, Nat.mod_eq_of_lt hi]
    · have h' : (n + 1) * zs.length = n * zs.length + zs.length := Nat.succ_mul _ _
      rw [List.getElem?_append_right (by omega), reps_get zs n _ (by omega)]
      congr 1
      exact (Nat.mod_eq_sub_mod (by omega)).symm

theorem reps_length (zs : List AV) : ∀ n, (reps zs n).length = n * zs.length
  | 0 => by simp [reps]
  | n + 1 => by simp [reps, reps_length zs n, Nat.succ_mul, Nat.add_comm]

theorem reps_rel {zs : List AV} {vs : List Value} (hv : LR (CR μ) zs vs) (n : Nat) :
    LR (CR μ) (reps zs n) (madeCells vs.toArray (n * zs.length)).toList := by
  have hl := hv.length
  apply LR.of_get
  · simp [reps_length, madeCells]
  · intro i x y hx hy
    have hlt : i < n * zs.length := by
      rcases Nat.lt_or_ge i (n * zs.length) with h | h
      · exact h
      · rw [List.getElem?_eq_none (by simp [madeCells]; omega)] at hy; cases hy
    rw [reps_get zs n i hlt] at hx
    obtain ⟨v, h1, h2⟩ := hv.get _ _ hx
    have : y = v := by
      simp [hlt, madeCells] at hy
      rw [← hl] at hy
      rw [← hy, h1]
      rfl
    rw [this]; exact h2

theorem zeros_sound {e : TypeId} {size n : Nat} {zs : List AV} (h : zerosOf P e size n = some zs) :
    ∃ (i : TypeInfo) (z : Value) (vs : List Value), P.info? e = some i ∧ i.zero = some z ∧ z.cells = vs.toArray ∧ vs.length = size ∧
      LR (CR μ) zs (madeCells z.cells (n * size)).toList := by
  unfold zerosOf at h
  split at h
  · cases h
  · rename_i x hx
    obtain ⟨i, z, h1, h2, h3⟩ := zero_sound (μ := μ) hx
    split at h
    · rename_i cs hc
      split at h
      · rename_i hn
        have hn := Nat.eq_of_beq_eq_true hn
        simp at h; subst h
        obtain ⟨vs, h4, h5⟩ := cells_sound hc h3.vr
        have := h4.length
        refine ⟨i, z, vs, h1, h2, h5, by omega, ?_⟩
        rw [← hn, h5]
        exact reps_rel h4 n
      · cases h
    · cases h

theorem buildSlice_sound (hi : Inv base μ s w) {t e : TypeId} {n size : Nat} {zs cs : List AV} {parts : List (Nat × AV)} {parts' : List (Nat × Value)} (hu : P.underlying t = some (.slice e)) (hs : sizeT P e = some size)
    (hn : n * size ≤ 16777216) (hz : zerosOf P e size n = some zs) (hf : fillO (fun i => some (i * size, size)) zs parts = some cs) (hp : PR μ parts parts') :
    ∃ v' w' μ', (Instr.buildSlice t n parts'.toArray).run P w = .ok v' w' ∧ VR μ' (.slice (newRow s e cs).1 n size) v' ∧ Stp base μ μ' s (newRow s e cs).2 w w' := by
  obtain ⟨i, z, vs, h1, h2, h3, h4, h5⟩ := zeros_sound (μ := μ) hz
  obtain ⟨rs, h6, h7⟩ := fill_sound hf h5 hp
  have hlen : cs.length = n * size := by
    have : ∀ {parts : List (Nat × AV)} {a b : List AV}, fillO (fun i => some (i * size, size)) a parts = some b → b.length = a.length := by
      intro parts
      induction parts with
      | nil => intro a b h; simp [fillO] at h; rw [h]
      | cons p r ih =>
        intro a b h
        obtain ⟨j, v⟩ := p
        simp only [fillO] at h
        split at h
        · rename_i off sz us hpl hcl
          split at h
          · rename_i hcond
            simp only [Bool.and_eq_true, ble_iff] at hcond
            rw [ih h, splice_eq, spl_length _ _ _ hcond.2]
          · cases h
        · cases h
    rw [this hf, h5.length]
    simp [madeCells]
  have hrl := h7.length
  have hnew := new_sound hi e cs rs h7
  refine ⟨.slice (some ⟨w.heap.size, 0, none⟩) n n, w.alloc (.cells rs.toArray e), _, ?_, ?_, hnew.2⟩
  · have hno : ¬ (n * size > 2 ^ 24) := by omega
    have hzv : ∀ w, (zeroValue e).run P w = .ok z w := fun w => by simp [zeroValue, typeInfo, h1, h2]
    have h6a : Instr.fill (fun i => some (i * size, size)) (madeCells z.cells (n * size)) parts' = some rs.toArray := by simpa using h6
    unfold madeCells at h6a
    by_cases h0 : n * size = 0
    · rw [h0] at h6a
      have h6b : Instr.fill (fun i => some (i * size, size)) ((Array.range (n * size)).map fun i => (#[] : Array Value)[i % (#[] : Array Value).size]!) parts' = some rs.toArray := by
        rw [h0]
        rw [Array.range_zero', Array.map_empty] at h6a ⊢
        exact h6a
      simp only [Instr.buildSlice, Sem.run_bind, run_underlying hu, Result.andThen_ok, size_run hs, if_neg hno, Sem.run_pure, if_pos h0, h6b]
      rfl
    · simp only [Instr.buildSlice, Sem.run_bind, run_underlying hu, Result.andThen_ok, size_run hs, if_neg hno, Sem.run_pure, if_neg h0, hzv, h6a]
      rfl
  · exact ⟨w.heap.size, rs.length, n, Mp.put_same _ _ _ _, rfl, Nat.le_refl _, by show 0 + n * size ≤ rs.length; omega⟩

theorem makeSlice_run {t e : TypeId} {i : TypeInfo} {z : Value} {l c : Nat} {k1 k2 : IntKind} (hu : P.underlying t = some (.slice e)) (h1 : P.info? e = some i) (h2 : i.zero = some z)
    (hlc : l ≤ c) (hb : c * i.bytes ≤ 1000000000) (hc : c ≤ 1000000000) :
    (Instr.makeSlice t (.int k1 (l : Int)) (.int k2 (c : Int))).run P w = .ok (.slice (some ⟨w.heap.size, 0, none⟩) l c) (w.alloc (.cells (madeCells z.cells (c * i.size)) e)) := by
  have hcb : (i.bytes : Int) * (c : Int) ≤ 1000000000 := by
    have : ((c * i.bytes : Nat) : Int) ≤ 1000000000 := by omega
    rwa [Int.natCast_mul, Int.mul_comm] at this
  have := run_make (P := P) w t e i z hu h1 h2 k1 k2 l c (by omega) (by omega) (by omega) (by omega)
  simpa using this

/-- a string's bytes in a row of their own -/
theorem toBytes_sound (hi : Inv base μ s w) {src dst e : TypeId} {d : TypeDesc} (l : List UInt8) (hs : P.underlying src = some d) (hd : P.underlying dst = some (.slice e)) (he : P.underlying e = some (.int .u8)) :
    ∃ v' w' μ', (convert src dst (.string ⟨l.toArray⟩)).run P w = .ok v' w' ∧ VR μ' (.slice (newRow s e (ofBytes l) true).1 l.length 1) v' ∧ Stp base μ μ' s (newRow s e (ofBytes l) true).2 w w' := by
  have hsz : (⟨l.toArray⟩ : ByteArray).size = l.length := by simp [ByteArray.size]
  have hrun := Lib.run_convert_string_bytes (P := P) w src dst e ⟨l.toArray⟩ hs hd he
  rw [hsz] at hrun
  have hcap : l.length ≤ grownCap w l.length 0 e := by
    unfold grownCap Question.cut
    simp
  have hcs : (Lib.bytesCells w e ⟨l.toArray⟩).toList = (l.map fun b => Value.int .u8 b.toNat) ++ List.replicate (grownCap w l.length 0 e - l.length) (.int .u8 0) := by
    simp [Lib.bytesCells, hsz]
  have hcsz : (Lib.bytesCells w e ⟨l.toArray⟩).size = grownCap w l.length 0 e := by
    rw [← Array.length_toList, hcs]
    simp
    omega
  have hol : (ofBytes l).length = l.length := by simp [ofBytes]
  have hstp := Stp.alloc hi e (ofBytes l) true (Lib.bytesCells w e ⟨l.toArray⟩) ((Lib.bytesCells w e ⟨l.toArray⟩).size, (Lib.bytesCells w e ⟨l.toArray⟩).size + 1)
    (by omega) (by
      rw [hol, hcs, List.take_left' (by simp)]
      exact ofBytes_rel l) (fun i hi => by simp; omega) (by simp)
  refine ⟨_, _, μ.put s.nx 0 (w.heap.size, (Lib.bytesCells w e ⟨l.toArray⟩).size), hrun, ?_, ?_⟩
  · exact ⟨w.heap.size, _, _, Mp.put_same _ _ _ _, rfl, hcap, by show 0 + _ * 1 ≤ _; omega⟩
  · refine hstp.heap ?_ rfl rfl rfl
    unfold Lib.bytesWorld
    apply Array.ext_getElem?
    intro j
    have hpush : (w.drew.alloc (.cells (Lib.bytesCells w e ⟨l.toArray⟩) e)).heap = w.heap.push (.cells (Lib.bytesCells w e ⟨l.toArray⟩) e) := rfl
    have hpush2 : (w.alloc (.cells (Lib.bytesCells w e ⟨l.toArray⟩) e ((Lib.bytesCells w e ⟨l.toArray⟩).size, (Lib.bytesCells w e ⟨l.toArray⟩).size + 1))).heap = w.heap.push (.cells (Lib.bytesCells w e ⟨l.toArray⟩) e ((Lib.bytesCells w e ⟨l.toArray⟩).size, (Lib.bytesCells w e ⟨l.toArray⟩).size + 1)) := rfl
    rw [hpush2]
    simp only [World.freeze, Nat.one_ne_zero, if_false]
    rw [hpush, Array.getElem?_modify]
    by_cases hj : j = w.heap.size
    · subst hj
      simp
    · have hj' : w.heap.size ≠ j := fun h => hj h.symm
      simp [Array.getElem?_push, hj, hj']
end
end Go.AM
