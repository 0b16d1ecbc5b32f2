/-
  Conversions, append, copy and the other built-in functions.
-/
import Derived.Test.YtoigjpkdcadlnaaGreatDoorAmOps5
namespace Go.AM
open Go Go.RowKit

section
variable {base : Nat} {μ : Mp} {P : Program} {w : World} {s s' : St}

theorem shape_of_heap {w : World} {b : Nat} {cs : Array Value} {e : TypeId} {fz : Nat × Nat} (h : w.heap[b]? = some (.cells cs e fz)) : w.shape? b = some (e, cs.size) := by
  simp [World.shape?, h]

theorem seenAt_run {blk off : Nat} {x : TypeId × Nat} (h : w.shape? blk = some x) : (Conv.seenAt ⟨blk, off, none⟩).run P w = .ok ⟨blk, off, none⟩ w := by
  simp [Conv.seenAt, viewAt, h]

theorem conv_sound (hi : Inv base μ s w) {src dst : TypeId} {x v : AV} {x' : Value} (h : convO P s src dst x = some (v, s')) (hx : VR μ x x') :
    (∃ v' w' μ', (convert src dst x').run P w = .ok v' w' ∧ VR μ' v v' ∧ Stp base μ μ' s s' w w') ∧ s'.gl = s.gl ∧ s'.gl = s.gl := by
  unfold convO at h
  split at h
  · rename_i d k k' n hs hd
    simp at h; obtain ⟨rfl, rfl⟩ := h
    rw [int_inv hx]
    exact ⟨⟨_, w, μ, by simp [convert, run_underlying hs, run_underlying hd, Conv.intToInt], rfl, Stp.refl hi⟩, rfl, rfl⟩
  · rename_i d k n hs hd
    simp at h; obtain ⟨rfl, rfl⟩ := h
    rw [int_inv hx]
    exact ⟨⟨.string (Utf8.encode n), w, μ, by simp [convert, run_underlying hs, run_underlying hd, Conv.intToString], by show _ = _; simp, Stp.refl hi⟩, rfl, rfl⟩
  · rename_i d l hs hd
    simp at h; obtain ⟨rfl, rfl⟩ := h
    rw [str_inv hx]
    exact ⟨⟨_, w, μ, by simp [convert, run_underlying hs, run_underlying hd], rfl, Stp.refl hi⟩, rfl, rfl⟩
  · rename_i d e l hs hd
    split at h
    · rename_i he
      simp at h; obtain ⟨rfl, rfl⟩ := h
      rw [str_inv hx]
      exact ⟨toBytes_sound hi l hs hd he, rfl, rfl⟩
    · cases h
  · rename_i x e hs hd _ _
    split at h
    · rename_i he
      split at h
      · simp at h; obtain ⟨rfl, rfl⟩ := h
        have hx : x' = _ := hx
        subst hx
        exact ⟨⟨.string .empty, w, μ, by simp [convert, run_underlying hs, run_underlying hd, run_underlying he, Conv.bytesToString], rfl, Stp.refl hi⟩, rfl, rfl⟩
      · simp at h; obtain ⟨rfl, rfl⟩ := h
        obtain ⟨a, cap, rfl⟩ := hx
        refine ⟨⟨.string ⟨([] : List UInt8).toArray⟩, w, μ, ?_, rfl, Stp.refl hi⟩, rfl, rfl⟩
        rw [run_convert_bytes_string w src dst e _ _ _ hs he hd]
        have := bytesToString_run (P := P) (w := w) (a := a) (l := []) (cap := cap) (by simp)
        simpa using this
      · rename_i a n _ _
        split at h
        · rename_i cs hc
          split at h
          · rename_i l hl
            simp at h; obtain ⟨rfl, rfl⟩ := h
            obtain ⟨blk, m, cap, hm, rfl, _⟩ := hx
            obtain ⟨vs, hv, hn, hcell⟩ := read_cells hi.rel hc ⟨blk, m, hm, rfl⟩
            have hb := bytes_sound hl hv
            subst hb
            have hln := hv.length
            simp at hln
            refine ⟨⟨.string ⟨l.toArray⟩, w, μ, ?_, rfl, Stp.refl hi⟩, rfl, rfl⟩
            rw [run_convert_bytes_string w src dst e _ _ _ hs he hd, show n = l.length by omega]
            exact bytesToString_run hcell
          · cases h
        · cases h
      · cases h
    · cases h
  · rename_i t a hs hd
    split at h
    · rename_i n xs hz hr
      simp at h; obtain ⟨rfl, rfl⟩ := h
      obtain ⟨c, hc, rfl⟩ := hx
      obtain ⟨vs, hv, hn, hcell⟩ := read_cells hi.rel hr hc
      obtain ⟨blk, m, hm, rfl⟩ := hc
      obtain ⟨r, hg, hrow⟩ := hi.rel.row _ _ _ _ hm
      obtain ⟨cs, fz, hh, hsz, _⟩ := hrow.at_
      refine ⟨⟨_, w, μ, ?_, ⟨_, ⟨blk, m, hm, rfl⟩, rfl⟩, Stp.refl hi⟩, rfl, rfl⟩
      have hsh := shape_of_heap hh
      have hlt : a.off < cs.size := by
        have h0 : ∃ v, vs[0]? = some v := by
          cases vs with
          | nil => have := hv.length; simp only [List.length_nil] at this; omega
          | cons v _ => exact ⟨v, rfl⟩
        obtain ⟨v, h0⟩ := h0
        have := hcell 0 v h0
        rw [add_addr, cell_of_heap hh] at this
        have := (Array.getElem?_eq_some_iff.1 this).1
        omega
      have hlt' : ¬ (cs.size ≤ a.off) := by omega
      simp [convert, run_underlying hs, run_underlying hd, Conv.unsafePointer, seenAt_run hsh, cellsIn, hsh, size_run hz, hlt']
    · cases h
  · rename_i u a hs hd
    split at h
    · rename_i r hg
      split at h
      · rename_i n hz hcond
        split at h
        · rename_i hlen
          simp at h; obtain ⟨rfl, rfl⟩ := h
          simp only [Bool.and_eq_true] at hcond
          obtain ⟨h1, h2, h3, h4⟩ := hcond
          have h1 := Nat.eq_of_beq_eq_true h1
          have h2 := Nat.eq_of_beq_eq_true h2
          have h3 := Nat.eq_of_beq_eq_true h3
          have h4 := Nat.eq_of_beq_eq_true h4
          have hlen := Nat.eq_of_beq_eq_true hlen
          obtain ⟨c, ⟨blk, m, hm, rfl⟩, rfl⟩ := hx
          obtain ⟨r', hg', hrow⟩ := hi.rel.row _ _ _ _ hm
          rw [hg] at hg'
          injection hg' with hg'
          subst hg'
          obtain ⟨cs, fz, hh, hsz, hex, _⟩ := hrow.at_
          have hsh := shape_of_heap hh
          have hle := (hex r.len (by rw [h3, ← h4]; exact extent_gen hrow.gens)).1
          refine ⟨⟨_, w, μ, ?_, ⟨_, ⟨blk, m, hm, rfl⟩, rfl⟩, Stp.refl hi⟩, rfl, rfl⟩
          have hcu : P.cellsOf r.elem = n + 1 := by
            rw [h1]
            unfold sizeT at hz
            unfold Program.cellsOf
            rw [hz]; rfl
          have hsame : sameLayout P P.depth r.elem u = true := by
            rw [h1]
            unfold Program.depth sameLayout
            simp
          have hcnt : 0 + 1 ≤ cs.size / (n + 1) := by
            have : n + 1 ≤ cs.size := by omega
            have := Nat.div_pos this (by omega)
            omega
          have hrow1 : Go.rowAt P (sameLayout P P.depth · u) P.depth r.elem (cs.size / (n + 1)) 0 1 = true := by
            have hd : P.depth = (2 * (P.types.size + Made.depth) + 1) + 1 := rfl
            rw [hd]
            unfold Go.rowAt
            rw [hcu, ← hd]
            simp [hsame]
            exact .inl (by omega)
          have hlies : liesAt P P.depth r.elem (cs.size / (n + 1)) 0 u 1 = true := by
            have hd : P.depth = (2 * (P.types.size + Made.depth) + 1) + 1 := rfl
            rw [hd]
            unfold liesAt
            rw [hrow1]
            rfl
          simp [convert, run_underlying hs, run_underlying hd, Conv.unsafePointer, seenAt_run hsh, hsh, size_run hz, variablesAt, hcu, h2, hlies]
        · cases h
      · cases h
    · cases h
  · cases h
end
end Go.AM
