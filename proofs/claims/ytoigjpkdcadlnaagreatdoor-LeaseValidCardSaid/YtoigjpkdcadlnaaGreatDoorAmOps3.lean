/-
  Places and parts: addresses of fields and elements, slices, structs that are built.
-/
import Derived.Test.YtoigjpkdcadlnaaGreatDoorAmOps2
namespace Go.AM
open Go Go.RowKit

section
variable {μ : Mp} {P : Program} {w : World}

theorem add_addr (blk off n : Nat) : (⟨blk, off, none⟩ : Addr).add n = ⟨blk, off + n, none⟩ := by
  unfold Addr.add
  split <;> simp_all

theorem AR.add {a : AA} {c : Addr} (h : AR μ a c) (n : Nat) : AR μ (addOff a n) (c.add n) := by
  obtain ⟨blk, k, hm, rfl⟩ := h
  exact ⟨blk, k, hm, add_addr _ _ _⟩

theorem nat_sound {i : AV} {n : Nat} {i' : Value} (h : natO i = some n) (hi : VR μ i i') : ∃ k, i' = .int k (n : Int) := by
  unfold natO at h
  split at h
  · rename_i k m
    split at h
    · rename_i hm
      have hm : 0 ≤ m := by simpa using hm
      simp at h
      rw [int_inv hi, ← h]
      exact ⟨k, by rw [Int.toNat_of_nonneg hm]⟩
    · cases h
  · cases h

theorem fieldAddr_sound {t : TypeId} {x v : AV} {f : Nat} {x' : Value} (h : fieldAddrO P t x f = some v) (hx : VR μ x x') : ∃ v', VR μ v v' ∧ ∀ w, (Instr.fieldAt t x' f).run P w = .ok v' w := by
  unfold fieldAddrO at h
  split at h
  · rename_i fs a hu
    split at h
    · rename_i fd hf
      split at h
      · rename_i n hs
        simp at h; subst h
        obtain ⟨c, hc, rfl⟩ := hx
        exact ⟨_, ⟨_, hc.add _, rfl⟩, fun w => by simp [Instr.fieldAt, run_underlying hu, hf, Instr.sureAddr, fieldPlace, size_run hs]⟩
      · cases h
    · cases h
  · cases h

theorem field_sound {t : TypeId} {x v : AV} {f : Nat} {x' : Value} (h : fieldO P t x f = some v) (hx : VR μ x x') : ∃ v', VR μ v v' ∧ ∀ w, (Instr.field t x' f).run P w = .ok v' w := by
  unfold fieldO at h
  split at h
  · rename_i fs cs hu
    split at h
    · rename_i fd hf
      obtain ⟨vs, hv, rfl⟩ := hx
      obtain ⟨v', h1, h2⟩ := part_sound h hv
      exact ⟨v', h1.vr, fun w => by simp [Instr.field, run_underlying hu, hf, asAgg, h2]⟩
    · cases h
  · cases h

theorem indexAddr_sound {t : TypeId} {x i v : AV} {x' i' : Value} (h : indexAddrO P t x i = some v) (hx : VR μ x x') (hi : VR μ i i') : ∃ v', VR μ v v' ∧ ∀ w, (Instr.indexAt t x' i').run P w = .ok v' w := by
  unfold indexAddrO at h
  split at h
  · cases h
  · rename_i n hn
    obtain ⟨k, rfl⟩ := nat_sound hn hi
    split at h
    · rename_i len e a hu
      split at h
      · rename_i esz hs hl
        simp at h; subst h
        obtain ⟨c, hc, rfl⟩ := hx
        have hl : n < len := by simpa using Nat.blt_eq.mp hl
        refine ⟨_, ⟨_, hc.add _, rfl⟩, fun w => ?_⟩
        simp [Instr.indexAt, asIntOf, run_underlying hu, Instr.sureAddr, size_run hs]
        intro hle; omega
      · cases h
    · rename_i e a len esz hu
      split at h
      · rename_i z hs hl
        split at h
        · rename_i hz
          have hz := Nat.eq_of_beq_eq_true hz
          subst hz
          simp at h; subst h
          obtain ⟨blk, m, cap, hm, rfl, _⟩ := hx
          have hl : n < len := by simpa using Nat.blt_eq.mp hl
          refine ⟨.pointer (some ((⟨blk, a.off, none⟩ : Addr).add (n * z))), ⟨_, AR.add ⟨blk, m, hm, rfl⟩ _, rfl⟩, fun w => ?_⟩
          simp [Instr.indexAt, asIntOf, run_underlying hu, size_run hs]
          intro hle; omega
        · cases h
      · cases h
    · cases h

theorem byte_get {l : List UInt8} {n : Nat} {b : UInt8} (hb : l[n]? = some b) : (⟨l.toArray⟩ : ByteArray)[n]? = some b := by
  obtain ⟨hlt, he⟩ := List.getElem?_eq_some_iff.1 hb
  have hlt' : n < (⟨l.toArray⟩ : ByteArray).size := by simpa [ByteArray.size] using hlt
  rw [getElem?_pos (⟨l.toArray⟩ : ByteArray) n hlt', ← he]
  rfl

theorem index_sound {t : TypeId} {x i v : AV} {x' i' : Value} (h : indexO P t x i = some v) (hx : VR μ x x') (hi : VR μ i i') : ∃ v', VR μ v v' ∧ ∀ w, (Instr.index t x' i').run P w = .ok v' w := by
  unfold indexO at h
  split at h
  · cases h
  · rename_i n hn
    obtain ⟨k, rfl⟩ := nat_sound hn hi
    split at h
    · rename_i len e cs hu
      split at h
      · rename_i esz hs hl
        obtain ⟨vs, hv, rfl⟩ := hx
        have hl : n < len := by simpa using Nat.blt_eq.mp hl
        obtain ⟨v', h1, h2⟩ := part_sound h hv
        exact ⟨v', h1.vr, fun w => by
          simp [Instr.index, asIntOf, run_underlying hu, size_run hs, h2]
          intro hle; omega⟩
      · cases h
    · rename_i l hu
      split at h
      · rename_i b hb
        simp at h; subst h
        rw [str_inv hx]
        refine ⟨_, rfl, fun w => ?_⟩
        have h3 : (0 : Int) ≤ (n : Int) := by omega
        have h4 : (⟨l.toArray⟩ : ByteArray)[n]? = some b := byte_get hb
        simp [Instr.index, asIntOf, run_underlying hu, h4]
      · cases h
    · cases h

def OR (μ : Mp) : Option AV → Option Value → Prop
  | none, none => True
  | some v, some v' => VR μ v v'
  | _, _ => False

theorem bnd_sound {x : Option AV} {d n : Nat} {x' : Option Value} (h : bnd x d = some n) (hx : OR μ x x') :
    (x' = none ∧ n = d) ∨ ∃ k, x' = some (.int k (n : Int)) := by
  cases x with
  | none => cases x' with
    | none => simp [bnd] at h; exact .inl ⟨rfl, h.symm⟩
    | some _ => exact hx.elim
  | some v => cases x' with
    | none => exact hx.elim
    | some v' =>
      obtain ⟨k, rfl⟩ := nat_sound (show natO v = some n from h) hx
      exact .inr ⟨k, rfl⟩

theorem bounds_run {sl : Bool} {len cap h k : Nat} {lo hi : Option Value} (hh : (hi = none ∧ h = len) ∨ ∃ q, hi = some (.int q (h : Int))) (hk : (lo = none ∧ k = 0) ∨ ∃ q, lo = some (.int q (k : Int)))
    (h1 : k ≤ h) (h2 : h ≤ cap) : ∀ w, (Instr.sliceBounds sl len cap lo hi none).run P w = .ok (k, h, cap) w := by
  intro w
  rcases hh with ⟨rfl, rfl⟩ | ⟨q, rfl⟩ <;> rcases hk with ⟨rfl, rfl⟩ | ⟨q', rfl⟩ <;> simp [Instr.sliceBounds, Instr.sliceBound, asIntOf, h1, h2] <;> (intro hlt; omega)

theorem mkSlice_vr {a : AA} {blk m cap n k h esz : Nat} (hm : μ a.b a.g = some (blk, m)) (hc : a.off + cap * esz ≤ m) (h1 : k ≤ h) (h2 : h ≤ cap) (hn : n = h - k) :
    VR μ (mkSlice a k n esz) (.slice (if cap = k then some ⟨blk, a.off, none⟩ else some ((⟨blk, a.off, none⟩ : Addr).add (k * esz))) n (cap - k)) := by
  unfold mkSlice
  split
  · by_cases hck : cap = k
    · rw [if_pos hck]; exact ⟨_, _, rfl⟩
    · rw [if_neg hck]; exact ⟨_, _, rfl⟩
  · rename_i n'
    rw [if_neg (by omega), add_addr]
    refine ⟨blk, m, cap - k, hm, rfl, by omega, ?_⟩
    have : k * esz + (cap - k) * esz = cap * esz := by rw [← Nat.add_mul]; congr 1; omega
    show a.off + k * esz + (cap - k) * esz ≤ m
    omega

theorem slice_sound {t : TypeId} {x v : AV} {lo hi : Option AV} {x' : Value} {lo' hi' : Option Value} (h : sliceO P t x lo hi = some v) (hx : VR μ x x')
    (hlo : OR μ lo lo') (hhi : OR μ hi hi') :
    ∃ v', VR μ v v' ∧ ∀ w, (Instr.sliceAt t x' lo' hi' none).run P w = .ok v' w := by
  unfold sliceO at h
  split at h
  · rename_i l hu
    split at h
    · rename_i n hn
      split at h
      · rename_i k hk
        split at h
        · rename_i hc
          simp only [Bool.and_eq_true, ble_iff] at hc
          simp at h; subst h
          rw [str_inv hx]
          have hb := bounds_run (P := P) (sl := false) (len := l.length) (cap := l.length) (bnd_sound hn hhi) (bnd_sound hk hlo) hc.1 hc.2
          have hsz : (⟨l.toArray⟩ : ByteArray).size = l.length := by simp [ByteArray.size]
          refine ⟨.string ⟨((l.drop k).take (n - k)).toArray⟩, rfl, fun w => ?_⟩
          have hex : (⟨l.toArray⟩ : ByteArray).extract k n = ⟨((l.drop k).take (n - k)).toArray⟩ := by
            apply ByteArray.ext
            simp [ByteArray.data_extract]
          simp [Instr.sliceAt, Instr.slice, run_underlying hu, hsz, hb, hex]
        · cases h
      · cases h
    · cases h
  · rename_i e hu
    split at h
    · cases h
    · rename_i z hs
      split at h
      · rename_i a n esz
        split at h
        · rename_i hh kk hn hk
          split at h
          · rename_i hc
            simp only [Bool.and_eq_true, ble_iff] at hc
            obtain ⟨hz, h1, h2⟩ := hc
            have hz := Nat.eq_of_beq_eq_true hz
            subst hz
            simp at h; subst h
            obtain ⟨blk, m, cap, hm, rfl, hle, hcap⟩ := hx
            have hb := bounds_run (P := P) (sl := true) (len := n) (cap := cap) (bnd_sound hn hhi) (bnd_sound hk hlo) h1 (by omega)
            refine ⟨_, mkSlice_vr hm hcap h1 (by omega) rfl, fun w => ?_⟩
            simp only [Instr.sliceAt, Instr.slice, Sem.run_bind, run_underlying hu, Result.andThen_ok, hb, size_run hs, Sem.run_pure]
            congr 2
          · cases h
        · cases h
      · split at h
        · rename_i hn hk
          simp at h; subst h
          have hx : x' = _ := hx
          subst hx
          have hb := bounds_run (P := P) (sl := true) (len := 0) (cap := 0) (bnd_sound hn hhi) (bnd_sound hk hlo) (Nat.le_refl _) (Nat.le_refl _)
          exact ⟨_, rfl, fun w => by simp [Instr.sliceAt, Instr.slice, run_underlying hu, hb, size_run hs]⟩
        · cases h
      · split at h
        · rename_i hn hk
          simp at h; subst h
          obtain ⟨a, cap, rfl⟩ := hx
          have hb := bounds_run (P := P) (sl := true) (len := 0) (cap := cap) (bnd_sound hn hhi) (bnd_sound hk hlo) (Nat.le_refl _) (Nat.zero_le _)
          refine ⟨.slice (some (if cap = 0 then a else a.add (0 * z))) 0 (cap - 0), ⟨_, _, rfl⟩, fun w => ?_⟩
          simp only [Instr.sliceAt, Instr.slice, Sem.run_bind, run_underlying hu, Result.andThen_ok, hb, size_run hs, Sem.run_pure]
          congr 2
          split <;> rfl
        · cases h
      · cases h
  · cases h
end
end Go.AM
