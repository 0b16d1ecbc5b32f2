/-
  TopTransferred: what can be read of requests and of bytes.
-/
import Derived.Test.YtnaglmigkbbljaaGreatDoorShC
import Derived.ProofKit
import Derived.LaidMore
import Derived.OpenShut
import Derived.Stop.Joined
import Derived.Lib.SmallJoins
import Derived.Deep.Slices
import Derived.Deep.Fields
import Derived.ChangeSame
import Derived.Carry
set_option maxHeartbeats 6400000
set_option maxRecDepth 1000000
set_option linter.unusedVariables false
set_option linter.unusedSimpArgs false
namespace Go.Proofs.YtnaglmigkbbljaaGreatDoor
open Go Go.ChangeShapes Go.WideShapes Go.ChangeAt Go.RowKit Go.Deep Go.Joins
section
variable {H : Type} (enc : TypeId × Value → H) (W : World)
def Rd (t : TypeId) (cs : List Value) : Prop := ∃ fuel x, DataW.trod enc Tryz.prog W 0 (fun _ => true) true fuel t cs = some x
variable {enc W}
theorem rd_int {t : TypeId} {k : IntKind} (ht : Tryz.prog.underlying t = some (.int k)) {cs : List Value} (h : Rd enc W t cs) : ∃ n, cs = [.int k n] ∧ (Lit.int k n).wf = true := by
 obtain ⟨fuel, x, h⟩ := h
 obtain ⟨n, e, -, hw⟩ := DataW.trod_int ht h
 exact ⟨n, e, hw⟩
theorem rd_u8 {cs : List Value} (h : Rd enc W 5 cs) : ∃ n : Nat, n < 256 ∧ cs = [.int .u8 n] := by
 obtain ⟨n, e, hw⟩ := rd_int Tryz.underlying5 h
 have h1 : 0 ≤ n ∧ n ≤ 255 := by
  simp only [Lit.wf, IntKind.min, IntKind.max, IntKind.signed, IntKind.bits] at hw
  simpa using hw
 exact ⟨n.toNat, by omega, by rw [e, Int.toNat_of_nonneg h1.1]⟩
theorem rd_string {cs : List Value} (h : Rd enc W 9 cs) : ∃ s : ByteArray, cs = [.string s] ∧ s.size ≤ maxLen := by
 obtain ⟨fuel, x, h⟩ := h
 obtain ⟨s, e, -, hs⟩ := DataW.trod_string Tryz.underlying9 h
 exact ⟨s, e, hs⟩
theorem rd_struct {t : TypeId} {fs : Array Field} (ht : Tryz.prog.underlying t = some (.struct fs)) {cs : List Value} (h : Rd enc W t cs) :
  cs.length = Tryz.prog.cellsOf t ∧ ∀ (i : Nat) (f : Field), fs[i]? = some f → Rd enc W f.type ((cs.drop f.offset).take (Tryz.prog.cellsOf f.type)) := by
 obtain ⟨fuel, x, h⟩ := h
 obtain ⟨xs, n, -, -, hl, hx, hf⟩ := DataW.trod_struct ht h
 refine ⟨hl, fun i f hi => ⟨n, xs[i]'(by rw [hx]; exact (Array.getElem?_eq_some_iff.1 hi).1), ?_⟩⟩
 rw [hf i f hi, List.getElem?_eq_getElem]
theorem rd_at {fs : Array Field} {cs : List Value} (hf : ∀ (i : Nat) (f : Field), fs[i]? = some f → Rd enc W f.type ((cs.drop f.offset).take (Tryz.prog.cellsOf f.type))) (i : Nat) {f : Field} (hi : fs[i]? = some f) (t : TypeId) (off sz : Nat) (h1 : f.type = t) (h2 : f.offset = off) (h3 : Tryz.prog.cellsOf t = sz) : Rd enc W t ((cs.drop off).take sz) := by
 have h := hf i f hi
 rw [h1, h2, h3] at h
 exact h
theorem c3 : Tryz.prog.cellsOf 3 = 1 := by kernel_rfl
theorem c9' : Tryz.prog.cellsOf 9 = 1 := by kernel_rfl
theorem rd_slice {t e : TypeId} (ht : Tryz.prog.underlying t = some (.slice e)) {sz : Nat} (hs : Tryz.prog.cellsOf e = sz) (hsz : 0 < sz) {cs : List Value} (h : Rd enc W t cs) :
  ∃ (p : Option Addr) (n cap : Nat), cs = [.slice p n cap] ∧ n ≤ cap ∧ cap ≤ 9223372036854775807 ∧
   (n = 0 ∨ ∃ b off, p = some ⟨b, off, none⟩ ∧ b < W.heap.size ∧ ∀ i, i < n → ∃ cs', cs'.length = sz ∧ (∀ j, j < sz → W.cell? ⟨b, off + i * sz + j, none⟩ = cs'[j]?) ∧ Rd enc W e cs') := by
 obtain ⟨fuel, x, h⟩ := h
 rcases open_slice ht h with ⟨rfl, -⟩ | ⟨a, len, cap, m, n, D, Pl, rfl, -, hlc, hcap, hm, -, hi⟩
 ·exact ⟨none, 0, 0, rfl, Nat.le_refl _, by omega, .inl rfl⟩
 ·have hml : m = cap := by rw [hm]; rfl
  refine ⟨some a, len, cap, rfl, hlc, by unfold maxLen at hcap; omega, ?_⟩
  by_cases hl : len = 0
  ·exact .inl hl
  ·right
   obtain ⟨b, off, spot⟩ := a
   rw [hs] at hi
   have hcell : ∀ i, i < len → ∃ cs', cs'.length = sz ∧ (∀ j, j < sz → W.cell? ((Addr.add ⟨b, off, spot⟩ (i * sz)).add j) = cs'[j]?) ∧ Rd enc W e cs' := fun i hil => by
    obtain ⟨cs', hc, ht'⟩ := hi i (by omega)
    obtain ⟨-, hcl, hat⟩ := World.cells?_some hc
    exact ⟨cs', hcl, hat, n, _, ht'⟩
   obtain ⟨c0, hl0, h0, -⟩ := hcell 0 (by omega)
   have h00 := h0 0 hsz
   simp only [Nat.zero_mul, Addr.add, if_pos] at h00
   rw [List.getElem?_eq_getElem (by omega)] at h00
   have hb : b < W.heap.size := by
    by_cases hh : b < W.heap.size
    ·exact hh
    ·simp [World.cell?, hh] at h00
   have hsp : spot = none := by
    unfold World.cell? at h00
    split at h00
    ·cases spot with
     | none => rfl
     | some s => simp at h00
    ·cases h00
   subst hsp
   refine ⟨b, off, rfl, hb, fun i hil => ?_⟩
   obtain ⟨cs', h1, h2, h3⟩ := hcell i hil
   refine ⟨cs', h1, fun j hj => ?_, h3⟩
   have := h2 j hj
   rwa [Addr.add_lit, Addr.add_lit] at this
theorem rd_i64 {cs : List Value} (h : Rd enc W 3 cs) : ∃ n, cs = [.int .i64 n] := by
 obtain ⟨n, e, -⟩ := rd_int Tryz.underlying3 h
 exact ⟨n, e⟩
theorem rd_req {b o : Nat} {cs : List Value} (hl : cs.length = 3) (hc : ∀ j, j < 3 → W.cell? ⟨b, o + j, none⟩ = cs[j]?) (h : Rd enc W 32 cs) : ∃ x : Req, x.op.size ≤ maxLen ∧ ∀ j, j < 3 → W.cell? ⟨b, o + j, none⟩ = (encQ x)[j]? := by
 obtain ⟨-, hf⟩ := rd_struct Tryz.underlying32 h
 have f0 := rd_at hf 0 rfl 3 0 1 rfl rfl c3
 have f1 := rd_at hf 1 rfl 3 1 1 rfl rfl c3
 have f2 := rd_at hf 2 rfl 9 2 1 rfl rfl c9'
 obtain ⟨x, e0⟩ := rd_i64 f0
 obtain ⟨y, e1⟩ := rd_i64 f1
 obtain ⟨s, e2, hs⟩ := rd_string f2
 match cs, hl with
 | [v0, v1, v2], _ =>
  simp at e0 e1 e2
  subst e0 e1 e2
  exact ⟨⟨x, y, s⟩, hs, hc⟩
theorem rd_reqs {cs : List Value} (h : Rd enc W 22 cs) : ∃ (p : Option Addr) (n cap : Nat) (l : List Req), cs = [.slice p n cap] ∧ l.length = n ∧ FL encQ W p l ∧ ∀ x ∈ l, x.op.size ≤ 9223372036854775807 := by
 obtain ⟨p, n, cap, rfl, h1, h2, h3⟩ := rd_slice Tryz.underlying22 (sz := 3) (by kernel_rfl) (by omega) h
 rcases h3 with h3 | ⟨b, off, rfl, hb, h4⟩
 ·subst h3
  exact ⟨p, 0, cap, [], rfl, rfl, .inl rfl, fun x hx => by cases hx⟩
 ·have h5 : ∀ i, ∃ x : Req, i < n → x.op.size ≤ maxLen ∧ ∀ j, j < 3 → W.cell? ⟨b, off + i * 3 + j, none⟩ = (encQ x)[j]? := fun i => by
   by_cases hi : i < n
   ·obtain ⟨cs', hl, hc, hr⟩ := h4 i hi
    obtain ⟨x, hx, hj⟩ := rd_req hl hc hr
    exact ⟨x, fun _ => ⟨hx, hj⟩⟩
   ·exact ⟨⟨0, 0, ByteArray.empty⟩, fun h => absurd h hi⟩
  let f : Nat → Req := fun i => Classical.choose (h5 i)
  have hfs : ∀ i, i < n → (f i).op.size ≤ maxLen ∧ ∀ j, j < 3 → W.cell? ⟨b, off + i * 3 + j, none⟩ = (encQ (f i))[j]? := fun i => Classical.choose_spec (h5 i)
  refine ⟨some ⟨b, off, none⟩, n, cap, (List.range n).map f, rfl, by rw [List.length_map, List.length_range], .inr ⟨b, off, rfl, hb, fun i hi => ?_⟩, fun x hx => ?_⟩
  ·have hi2 : i < n * 3 := by rw [flat_length encQ3, List.length_map, List.length_range] at hi; exact hi
   have hq : i / 3 < n := by omega
   have hx : ((List.range n).map f)[i / 3]? = some (f (i / 3)) := by rw [List.getElem?_map, List.getElem?_range hq]; rfl
   have h6 := flat_get encQ3 hx (j := i % 3) (by omega)
   have h7 := (hfs (i / 3) hq).2 (i % 3) (by omega)
   rw [← h6, show off + i / 3 * 3 + i % 3 = off + i by omega, show i / 3 * 3 + i % 3 = i by omega] at h7
   rw [h7, List.getElem?_eq_getElem hi]
  ·obtain ⟨i, hi, rfl⟩ := List.mem_map.mp hx
   have := (hfs i (List.mem_range.mp hi)).1
   unfold maxLen at this
   omega
theorem rd_bytes {cs : List Value} (h : Rd enc W 23 cs) : ∃ (p : Option Addr) (n cap : Nat) (l : List Nat), cs = [.slice p n cap] ∧ l.length = n ∧ U8L W p l ∧ ∀ x ∈ l, x < 256 := by
 obtain ⟨p, n, cap, rfl, h1, h2, h3⟩ := rd_slice Tryz.underlying23 (sz := 1) (by kernel_rfl) (by omega) h
 rcases h3 with h3 | ⟨b, off, rfl, hb, h4⟩
 ·subst h3
  exact ⟨p, 0, cap, [], rfl, rfl, .inl rfl, fun x hx => by cases hx⟩
 ·have h5 : ∀ i, ∃ x : Nat, i < n → x < 256 ∧ W.cell? ⟨b, off + i, none⟩ = some (.int .u8 x) := fun i => by
   by_cases hi : i < n
   ·obtain ⟨cs', hl, hc, hr⟩ := h4 i hi
    obtain ⟨x, hx, e⟩ := rd_u8 hr
    subst e
    exact ⟨x, fun _ => ⟨hx, by have := hc 0 (by omega); rwa [Nat.mul_one] at this⟩⟩
   ·exact ⟨0, fun h => absurd h hi⟩
  let f : Nat → Nat := fun i => Classical.choose (h5 i)
  have hfs : ∀ i, i < n → f i < 256 ∧ W.cell? ⟨b, off + i, none⟩ = some (.int .u8 (f i)) := fun i => Classical.choose_spec (h5 i)
  refine ⟨some ⟨b, off, none⟩, n, cap, (List.range n).map f, rfl, by rw [List.length_map, List.length_range], .inr ⟨b, off, rfl, hb, fun i hi => ?_⟩, fun x hx => ?_⟩
  ·have hi2 : i < n := by simpa using hi
   rw [List.getElem_map, List.getElem_map, List.getElem_range]
   exact (hfs i hi2).2
  ·obtain ⟨i, hi, rfl⟩ := List.mem_map.mp hx
   exact (hfs i (List.mem_range.mp hi)).1
end
end Go.Proofs.YtnaglmigkbbljaaGreatDoor
