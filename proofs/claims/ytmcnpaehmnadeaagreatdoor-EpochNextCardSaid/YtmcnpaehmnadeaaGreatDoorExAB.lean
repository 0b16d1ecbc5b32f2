/-
  EpochOf: what can be read of a draft and of values.
-/
import Derived.Test.YtmcnpaehmnadeaaGreatDoorEwMO
import Derived.ProofKit
import Derived.LaidMore
import Derived.OpenShut
import Derived.Stop.Joined
import Derived.Lib.SmallJoins
import Derived.Deep.Slices
import Derived.Deep.Fields
import Derived.ChangeSame
import Derived.Carry
import Derived.Stop.LaidErr
import Derived.Lib.LaidTab
import Derived.MakeChecks
import Derived.Test.YtmcnpaehmnadeaaGreatDoorRows
set_option maxHeartbeats 6400000
set_option maxRecDepth 1000000
namespace Go.Proofs.YtmcnpaehmnadeaaGreatDoor
open Go Go.ChangeShapes Go.WideShapes Go.ChangeAt Go.RowKit Go.Deep Go.Joins
section
variable {H : Type} (enc : TypeId × Value → H) (W : World)
def Rd (t : TypeId) (cs : List Value) : Prop := ∃ fuel x, DataW.trod enc Tryz.prog W 0 (fun _ => true) true fuel t cs = some x
variable {enc W}
theorem rd_int {t : TypeId} {k : IntKind} (ht : Tryz.prog.underlying t = some (.int k)) {cs : List Value} (h : Rd enc W t cs) : ∃ n, cs = [.int k n] ∧ (Lit.int k n).wf = true := by
 obtain ⟨fuel, x, h⟩ := h
 obtain ⟨n, e, -, hw⟩ := DataW.trod_int ht h
 exact ⟨n, e, hw⟩
theorem rd_u8 {cs : List Value} (h : Rd enc W 5 cs) : ∃ n : Nat, n < 256 ∧ cs = [.int .u8 n] := by
 obtain ⟨n, e, hw⟩ := rd_int Tryz.underlying5 h
 have h1 : 0 ≤ n ∧ n ≤ 255 := by
  simp only [Lit.wf, IntKind.min, IntKind.max, IntKind.signed, IntKind.bits] at hw
  simpa using hw
 exact ⟨n.toNat, by omega, by rw [e, Int.toNat_of_nonneg h1.1]⟩
theorem rd_string {cs : List Value} (h : Rd enc W 9 cs) : ∃ s : ByteArray, cs = [.string s] := by
 obtain ⟨fuel, x, h⟩ := h
 obtain ⟨s, e, -, -⟩ := DataW.trod_string Tryz.underlying9 h
 exact ⟨s, e⟩
theorem rd_struct {t : TypeId} {fs : Array Field} (ht : Tryz.prog.underlying t = some (.struct fs)) {cs : List Value} (h : Rd enc W t cs) :
  cs.length = Tryz.prog.cellsOf t ∧ ∀ (i : Nat) (f : Field), fs[i]? = some f → Rd enc W f.type ((cs.drop f.offset).take (Tryz.prog.cellsOf f.type)) := by
 obtain ⟨fuel, x, h⟩ := h
 obtain ⟨xs, n, -, -, hl, hx, hf⟩ := DataW.trod_struct ht h
 refine ⟨hl, fun i f hi => ⟨n, xs[i]'(by rw [hx]; exact (Array.getElem?_eq_some_iff.1 hi).1), ?_⟩⟩
 rw [hf i f hi, List.getElem?_eq_getElem]
theorem rd_at {fs : Array Field} {cs : List Value} (hf : ∀ (i : Nat) (f : Field), fs[i]? = some f → Rd enc W f.type ((cs.drop f.offset).take (Tryz.prog.cellsOf f.type))) (i : Nat) {f : Field} (hi : fs[i]? = some f) (t : TypeId) (off sz : Nat) (h1 : f.type = t) (h2 : f.offset = off) (h3 : Tryz.prog.cellsOf t = sz) : Rd enc W t ((cs.drop off).take sz) := by
 have h := hf i f hi
 rw [h1, h2, h3] at h
 exact h
theorem c28 : Tryz.prog.cellsOf 28 = 1 := by kernel_rfl
theorem c76 : Tryz.prog.cellsOf 76 = 6 := by kernel_rfl
theorem c5 : Tryz.prog.cellsOf 5 = 1 := by kernel_rfl
theorem c74 : Tryz.prog.cellsOf 74 = 1 := by kernel_rfl
theorem c47 : Tryz.prog.cellsOf 47 = 1 := by kernel_rfl
theorem rd_slice {t e : TypeId} (ht : Tryz.prog.underlying t = some (.slice e)) {sz : Nat} (hs : Tryz.prog.cellsOf e = sz) (hsz : 0 < sz) {cs : List Value} (h : Rd enc W t cs) :
  ∃ (p : Option Addr) (n cap : Nat), cs = [.slice p n cap] ∧ n ≤ cap ∧ cap ≤ 9223372036854775807 ∧
   (n = 0 ∨ ∃ b off, p = some ⟨b, off, none⟩ ∧ b < W.heap.size ∧ ∀ i, i < n → ∃ cs', cs'.length = sz ∧ (∀ j, j < sz → W.cell? ⟨b, off + i * sz + j, none⟩ = cs'[j]?) ∧ Rd enc W e cs') := by
 obtain ⟨fuel, x, h⟩ := h
 rcases open_slice ht h with ⟨rfl, -⟩ | ⟨a, len, cap, m, n, D, Pl, rfl, -, hlc, hcap, hm, -, hi⟩
 ·exact ⟨none, 0, 0, rfl, Nat.le_refl _, by omega, .inl rfl⟩
 ·have hml : m = cap := by rw [hm]; rfl
  refine ⟨some a, len, cap, rfl, hlc, by unfold maxLen at hcap; omega, ?_⟩
  by_cases hl : len = 0
  ·exact .inl hl
  ·right
   obtain ⟨b, off, spot⟩ := a
   rw [hs] at hi
   have hcell : ∀ i, i < len → ∃ cs', cs'.length = sz ∧ (∀ j, j < sz → W.cell? ((Addr.add ⟨b, off, spot⟩ (i * sz)).add j) = cs'[j]?) ∧ Rd enc W e cs' := fun i hil => by
    obtain ⟨cs', hc, ht'⟩ := hi i (by omega)
    obtain ⟨-, hcl, hat⟩ := World.cells?_some hc
    exact ⟨cs', hcl, hat, n, _, ht'⟩
   obtain ⟨c0, hl0, h0, -⟩ := hcell 0 (by omega)
   have h00 := h0 0 hsz
   simp only [Nat.zero_mul, Addr.add, if_pos] at h00
   rw [List.getElem?_eq_getElem (by omega)] at h00
   have hb : b < W.heap.size := by
    by_cases hh : b < W.heap.size
    ·exact hh
    ·simp [World.cell?, hh] at h00
   have hsp : spot = none := by
    unfold World.cell? at h00
    split at h00
    ·cases spot with
     | none => rfl
     | some s => simp at h00
    ·cases h00
   subst hsp
   refine ⟨b, off, rfl, hb, fun i hil => ?_⟩
   obtain ⟨cs', h1, h2, h3⟩ := hcell i hil
   refine ⟨cs', h1, fun j hj => ?_, h3⟩
   have := h2 j hj
   rwa [Addr.add_lit, Addr.add_lit] at this
theorem cells_of {b o sz : Nat} {cs : List Value} (h : ∀ j, j < sz → W.cell? ⟨b, o + j, none⟩ = cs[j]?) {j : Nat} (hj : j < sz) {v : Value} (hv : cs[j]? = some v) : W.cell? ⟨b, o + j, none⟩ = some v := (h j hj).trans hv
theorem rd_sets {cs : List Value} (h : Rd enc W 74 cs) : ∃ (p : Option Addr) (n cap : Nat), cs = [.slice p n cap] ∧ n ≤ 9223372036854775807 ∧ SetP W p n := by
 obtain ⟨p, n, cap, rfl, h1, h2, h3⟩ := rd_slice Tryz.underlying74 (sz := 1) (by kernel_rfl) (by omega) h
 refine ⟨p, n, cap, rfl, by omega, ?_⟩
 rcases h3 with h3 | ⟨b, off, rfl, hb, h4⟩
 ·exact .inl h3
 ·refine .inr ⟨b, off, rfl, hb, fun i hi => ?_⟩
  obtain ⟨cs', hl, hc, hr⟩ := h4 i hi
  obtain ⟨x, e, -⟩ := rd_int Tryz.underlying27 hr
  subst e
  exact ⟨x, by have := cells_of hc (j := 0) (by omega) rfl; rwa [Nat.mul_one] at this⟩
theorem rd_faults {cs : List Value} (h : Rd enc W 47 cs) : ∃ (p : Option Addr) (n cap : Nat), cs = [.slice p n cap] ∧ FltP W p n := by
 obtain ⟨p, n, cap, rfl, h1, h2, h3⟩ := rd_slice Tryz.underlying47 (sz := 2) (by kernel_rfl) (by omega) h
 refine ⟨p, n, cap, rfl, ?_⟩
 rcases h3 with h3 | ⟨b, off, rfl, hb, h4⟩
 ·exact .inl h3
 ·refine .inr ⟨b, off, rfl, hb, fun i hi => ?_⟩
  obtain ⟨cs', hl, hc, hr⟩ := h4 i hi
  obtain ⟨-, hf⟩ := rd_struct Tryz.underlying69 hr
  have f0 := rd_at hf 0 rfl 28 0 1 rfl rfl c28
  have f1 := rd_at hf 1 rfl 28 1 1 rfl rfl c28
  obtain ⟨x, e0, -⟩ := rd_int Tryz.underlying28 f0
  obtain ⟨y, e1, -⟩ := rd_int Tryz.underlying28 f1
  match cs', hl with
  | [c0, c1], _ =>
   simp at e0 e1
   subst e0
   subst e1
   exact ⟨x, y, cells_of hc (j := 0) (by omega) rfl, cells_of hc (j := 1) (by omega) rfl⟩
theorem rd_draft {b o : Nat} {cs : List Value} (hl : cs.length = 7) (hc : ∀ j, j < 7 → W.cell? ⟨b, o + j, none⟩ = cs[j]?) (h : Rd enc W 78 cs) : ∃ (a0 : Int) (a1 : Nat) (a2 : Int) (pr pw pf : Option Addr) (nr cr nw cw nf cf mv : Nat), DrfA W b o a0 a1 a2 pr pw pf nr cr nw cw nf cf mv := by
 obtain ⟨-, hf⟩ := rd_struct Tryz.underlying78 h
 have g0 := rd_at hf 0 rfl 76 0 6 rfl rfl c76
 have g1 := rd_at hf 1 rfl 5 6 1 rfl rfl c5
 obtain ⟨-, hk⟩ := rd_struct Tryz.underlying76 g0
 have k0 := rd_at hk 0 rfl 5 0 1 rfl rfl c5
 have k1 := rd_at hk 1 rfl 5 1 1 rfl rfl c5
 have k2 := rd_at hk 2 rfl 5 2 1 rfl rfl c5
 have k3 := rd_at hk 3 rfl 74 3 1 rfl rfl c74
 have k4 := rd_at hk 4 rfl 74 4 1 rfl rfl c74
 have k5 := rd_at hk 5 rfl 47 5 1 rfl rfl c47
 obtain ⟨a0, -, e0⟩ := rd_u8 k0
 obtain ⟨a1, h1, e1⟩ := rd_u8 k1
 obtain ⟨a2, -, e2⟩ := rd_u8 k2
 obtain ⟨pr, nr, cr, e3, h3, s1⟩ := rd_sets k3
 obtain ⟨pw, nw, cw, e4, h4, s2⟩ := rd_sets k4
 obtain ⟨pf, nf, cf, e5, s3⟩ := rd_faults k5
 obtain ⟨mv, h2, e6⟩ := rd_u8 g1
 match cs, hl with
 | [c0, c1, c2, c3, c4, c5, c6], _ =>
  simp at e0 e1 e2 e3 e4 e5 e6
  subst e0 e1 e2 e3 e4 e5 e6
  exact ⟨a0, a1, a2, pr, pw, pf, nr, cr, nw, cw, nf, cf, mv, ⟨cells_of hc (j := 0) (by omega) rfl, cells_of hc (j := 1) (by omega) rfl, cells_of hc (j := 2) (by omega) rfl, cells_of hc (j := 3) (by omega) rfl, cells_of hc (j := 4) (by omega) rfl, cells_of hc (j := 5) (by omega) rfl, cells_of hc (j := 6) (by omega) rfl⟩, h1, h2, h3, h4, s1, s2, s3⟩
theorem rd_drafts {cs : List Value} (h : Rd enc W 22 cs) : ∃ (p : Option Addr) (n cap : Nat), cs = [.slice p n cap] ∧ DrfP W p n := by
 obtain ⟨p, n, cap, rfl, h1, h2, h3⟩ := rd_slice Tryz.underlying22 (sz := 7) (by kernel_rfl) (by omega) h
 refine ⟨p, n, cap, rfl, ?_⟩
 rcases h3 with h3 | ⟨b, off, rfl, hb, h4⟩
 ·exact .inl h3
 ·refine .inr ⟨b, off, rfl, hb, fun i hi => ?_⟩
  obtain ⟨cs', hl, hc, hr⟩ := h4 i hi
  exact rd_draft hl hc hr
end
end Go.Proofs.YtmcnpaehmnadeaaGreatDoor
/-
  EpochOf: what is laid gives the library's variables.
-/
namespace Go.Proofs.YtmcnpaehmnadeaaGreatDoor
open Go Go.Stop Go.RowKit
theorem gSyntax : Tryz.prog.globalNamed "strconv.ErrSyntax" = some 0 := by kernel_rfl
theorem gRange : Tryz.prog.globalNamed "strconv.ErrRange" = some 1 := by kernel_rfl
theorem gPow : Tryz.prog.globalNamed "internal/strconv.uint64pow10" = some 2 := by kernel_rfl
theorem gSyntaxT : (Tryz.prog.globals[0]?).map (·.type) = some 87 := by kernel_rfl
theorem gRangeT : (Tryz.prog.globals[1]?).map (·.type) = some 87 := by kernel_rfl
theorem gPowT : (Tryz.prog.globals[2]?).map (·.type) = some 197 := by kernel_rfl
theorem c178 : Tryz.prog.cellsOf 178 = 1 := by kernel_rfl
theorem c9 : Tryz.prog.cellsOf 9 = 1 := by kernel_rfl
theorem c124 : Tryz.prog.cellsOf 124 = 1 := by kernel_rfl
theorem c197 : Tryz.prog.cellsOf 197 = 20 := by kernel_rfl
theorem star0 : "*" ++ "errors.errorString" = "*errors.errorString" := by decide
theorem row176 (u : TypeId) (h : Tryz.prog.typeName? 3 u = some "*errors.errorString") : u = 176 :=
 typeName_ptr_named (nm := "errors.errorString") (by rw [star0]; kernel_rfl) (by kernel_rfl) (by decide) u (by rw [star0]; exact h)
theorem powTab : (Rows.laid_internal_strconv_uint64pow10 : DataW Unit) = Lib.tabData .u64 Lib.pow10Tab := by
 unfold Rows.laid_internal_strconv_uint64pow10 Lib.tabData Lib.pow10Tab
 simp [List.range, List.range.loop]
theorem gl_of_laid {W : World} (h : laidMetH Tryz.prog Rows.epochOfRow.laid W) : GL W := by
 rw [MakeChecks.laidMetH_plain _ _ _ (by kernel_rfl)] at h
 have h3 : laidMet Tryz.prog (("internal/strconv.uint64pow10", Rows.laid_internal_strconv_uint64pow10) :: ("strconv.ErrRange", Rows.laid_strconv_ErrRange) :: ("strconv.ErrSyntax", Rows.laid_strconv_ErrSyntax) :: []) W := (laidMet.tail (laidMet.tail h))
 refine ⟨?_, ?_, ?_⟩
 ·obtain ⟨a, s, hv, _⟩ := laid_sentinel h3.tail.tail gSyntax gSyntaxT Tryz.underlying87 row176 Tryz.underlying176 Tryz.underlying178 rfl rfl Tryz.underlying9 c178 c9
  exact ⟨_, _, hv⟩
 ·obtain ⟨a, s, hv, _⟩ := laid_sentinel h3.tail gRange gRangeT Tryz.underlying87 row176 Tryz.underlying176 Tryz.underlying178 rfl rfl Tryz.underlying9 c178 c9
  exact ⟨_, _, hv⟩
 ·rw [powTab] at h3
  exact Lib.tabIs_of_head gPow gPowT Tryz.underlying197 Tryz.underlying124 c124 c197 h3
end Go.Proofs.YtmcnpaehmnadeaaGreatDoor
