/-
  TopTransferred: what is laid, and the shape of the variables, give the library's variables.
-/
import Derived.Test.YtnaglmigkbbljaaGreatDoorXaA
import Derived.Stop.LaidErr
import Derived.Lib.LaidTab
import Derived.MakeChecks
import Derived.Handed
import Derived.Test.YtnaglmigkbbljaaGreatDoorRows
import Derived.Lay
import Derived.SevenTiedAt
import Derived.Test.YtnaglmigkbbljaaGreatDoorShC
import Derived.StillTailTactics
set_option maxHeartbeats 6400000
set_option maxRecDepth 1000000
set_option linter.unusedVariables false
set_option linter.unusedSimpArgs false
namespace Go.Proofs.YtnaglmigkbbljaaGreatDoor
open Go Go.Stop Go.RowKit
theorem gSyntax : Tryz.prog.globalNamed "strconv.ErrSyntax" = some 2 := by kernel_rfl
theorem gRange : Tryz.prog.globalNamed "strconv.ErrRange" = some 3 := by kernel_rfl
theorem gPow : Tryz.prog.globalNamed "internal/strconv.uint64pow10" = some 1 := by kernel_rfl
theorem gSyntaxT : (Tryz.prog.globals[2]?).map (·.type) = some 179 := by kernel_rfl
theorem gRangeT : (Tryz.prog.globals[3]?).map (·.type) = some 179 := by kernel_rfl
theorem gPowT : (Tryz.prog.globals[1]?).map (·.type) = some 313 := by kernel_rfl
theorem c361 : Tryz.prog.cellsOf 361 = 1 := by kernel_rfl
theorem c9 : Tryz.prog.cellsOf 9 = 1 := by kernel_rfl
theorem cU64 : Tryz.prog.cellsOf 177 = 1 := by kernel_rfl
theorem c313 : Tryz.prog.cellsOf 313 = 20 := by kernel_rfl
theorem star0 : "*" ++ "errors.errorString" = "*errors.errorString" := by decide
theorem row359 (u : TypeId) (h : Tryz.prog.typeName? 3 u = some "*errors.errorString") : u = 359 :=
 typeName_ptr_named (nm := "errors.errorString") (by rw [star0]; kernel_rfl) (by kernel_rfl) (by decide) u (by rw [star0]; exact h)
theorem powTab : (Rows.laid_internal_strconv_uint64pow10 : DataW Unit) = Lib.tabData .u64 Lib.pow10Tab := by
 unfold Rows.laid_internal_strconv_uint64pow10 Lib.tabData Lib.pow10Tab
 simp [List.range, List.range.loop]
/-- a variable of type int holds an int -/
theorem ml_of_shaped {W : World} (h : W.ShapedOpen Tryz.prog) : ∃ m, W.cell? ⟨0, 0, none⟩ = some (.int .i64 m) := by
 obtain ⟨cs, h1, h2, h3⟩ := h.1 0 #[.int .i64 0] 3 (of_decide_eq_true (by kernel_rfl)) (by kernel_rfl)
 obtain ⟨ts, h5, _, h6⟩ := h3 (by kernel_rfl)
 have h7 : Tryz.prog.cellTypes Tryz.prog.depth 3 = some [3] := by kernel_rfl
 rw [h7] at h5
 injection h5 with h5
 subst h5
 have h9 : 0 < cs.size := by rw [h2]; decide
 obtain ⟨v, hv⟩ : ∃ v, cs[0]? = some v := ⟨_, Array.getElem?_eq_getElem h9⟩
 obtain ⟨u, h10, h11⟩ := h6 0 v hv
 have h12 : u = 3 := by simpa using h10.symm
 subst h12
 unfold Cell.ok at h11
 rw [Tryz.underlying3] at h11
 cases v with
 | int k n =>
  obtain ⟨rfl, _⟩ := h11
  exact ⟨n, cellOf h1 hv⟩
 | _ => exact h11.elim
theorem gl_of_laid {W : World} (hs : W.ShapedOpen Tryz.prog) (h : laidMetH Tryz.prog Rows.topTransferredRow.laid W) : GL W := by
 rw [MakeChecks.laidMetH_plain _ _ _ (by kernel_rfl)] at h
 have h3 : laidMet Tryz.prog (("internal/strconv.uint64pow10", Rows.laid_internal_strconv_uint64pow10) :: ("unicode/utf8.acceptRanges", Rows.laid_unicode_utf8_acceptRanges) :: ("strconv.ErrRange", Rows.laid_strconv_ErrRange) :: ("strconv.ErrSyntax", Rows.laid_strconv_ErrSyntax) :: ("unicode/utf8.first", Rows.laid_unicode_utf8_first) :: []) W := (laidMet.tail (laidMet.tail h))
 refine ⟨?_, ?_, ?_, ml_of_shaped hs⟩
 ·obtain ⟨a, s, hv, _⟩ := laid_sentinel h3.tail.tail.tail gSyntax gSyntaxT Tryz.underlying179 row359 Tryz.underlying359 Tryz.underlying361 rfl rfl Tryz.underlying9 c361 c9
  exact ⟨_, _, hv⟩
 ·obtain ⟨a, s, hv, _⟩ := laid_sentinel h3.tail.tail gRange gRangeT Tryz.underlying179 row359 Tryz.underlying359 Tryz.underlying361 rfl rfl Tryz.underlying9 c361 c9
  exact ⟨_, _, hv⟩
 ·rw [powTab] at h3
  exact Lib.tabIs_of_head gPow gPowT Tryz.underlying313 Tryz.underlying177 cU64 c313 h3
end Go.Proofs.YtnaglmigkbbljaaGreatDoor
/-
  TopTransferred: a start that meets what the row asks.
-/
namespace Go.Proofs.YtnaglmigkbbljaaGreatDoor
open Go Go.ChangeShapes Go.WideShapes Go.ChangeAt Go.RowKit Go.Deep Go.Joins
theorem own0 : ownKnob Tryz.prog.godebug = none := by kernel_rfl
theorem laidOut : laidOutB Tryz.prog = true := by kernel_rfl
theorem witness (os : Os) (H : Type) (enc : TypeId × Value → H) : ∃ (w : World) (tape : Tape) (i : Input), w.os = os ∧ (w.forCall tape i).Shaped Tryz.prog ∧ i.vars = [] ∧ Input.okWide Tryz.prog (w.forCall tape i) .any w.heap.size 3 i ∧
  ((Rows.topTransferredSpec.pre enc Tryz.prog Tryz.f3 [] false (w.forCall tape i).memory i.args ∧ laidMetH Tryz.prog Rows.topTransferredRow.laid (w.forCall tape i).memory) ∧ sizedMet enc Tryz.prog Tryz.f3 (OpenSpec.ofChange Rows.topTransferredSpec) false (w.forCall tape i).memory i.args) ∧ ({} : Assume).holds Tryz.prog (lone (Frame.enter Tryz.prog 3 i.args .normal) [] (w.forCall tape i)) :=
 ChangeSpec.witness_shaped (enc := enc) (C := Tryz.checked) (os := os) (X := fun w _ => laidMetH Tryz.prog Rows.topTransferredRow.laid w) false (World.laidAll Tryz.prog os Rows.topTransferredRow.laid) #[.slice none 0 0, .slice none 0 0, .int .u8 0] 8 (World.laidAll_os _ _ _)
  (World.shaped_of_ZipB (by kernel_rfl) (by kernel_rfl)) (by kernel_rfl) (by kernel_rfl) (by kernel_rfl)
  (by rw [MakeChecks.laidMetH_plain _ _ _ (by kernel_rfl)]; exact laidMet_laidAll _ (by kernel_rfl) (by kernel_rfl))
end Go.Proofs.YtnaglmigkbbljaaGreatDoor
/-
  TopTransferred: the law's code in three pieces; words.
-/
namespace Go.Proofs.YtnaglmigkbbljaaGreatDoor
open Go Go.RowKit
theorem fewB_size {l : List Req} (h : fewB l = true) : ∀ x ∈ l, x.op.size ≤ 300 := fun x hx => by
 have := List.all_eq_true.mp h x hx
 simpa using this
theorem mk_nil {B : Nat} {W : World} (h : Blk W B 29 [.slice none 0 0, .slice none 0 0]) : MK B (.slice none 0 0) (.slice none 0 0) [] [] W :=
 ⟨h, ⟨none, 0, rfl, Nat.le_refl _, .inl rfl, .inl rfl⟩, ⟨none, 0, rfl, Nat.le_refl _, .inl rfl, .inl rfl⟩, ⟨List.Pairwise.nil, fun x hx => by cases hx⟩, ⟨List.Pairwise.nil, fun x hx => by cases hx⟩⟩
theorem strL_new (W : World) (t : ByteArray) : StrL (W.alloc (.cells #[.string t] 9)) (some ⟨W.heap.size, 0, none⟩) [t] := (show Blk (W.alloc (.cells #[.string t] 9)) W.heap.size 9 (strV [t]) from heap_alloc_new W _).cl
def xS : ByteArray := ⟨#[120]⟩
theorem forge_ne (s : ByteArray) : s ≠ s ++ xS := fun e => by
 have h := congrArg ByteArray.size e
 rw [ByteArray.size_append] at h
 have : xS.size = 1 := rfl
 omega
theorem span_eq {N i x : Nat} (hi : i < N) (hN : N ≤ 10) : min (N : Int) (wrap64 (wrap64 ((i : Int) + 1) + (x : Int) / 16 % 4)) = ((min N (i + 1 + x / 16 % 4) : Nat) : Int) := by
 have h1 : wrap64 ((i : Int) + 1) = ((i + 1 : Nat) : Int) := by unfold wrap64; omega
 have h2 : (x : Int) / 16 % 4 = ((x / 16 % 4 : Nat) : Int) := rfl
 rw [h1, h2]
 have h4 : x / 16 % 4 < 4 := Nat.mod_lt _ (by omega)
 generalize x / 16 % 4 = y at h4
 have h3 : wrap64 (((i + 1 : Nat) : Int) + (y : Int)) = ((i + 1 + y : Nat) : Int) := by unfold wrap64; omega
 rw [h3]
 omega
def dropSeq : Nat → Code → Code
 | 0, c => c
 | n + 1, .seq _ b => dropSeq n b
 | _ + 1, c => c
noncomputable def code26 : Code := dropSeq 9 (Tryz.f3.body.getD .skip)
noncomputable def code35 : Code := dropSeq 13 (Tryz.f3.body.getD .skip)
structure LX (w : World) (B D N qb qo cq1 : Nat) (root : ByteArray) (C : List ByteArray) (L : List Par) (S : List Ses) (pv sv : Value) (w8 : World) : Prop where
 g : GL w
 b8 : Below w.heap.size w w8
 m8 : MK B pv sv L S w8
 s8 : StrL w8 (some ⟨qb, qo, none⟩) C
 sz1 : SzL 100000 C
 ne : N = C.length
 re : root = rootH C
 de : D = w8.heap.size
 ce : C = chunksL S L
 n1 : 1 ≤ N
 n10 : N ≤ 10
 cq : N ≤ cq1
 l20 : L.length ≤ 20
theorem fs_keep {w W W' : World} {D qb k : Nat} {v0 v1 v2 v3 v4 : Value} (h : W.cell? ⟨D, 0, none⟩ = some v0 ∧ W.cell? ⟨D, 1, none⟩ = some v1 ∧ W.cell? ⟨D, 2, none⟩ = some v2 ∧ W.cell? ⟨D, 3, none⟩ = some v3 ∧ W.cell? ⟨qb, k, none⟩ = some v4 ∧ Below w.heap.size w W) (hb : Below W.heap.size W W') :
  W'.cell? ⟨D, 0, none⟩ = some v0 ∧ W'.cell? ⟨D, 1, none⟩ = some v1 ∧ W'.cell? ⟨D, 2, none⟩ = some v2 ∧ W'.cell? ⟨D, 3, none⟩ = some v3 ∧ W'.cell? ⟨qb, k, none⟩ = some v4 ∧ Below w.heap.size w W' := by
 obtain ⟨h0, h1, h2, h3, h4, h5⟩ := h
 exact ⟨(hb.cell (p := ⟨D, 0, none⟩) (World.block_lt_of_cell? _ _ h0)).trans h0, (hb.cell (p := ⟨D, 1, none⟩) (World.block_lt_of_cell? _ _ h1)).trans h1, (hb.cell (p := ⟨D, 2, none⟩) (World.block_lt_of_cell? _ _ h2)).trans h2, (hb.cell (p := ⟨D, 3, none⟩) (World.block_lt_of_cell? _ _ h3)).trans h3, (hb.cell (p := ⟨qb, k, none⟩) (World.block_lt_of_cell? _ _ h4)).trans h4, h5.trans (hb.mono h5.size)⟩
theorem fs_store {w W : World} {D qb k z : Nat} {v0 v1 v2 v3 v4 a b c d : Value} (h : W.cell? ⟨D, 0, none⟩ = some v0 ∧ W.cell? ⟨D, 1, none⟩ = some v1 ∧ W.cell? ⟨D, 2, none⟩ = some v2 ∧ W.cell? ⟨D, 3, none⟩ = some v3 ∧ W.cell? ⟨qb, k, none⟩ = some v4 ∧ Below w.heap.size w W) (hD : D < w.heap.size) (hq : qb < w.heap.size) (hz : w.heap.size ≤ z) :
  (st4 W z a b c d).cell? ⟨D, 0, none⟩ = some v0 ∧ (st4 W z a b c d).cell? ⟨D, 1, none⟩ = some v1 ∧ (st4 W z a b c d).cell? ⟨D, 2, none⟩ = some v2 ∧ (st4 W z a b c d).cell? ⟨D, 3, none⟩ = some v3 ∧ (st4 W z a b c d).cell? ⟨qb, k, none⟩ = some v4 ∧ Below w.heap.size w (st4 W z a b c d) := by
 obtain ⟨h0, h1, h2, h3, h4, h5⟩ := h
 have hb := below_st4 (D := z) (x := a) (y := b) (z := c) (t := d) h5 hz
 have key : ∀ (x y : Nat) (v : Value), x < w.heap.size → W.cell? ⟨x, y, none⟩ = some v → (st4 W z a b c d).cell? ⟨x, y, none⟩ = some v := fun x y v hx hv => by
  rw [hb.cell (p := ⟨x, y, none⟩) hx]
  rw [h5.cell (p := ⟨x, y, none⟩) hx] at hv
  exact hv
 exact ⟨key _ _ _ hD h0, key _ _ _ hD h1, key _ _ _ hD h2, key _ _ _ hD h3, key _ _ _ hq h4, hb⟩
theorem put_some {R : Bool} {root : ByteArray} {n : Nat} {cs : List ByteArray} {hv : List Bool} {w w' : World} {e : Ending} (h : PutRet R root n cs hv w e w') :
  ∃ (a0 : ByteArray) (a1 : Int) (p2 : Option Addr) (n2 c2 : Nat) (p3 : Option Addr) (n3 c3 : Nat) (c : Int), e = .returned (.tuple #[.agg #[.string a0, .int .i64 a1, .slice p2 n2 c2, .slice p3 n3 c3], .int .i64 c]) ∧ (c = 16 ∨ R = true) ∧ Below w.heap.size w w' := by
 obtain ⟨v, c, rfl, hb, hno, hyes⟩ := h
 cases R with
 | false =>
  obtain ⟨rfl, rfl⟩ := hno rfl
  exact ⟨_, _, _, _, _, _, _, _, 16, rfl, .inl rfl, hb⟩
 | true =>
  obtain ⟨rfl, g6, cc, g7, hc, _, _, rfl, _⟩ := hyes rfl
  exact ⟨_, _, _, _, _, _, _, _, 0, rfl, .inr rfl, hb⟩
end Go.Proofs.YtnaglmigkbbljaaGreatDoor
