/-
  TopTransferred: a range over an iterator that keeps captured variables of its own, each round known by its number; the loop never left from within.
-/
import Derived.RangeFuncNested
import Derived.RangeFuncBound
import Derived.RangeFuncCalls
import Derived.RangeFuncLeaves
import Derived.Test.YtnaglmigkbbljaaGreatDoorSgBSgF
import Derived.Shelf.RegionOpen
import Derived.WalkKit
import Derived.OwnWalkIn
import Derived.TacticsInMore
import Derived.LoopNIn
import Derived.LoopIn
set_option maxHeartbeats 6400000
set_option maxRecDepth 1000000
set_option linter.unusedVariables false
set_option linter.unusedSimpArgs false
namespace Go.Proofs.YtnaglmigkbbljaaGreatDoor
open Go Go.RowKit
variable {F : Fence} {n : Nat} {P : Program}
def KeepX (Bs : Nat → Prop) (W W' : World) : Prop := ∀ b, Bs b → W'.heap[b]? = W.heap[b]?
theorem KeepX.refl (Bs : Nat → Prop) (W : World) : KeepX Bs W W := fun _ _ => rfl
theorem KeepX.trans {Bs : Nat → Prop} {A B C : World} (h : KeepX Bs A B) (k : KeepX Bs B C) : KeepX Bs A C := fun b hb => (k b hb).trans (h b hb)
def AbX (Bs : Nat → Prop) (J : Nat → World → Prop) : Prop := ∀ s W W' row, J s W → W.grownBy W' row → (∀ r, row = some r → Bs r) → J s W'
def OwnX (B : Nat) (Bs : Nat → Prop) (I : Nat → World → Prop) : Prop :=
 ∀ s W W' row, I s W → W.grownBy W' row → (∀ r, row = some r → Bs r ∨ (B ≤ r ∧ ∃ o : Obj, W.heap[r]? = some o ∧ o.isCells = false)) → I s W'
theorem OwnX.putObj {B : Nat} {Bs : Nat → Prop} {I : Nat → World → Prop} (h : OwnX B Bs I) {s : Nat} {W : World} {l : Nat} {o : Obj} (o' : Obj) (hs : I s W) (hB : B ≤ l) (hl : W.heap[l]? = some o) (ho : o.isCells = false) : I s (W.putObj l o') :=
 h s W _ (some l) hs (grownBy_putObj' W l o') (fun r e => by cases e; exact .inr ⟨hB, o, hl, ho⟩)
theorem OwnX.alloc {B : Nat} {Bs : Nat → Prop} {I : Nat → World → Prop} (h : OwnX B Bs I) {s : Nat} {W : World} (o : Obj) (hs : I s W) : I s (W.alloc o) :=
 h s W _ none hs (World.grownBy_alloc W o none) (fun r e => by cases e)
def SeqX (F : Fence) (n : Nat) (P : Program) (g : Nat) (lb : Array Value) (encs : Nat → Array Value) (Bs : Nat → Prop) (N : Nat) (w : World) : Prop :=
 ∀ (l : Nat) (J : Nat → World → Prop) (W : World), Below w.heap.size w W → AbX Bs J →
  (∀ i W1, i < N → J i W1 → YieldAt F (n - 1) P l (encs i) W1 fun e W' => e = .returned (.bool true) ∧ J (i + 1) W' ∧ KeepX Bs W1 W') →
  J 0 W →
  CallsIn F n P g (#[.func (.yield l) #[] #[]] ++ lb) W fun e W' => (∃ v, e = .returned v) ∧ J N W'
def postX (B : Nat) (Bs : Nat → Prop) (I : Nat → World → Prop) (i : Nat) (W : World) : Exit → Act → World → Prop
 | .normal, _, W' => KeepsFrom B W W' ∧ KeepX Bs W W' ∧ I i W'
 | .ret, _, _ => False
 | .exit _, _, _ => False
 | .goto _, _, _ => False
 | .panic _, _, _ => False
 | .outgrown, _, _ => False
theorem wpIn_rangeX {g : Operand} {ps : Array Tmp} {assign body : Code} {Q : Exit → Act → World → Prop} {a : Act} {w : World}
  (hro : F.round = none) (h1 : 1 ≤ n) {gf : Nat} {lb : Array Value} (hg : a.eval g = .func (.func gf) #[] lb) (hFg : F.fn gf) (eg : ∀ args w, (callFunc gf args).run P w = .ok (.enter gf args) w)
  {encs : Nat → Array Value} {Bs : Nat → Prop} {N : Nat} (hseq : SeqX F (n - 1) P gf lb encs Bs N w) (hBs : ∀ b, Bs b → b < w.heap.size) (hps : ∀ i, (encs i).size = ps.size)
  (I : Nat → World → Prop) (hI : OwnX w.heap.size Bs I) (h0 : I 0 w) (Ax : Nat → Act → World → Prop) (hAx : ∀ i a', OwnX w.heap.size (fun _ => False) (fun _ W => Ax i a' W))
  (hassign : ∀ (l : Nat) (i : Nat) (W : World) (K : Act → World → Prop), i < N → I i W → (∀ a' W', KeepsFrom w.heap.size W W' → KeepX Bs W W' → I i W' → Ax i a' W' → K a' W') →
   assign.wpIn (F.inRound l) (n - 1 - 1) P (Exit.then K (fun _ _ _ => False)) { tmps := (ps.zip (encs i)).foldl (fun t (p, v) => t.setIfInBounds p v) a.tmps, defers := [] } W)
  (hbody : ∀ (l : Nat) (i : Nat) (a' : Act) (W : World), w.heap.size ≤ l → I i W → Ax i a' W → i < N → body.wpIn (F.inRound l) (n - 1 - 1) P (postX w.heap.size Bs I (i + 1) W) a' W)
  (hdone : ∀ (D : Nat) (W : World), w.heap.size ≤ D → I N W → W.heap[D]? = some (.deferred (some [])) → Q .normal { a with defers := { target := .collected D, args := #[] } :: a.defers } W) :
  (Code.rangeFunc g ps assign body).wpIn F n P Q a w := by
 refine wpIn_rangeFunc ?_
 intro fn hfn
 rw [hro]
 obtain ⟨rec, hrec⟩ : ∃ rec : LoopState → Option Code → Loop, rec = fun st pe => { state := st, pending := pe, fn, tmps := a.tmps, params := ps, assign, body, defers := w.heap.size } := ⟨_, rfl⟩
 obtain ⟨W1, hW1⟩ : ∃ W1, (w.alloc (.deferred (some []))).alloc (.loop (rec .ready none)) = W1 := ⟨_, rfl⟩
 have hL1 : W1.heap[w.heap.size + 1]? = some (.loop (rec .ready none)) := by
  rw [← hW1]; have := World.alloc_heap_new (w.alloc (.deferred (some []))) (.loop (rec .ready none)); rwa [World.size_alloc] at this
 have hK1 : W1.heap[w.heap.size]? = some (.deferred (some [])) := by
  rw [← hW1]; exact (Below.heap_alloc _ _ _ (by simp)).trans (World.alloc_heap_new w _)
 have hI1 : I 0 W1 := by rw [← hW1]; exact hI.alloc _ (hI.alloc _ h0)
 have hb1 : Below w.heap.size w W1 := by
  rw [← hW1]; exact ((Below.refl _ w).alloc (Nat.le_refl _) _).alloc (by simp) _
 refine ⟨w.heap.size + 1, [{ target := .collected w.heap.size, args := #[] }], W1, { target := .fn (.func gf) lb, args := #[.func (.yield (w.heap.size + 1)) #[] #[]] }, W1, gf,
  #[.func (.yield (w.heap.size + 1)) #[] #[]] ++ lb, W1, ?_, ?_, ?_, ?_, fun _ => h1, ?_⟩
 ·rw [← hW1, hrec]; exact run_enterLoop_outer _ _ _ _ _
 ·simp only [resolve, hg]
  simp [go_sem]
 ·intro f' hf'; simp [Target.leads] at hf'; subst hf'; exact hFg
 ·simp [invoke, go_sem, eg]
 ·have keep : ∀ {A B : World} {row : Option Nat} {k : Nat} {o : Obj}, A.grownBy B row → (∀ r, row = some r → Bs r) → w.heap.size ≤ k → A.heap[k]? = some o → B.heap[k]? = some o := fun {A B row k o} hg hr hk ho =>
   (hg.block k (Array.getElem?_eq_some_iff.1 ho).1 (fun e => by have := hBs k (hr k e.symm); omega)).trans ho
  refine (hseq (w.heap.size + 1)
   (fun i W => I i W ∧ W.heap[w.heap.size + 1]? = some (.loop (rec .ready none)) ∧ W.heap[w.heap.size]? = some (.deferred (some [])))
   W1 hb1
   (fun s A B row hs hg' hr => ⟨hI s A B row hs.1 hg' (fun r e => .inl (hr r e)), keep hg' hr (by omega) hs.2.1, keep hg' hr (Nat.le_refl _) hs.2.2⟩)
   ?_ ⟨hI1, hL1, hK1⟩).mono ?_
  ·
   rintro i W hlen ⟨hi, hl, hk⟩
   have hlt : w.heap.size + 1 < W.heap.size := (Array.getElem?_eq_some_iff.1 hl).1
   have hy := run_yield (P := P) (args := encs i) hl (by rw [hrec]; exact hps i)
   rw [hrec] at hy
   refine ⟨fn, _, assign, body, hy, roundIn_of_wpIn hfn (hassign _ i W _ hlen hi ?_)⟩
   clear hy
   intro a' Wa hkfa hkpa hia hax
   replace hl := hkfa.same _ _ (by omega) hl rfl
   replace hk := hkfa.same _ _ (Nat.le_refl _) hk rfl
   replace hlt : w.heap.size + 1 < Wa.heap.size := (Array.getElem?_eq_some_iff.1 hl).1
   refine ⟨_, run_beginRound hl (by rw [hrec]), ?_⟩
   have hl2 : (Wa.putObj (w.heap.size + 1) (.loop { rec .ready none with state := .busy })).heap[w.heap.size + 1]? = some (.loop { rec .ready none with state := .busy }) := World.putObj_heap_same hlt
   have hk2 : (Wa.putObj (w.heap.size + 1) (.loop { rec .ready none with state := .busy })).heap[w.heap.size]? = some (.deferred (some [])) := (World.putObj_heap_other (by omega)).trans hk
   have kb : ∀ (X : World) (o' : Obj), KeepX Bs X (X.putObj (w.heap.size + 1) o') := fun X o' b hb => World.putObj_heap_other (by have := hBs b hb; omega)
   have hw2 := kb Wa (.loop { rec .ready none with state := .busy })
   refine wpIn_mono (hbody _ i a' _ (by omega) (hI.putObj _ hia (by omega) hl rfl) ((hAx i a') 0 _ _ (some (w.heap.size + 1)) hax (grownBy_putObj' _ _ _) (fun r e => by cases e; exact .inr ⟨by omega, _, hl, rfl⟩)) hlen) ?_
   rintro e a3 W3 hp
   cases e with
   | normal =>
    obtain ⟨hk3, hkp3, hi3⟩ := hp
    have hl3 := hk3.same _ _ (by omega) hl2 rfl
    have hr := run_endRound (P := P) none hl3
    rw [hrec] at hr hl3
    refine ⟨_, _, hr, rfl, ⟨hI.putObj _ hi3 (by omega) hl3 rfl, ?_, ?_⟩, ((hkpa.trans hw2).trans hkp3).trans (kb _ _)⟩
    ·rw [hrec]; exact World.putObj_heap_same (Array.getElem?_eq_some_iff.1 hl3).1
    ·exact (World.putObj_heap_other (by omega)).trans (hk3.same _ _ (Nat.le_refl _) hk2 rfl)
   | ret => exact hp.elim
   | exit id => exact hp.elim
   | goto t => exact hp.elim
   | panic ch => exact hp.elim
   | outgrown => exact hp.elim
  ·
   rintro e W2 ⟨⟨v, rfl⟩, hi, hl, hk⟩
   exact ⟨none, _, by have := run_endLoop (P := P) hl (by rw [hrec]; simp); rw [hrec] at this; exact this, hdone _ _ (Nat.le_refl _) (hI.putObj _ hi (by omega) hl rfl) ((World.putObj_heap_other (by omega)).trans hk)⟩
end Go.Proofs.YtnaglmigkbbljaaGreatDoor
/-
  TopTransferred: the iterators of strings.Lines and slices.Chunk, round by round.
-/
namespace Go.Proofs.YtnaglmigkbbljaaGreatDoor
open Go Go.RowKit Go.Shelf
attribute [local go_sem] Oper.semAt_some
def szAt (W : World) (b : Nat) : Nat := match W.heap[b]? with
 | some (Obj.cells a _ _) => match a[0]? with
  | some (Value.string s) => s.size
  | _ => 0
 | _ => 0
theorem szAt_eq {W : World} {b : Nat} {t : TypeId} {s : ByteArray} (h : Blk W b t [.string s]) : szAt W b = s.size := by
 unfold szAt
 rw [show W.heap[b]? = _ from h]
 rfl
theorem AbX.set {Bs : Nat → Prop} {J : Nat → World → Prop} (h : AbX Bs J) {i b : Nat} {W : World} (hj : J i W) (hb : Bs b) (v : Value) : J i (W.setCell ⟨b, 0, none⟩ v) :=
 h i W _ (some b) hj (grownBy_setCell' W b v) (fun r e => by cases e; exact hb)
theorem AbX.drew {Bs : Nat → Prop} {J : Nat → World → Prop} (h : AbX Bs J) {i : Nat} {W : World} (hj : J i W) : J i W.drew :=
 h i W _ none hj ⟨rfl, rfl, rfl, Nat.le_refl _, fun k _ _ => rfl⟩ (fun r e => by cases e)
theorem lines_seq (n : Nat) (hn : 1 ≤ n) (b : Nat) (xs : List ByteArray) (hx : ∀ x ∈ xs, ∃ y, x = y ++ nlS ∧ (10 : UInt8) ∉ y.data.toList) (hsz : (catB xs).size ≤ 1048576) (w : World) (hB : Blk w b 9 [.string (catB xs)]) :
  SeqX Fence.wide n Tryz.prog 152 #[.pointer (some ⟨b, 0, none⟩)] (fun i => #[.string (xs.getD i ⟨#[]⟩)]) (fun r => r = b) xs.length w := fun l J W hW hJ hY h0 => by
 have hB0 : Blk W b 9 [.string (catB (xs.drop 0))] := hB.below hW
 have hmx : Tryz.prog.follows .mixedOrders = true := by kernel_rfl
 have HY := Lib.hid hY
 have HX := Lib.hid hx
 clear hY hx hB hW
 refine callsIn_of_wp Tryz.func152 rfl trivial ?_ rfl
 simp only [Tryz.ntmps152, List.size_toArray, List.length_cons, List.length_nil, Nat.reduceAdd, Nat.reduceSub, Array.replicate_succ, Array.replicate_zero, List.push_toArray, List.append_toArray, List.nil_append, List.cons_append]
 gi_wp2
 gi_loopw [3] (fun _ wr => ∃ i : Nat, i ≤ xs.length ∧ J i wr ∧ Blk wr b 9 [.string (catB (xs.drop i))] ∧ (catB (xs.drop i)).size ≤ 1048576) (fun _ wr => szAt wr b)
 case atStart => exact ⟨0, Nat.zero_le _, h0, hB0, hsz⟩
 case round =>
  clear h0 hB0 hsz
  obtain ⟨i, hi, hj, hb, hsz⟩ := hrel
  by_cases hlt : i < xs.length
  ·obtain ⟨y, hy, hno⟩ := HX.out xs[i] (List.getElem_mem _)
   have hc : catB (xs.drop i) = y ++ (nlS ++ catB (xs.drop (i + 1))) := by rw [List.drop_eq_getElem_cons hlt, catB_cons, hy, ByteArray.append_assoc]
   have hR := HY.out i
   have hg : xs.getD i ⟨#[]⟩ = y ++ nlS := by rw [List.getD_eq_getElem?_getD, List.getElem?_eq_getElem hlt, hy]; rfl
   rw [hg] at hR
   have hi1 : i + 1 ≤ xs.length := hlt
   rw [hc] at hb hsz
   obtain ⟨r, hr⟩ : ∃ r, r = catB (xs.drop (i + 1)) := ⟨_, rfl⟩
   rw [← hr] at hb hsz
   obtain ⟨s, hs⟩ : ∃ s, s = y ++ (nlS ++ r) := ⟨_, rfl⟩
   have h1 : s.extract 0 (y.size + 1) = y ++ nlS := by
    have := ext_pre (y ++ nlS) r
    rw [ByteArray.append_assoc, ← hs, ByteArray.size_append] at this
    exact this
   have h2 : s.extract (y.size + 1) s.size = r := by rw [hs]; exact ext_post2 y nlS r rfl rfl
   have h3 : s.size = y.size + 1 + r.size := by rw [hs, ByteArray.size_append, ByteArray.size_append]; show y.size + (1 + r.size) = _; omega
   have hix : Lib.indexByte s.data.toList (10 : Int).toNat.toUInt8 = (y.size : Int) := by
    rw [hs, bl_app, bl_app, ← bl_len y]
    exact idx_app _ _ 10 hno
   have HIX := Lib.hid (fun W => (Tryz.strings_IndexByte s 10 W).mono (R' := fun e w' => e = .returned (.int .i64 (y.size : Int)) ∧ w' = W) (fun e w' h => by rw [hix] at h; exact h))
   rw [← hs] at hb hsz
   clear hc hix hs hg hy hno
   have c0 := hb.cell (j := 0) (Nat.lt_succ_self 0)
   simp only [List.getElem_cons_zero] at c0
   have f0 := hb.frozen 0
   have HB := Lib.hid hb
   have HR2 := Lib.hid hr
   clear hb hr
   have e1 : (0 : Int) ≤ (y.size : Int) := by omega
   have e2 : (y.size : Int) + 1 ≤ (s.size : Int) := by omega
   have e3 : (0 : Int) < (s.size : Int) := by omega
   have ew : IntKind.i64.wrap ((y.size : Int) + 1) = (y.size : Int) + 1 := by rw [IntKind.wrap_i64]; omega
   have e4 : (0 : Int) ≤ (y.size : Int) + 1 := by omega
   have e5 : ((y.size : Int) + 1).toNat = y.size + 1 := by omega
   have H3 := Lib.hid h3
   clear h3
   gi_wp2_with (refine ⟨trivial, ?_⟩; gi_at_call 153; refine (callsIn_wide.2 (HIX.out _)).mono ?_; rintro e w1 ⟨rfl, hw⟩; obtain rfl := hw.symm)
   have hj2 : J i (wr.setCell ⟨b, 0, none⟩ (.string r)).drew := hJ.drew (hJ.set hj rfl _)
   obtain ⟨fn, tmps, assign, body, hy, hRd⟩ := hR _ hlt hj2
   have hb2 : Blk (wr.setCell ⟨b, 0, none⟩ (.string r)).drew b 9 [.string r] := HB.out.set 0 (.string r)
   have HB2 := Lib.hid hb2
   have hmz := szAt_eq HB.out
   have HMZ := Lib.hid hmz
   clear hR hj hj2 hb2 hmz
   gi_region_with_o fail
   all_goals gi_wp2
   all_goals refine hRd.mono ?_
   all_goals rintro e W3 ⟨rfl, hj3, hk3⟩
   all_goals have HB3 := Lib.hid (show Blk W3 b 9 [.string r] from (hk3 b rfl).trans HB2.out)
   all_goals gi_wp2
   all_goals go_roundw
   case rel => exact ⟨i + 1, hi1, hj3, by rw [← HR2.out]; exact HB3.out, by rw [← HR2.out]; have := H3.out; omega⟩
   case measure => rw [szAt_eq HB3.out, HMZ.out]; have := H3.out; omega
   case rel => exact ⟨i + 1, hi1, hj3, by rw [← HR2.out]; exact HB3.out, by rw [← HR2.out]; have := H3.out; omega⟩
   case measure => rw [szAt_eq HB3.out, HMZ.out]; have := H3.out; omega
  ·have hie : i = xs.length := by omega
   subst hie
   rw [List.drop_length] at hb
   have c0 := hb.cell (j := 0) (Nat.lt_succ_self 0)
   simp only [List.getElem_cons_zero, catB, List.foldl_nil] at c0
   clear hb
   gi_wp2
   go_end0
   exact ⟨⟨_, rfl⟩, hj⟩
theorem chunkS_seq (n : Nat) (hn : 1 ≤ n) (b1 b2 g off len cap : Nat) (p : Option Addr) (hp : 0 < len → p = some ⟨g, off, none⟩) (hlc : len ≤ cap) (hl : len ≤ 1000000) (w : World) (h1 : Blk w b1 35 [.slice p len cap]) (h2 : Blk w b2 3 [.int .i64 3]) :
  SeqX Fence.wide n Tryz.prog 150 #[.pointer (some ⟨b1, 0, none⟩), .pointer (some ⟨b2, 0, none⟩)] (fun i => #[.slice (some ⟨g, off + i * 3, none⟩) (min 3 (len - i * 3)) (min 3 (len - i * 3))]) (fun r => r = b1 ∨ r = b2) ((len + 2) / 3) w := fun l J W hW hJ hY h0 => by
 have H1 := Lib.hid (h1.below hW)
 have H2 := Lib.hid (h2.below hW)
 have hmx : Tryz.prog.follows .mixedOrders = true := by kernel_rfl
 have HY := Lib.hid hY
 clear hY h1 h2 hW
 refine callsIn_of_wp Tryz.func150 rfl trivial ?_ rfl
 simp only [Tryz.ntmps150, List.size_toArray, List.length_cons, List.length_nil, Nat.reduceAdd, Nat.reduceSub, Array.replicate_succ, Array.replicate_zero, List.push_toArray, List.append_toArray, List.nil_append, List.cons_append]
 gi_wp2
 gi_loopw [4] (fun v wr => ∃ i : Nat, i ≤ (len + 2) / 3 ∧ v = .int .i64 ((i * 3 : Nat) : Int) ∧ J i wr ∧ Blk wr b1 35 [.slice p len cap] ∧ Blk wr b2 3 [.int .i64 3]) (fun v _ => len + 3 - (intOf v).toNat)
 case atStart => exact ⟨0, Nat.zero_le _, rfl, h0, H1.out, H2.out⟩
 case round =>
  clear h0 H1 H2
  obtain ⟨i, hi, rfl, hj, hb1, hb2⟩ := hrel
  obtain ⟨a, ha⟩ : ∃ a, a = i * 3 := ⟨_, rfl⟩
  have hR := HY.out i
  rw [← ha] at hR ⊢
  have c1 := hb1.cell (j := 0) (Nat.lt_succ_self 0)
  have c2 := hb2.cell (j := 0) (Nat.lt_succ_self 0)
  simp only [List.getElem_cons_zero] at c1 c2
  have HB1 := Lib.hid hb1
  have HB2 := Lib.hid hb2
  have HA := Lib.hid ha
  have HI := Lib.hid hi
  clear hb1 hb2 hi ha
  by_cases hlt : a < len
  ·obtain rfl := hp (by omega)
   have hi1 : i < (len + 2) / 3 := by have := HA.out; omega
   have hi2 : i + 1 ≤ (len + 2) / 3 := hi1
   have hj2 : J i wr.drew := hJ.drew hj
   obtain ⟨fn, tmps, assign, body, hy, hRd⟩ := hR _ hi1 hj2
   obtain ⟨m, hm⟩ : ∃ m, m = min 3 (len - a) := ⟨_, rfl⟩
   rw [← hm] at hy
   have hm1 : 1 ≤ m ∧ m ≤ len - a := by omega
   have hmm : min (3 : Int) ((len - a : Nat) : Int) = (m : Int) := by omega
   have HMM := Lib.hid hm
   clear hR hj hj2 hm
   have e0 : (0 : Int) ≤ (a : Int) := by omega
   have e1 : (a : Int) ≤ (len : Int) := by omega
   have e2 : (a : Int) < (len : Int) := by omega
   have ew : IntKind.i64.wrap ((a : Int) + (m : Int)) = (a : Int) + (m : Int) := by rw [IntKind.wrap_i64]; omega
   have e3 : (a : Int) ≤ (a : Int) + (m : Int) := by omega
   have e4 : (a : Int) + (m : Int) ≤ (cap : Int) := by omega
   have e5 : ((a : Int) + (m : Int)).toNat = a + m := by omega
   have e6 : a + m - a = m := by omega
   have e7 : ¬ (cap = a) := by omega
   have e8 : ¬ (a + m = a) := by omega
   gi_wp2
   gi_region_with_o fail
   all_goals gi_wp2
   all_goals refine hRd.mono ?_
   all_goals rintro e W3 ⟨rfl, hj3, hk3⟩
   all_goals have HB3 := Lib.hid (show Blk W3 b1 35 [.slice (some ⟨g, off, none⟩) len cap] from (hk3 b1 (.inl rfl)).trans HB1.out)
   all_goals have HB4 := Lib.hid (show Blk W3 b2 3 [.int .i64 3] from (hk3 b2 (.inr rfl)).trans HB2.out)
   all_goals have c3 := HB4.out.cell (j := 0) (Nat.lt_succ_self 0)
   all_goals simp only [List.getElem_cons_zero] at c3
   all_goals have ew2 : IntKind.i64.wrap ((a : Int) + 3) = (a : Int) + 3 := by rw [IntKind.wrap_i64]; omega
   all_goals gi_wp2
   all_goals go_roundw
   case rel => exact ⟨i + 1, hi2, by rw [show (((i + 1) * 3 : Nat) : Int) = (a : Int) + 3 by have := HA.out; omega], hj3, HB3.out, HB4.out⟩
   case measure => simp [intOf]; omega
   case rel => exact ⟨i + 1, hi2, by rw [show (((i + 1) * 3 : Nat) : Int) = (a : Int) + 3 by have := HA.out; omega], hj3, HB3.out, HB4.out⟩
   case measure => simp [intOf]; omega
   case rel => exact ⟨i + 1, hi2, by rw [show (((i + 1) * 3 : Nat) : Int) = (a : Int) + 3 by have := HA.out; omega], hj3, HB3.out, HB4.out⟩
   case measure => simp [intOf]; omega
  ·have hie : i = (len + 2) / 3 := by have := HA.out; have := HI.out; omega
   subst hie
   have e2 : ¬ ((a : Int) < (len : Int)) := by omega
   gi_wp2
   go_end0
   exact ⟨⟨_, rfl⟩, hj⟩
theorem chunkP_seq (n : Nat) (hn : 1 ≤ n) (b1 b2 g off len cap : Nat) (p : Option Addr) (hp : 0 < len → p = some ⟨g, off, none⟩) (hlc : len ≤ cap) (hl : len ≤ 1000000) (w : World) (h1 : Blk w b1 26 [.slice p len cap]) (h2 : Blk w b2 3 [.int .i64 8]) :
  SeqX Fence.wide n Tryz.prog 142 #[.pointer (some ⟨b1, 0, none⟩), .pointer (some ⟨b2, 0, none⟩)] (fun i => #[.slice (some ⟨g, off + i * 8 * 3, none⟩) (min 8 (len - i * 8)) (min 8 (len - i * 8))]) (fun r => r = b1 ∨ r = b2) ((len + 7) / 8) w := fun l J W hW hJ hY h0 => by
 have H1 := Lib.hid (h1.below hW)
 have H2 := Lib.hid (h2.below hW)
 have hmx : Tryz.prog.follows .mixedOrders = true := by kernel_rfl
 have HY := Lib.hid hY
 clear hY h1 h2 hW
 refine callsIn_of_wp Tryz.func142 rfl trivial ?_ rfl
 simp only [Tryz.ntmps142, List.size_toArray, List.length_cons, List.length_nil, Nat.reduceAdd, Nat.reduceSub, Array.replicate_succ, Array.replicate_zero, List.push_toArray, List.append_toArray, List.nil_append, List.cons_append]
 gi_wp2
 gi_loopw [4] (fun v wr => ∃ i : Nat, i ≤ (len + 7) / 8 ∧ v = .int .i64 ((i * 8 : Nat) : Int) ∧ J i wr ∧ Blk wr b1 26 [.slice p len cap] ∧ Blk wr b2 3 [.int .i64 8]) (fun v _ => len + 8 - (intOf v).toNat)
 case atStart => exact ⟨0, Nat.zero_le _, rfl, h0, H1.out, H2.out⟩
 case round =>
  clear h0 H1 H2
  obtain ⟨i, hi, rfl, hj, hb1, hb2⟩ := hrel
  obtain ⟨a, ha⟩ : ∃ a, a = i * 8 := ⟨_, rfl⟩
  have hR := HY.out i
  rw [← ha] at hR ⊢
  have c1 := hb1.cell (j := 0) (Nat.lt_succ_self 0)
  have c2 := hb2.cell (j := 0) (Nat.lt_succ_self 0)
  simp only [List.getElem_cons_zero] at c1 c2
  have HB1 := Lib.hid hb1
  have HB2 := Lib.hid hb2
  have HA := Lib.hid ha
  have HI := Lib.hid hi
  clear hb1 hb2 hi ha
  by_cases hlt : a < len
  ·obtain rfl := hp (by omega)
   have hi1 : i < (len + 7) / 8 := by have := HA.out; omega
   have hi2 : i + 1 ≤ (len + 7) / 8 := hi1
   have hj2 : J i wr.drew := hJ.drew hj
   obtain ⟨fn, tmps, assign, body, hy, hRd⟩ := hR _ hi1 hj2
   obtain ⟨m, hm⟩ : ∃ m, m = min 8 (len - a) := ⟨_, rfl⟩
   rw [← hm] at hy
   have hm1 : 1 ≤ m ∧ m ≤ len - a := by omega
   have hmm : min (8 : Int) ((len - a : Nat) : Int) = (m : Int) := by omega
   have HMM := Lib.hid hm
   clear hR hj hj2 hm
   have e0 : (0 : Int) ≤ (a : Int) := by omega
   have e1 : (a : Int) ≤ (len : Int) := by omega
   have e2 : (a : Int) < (len : Int) := by omega
   have ew : IntKind.i64.wrap ((a : Int) + (m : Int)) = (a : Int) + (m : Int) := by rw [IntKind.wrap_i64]; omega
   have e3 : (a : Int) ≤ (a : Int) + (m : Int) := by omega
   have e4 : (a : Int) + (m : Int) ≤ (cap : Int) := by omega
   have e5 : ((a : Int) + (m : Int)).toNat = a + m := by omega
   have e6 : a + m - a = m := by omega
   have e7 : ¬ (cap = a) := by omega
   have e8 : ¬ (a + m = a) := by omega
   gi_wp2
   gi_region_with_o fail
   all_goals gi_wp2
   all_goals refine hRd.mono ?_
   all_goals rintro e W3 ⟨rfl, hj3, hk3⟩
   all_goals have HB3 := Lib.hid (show Blk W3 b1 26 [.slice (some ⟨g, off, none⟩) len cap] from (hk3 b1 (.inl rfl)).trans HB1.out)
   all_goals have HB4 := Lib.hid (show Blk W3 b2 3 [.int .i64 8] from (hk3 b2 (.inr rfl)).trans HB2.out)
   all_goals have c3 := HB4.out.cell (j := 0) (Nat.lt_succ_self 0)
   all_goals simp only [List.getElem_cons_zero] at c3
   all_goals have ew2 : IntKind.i64.wrap ((a : Int) + 8) = (a : Int) + 8 := by rw [IntKind.wrap_i64]; omega
   all_goals gi_wp2
   all_goals go_roundw
   case rel => exact ⟨i + 1, hi2, by rw [show (((i + 1) * 8 : Nat) : Int) = (a : Int) + 8 by have := HA.out; omega], hj3, HB3.out, HB4.out⟩
   case measure => simp [intOf]; omega
   case rel => exact ⟨i + 1, hi2, by rw [show (((i + 1) * 8 : Nat) : Int) = (a : Int) + 8 by have := HA.out; omega], hj3, HB3.out, HB4.out⟩
   case measure => simp [intOf]; omega
   case rel => exact ⟨i + 1, hi2, by rw [show (((i + 1) * 8 : Nat) : Int) = (a : Int) + 8 by have := HA.out; omega], hj3, HB3.out, HB4.out⟩
   case measure => simp [intOf]; omega
  ·have hie : i = (len + 7) / 8 := by have := HA.out; have := HI.out; omega
   subst hie
   have e2 : ¬ ((a : Int) < (len : Int)) := by omega
   gi_wp2
   go_end0
   exact ⟨⟨_, rfl⟩, hj⟩
end Go.Proofs.YtnaglmigkbbljaaGreatDoor
