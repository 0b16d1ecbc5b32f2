/-
  TopTransferred: 'a variable holds the row so far', in a range over an iterator.
-/
import Derived.Test.YtnaglmigkbbljaaGreatDoorSgASgD
import Derived.RangeFuncBox
import Derived.Maps.AppendAt
set_option maxHeartbeats 6400000
set_option maxRecDepth 1000000
set_option linter.unusedVariables false
set_option linter.unusedSimpArgs false
namespace Go.Proofs.YtnaglmigkbbljaaGreatDoor
open Go Go.RowKit Go.Shelf
def HoldI (w : World) (N B : Nat) (t T : TypeId) (sz : Nat) (k : Nat → Nat) (f : Nat → List Value) (i : Nat) (W : World) : Prop :=
 ∃ v, Boxed W B t v ∧ W.ownsRow N T sz v (k i) (f i) ∧ Below w.heap.size w W ∧ N ≤ W.heap.size
theorem hold_own {w : World} {N B : Nat} {t T : TypeId} {sz : Nat} {k : Nat → Nat} {f : Nat → List Value} {Bs : Nat → Prop} (hBs : ∀ b, Bs b → b < N ∧ b ≠ B ∧ w.heap.size ≤ b) (hB : B < N) (hN : w.heap.size ≤ N) :
  OwnX N Bs (HoldI w N B t T sz k f) := fun i W W' row ⟨v, hv, ho, hb, hn⟩ hg hr => by
 have hw : ∀ r, row = some r → w.heap.size ≤ r := fun r e => by
  rcases hr r e with h | ⟨h, _⟩
  ·exact (hBs r h).2.2
  ·omega
 refine ⟨v, hv.kept hg (fun e => ?_), ho.kept hg ?_, hb.grown hg hb.size hw, Nat.le_trans hn hg.size⟩
 ·rcases hr B e.symm with h | ⟨h, _⟩
  ·exact (hBs B h).2.1 rfl
  ·omega
 ·rcases ho.2 with ⟨rfl, _⟩ | ⟨g, cap, cur, rfl, hbg, hgb, _⟩
  ·exact .inl rfl
  ·refine .inr fun e => ?_
   rcases hr g (by simpa [Value.ownBlock] using e.symm) with h | ⟨_, o, ho, hc⟩
   ·have := (hBs g h).1; omega
   ·rw [hgb] at ho; cases ho; cases hc
theorem below_keeps {W W' : World} {N : Nat} (h : Below W.heap.size W W') : KeepsFrom N W W' := ⟨h.size, fun k o _ hk _ => (h.block k (Array.getElem?_eq_some_iff.1 hk).1).trans hk⟩
theorem hold_step {w W W5 w6 : World} {N B : Nat} {t T : TypeId} {sz : Nat} {k : Nat → Nat} {f : Nat → List Value} {Bs : Nat → Prop} {i : Nat} {v v' : Value} {tmp : Obj} (hBs : ∀ b, Bs b → b < N ∧ b ≠ B ∧ w.heap.size ≤ b) (hB : B < N) (hN : w.heap.size ≤ N) (hwB : w.heap.size ≤ B) (htT : t ≠ T)
  (hv : Boxed W B t v) (ho : W.ownsRow N T sz v (k i) (f i)) (hb : Below w.heap.size w W) (hn : N ≤ W.heap.size) (h5 : Below W.heap.size W W5)
  (hown' : w6.ownsRow N T sz v' (k (i + 1)) (f (i + 1))) (hgrow : (W5.alloc tmp).grownBy w6 v.ownBlock) :
  KeepsFrom N W (w6.setCell ⟨B, 0, none⟩ v') ∧ KeepX Bs W (w6.setCell ⟨B, 0, none⟩ v') ∧ HoldI w N B t T sz k f (i + 1) (w6.setCell ⟨B, 0, none⟩ v') := by
 have hn5 : N ≤ W5.heap.size := Nat.le_trans hn h5.size
 have hv5 : Boxed W5 B t v := (h5.block B (by omega)).trans hv
 have ho5 := own_below ho h5
 have hgN : ∀ g, v.ownBlock = some g → N ≤ g := fun g e => by
  rcases ho.2 with ⟨rfl, _⟩ | ⟨g', cap, cur, rfl, hbg, _⟩
  ·simp [Value.ownBlock] at e
  ·simp [Value.ownBlock] at e; omega
 have hv6 : Boxed w6 B t v := (hv5.alloc tmp).kept hgrow (hv5.not_row htT ho5)
 have hk : KeepsFrom N W5 (w6.setCell ⟨B, 0, none⟩ v') := by
  refine (((KeepsOthers.alloc W5 tmp).trans (KeepsOthers.of_grownBy hgrow fun j o ej hj => ?_)).trans (KeepsOthers.setCell _ _ _)).from N
  rcases (ho5.alloc tmp).2 with ⟨rfl, _⟩ | ⟨g, cap, cur, rfl, _, hgb, _⟩
  ·simp [Value.ownBlock] at ej
  ·obtain rfl : g = j := by simpa [Value.ownBlock] using ej
   rw [hgb] at hj; cases hj; rfl
 refine ⟨(below_keeps h5).trans hk, fun b hbs => ?_, v', hv6.set v', hown'.kept (grownBy_setCell' w6 B v') (.inr (hv6.not_row htT hown').symm), ?_, ?_⟩
 ·obtain ⟨q1, q2, q3⟩ := hBs b hbs
  have e1 : (w6.setCell ⟨B, 0, none⟩ v').heap[b]? = w6.heap[b]? := Below.heap_setCell _ _ _ _ q2
  have e2 : w6.heap[b]? = (W5.alloc tmp).heap[b]? := hgrow.block b (by simp; omega) (fun e => by have := hgN b e.symm; omega)
  have e3 : (W5.alloc tmp).heap[b]? = W5.heap[b]? := Below.heap_alloc W5 tmp b (by omega)
  have e4 : W5.heap[b]? = W.heap[b]? := h5.block b (by omega)
  rw [e1, e2, e3, e4]
 ·have hb5 := hb.trans (h5.mono hb.size)
  exact ((hb5.alloc hb5.size tmp).grown hgrow (by have := hb5.size; simp; omega) (fun g e => by have := hgN g e; omega)).setCell (p := ⟨B, 0, none⟩) hwB v'
 ·have := hgrow.size
  simp [World.setCell] at this ⊢
  omega
theorem wpIn_rangeY {F : Fence} {n : Nat} {P : Program} {g : Operand} {ps : Array Tmp} {assign body : Code} {Q : Exit → Act → World → Prop} {a : Act} {w : World}
  (hro : F.round = none) (h1 : 1 ≤ n) {gf : Nat} {lb : Array Value} (hg : a.eval g = .func (.func gf) #[] lb) (hFg : F.fn gf) (eg : ∀ args w, (callFunc gf args).run P w = .ok (.enter gf args) w)
  {encs : Nat → Array Value} {Bs : Nat → Prop} {N : Nat} (hseq : SeqX F (n - 1) P gf lb encs Bs N w) (hBs : ∀ b, Bs b → b < w.heap.size) (hps : ∀ i, (encs i).size = ps.size)
  (I : Nat → World → Prop) (hI : OwnX w.heap.size Bs I) (h0 : I 0 w) (a₁ : Nat → Act)
  (hassign : ∀ (l : Nat) (i : Nat) (W : World) (K : Act → World → Prop), K (a₁ i) W →
   assign.wpIn (F.inRound l) (n - 1 - 1) P (Exit.then K (fun _ _ _ => False)) { tmps := (ps.zip (encs i)).foldl (fun t (p, v) => t.setIfInBounds p v) a.tmps, defers := [] } W)
  (hbody : ∀ (l : Nat) (i : Nat) (W : World), w.heap.size ≤ l → I i W → i < N → body.wpIn (F.inRound l) (n - 1 - 1) P (postX w.heap.size Bs I (i + 1) W) (a₁ i) W)
  (hdone : ∀ (D : Nat) (W : World), w.heap.size ≤ D → I N W → W.heap[D]? = some (.deferred (some [])) → Q .normal { a with defers := { target := .collected D, args := #[] } :: a.defers } W) :
  (Code.rangeFunc g ps assign body).wpIn F n P Q a w :=
 wpIn_rangeX hro h1 hg hFg eg hseq hBs hps I hI h0 (fun i a' _ => a' = a₁ i) (fun _ _ _ _ _ _ h _ _ => h)
  (fun l i W K _ hi hK => hassign l i W K (hK _ _ (KeepsFrom.refl _ _) (KeepX.refl _ _) hi rfl))
  (fun l i a' W hl hi ha hlt => by subst ha; exact hbody l i W hl hi hlt) hdone
theorem own_mono {W : World} {N M : Nat} {T : TypeId} {sz n : Nat} {v : Value} {xs : List Value} (h : W.ownsRow N T sz v n xs) (hm : M ≤ N) : W.ownsRow M T sz v n xs := by
 refine ⟨h.1, ?_⟩
 rcases h.2 with h0 | ⟨g, cap, cur, h1, h2, h3⟩
 ·exact .inl h0
 ·exact .inr ⟨g, cap, cur, h1, by omega, h3⟩
end Go.Proofs.YtnaglmigkbbljaaGreatDoor
