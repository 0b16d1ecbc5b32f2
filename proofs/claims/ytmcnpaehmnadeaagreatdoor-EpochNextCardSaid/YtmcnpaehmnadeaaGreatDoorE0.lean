/-
  What nothing older has changed, rows of the call's own, cells: small words for all that follows.
-/
import Derived.Test.YtmcnpaehmnadeaaGreatDoorEaAB
import Derived.WalkKit
import Derived.KernelRfl
import Derived.Lib.Hide
import Derived.Deep.QuietTactic
import Derived.BigQuiet
import Derived.Deep.DeepCutAuto
import Derived.OwnWalk
import Derived.Deep.AppendLies
import Derived.Laws.ResultCell
import Derived.Deep.RegionLaw
import Derived.Deep.CutBlock
import Derived.Deep.RegionHeld3
import Derived.Deep.RegionWith
import Derived.Maps.AppendAt
import Derived.StillTailTactics
set_option maxHeartbeats 6400000
set_option maxRecDepth 1000000
namespace Go.Proofs.YtmcnpaehmnadeaaGreatDoor
open Go Go.RowKit
theorem sA {α : Type _} (l : List α) (i : Nat) (a : α) : l.toArray.setIfInBounds i a = (l.set i a).toArray := List.setIfInBounds_toArray l i a
theorem sZ {α : Type _} {a b : α} {l : List α} : (a :: l).set 0 b = b :: l := rfl
theorem sS {α : Type _} {a b : α} {l : List α} {n : Nat} : (a :: l).set (n + 1) b = a :: l.set n b := rfl
theorem gLt {α : Type _} {x : Array α} {i : Nat} {v : α} (h : x[i]? = some v) : i < x.size := (Array.getElem?_eq_some_iff.mp h).1
section
variable {P : Program} {ops : Array Oper} {Q : Exit → Act → World → Prop} {md : Region.Mode} {S : World → Prop}
theorem tkH {o : Op} {ty : TypeId} {pos : String} {af : Array Edge} {g : Option (Nat × Bool)} {f : Nat} {l : Array Bool} {a : Act} {w : World} (i d : Nat) (v : Value) (hi : ops[i]? = some ⟨some d, o, ty, pos, af, g⟩) (hy : ∀ w, S w → (execOp a.eval ⟨some d, o, ty, pos, af, g⟩).run P w = .ok (.value v) w)
  (h : wpAnyH P md ops Q S f (l.setIfInBounds i true) (a.put (some d) v) w)
  (hs : Region.noSelect ops = true := by kernel_rfl) (hf : Region.free md ops l i = true := by kernel_rfl) (hr : (Region.ready md ops l).contains i = true := by kernel_rfl)
  (hQ : ∀ c a w, Q (.panic c) (a.put (some d) v) w → Q (.panic c) a w := by exact fun _ _ _ h => h) (hS : S w := by assumption) (hg : Region.wanted ⟨some d, o, ty, pos, af, g⟩ (yielded ops a.tmps) = true := by rfl) : wpAnyH P md ops Q S (f + 1) l a w :=
  wpAnyH_take hi hs hf hr hQ (.inl ⟨hg, hy⟩) hS h
theorem tuH {o : Op} {ty : TypeId} {pos : String} {af : Array Edge} {g : Option (Nat × Bool)} {f : Nat} {l : Array Bool} {a : Act} {w : World} (i d : Nat) (hi : ops[i]? = some ⟨some d, o, ty, pos, af, g⟩)
  (h : wpAnyH P md ops Q S f (l.setIfInBounds i true) (a.put (some d) undef) w)
  (hs : Region.noSelect ops = true := by kernel_rfl) (hf : Region.free md ops l i = true := by kernel_rfl) (hr : (Region.ready md ops l).contains i = true := by kernel_rfl)
  (hQ : ∀ c a w, Q (.panic c) (a.put (some d) undef) w → Q (.panic c) a w := by exact fun _ _ _ h => h) (hS : S w := by assumption) (hg : Region.wanted ⟨some d, o, ty, pos, af, g⟩ (yielded ops a.tmps) = false := by kernel_rfl) : wpAnyH P md ops Q S (f + 1) l a w :=
  wpAnyH_take hi hs hf hr hQ (.inr ⟨hg, rfl⟩) hS h
end
theorem below_grown {B : Nat} {w wr w1 : World} {o : Obj} {e : TypeId} {sz n : Nat} {v : Value} {xs : List Value} (hbl : Below B w wr) (hB : B ≤ wr.heap.size) (hown : wr.ownsRow B e sz v n xs) (hg : (wr.alloc o).grownBy w1 v.ownBlock) : Below B w w1 := by
 have h1 : Below B w (wr.alloc o) := hbl.alloc hB o
 refine ⟨hg.os.trans h1.os, hg.tape.trans h1.tape, hg.output.trans h1.output, Nat.le_trans h1.size hg.size, fun i hi => ?_⟩
 refine (hg.block i (by have := World.size_alloc wr o; omega) fun e => ?_).trans (h1.block i hi)
 rcases hown.2 with ⟨rfl, _⟩ | ⟨g, cap, cur, rfl, hbg, _⟩
 ·cases e
 ·simp [Value.ownBlock] at e; omega
theorem own_below {w W : World} {base e sz n : Nat} {v : Value} {xs : List Value} (h : w.ownsRow base e sz v n xs) (hb : Below w.heap.size w W) : W.ownsRow base e sz v n xs := by
 refine ⟨h.1, ?_⟩
 rcases h.2 with h0 | ⟨g, cap, cur, rfl, hg, hc, hr⟩
 ·exact .inl h0
 ·exact .inr ⟨g, cap, cur, rfl, hg, (hb.block g (Array.getElem?_eq_some_iff.mp hc).1).trans hc, hr⟩
def BoolRet (w : World) (e : Ending) (w' : World) : Prop := ∃ b : Bool, e = .returned (.bool b) ∧ Below w.heap.size w w'
def IntRet (w : World) (e : Ending) (w' : World) : Prop := ∃ k : Int, e = .returned (.int .i64 k) ∧ Below w.heap.size w w'
theorem cellOf {W : World} {b j : Nat} {cs : Array Value} {t : TypeId} {fr : Nat × Nat} {v : Value} (h : W.heap[b]? = some (.cells cs t fr)) (hj : cs[j]? = some v) : W.cell? ⟨b, j, none⟩ = some v := by
 unfold World.cell?
 rw [h]
 exact hj
theorem frozenOf {W : World} {b j : Nat} {cs : Array Value} {t : TypeId} (h : W.heap[b]? = some (.cells cs t (0, 0))) : W.frozen? ⟨b, j, none⟩ = false := by
 unfold World.frozen?
 rw [h]
 simp
theorem below_set {B : Nat} {a w : World} (h : Below B a w) {p : Addr} (hp : B ≤ p.block) (u : Value) : Below B a (w.setCell p u) :=
 ⟨h.os, h.tape, h.output, by simpa [World.setCell] using h.size, fun i hi => (Below.heap_setCell w p u i (by rintro rfl; omega)).trans (h.block i hi)⟩
theorem own_set {w : World} {base e sz n : Nat} {v : Value} {xs : List Value} (h : w.ownsRow base e sz v n xs) {p : Addr} (hp : p.block < base) (u : Value) : (w.setCell p u).ownsRow base e sz v n xs := by
 refine ⟨h.1, ?_⟩
 rcases h.2 with h0 | ⟨g, cap, cur, h1, h2, h3, h4⟩
 ·exact .inl h0
 ·exact .inr ⟨g, cap, cur, h1, h2, (Below.heap_setCell w p u g (by omega)).trans h3, h4⟩
theorem below_drew (W : World) : Below W.heap.size W W.drew := ⟨rfl, rfl, rfl, Nat.le_refl _, fun _ _ => rfl⟩
theorem below_drewN {B : Nat} {a w : World} (h : Below B a w) (n : Nat) : Below B a (w.drewN n) := ⟨h.os, h.tape, h.output, h.size, h.block⟩
def IsB (r : Bool) (w : World) (e : Ending) (w' : World) : Prop := e = .returned (.bool r) ∧ Below w.heap.size w w'
theorem take_snoc {α : Type} {l : List α} {k : Nat} (h : k < l.length) : l.take (k + 1) = l.take k ++ [l[k]] := by simp
def inV (l : List Nat) : List Value := l.map fun (i : Nat) => Value.int .i64 (i : Int)
theorem inV_snoc (l : List Nat) (k : Nat) : inV l ++ [.int .i64 (k : Int)] = inV (l ++ [k]) := by simp [inV]
def IntL (W : World) (p : Option Addr) (l : List Nat) : Prop := l = [] ∨ ∃ b off, p = some ⟨b, off, none⟩ ∧ b < W.heap.size ∧ ∀ i (h : i < l.length), W.cell? ⟨b, off + i, none⟩ = some (.int .i64 (l[i] : Nat))
theorem intL_of_own {w : World} {base n : Nat} {v : Value} {l : List Nat} (h : w.ownsRow base 3 1 v n (inV l)) : ∃ p cap, v = .slice p l.length cap ∧ IntL w p l ∧ n = l.length := by
 have hl : l.length = n := by have := h.1; simp [inV] at this; omega
 subst hl
 rcases h.2 with ⟨rfl, h0⟩ | ⟨g, cap, cur, rfl, _, hc, hcap, _, hsz, hx⟩
 ·have : l = [] := List.eq_nil_of_length_eq_zero h0
  subst this
  exact ⟨none, 0, rfl, .inl rfl, rfl⟩
 ·have hg : g < w.heap.size := (Array.getElem?_eq_some_iff.mp hc).1
  refine ⟨_, cap, rfl, .inr ⟨g, 0, rfl, hg, fun i hi => ?_⟩, rfl⟩
  have hj2 : (cur.toList.take (l.length * 1))[i]? = some (.int .i64 ((l[i] : Nat) : Int)) := by rw [hx]; simp [inV, hi]
  rw [List.getElem?_take] at hj2
  split at hj2
  ·simp [World.cell?, hc]
   simpa using hj2
  ·cases hj2
theorem Tryz.info3 : (Tryz.prog.info? 3).map (fun i => (i.zero, i.size, i.bytes)) = some (some (.int .i64 0), 1, 8) := by kernel_rfl
theorem cs2 {W : World} {b : Nat} {t : TypeId} {fr : Nat × Nat} {v0 v1 : Value} (h : W.heap[b]? = some (.cells #[v0, v1] t fr)) : W.cell? ⟨b, 0, none⟩ = some v0 ∧ W.cell? ⟨b, 1, none⟩ = some v1 :=
 ⟨cellOf h rfl, cellOf h rfl⟩
theorem cs3 {W : World} {b : Nat} {t : TypeId} {fr : Nat × Nat} {v0 v1 v2 : Value} (h : W.heap[b]? = some (.cells #[v0, v1, v2] t fr)) : W.cell? ⟨b, 0, none⟩ = some v0 ∧ W.cell? ⟨b, 1, none⟩ = some v1 ∧ W.cell? ⟨b, 2, none⟩ = some v2 :=
 ⟨cellOf h rfl, cellOf h rfl, cellOf h rfl⟩
theorem cs4 {W : World} {b : Nat} {t : TypeId} {fr : Nat × Nat} {v0 v1 v2 v3 : Value} (h : W.heap[b]? = some (.cells #[v0, v1, v2, v3] t fr)) : W.cell? ⟨b, 0, none⟩ = some v0 ∧ W.cell? ⟨b, 1, none⟩ = some v1 ∧ W.cell? ⟨b, 2, none⟩ = some v2 ∧ W.cell? ⟨b, 3, none⟩ = some v3 :=
 ⟨cellOf h rfl, cellOf h rfl, cellOf h rfl, cellOf h rfl⟩
theorem cs5 {W : World} {b : Nat} {t : TypeId} {fr : Nat × Nat} {v0 v1 v2 v3 v4 : Value} (h : W.heap[b]? = some (.cells #[v0, v1, v2, v3, v4] t fr)) : W.cell? ⟨b, 0, none⟩ = some v0 ∧ W.cell? ⟨b, 1, none⟩ = some v1 ∧ W.cell? ⟨b, 2, none⟩ = some v2 ∧ W.cell? ⟨b, 3, none⟩ = some v3 ∧ W.cell? ⟨b, 4, none⟩ = some v4 :=
 ⟨cellOf h rfl, cellOf h rfl, cellOf h rfl, cellOf h rfl, cellOf h rfl⟩
theorem cs6 {W : World} {b : Nat} {t : TypeId} {fr : Nat × Nat} {v0 v1 v2 v3 v4 v5 : Value} (h : W.heap[b]? = some (.cells #[v0, v1, v2, v3, v4, v5] t fr)) : W.cell? ⟨b, 0, none⟩ = some v0 ∧ W.cell? ⟨b, 1, none⟩ = some v1 ∧ W.cell? ⟨b, 2, none⟩ = some v2 ∧ W.cell? ⟨b, 3, none⟩ = some v3 ∧ W.cell? ⟨b, 4, none⟩ = some v4 ∧ W.cell? ⟨b, 5, none⟩ = some v5 :=
 ⟨cellOf h rfl, cellOf h rfl, cellOf h rfl, cellOf h rfl, cellOf h rfl, cellOf h rfl⟩
theorem cs7 {W : World} {b : Nat} {t : TypeId} {fr : Nat × Nat} {v0 v1 v2 v3 v4 v5 v6 : Value} (h : W.heap[b]? = some (.cells #[v0, v1, v2, v3, v4, v5, v6] t fr)) : W.cell? ⟨b, 0, none⟩ = some v0 ∧ W.cell? ⟨b, 1, none⟩ = some v1 ∧ W.cell? ⟨b, 2, none⟩ = some v2 ∧ W.cell? ⟨b, 3, none⟩ = some v3 ∧ W.cell? ⟨b, 4, none⟩ = some v4 ∧ W.cell? ⟨b, 5, none⟩ = some v5 ∧ W.cell? ⟨b, 6, none⟩ = some v6 :=
 ⟨cellOf h rfl, cellOf h rfl, cellOf h rfl, cellOf h rfl, cellOf h rfl, cellOf h rfl, cellOf h rfl⟩
end Go.Proofs.YtmcnpaehmnadeaaGreatDoor
