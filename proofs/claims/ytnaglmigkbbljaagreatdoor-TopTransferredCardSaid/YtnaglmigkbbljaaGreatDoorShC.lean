/-
  TopTransferred: small words for the law: Few at strings of any size, what lies in the law's own blocks.
-/
import Derived.Test.YtnaglmigkbbljaaGreatDoorSgQTfB
import Derived.Test.YtnaglmigkbbljaaGreatDoorTfCShB
import Derived.Test.YtnaglmigkbbljaaGreatDoorWkG
set_option maxHeartbeats 6400000
set_option maxRecDepth 1000000
set_option linter.unusedVariables false
set_option linter.unusedSimpArgs false
namespace Go.Proofs.YtnaglmigkbbljaaGreatDoor
open Go Go.RowKit
theorem few_big (p : Option Addr) (n c : Nat) (l : List Req) (w : World) (hl : l.length = n) (hn : n ≤ 30) (h : FL encQ w p l) (hz : ∀ x ∈ l, x.op.size ≤ 9223372036854775807) : Calls Tryz.prog 5 #[.slice p n c] w (OneB (fewB l) w) := by
 have HH := Lib.hid h
 have HZ := Lib.hid hz
 clear h hz
 go_enter Tryz.func5, Tryz.ntmps5
 go_wp2_with fail
 go_loopw [3] (fun v wr => ∃ k : Nat, k ≤ n ∧ v = .int .i64 k ∧ (∀ x ∈ l.take k, x.op.size ≤ 300) ∧ wr = w) (fun v _ => n - (intOf v).toNat)
 case atStart => exact ⟨0, by omega, rfl, by simp, rfl⟩
 case round =>
  obtain ⟨k, hk, rfl, hall, rfl⟩ := hrel
  have HA := Lib.hid hall
  clear hall
  by_cases hkn : k < n
  ·obtain ⟨x, hx⟩ : ∃ x, l[k]? = some x := ⟨_, List.getElem?_eq_getElem (by omega)⟩
   obtain ⟨bb, off, rfl, hbb, hcs⟩ := HH.out.at encQ3 (by omega)
   have d2 := hcs _ _ ((flat_get encQ3 hx (j := 2) (by omega)).trans rfl)
   replace d2 : wr.cell? ⟨bb, off + k * 3 + 2, none⟩ = some (.string x.op) := d2
   have hxz := HZ.out x (List.mem_of_getElem? hx)
   have HX := Lib.hid hx
   clear hx hcs
   have e0 : (0 : Int) ≤ (k : Int) := by omega
   have e1 : (k : Int) < (n : Int) := by omega
   by_cases hs : x.op.size ≤ 300
   ·have hs1 : ¬ ((300 : Int) < (x.op.size : Int)) := by omega
    go_wp2_with fail
    go_roundw
    case rel =>
     refine ⟨k + 1, by omega, by go_num, fun y hy => ?_, by first | rfl | trivial⟩
     rw [List.take_add_one, HX.out] at hy
     rcases List.mem_append.mp hy with hy | hy
     ·exact HA.out y hy
     ·simp at hy; rw [hy]; exact hs
    case measure => simp [intOf]; omega
   ·have hs1 : (300 : Int) < (x.op.size : Int) := by omega
    have HF := Lib.hid (show fewB l = false by
     unfold fewB
     rw [Bool.eq_false_iff]
     intro h
     have := List.all_eq_true.mp h x (List.mem_of_getElem? HX.out)
     simp at this
     omega)
    go_wp2_with fail
    go_ret
    rw [HF.out]
    exact ⟨rfl, rfl⟩
  ·have HT := Lib.hid (show fewB l = true by
    unfold fewB
    rw [List.all_eq_true]
    intro x hx
    have := HA.out x (by rw [List.take_of_length_le (by omega)]; exact hx)
    simpa using this)
   have e2 : (n : Int) ≤ 30 := by omega
   go_wp2_with fail
   go_ret
   rw [HT.out]
   exact ⟨rfl, rfl⟩
theorem flS_first {L : List Ses} {x : Value} (h : (flat encS L)[0]? = some x) : ∃ n, x = .int .i64 n := by
 cases L with
 | nil => simp [flat] at h
 | cons y t => simp [flat, encS] at h; exact ⟨_, h.symm⟩
structure MK (B : Nat) (pv sv : Value) (L : List Par) (S : List Ses) (W : World) : Prop where
 m : Blk W B 29 [pv, sv]
 P : PrV W pv L
 Q : SeV W sv S
 vp : VP L
 vs : VS S
theorem MK.below {B : Nat} {pv sv : Value} {L : List Par} {S : List Ses} {W W' : World} (h : MK B pv sv L S W) (hb : Below W.heap.size W W') : MK B pv sv L S W' := ⟨h.m.below hb, h.P.below hb, h.Q.below hb, h.vp, h.vs⟩
theorem prv_set {W : World} {B j : Nat} {p q : Option Addr} {n c m d : Nat} {u v : Value} {L : List Par} (h : PrV W v L) (hB : Blk W B 29 [.slice p n c, .slice q m d]) : PrV (W.setCell ⟨B, j, none⟩ u) v L := by
 obtain ⟨p', c', rfl, hc, hf, hp⟩ := h
 refine ⟨p', c', rfl, hc, cl_set hf hB (fun z hz hm => ?_), ?_⟩
 ·obtain ⟨s, rfl⟩ := flP_first hz
  simp at hm
 ·rcases hp with h | ⟨b, off, h, hb⟩
  ·exact .inl h
  ·exact .inr ⟨b, off, h, by simpa [World.setCell] using hb⟩
theorem sev_set {W : World} {B j : Nat} {p q : Option Addr} {n c m d : Nat} {u v : Value} {L : List Ses} (h : SeV W v L) (hB : Blk W B 29 [.slice p n c, .slice q m d]) : SeV (W.setCell ⟨B, j, none⟩ u) v L := by
 obtain ⟨p', c', rfl, hc, hf, hp⟩ := h
 refine ⟨p', c', rfl, hc, cl_set hf hB (fun z hz hm => ?_), ?_⟩
 ·obtain ⟨s, rfl⟩ := flS_first hz
  simp at hm
 ·rcases hp with h | ⟨b, off, h, hb⟩
  ·exact .inl h
  ·exact .inr ⟨b, off, h, by simpa [World.setCell] using hb⟩
theorem MK.store {B : Nat} {pv sv pv' sv' : Value} {L L' : List Par} {S S' : List Ses} {W : World} (h : MK B pv sv L S W) (hP : PrV W pv' L') (hS : SeV W sv' S') (vp : VP L') (vs : VS S') : MK B pv' sv' L' S' ((W.setCell ⟨B, 0, none⟩ pv').setCell ⟨B, 1, none⟩ sv') := by
 obtain ⟨p, c, rfl, _⟩ := h.P
 obtain ⟨q, d, rfl, _⟩ := h.Q
 obtain ⟨p', c', e, _⟩ := id hP
 have hm := h.m
 have h1 : Blk (W.setCell ⟨B, 0, none⟩ pv') B 29 [pv', .slice q S.length d] := hm.set 0 pv'
 have h1' : Blk (W.setCell ⟨B, 0, none⟩ pv') B 29 [.slice p' L'.length c', .slice q S.length d] := by rw [← e]; exact h1
 exact ⟨h1.set 1 sv', prv_set (prv_set hP hm) h1', sev_set (sev_set hS hm) h1', vp, vs⟩
theorem FetL.far {W : World} {n : Nat} {cp : Option Addr} {cc : Nat} {hp : Option Addr} {hc : Nat} {cs : List ByteArray} {hv : List Bool} (h : FetL W n cp cc hp hc cs hv) {a : Addr} {u : Value} (h1 : ∀ k o, cp = some ⟨k, o, none⟩ → k ≠ a.block) (h2 : ∀ k o, hp = some ⟨k, o, none⟩ → k ≠ a.block) : FetL (W.setCell a u) n cp cc hp hc cs hv :=
 ⟨h.lc, h.lh, h.cap, h.cap2, cl_far h.cl h1, cl_far h.bl h2⟩
structure FW (D : Nat) (root : ByteArray) (N : Nat) (C : List ByteArray) (cp : Option Addr) (cc : Nat) (hp : Option Addr) (hc : Nat) (cs : List ByteArray) (hv : List Bool) (W : World) : Prop where
 blk : Blk W D 39 [.string root, .int .i64 N, .slice cp N cc, .slice hp N hc]
 fet : FetL W N cp cc hp hc cs hv
 got : Got C cs hv
theorem FW.below {D : Nat} {root : ByteArray} {N : Nat} {C : List ByteArray} {cp : Option Addr} {cc : Nat} {hp : Option Addr} {hc : Nat} {cs : List ByteArray} {hv : List Bool} {W W' : World} (h : FW D root N C cp cc hp hc cs hv W) (hb : Below W.heap.size W W') : FW D root N C cp cc hp hc cs hv W' := ⟨h.blk.below hb, h.fet.below hb, h.got⟩
def st4 (W : World) (D : Nat) (a b c d : Value) : World := (((W.setCell ⟨D, 0, none⟩ a).setCell ⟨D, 1, none⟩ b).setCell ⟨D, 2, none⟩ c).setCell ⟨D, 3, none⟩ d
theorem FW.store {D : Nat} {root : ByteArray} {N : Nat} {C : List ByteArray} {a0 a1 a2 a3 : Value} {g6 cc g7 hc : Nat} {cs : List ByteArray} {hv : List Bool} {W : World} (hb : Blk W D 39 [a0, a1, a2, a3]) (hF : FetL W N (some ⟨g6, 0, none⟩) cc (some ⟨g7, 0, none⟩) hc cs hv) (hg : Got C cs hv) (h6 : D < g6) (h7 : D < g7) :
  FW D root N C (some ⟨g6, 0, none⟩) cc (some ⟨g7, 0, none⟩) hc cs hv (st4 W D (.string root) (.int .i64 N) (.slice (some ⟨g6, 0, none⟩) N cc) (.slice (some ⟨g7, 0, none⟩) N hc)) := by
 have k6 : ∀ (j k o : Nat), (some ⟨g6, 0, none⟩ : Option Addr) = some ⟨k, o, none⟩ → k ≠ (⟨D, j, none⟩ : Addr).block := fun j k o e => by
  injection e with e; injection e with e; show k ≠ D; omega
 have k7 : ∀ (j k o : Nat), (some ⟨g7, 0, none⟩ : Option Addr) = some ⟨k, o, none⟩ → k ≠ (⟨D, j, none⟩ : Addr).block := fun j k o e => by
  injection e with e; injection e with e; show k ≠ D; omega
 exact ⟨beg_blk hb, (((hF.far (k6 0) (k7 0)).far (k6 1) (k7 1)).far (k6 2) (k7 2)).far (k6 3) (k7 3), hg⟩
theorem below_st4 {B : Nat} {a W : World} {D : Nat} {x y z t : Value} (h : Below B a W) (hD : B ≤ D) : Below B a (st4 W D x y z t) :=
 below_set (below_set (below_set (below_set h (p := ⟨D, 0, none⟩) hD _) (p := ⟨D, 1, none⟩) hD _) (p := ⟨D, 2, none⟩) hD _) (p := ⟨D, 3, none⟩) hD _
def U8L (W : World) (p : Option Addr) (l : List Nat) : Prop := CL W p (l.map fun (x : Nat) => Value.int .u8 (x : Int))
theorem U8L.at {W : World} {p : Option Addr} {l : List Nat} (h : U8L W p l) {k x : Nat} (hk : l[k]? = some x) : ∃ b off, p = some ⟨b, off, none⟩ ∧ b < W.heap.size ∧ W.cell? ⟨b, off + k, none⟩ = some (.int .u8 x) := by
 have hkl := (List.getElem?_eq_some_iff.mp hk).1
 obtain ⟨b, off, h1, h2, h3⟩ := CL.at h (j := k) (by simpa using hkl)
 refine ⟨b, off, h1, h2, ?_⟩
 rw [h3 k (by simpa using hkl), List.getElem_map, (List.getElem?_eq_some_iff.mp hk).2]
end Go.Proofs.YtnaglmigkbbljaaGreatDoor
