/-
  LeaseTake: message.Valid's checker: statuses.
-/
import Derived.Test.YtoigjpkdcadlnaaGreatDoorLuABC
namespace Go.Proofs.YtoigjpkdcadlnaaGreatDoor
open Go Go.RowKit

theorem sgn1 {W : World} {C : Nat} {a b c d : Int} {x y : ByteArray} (ha : I64 a) (hb : I64 b) (hc : I64 c) (hd : I64 d) (hx : x.size ≤ 1048576) (hy : y.size ≤ 1048576) (hC : C ≠ W.heap.size) (t : TypeId) :
    SgnsA (W.alloc (.cells #[.int .i64 a, .int .i64 b, .int .i64 c, .int .i64 d, .string x, .string y] t)) C (some ⟨W.heap.size, 0, none⟩) 1 := by
  refine .inr ⟨W.heap.size, 0, rfl, by have := World.size_alloc W (.cells #[.int .i64 a, .int .i64 b, .int .i64 c, .int .i64 d, .string x, .string y] t); omega, hC.symm, fun i hi => ?_⟩
  obtain rfl : i = 0 := by omega
  exact ⟨a, b, c, d, x, y, ha, hb, hc, hd, hx, hy, by simp, by simp, by simp, by simp, by simp, by simp⟩

theorem box_only {X w2 : World} {C N : Nat} {cs : Array Value} {t : TypeId} (h : (X.alloc (.cells cs t)).grownBy w2 (some C)) (hN : X.heap.size = N) (hC : C ≠ N) (j : Nat) (u : Value) (hj : cs[j]? = some u) : w2.cell? ⟨N, j, none⟩ = some u := by
  subst hN
  have hh : (X.alloc (.cells cs t)).heap[X.heap.size]? = some (.cells cs t) := Array.getElem?_push_size
  have hs := World.size_alloc X (.cells cs t)
  rw [only_cell h (by show X.heap.size < _; omega) (fun e => hC e.symm)]
  unfold World.cell?
  simp only [hh]
  simpa using hj

set_option maxHeartbeats 6400000 in
set_option maxRecDepth 1000000 in
theorem status_any (C n cap : Nat) (v0 v1 v2 v3 e0 e1 e2 e3 : Int) (x y z : ByteArray) (a : Option Addr) (p q : Bool) (w : World) (hn : n ≤ 1048576) (hC : Chk C p q w) (h : SgnsA w C a n)
    (i0 : I64 e0) (i1 : I64 e1) (i2 : I64 e2) (i3 : I64 e3) (hy : y.size ≤ 1048576) (hz : z.size ≤ 1048576) :
    Calls Tryz.prog 55 #[.pointer (some ⟨C, 0, none⟩), .agg #[.int .i64 v0, .int .i64 v1, .int .i64 v2, .int .i64 v3, .string x, .slice a n cap, .int .i64 e0, .int .i64 e1, .int .i64 e2, .int .i64 e3, .string y, .string z]] w (ChkRet C w) := by
  have H := Lib.hid h
  have k0 := hC.c0
  have g0 := hC.f0
  have k1 := hC.c1
  have g1 := hC.f1
  have hlt := hC.lt
  have hneC : C ≠ w.heap.size := by omega
  have HC := Lib.hid hC
  clear h hC
  go_enter Tryz.func55, Tryz.ntmps55
  go_wp2_with (first
    | (go_at_call 52; refine (number_any _ _).mono ?_; rintro e w1 ⟨rfl, rfl⟩)
    | (go_at_call 97; refine (cert_any C n cap a _ _ _ hn (((HC.out.set0 _).set1 _).alloc _) (H.out.only (only_alloc (two_set _ _) _))).mono ?_; rintro e w2 ⟨p2, q2, rfl, hC2, hG2⟩; have t0 : w2.cell? ⟨w.heap.size, 6, none⟩ = some (.int .i64 e0) := box_only hG2 (by simp) hneC 6 _ rfl; have t1 : w2.cell? ⟨w.heap.size, 7, none⟩ = some (.int .i64 e1) := box_only hG2 (by simp) hneC 7 _ rfl; have t2 : w2.cell? ⟨w.heap.size, 8, none⟩ = some (.int .i64 e2) := box_only hG2 (by simp) hneC 8 _ rfl; have t3 : w2.cell? ⟨w.heap.size, 9, none⟩ = some (.int .i64 e3) := box_only hG2 (by simp) hneC 9 _ rfl; have t4 : w2.cell? ⟨w.heap.size, 10, none⟩ = some (.string y) := box_only hG2 (by simp) hneC 10 _ rfl; have t5 : w2.cell? ⟨w.heap.size, 11, none⟩ = some (.string z) := box_only hG2 (by simp) hneC 11 _ rfl; have hlt2 := hC2.lt; have hneC2 : C ≠ w2.heap.size := (by omega))
    | (go_at_call 54; refine (signed_any C 1 _ _ _ _ _ (by omega) (hC2.alloc _) (sgn1 i0 i1 i2 i3 hy hz (by have := hC2.lt; omega) _)).mono ?_; rintro e w3 ⟨p3, q3, rfl, hC3, hG3⟩))
  all_goals
    go_end0
    exact ⟨p3, q3, rfl, hC3, only_trans (only_alloc (two_set _ _) _) (only_trans hG2 (only_trans (only_alloc (only_refl _ _) _) hG3))⟩
end Go.Proofs.YtoigjpkdcadlnaaGreatDoor
