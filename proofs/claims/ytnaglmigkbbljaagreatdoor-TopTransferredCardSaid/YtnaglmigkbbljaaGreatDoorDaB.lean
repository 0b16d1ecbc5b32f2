/-
  TopTransferred: SHA-256, exactly: one block.
-/
import Derived.Test.YtnaglmigkbbljaaGreatDoorDaA
set_option maxHeartbeats 6400000
set_option maxRecDepth 1000000
namespace Go.Proofs.YtnaglmigkbbljaaGreatDoor
open Go Go.RowKit
def byteI (s : ByteArray) (i : Nat) : Int := if h : i < s.size then (s[i].toNat : Int) else 0
def wordE (s : ByteArray) (k : Nat) : Int :=
 bits BinOp.or IntKind.u32 (bits BinOp.or IntKind.u32 (bits BinOp.or IntKind.u32 (byteI s (4 * k) % 4294967296 * 16777216 % 4294967296) (byteI s (4 * k + 1) % 4294967296 * 65536 % 4294967296)) (byteI s (4 * k + 2) % 4294967296 * 256 % 4294967296)) (byteI s (4 * k + 3) % 4294967296)
theorem byteI_at {s : ByteArray} {i : Nat} (h : i < s.size) : (s[i].toNat : Int) = byteI s i := by rw [byteI, dif_pos h]
def w0F (s : ByteArray) : Nat → List Int
 | 0 => List.replicate 64 0
 | k + 1 => (w0F s k).set k (wordE s k)
theorem w0F_len (s : ByteArray) : ∀ k, (w0F s k).length = 64
 | 0 => by simp [w0F]
 | k + 1 => by simp [w0F, w0F_len s k]
def schedE (l : List Int) (j : Nat) : Int :=
 (at0 l j + bits BinOp.xor IntKind.u32 (bits BinOp.xor IntKind.u32 (rotE (at0 l (j + 1)) 25) (rotE (at0 l (j + 1)) 14)) (at0 l (j + 1) / 8) + at0 l (j + 9) + bits BinOp.xor IntKind.u32 (bits BinOp.xor IntKind.u32 (rotE (at0 l (j + 14)) 15) (rotE (at0 l (j + 14)) 13)) (at0 l (j + 14) / 1024)) % 4294967296
def w1F (l : List Int) : Nat → List Int
 | 0 => l
 | k + 1 => (w1F l k).set (16 + k) (schedE (w1F l k) k)
theorem w1F_len (l : List Int) : ∀ k, (w1F l k).length = l.length
 | 0 => rfl
 | k + 1 => by simp [w1F, w1F_len l k]
def schedF (s : ByteArray) : List Int := w1F (w0F s 16) 48
theorem words_made (w : World) : Words (w.alloc (.cells (u32V (List.replicate 64 0)).toArray 285)) w.heap.size 285 (List.replicate 64 0) [] := by
 have := heap_alloc_new w (.cells (u32V (List.replicate 64 0)).toArray 285)
 unfold Words
 rw [this]
 simp
theorem len8 {l : List Int} (h : l.length = 8) : ∃ a b c d e f g i, l = [a, b, c, d, e, f, g, i] := by
 match l, h with
 | [a, b, c, d, e, f, g, i], _ => exact ⟨a, b, c, d, e, f, g, i, rfl⟩
def t1E (v4 v5 v6 v7 y x : Int) : Int :=
 v7 + bits BinOp.xor IntKind.u32 (bits BinOp.xor IntKind.u32 (rotE v4 26) (rotE v4 21)) (rotE v4 7) + bits BinOp.xor IntKind.u32 (bits BinOp.and IntKind.u32 v4 v5) (bits BinOp.and IntKind.u32 (bits BinOp.xor IntKind.u32 IntKind.u32.max v4) v6) + y + x
def t2E (v0 v1 v2 : Int) : Int :=
 bits BinOp.xor IntKind.u32 (bits BinOp.xor IntKind.u32 (rotE v0 30) (rotE v0 19)) (rotE v0 10) + bits BinOp.xor IntKind.u32 (bits BinOp.xor IntKind.u32 (bits BinOp.and IntKind.u32 v0 v1) (bits BinOp.and IntKind.u32 v0 v2)) (bits BinOp.and IntKind.u32 v1 v2)
def rndE : List Int → Int → Int → List Int
 | [v0, v1, v2, v3, v4, v5, v6, v7], y, x => [(t1E v4 v5 v6 v7 y x + t2E v0 v1 v2) % 4294967296, v0, v1, v2, (v3 + t1E v4 v5 v6 v7 y x) % 4294967296, v4, v5, v6]
 | v, _, _ => v
def rndF (ws v : List Int) : Nat → List Int
 | 0 => v
 | j + 1 => rndE (rndF ws v j) (at0 constL j) (at0 ws j)
theorem rndE_len {v : List Int} (k x : Int) (h : v.length = 8) : (rndE v k x).length = 8 := by
 obtain ⟨a, b, c, d, e, f, g, i, rfl⟩ := len8 h
 rfl
theorem rndF_len (ws : List Int) {v : List Int} (h : v.length = 8) : ∀ j, (rndF ws v j).length = 8
 | 0 => h
 | j + 1 => rndE_len _ _ (rndF_len ws h j)
theorem const_at {j : Nat} (hj : j < 64) : (u32V constL).toArray[j]? = some (.int .u32 (at0 constL j)) := by
 have : constL.length = 64 := rfl
 simp [u32V, at0, this, hj]
theorem constants_ca (ca : Array Value) (h : ca = (u32V constL).toArray) (w : World) : Calls Tryz.prog 195 #[] w fun e w' => e = .returned (.agg ca) ∧ Below w.heap.size w w' := h ▸ constants_ex w
theorem idx285 (cs : Array Value) (j : Nat) (v : Int) (W : World) (hj : j < 64) (hc : cs[j]? = some (.int .u32 v)) : (Instr.index 285 (.agg cs) (.int .i64 (j:Int))).run Tryz.prog W = .ok (.int .u32 v) W := by
 have h1 : (0 : Int) ≤ (j : Int) := by omega
 simp [Instr.index, go_sem, Tryz.sizeOf238, Tryz.isAgg238, h1, hc]
 intro h
 omega
def finF (st v : List Int) : Nat → List Int
 | 0 => st
 | j + 1 => (finF st v j).set j ((at0 (finF st v j) j + at0 v j) % 4294967296)
theorem finF_len (st v : List Int) : ∀ j, (finF st v j).length = st.length
 | 0 => rfl
 | j + 1 => by simp [finF, finF_len st v j]
def blockF (st : List Int) (s : ByteArray) : List Int := finF st (rndF (schedF s) st 64) 8
theorem set8 {W : World} {V : Nat} {t : TypeId} {a0 a1 a2 a3 a4 a5 a6 a7 : Int} (h : Words W V t [a0, a1, a2, a3, a4, a5, a6, a7] []) (b0 b1 b2 b3 b4 b5 b6 b7 : Int) :
  Words ((((((((W.setCell ⟨V, 0, none⟩ (.int .u32 b0)).setCell ⟨V, 1, none⟩ (.int .u32 b1)).setCell ⟨V, 2, none⟩ (.int .u32 b2)).setCell ⟨V, 3, none⟩ (.int .u32 b3)).setCell ⟨V, 4, none⟩ (.int .u32 b4)).setCell ⟨V, 5, none⟩ (.int .u32 b5)).setCell ⟨V, 6, none⟩ (.int .u32 b6)).setCell ⟨V, 7, none⟩ (.int .u32 b7)) V t [b0, b1, b2, b3, b4, b5, b6, b7] [] :=
 (((((((h.set (j := 0) (by simp) b0).set (j := 1) (by simp) b1).set (j := 2) (by simp) b2).set (j := 3) (by simp) b3).set (j := 4) (by simp) b4).set (j := 5) (by simp) b5).set (j := 6) (by simp) b6).set (j := 7) (by simp) b7
theorem other8 {W : World} {b V : Nat} {t : TypeId} {l : List Int} {rest : List Value} (h : Words W b t l rest) (hne : b ≠ V) (b0 b1 b2 b3 b4 b5 b6 b7 : Value) :
  Words ((((((((W.setCell ⟨V, 0, none⟩ b0).setCell ⟨V, 1, none⟩ b1).setCell ⟨V, 2, none⟩ b2).setCell ⟨V, 3, none⟩ b3).setCell ⟨V, 4, none⟩ b4).setCell ⟨V, 5, none⟩ b5).setCell ⟨V, 6, none⟩ b6).setCell ⟨V, 7, none⟩ b7) b t l rest :=
 ((((((((h.other hne).other hne).other hne).other hne).other hne).other hne).other hne).other hne)
theorem below8 {B : Nat} {a W : World} {V : Nat} (h : Below B a W) (hle : B ≤ V) (b0 b1 b2 b3 b4 b5 b6 b7 : Value) :
  Below B a ((((((((W.setCell ⟨V, 0, none⟩ b0).setCell ⟨V, 1, none⟩ b1).setCell ⟨V, 2, none⟩ b2).setCell ⟨V, 3, none⟩ b3).setCell ⟨V, 4, none⟩ b4).setCell ⟨V, 5, none⟩ b5).setCell ⟨V, 6, none⟩ b6).setCell ⟨V, 7, none⟩ b7) :=
 below_set (below_set (below_set (below_set (below_set (below_set (below_set (below_set h (p := ⟨V, 0, none⟩) hle b0) (p := ⟨V, 1, none⟩) hle b1) (p := ⟨V, 2, none⟩) hle b2) (p := ⟨V, 3, none⟩) hle b3) (p := ⟨V, 4, none⟩) hle b4) (p := ⟨V, 5, none⟩) hle b5) (p := ⟨V, 6, none⟩) hle b6) (p := ⟨V, 7, none⟩) hle b7
theorem rotQ (x n : Int) (w : World) (h1 : 1 ≤ n) (h2 : n ≤ 31) : Calls Tryz.prog 194 #[.int .u32 x, .int .i64 n] w (fun e w' => e = .returned (.int .u32 (rotE x (32 - n.toNat))) ∧ w' = w) := by
 obtain ⟨m, rfl⟩ : ∃ m : Nat, n = (m : Int) := ⟨n.toNat, by omega⟩
 exact rotr_ex x m w (by omega) (by omega)
theorem rotS (x n : Int) (m : Nat) (w : World) (h1 : 1 ≤ m) (h2 : m ≤ 31) (hn : n = (m : Int)) : Calls Tryz.prog 194 #[.int .u32 x, .int .i64 n] w (fun e w' => e = .returned (.int .u32 (rotE x (32 - m))) ∧ w' = w) := by
 subst hn
 exact rotr_ex x m w h1 h2
theorem add_ex (b : Nat) (t : TypeId) (st : List Int) (rest : List Value) (s : ByteArray) (w : World) (hs : s.size = 64) (hst : st.length = 8) (h : Words w b t st rest) :
  Calls Tryz.prog 148 #[.pointer (some ⟨b, 0, none⟩), .string s] w fun e w' => (∃ v, e = .returned v) ∧ Words w' b t (blockF st s) rest ∧ w.grownBy w' (some b) := by
 obtain ⟨s0, s1, s2, s3, s4, s5, s6, s7, rfl⟩ := len8 hst
 have H := Lib.hid h
 clear h
 go_enter Tryz.func148, Tryz.ntmps148
 go_upto_region 1 with fail
 have H1 := Lib.hid (words_made w)
 have B1 := Lib.hid ((Below.refl _ w).alloc (Nat.le_refl _) (.cells (u32V (List.replicate 64 0)).toArray 285))
 change Code.wp _ _ _ _ (w.alloc (.cells (u32V (List.replicate 64 0)).toArray 285))
 generalize w.alloc (.cells (u32V (List.replicate 64 0)).toArray 285) = W1 at H1 B1 ⊢
 go_wp2_with fail
 go_loopw [17] (fun i wr => ∃ k : Nat, k ≤ 16 ∧ i = .int .i64 k ∧ Words wr w.heap.size 285 (w0F s k) [] ∧ Below w.heap.size w wr) (fun i _ => 16 - (intOf i).toNat)
 case atStart => exact ⟨0, Nat.zero_le _, rfl, H1.out, B1.out⟩
 case round =>
  obtain ⟨k, hk, rfl, hw, hb⟩ := hrel
  have HW := Lib.hid hw
  have HB := Lib.hid hb
  clear hw hb
  by_cases hkn : k < 16
  ·have hc := HW.out.cell (j := k) (by rw [w0F_len]; omega)
   have hf := HW.out.frozen k
   have e0 : (0 : Int) ≤ (k : Int) := by omega
   have e1 : (k : Int) < 16 := by omega
   have x0 : IntKind.i64.wrap (4 * (k : Int)) = 4 * (k : Int) := by simp [IntKind.wrap, IntKind.bits, IntKind.signed]; omega
   have x1 : IntKind.i64.wrap (4 * (k : Int) + 1) = 4 * (k : Int) + 1 := by simp [IntKind.wrap, IntKind.bits, IntKind.signed]; omega
   have x2 : IntKind.i64.wrap (4 * (k : Int) + 2) = 4 * (k : Int) + 2 := by simp [IntKind.wrap, IntKind.bits, IntKind.signed]; omega
   have x3 : IntKind.i64.wrap (4 * (k : Int) + 3) = 4 * (k : Int) + 3 := by simp [IntKind.wrap, IntKind.bits, IntKind.signed]; omega
   have y0 : 0 ≤ 4 * (k : Int) := by omega
   have y1 : 0 ≤ 4 * (k : Int) + 1 := by omega
   have y2 : 0 ≤ 4 * (k : Int) + 2 := by omega
   have y3 : 0 ≤ 4 * (k : Int) + 3 := by omega
   have z0 : 4 * (k : Int) < 64 := by omega
   have z1 : 4 * (k : Int) + 1 < 64 := by omega
   have z2 : 4 * (k : Int) + 2 < 64 := by omega
   have z3 : 4 * (k : Int) + 3 < 64 := by omega
   go_upto_region 4 with fail
   go_still_tail 30, (by kernel_rfl)
   go_wp2_with fail
   go_roundw
   case rel => exact ⟨k + 1, by omega, by go_num, by
    rw [byteI_at, byteI_at, byteI_at, byteI_at]
    exact (HW.out.set (by rw [w0F_len]; omega) _).drew 1, below_drewN (below_set HB.out (p := ⟨w.heap.size, k, none⟩) (Nat.le_refl _) _) 1⟩
   case measure => simp [intOf]; omega
  ·have hk16 : k = 16 := by omega
   have HW2 := Lib.hid (show Words wr w.heap.size 285 (w0F s 16) [] by have := HW.out; rwa [hk16] at this)
   have hkd : decide ((k : Int) < 16) = false := by simp; omega
   clear hk16 HW
   go_wp2_with fail
   go_loopw [6] (fun i wr => ∃ j m : Nat, m = 16 + j ∧ m ≤ 64 ∧ i = .int .i64 m ∧ Words wr w.heap.size 285 (w1F (w0F s 16) j) [] ∧ Below w.heap.size w wr) (fun i _ => 64 - (intOf i).toNat)
   case atStart => exact ⟨0, 16, rfl, by omega, rfl, HW2.out, HB.out⟩
   case round =>
    obtain ⟨j, m, hm, hm64, rfl, hw, hb⟩ := hrel
    have HW := Lib.hid hw
    have HB := Lib.hid hb
    clear hw hb
    by_cases hmn : m < 64
    ·obtain ⟨a15, h15⟩ : ∃ a : Nat, a = m - 15 := ⟨_, rfl⟩
     obtain ⟨a2, h2⟩ : ∃ a : Nat, a = m - 2 := ⟨_, rfl⟩
     obtain ⟨a16, h16⟩ : ∃ a : Nat, a = m - 16 := ⟨_, rfl⟩
     obtain ⟨a7, h7⟩ : ∃ a : Nat, a = m - 7 := ⟨_, rfl⟩
     have hlen : (w1F (w0F s 16) j).length = 64 := by rw [w1F_len, w0F_len]
     have c15 := HW.out.cell (j := a15) (by omega)
     have c2 := HW.out.cell (j := a2) (by omega)
     have c16 := HW.out.cell (j := a16) (by omega)
     have c7 := HW.out.cell (j := a7) (by omega)
     have cm := HW.out.cell (j := m) (by omega)
     have fm := HW.out.frozen m
     have x15 : IntKind.i64.wrap ((m : Int) - 15) = (a15 : Int) := by rw [IntKind.wrap_i64]; omega
     have x2 : IntKind.i64.wrap ((m : Int) - 2) = (a2 : Int) := by rw [IntKind.wrap_i64]; omega
     have x16 : IntKind.i64.wrap ((m : Int) - 16) = (a16 : Int) := by rw [IntKind.wrap_i64]; omega
     have x7 : IntKind.i64.wrap ((m : Int) - 7) = (a7 : Int) := by rw [IntKind.wrap_i64]; omega
     have y15 : (0 : Int) ≤ (a15 : Int) := by omega
     have y2 : (0 : Int) ≤ (a2 : Int) := by omega
     have y16 : (0 : Int) ≤ (a16 : Int) := by omega
     have y7 : (0 : Int) ≤ (a7 : Int) := by omega
     have ym : (0 : Int) ≤ (m : Int) := by omega
     have z15 : (a15 : Int) < 64 := by omega
     have z2 : (a2 : Int) < 64 := by omega
     have z16 : (a16 : Int) < 64 := by omega
     have z7 : (a7 : Int) < 64 := by omega
     have zm : (m : Int) < 64 := by omega
     have HHm := Lib.hid (show m = 16 + j ∧ a15 = j + 1 ∧ a2 = j + 14 ∧ a16 = j ∧ a7 = j + 9 by omega)
     clear hm h15 h2 h16 h7
     go_upto_region 9 with fail
     go_quiet (fail)
     have HW4 := Lib.hid (HW.out.drew nq)
     have HB4 := Lib.hid (below_drewN HB.out nq)
     generalize wr.drewN nq = w4 at HW4 HB4 ⊢
     go_upto_region 10 with fail
     refine wp_region_still_tail 28 (by kernel_rfl) (by kernel_rfl) ?_
     simp only [List.take_succ_cons, List.take_zero, List.drop_succ_cons, List.drop_zero]
     change wpStill _ _ (World.drew w4) (fun a' => wpList _ _ _ _ a' (World.drew w4)) _ _
     have HW5 := Lib.hid (show Words (World.drew w4) w.heap.size 285 (w1F (w0F s 16) j) [] from HW4.out.drew 1)
     have HB5 := Lib.hid (show Below w.heap.size w (World.drew w4) from below_drewN HB4.out 1)
     generalize World.drew w4 = w5 at HW5 HB5 ⊢
     clear c15 c2 c16 c7 cm fm HW4 HB4
     have c16 := HW5.out.cell (j := a16) (by omega)
     have c7 := HW5.out.cell (j := a7) (by omega)
     have cm := HW5.out.cell (j := m) (by omega)
     have fm := HW5.out.frozen m
     repeat still_step
     still_call (rotS _ 7 7 _ (by decide) (by decide) rfl)
     repeat still_step
     still_call (rotS _ 18 18 _ (by decide) (by decide) rfl)
     repeat still_step
     still_call (rotS _ 17 17 _ (by decide) (by decide) rfl)
     repeat still_step
     still_call (rotS _ 19 19 _ (by decide) (by decide) rfl)
     repeat still_step
     refine wpStill_nil ?_
     go_wp2_with fail
     go_roundw
     case rel =>
      obtain ⟨q1, q2, q3, q4, q5⟩ := HHm.out
      refine ⟨j + 1, m + 1, by omega, by omega, by go_num, ?_, below_set HB5.out (p := ⟨w.heap.size, m, none⟩) (Nat.le_refl _) _⟩
      have := HW5.out.set (j := m) (by omega) (schedE (w1F (w0F s 16) j) j)
      show Words _ _ _ ((w1F (w0F s 16) j).set (16 + j) (schedE (w1F (w0F s 16) j) j)) []
      subst q1 q2 q3 q4 q5
      exact this
     case measure => simp [intOf]; omega
    ·have HW2 := Lib.hid (show Words wr w.heap.size 285 (schedF s) [] by
      have hj : j = 48 := by omega
      have := HW.out
      rwa [hj] at this)
     have hlen : (schedF s).length = 64 := by unfold schedF; rw [w1F_len, w0F_len]
     have hm' : ¬ (m : Int) < 64 := by omega
     have HH := Lib.hid (H.out.kept HB.out)
     clear hm HW H1 B1
     obtain ⟨ws, hws⟩ : ∃ ws, ws = schedF s := ⟨_, rfl⟩
     rw [← hws] at HW2 hlen
     have HWS := Lib.hid hws
     clear hws
     have g0 : wr.cell? ⟨b, 0, none⟩ = some (.int .u32 s0) := HH.out.cell (j := 0) (by simp)
     have g1 : wr.cell? ⟨b, 1, none⟩ = some (.int .u32 s1) := HH.out.cell (j := 1) (by simp)
     have g2 : wr.cell? ⟨b, 2, none⟩ = some (.int .u32 s2) := HH.out.cell (j := 2) (by simp)
     have g3 : wr.cell? ⟨b, 3, none⟩ = some (.int .u32 s3) := HH.out.cell (j := 3) (by simp)
     have g4 : wr.cell? ⟨b, 4, none⟩ = some (.int .u32 s4) := HH.out.cell (j := 4) (by simp)
     have g5 : wr.cell? ⟨b, 5, none⟩ = some (.int .u32 s5) := HH.out.cell (j := 5) (by simp)
     have g6 : wr.cell? ⟨b, 6, none⟩ = some (.int .u32 s6) := HH.out.cell (j := 6) (by simp)
     have g7 : wr.cell? ⟨b, 7, none⟩ = some (.int .u32 s7) := HH.out.cell (j := 7) (by simp)
     go_upto_region 12 with fail
     have HV := Lib.hid (heap_alloc_new wr (.cells #[.int .u32 s0, .int .u32 s1, .int .u32 s2, .int .u32 s3, .int .u32 s4, .int .u32 s5, .int .u32 s6, .int .u32 s7] 240))
     have hbx := (Below.refl _ wr).alloc (Nat.le_refl _) (.cells #[.int .u32 s0, .int .u32 s1, .int .u32 s2, .int .u32 s3, .int .u32 s4, .int .u32 s5, .int .u32 s6, .int .u32 s7] 240)
     have HW3 := Lib.hid (HW2.out.kept hbx)
     have HB3 := Lib.hid (HB.out.trans (hbx.mono HB.out.size))
     have hVge := HB.out.size
     have hwlt := HW2.out.lt
     clear hbx HW2 HB HH g0 g1 g2 g3 g4 g5 g6 g7
     obtain ⟨V, hV⟩ : ∃ V, V = wr.heap.size := ⟨_, rfl⟩
     rw [← hV] at HV hVge hwlt ⊢
     generalize wr.alloc (.cells #[.int .u32 s0, .int .u32 s1, .int .u32 s2, .int .u32 s3, .int .u32 s4, .int .u32 s5, .int .u32 s6, .int .u32 s7] 240) = w6 at HV HW3 HB3 ⊢
     clear hV
     obtain ⟨ca, hca⟩ : ∃ ca, ca = (u32V constL).toArray := ⟨_, rfl⟩
     have HCA := Lib.hid (show ∀ j, j < 64 → ca[j]? = some (.int .u32 (at0 constL j)) from fun j hj => by rw [hca]; exact const_at hj)
     have hcs : ca.size = 64 := by rw [hca]; rfl
     have HCC := Lib.hid (constants_ca ca hca)
     clear hca
     go_upto_block 4 with (go_at_call 195; refine (HCC.out _).mono ?_; rintro e w7 ⟨rfl, hb7⟩)
     have HV7 := Lib.hid (show Words w7 V 240 [s0, s1, s2, s3, s4, s5, s6, s7] [] from (hb7.block _ (Array.getElem?_eq_some_iff.mp HV.out).1).trans HV.out)
     have HW7 := Lib.hid (HW3.out.kept hb7)
     have HB7 := Lib.hid (HB3.out.trans (hb7.mono HB3.out.size))
     clear hb7 HV HW3 HB3 HCC
     go_wp2_with fail
     go_loopw [97] (fun i wr => ∃ j : Nat, j ≤ 64 ∧ i = .int .i64 j ∧ Words wr w.heap.size 285 ws [] ∧ Words wr V 240 (rndF ws [s0, s1, s2, s3, s4, s5, s6, s7] j) [] ∧ Below w.heap.size w wr) (fun i _ => 64 - (intOf i).toNat)
     case atStart => exact ⟨0, by omega, rfl, HW7.out, HV7.out, HB7.out⟩
     case round =>
      clear HW7 HV7 HB7
      obtain ⟨j, hj, rfl, hw, hv, hb⟩ := hrel
      have HW := Lib.hid hw
      have HV := Lib.hid hv
      have HB := Lib.hid hb
      clear hw hv hb
      by_cases hjn : j < 64
      ·have hy0 : (0 : Int) ≤ (j : Int) := by omega
       have hy1 : (j : Int) < 64 := by omega
       have hidx := fun W => idx285 ca j _ W hjn (HCA.out j hjn)
       have hv8 := rndF_len ws (v := [s0, s1, s2, s3, s4, s5, s6, s7]) rfl j
       have HRN := Lib.hid (show rndF ws [s0, s1, s2, s3, s4, s5, s6, s7] (j + 1) = rndE (rndF ws [s0, s1, s2, s3, s4, s5, s6, s7] j) (at0 constL j) (at0 ws j) from rfl)
       generalize rndF ws [s0, s1, s2, s3, s4, s5, s6, s7] j = v at HV hv8 HRN
       obtain ⟨v0, v1, v2, v3, v4, v5, v6, v7, rfl⟩ := len8 hv8
       clear hv8
       have HWJ := Lib.hid (show wr.cell? ⟨w.heap.size, j, none⟩ = some (.int .u32 (at0 ws j)) from HW.out.cell (by omega))
       generalize at0 ws j = x at HRN HWJ
       generalize at0 constL j = y at HRN hidx
       go_upto_region 15 with fail
       clear hidx
       have g0 : wr.cell? ⟨V, 0, none⟩ = some (.int .u32 v0) := HV.out.cell (j := 0) (by simp); have g1 : wr.cell? ⟨V, 1, none⟩ = some (.int .u32 v1) := HV.out.cell (j := 1) (by simp); have g2 : wr.cell? ⟨V, 2, none⟩ = some (.int .u32 v2) := HV.out.cell (j := 2) (by simp); have g3 : wr.cell? ⟨V, 3, none⟩ = some (.int .u32 v3) := HV.out.cell (j := 3) (by simp); have g4 : wr.cell? ⟨V, 4, none⟩ = some (.int .u32 v4) := HV.out.cell (j := 4) (by simp); have g5 : wr.cell? ⟨V, 5, none⟩ = some (.int .u32 v5) := HV.out.cell (j := 5) (by simp); have g6 : wr.cell? ⟨V, 6, none⟩ = some (.int .u32 v6) := HV.out.cell (j := 6) (by simp); have g7 : wr.cell? ⟨V, 7, none⟩ = some (.int .u32 v7) := HV.out.cell (j := 7) (by simp)
       go_quiet (fail)
       have HV0 := HV; have HW0 := HW; have HB0 := HB; have HJ0 := HWJ
       clear HV HW HB HWJ
       have HV1 := Lib.hid (HV0.out.drew nq)
       have HW1 := Lib.hid (HW0.out.drew nq)
       have HB1 := Lib.hid (below_drewN HB0.out nq)
       have HJ1 := Lib.hid (show (wr.drewN nq).cell? ⟨w.heap.size, j, none⟩ = some (.int .u32 x) from HJ0.out)
       generalize wr.drewN nq = wY1 at HV1 HW1 HB1 HJ1 ⊢
       clear HV0 HW0 HB0 HJ0 nq
       clear g0 g1 g2 g3 g4 g5 g6 g7
       go_upto_region 16 with fail
       have g0 : wY1.cell? ⟨V, 0, none⟩ = some (.int .u32 v0) := HV1.out.cell (j := 0) (by simp); have g1 : wY1.cell? ⟨V, 1, none⟩ = some (.int .u32 v1) := HV1.out.cell (j := 1) (by simp); have g2 : wY1.cell? ⟨V, 2, none⟩ = some (.int .u32 v2) := HV1.out.cell (j := 2) (by simp); have g3 : wY1.cell? ⟨V, 3, none⟩ = some (.int .u32 v3) := HV1.out.cell (j := 3) (by simp); have g4 : wY1.cell? ⟨V, 4, none⟩ = some (.int .u32 v4) := HV1.out.cell (j := 4) (by simp); have g5 : wY1.cell? ⟨V, 5, none⟩ = some (.int .u32 v5) := HV1.out.cell (j := 5) (by simp); have g6 : wY1.cell? ⟨V, 6, none⟩ = some (.int .u32 v6) := HV1.out.cell (j := 6) (by simp); have g7 : wY1.cell? ⟨V, 7, none⟩ = some (.int .u32 v7) := HV1.out.cell (j := 7) (by simp)
       have gj := HJ1.out
       go_quiet ((go_at_call 194; refine Calls.quiet_of_same (rotQ _ _ _ (by decide) (by decide))))
       clear gj
       have HV2 := Lib.hid (HV1.out.drew nq)
       have HW2 := Lib.hid (HW1.out.drew nq)
       have HB2 := Lib.hid (below_drewN HB1.out nq)
       have HJ2 := Lib.hid (show (wY1.drewN nq).cell? ⟨w.heap.size, j, none⟩ = some (.int .u32 x) from HJ1.out)
       generalize wY1.drewN nq = wY2 at HV2 HW2 HB2 HJ2 ⊢
       clear HV1 HW1 HB1 HJ1 nq
       clear g0 g1 g2 g3 g4 g5 g6 g7
       go_upto_region 17 with fail
       have g0 : wY2.cell? ⟨V, 0, none⟩ = some (.int .u32 v0) := HV2.out.cell (j := 0) (by simp); have g1 : wY2.cell? ⟨V, 1, none⟩ = some (.int .u32 v1) := HV2.out.cell (j := 1) (by simp); have g2 : wY2.cell? ⟨V, 2, none⟩ = some (.int .u32 v2) := HV2.out.cell (j := 2) (by simp); have g3 : wY2.cell? ⟨V, 3, none⟩ = some (.int .u32 v3) := HV2.out.cell (j := 3) (by simp); have g4 : wY2.cell? ⟨V, 4, none⟩ = some (.int .u32 v4) := HV2.out.cell (j := 4) (by simp); have g5 : wY2.cell? ⟨V, 5, none⟩ = some (.int .u32 v5) := HV2.out.cell (j := 5) (by simp); have g6 : wY2.cell? ⟨V, 6, none⟩ = some (.int .u32 v6) := HV2.out.cell (j := 6) (by simp); have g7 : wY2.cell? ⟨V, 7, none⟩ = some (.int .u32 v7) := HV2.out.cell (j := 7) (by simp)
       go_quiet ((go_at_call 194; refine Calls.quiet_of_same (rotQ _ _ _ (by decide) (by decide))))
       have HV3 := Lib.hid (HV2.out.drew nq)
       have HW3 := Lib.hid (HW2.out.drew nq)
       have HB3 := Lib.hid (below_drewN HB2.out nq)
       have HJ3 := Lib.hid (show (wY2.drewN nq).cell? ⟨w.heap.size, j, none⟩ = some (.int .u32 x) from HJ2.out)
       generalize wY2.drewN nq = wY3 at HV3 HW3 HB3 HJ3 ⊢
       clear HV2 HW2 HB2 HJ2 nq
       clear g0 g1 g2 g3 g4 g5 g6 g7
       have g0 : wY3.cell? ⟨V, 0, none⟩ = some (.int .u32 v0) := HV3.out.cell (j := 0) (by simp); have g1 : wY3.cell? ⟨V, 1, none⟩ = some (.int .u32 v1) := HV3.out.cell (j := 1) (by simp); have g2 : wY3.cell? ⟨V, 2, none⟩ = some (.int .u32 v2) := HV3.out.cell (j := 2) (by simp); have g3 : wY3.cell? ⟨V, 3, none⟩ = some (.int .u32 v3) := HV3.out.cell (j := 3) (by simp); have g4 : wY3.cell? ⟨V, 4, none⟩ = some (.int .u32 v4) := HV3.out.cell (j := 4) (by simp); have g5 : wY3.cell? ⟨V, 5, none⟩ = some (.int .u32 v5) := HV3.out.cell (j := 5) (by simp); have g6 : wY3.cell? ⟨V, 6, none⟩ = some (.int .u32 v6) := HV3.out.cell (j := 6) (by simp); have g7 : wY3.cell? ⟨V, 7, none⟩ = some (.int .u32 v7) := HV3.out.cell (j := 7) (by simp)
       have hVne : w.heap.size ≠ V := by omega
       have f0 := HV3.out.frozen 0; have f1 := HV3.out.frozen 1; have f2 := HV3.out.frozen 2; have f3 := HV3.out.frozen 3; have f4 := HV3.out.frozen 4; have f5 := HV3.out.frozen 5; have f6 := HV3.out.frozen 6; have f7 := HV3.out.frozen 7
       go_wp2_with fail
       go_roundw
       case rel =>
        exact ⟨j + 1, by omega, by go_num, other8 HW3.out hVne _ _ _ _ _ _ _ _, by rw [HRN.out]; exact set8 HV3.out _ _ _ _ _ _ _ _, below8 HB3.out hVge _ _ _ _ _ _ _ _⟩
       case measure => simp [intOf]; omega
      ·have hj64 : j = 64 := by omega
       have HV2 := Lib.hid (show Words wr V 240 (rndF ws [s0, s1, s2, s3, s4, s5, s6, s7] 64) [] by have := HV.out; rwa [hj64] at this)
       have hv8 := rndF_len ws (v := [s0, s1, s2, s3, s4, s5, s6, s7]) rfl 64
       obtain ⟨v, hve⟩ : ∃ v, v = rndF ws [s0, s1, s2, s3, s4, s5, s6, s7] 64 := ⟨_, rfl⟩
       rw [← hve] at HV2 hv8
       have HVE := Lib.hid (show v = rndF (schedF s) [s0, s1, s2, s3, s4, s5, s6, s7] 64 by rw [hve, HWS.out])
       clear hve
       have hjd : decide ((j : Int) < 64) = false := by simp; omega
       have HST := Lib.hid (H.out.kept HB.out)
       have HG := Lib.hid (show w.grownBy wr (some b) from ⟨HB.out.os, HB.out.tape, HB.out.output, HB.out.size, fun i hi _ => HB.out.block i hi⟩)
       have hblt := H.out.lt
       clear HV hj64 hjn HB HW HCA
       go_wp2_with fail
       go_loopw [178] (fun i wr => ∃ j : Nat, j ≤ 8 ∧ i = .int .i64 j ∧ Words wr V 240 v [] ∧ Words wr b t (finF [s0, s1, s2, s3, s4, s5, s6, s7] v j) rest ∧ w.grownBy wr (some b)) (fun i _ => 8 - (intOf i).toNat)
       case atStart => exact ⟨0, by omega, rfl, HV2.out, HST.out, HG.out⟩
       case round =>
        clear HV2 HST HG
        obtain ⟨j, hj, rfl, hv, hst, hg⟩ := hrel
        have HV := Lib.hid hv
        have HST := Lib.hid hst
        have HG := Lib.hid hg
        clear hv hst hg
        by_cases hjn : j < 8
        ·have hy0 : (0 : Int) ≤ (j : Int) := by omega
         have hy1 : (j : Int) < 8 := by omega
         have hlen := finF_len [s0, s1, s2, s3, s4, s5, s6, s7] v j
         have HSN := Lib.hid (show finF [s0, s1, s2, s3, s4, s5, s6, s7] v (j + 1) = (finF [s0, s1, s2, s3, s4, s5, s6, s7] v j).set j ((at0 (finF [s0, s1, s2, s3, s4, s5, s6, s7] v j) j + at0 v j) % 4294967296) from rfl)
         generalize finF [s0, s1, s2, s3, s4, s5, s6, s7] v j = q at HST HSN hlen
         have hlen : q.length = 8 := hlen
         go_upto_region 23 with fail
         refine wp_region_still_tail 10 (by kernel_rfl) (by kernel_rfl) ?_
         simp only [List.take_succ_cons, List.take_zero, List.drop_succ_cons, List.drop_zero]
         change wpStill _ _ (World.drew wr) (fun a' => wpList _ _ _ _ a' (World.drew wr)) _ _
         have HV5 := Lib.hid (show Words (World.drew wr) V 240 v [] from HV.out.drew 1)
         have HST5 := Lib.hid (show Words (World.drew wr) b t q rest from HST.out.drew 1)
         have HG5 := Lib.hid (show w.grownBy (World.drew wr) (some b) from ⟨HG.out.os, HG.out.tape, HG.out.output, HG.out.size, HG.out.block⟩)
         generalize World.drew wr = w5 at HV5 HST5 HG5 ⊢
         clear HV HST HG
         have hc1 := HV5.out.cell (j := j) (by omega)
         have hc2 := HST5.out.cell (j := j) (by omega)
         have hf := HST5.out.frozen j
         repeat still_step
         refine wpStill_nil ?_
         go_wp2_with fail
         go_roundw
         case rel =>
          refine ⟨j + 1, by omega, by go_num, HV5.out.other (by omega), ?_, ?_⟩
          ·rw [HSN.out]
           exact HST5.out.set (j := j) (by omega) _
          ·exact ⟨HG5.out.os, HG5.out.tape, HG5.out.output, by simpa [World.setCell] using HG5.out.size, fun i hi hne => (Below.heap_setCell w5 ⟨b, j, none⟩ _ i (by rintro rfl; exact hne rfl)).trans (HG5.out.block i hi hne)⟩
         case measure => simp [intOf]; omega
        ·have hj8 : j = 8 := by omega
         have HE := Lib.hid (show Words wr b t (blockF [s0, s1, s2, s3, s4, s5, s6, s7] s) rest by
          have := HST.out
          rw [hj8, HVE.out] at this
          exact this)
         clear HST
         go_wp2_with fail
         go_end0
         exact ⟨⟨_, rfl⟩, HE.out, HG.out⟩
end Go.Proofs.YtnaglmigkbbljaaGreatDoor
