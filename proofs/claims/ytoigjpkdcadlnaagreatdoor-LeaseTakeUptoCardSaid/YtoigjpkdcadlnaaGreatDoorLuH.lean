/-
  LeaseTake: message.Valid: the fields that are present.
-/
import Derived.Test.YtoigjpkdcadlnaaGreatDoorLuFG
namespace Go.Proofs.YtoigjpkdcadlnaaGreatDoor
open Go Go.RowKit

theorem boxP {m : Msg} {w W : World} (h : Box w W m.cells) : W.cell? ⟨w.heap.size, 3, none⟩ = some (.int .i64 m.view) ∧ W.cell? ⟨w.heap.size, 4, none⟩ = some (.int .i64 m.slot) ∧ W.cell? ⟨w.heap.size, 5, none⟩ = some (.string m.value) ∧ W.cell? ⟨w.heap.size, 6, none⟩ = some (.int .i64 m.untl) ∧ W.cell? ⟨w.heap.size, 7, none⟩ = some (.int .i64 m.g0) ∧ W.cell? ⟨w.heap.size, 8, none⟩ = some (.int .i64 m.g1) ∧ W.cell? ⟨w.heap.size, 9, none⟩ = some (.int .i64 m.g2) ∧ W.cell? ⟨w.heap.size, 10, none⟩ = some (.int .i64 m.g3) ∧ W.cell? ⟨w.heap.size, 11, none⟩ = some (.string m.gd) ∧ W.cell? ⟨w.heap.size, 12, none⟩ = some (.string m.gs) ∧ W.cell? ⟨w.heap.size, 13, none⟩ = some (.slice m.stP m.stN m.stC) ∧ W.cell? ⟨w.heap.size, 14, none⟩ = some (.slice m.enP m.enN m.enC) ∧ W.cell? ⟨w.heap.size, 15, none⟩ = some (.int .i64 m.sl) ∧ W.cell? ⟨w.heap.size, 16, none⟩ = some (.string m.rt) ∧ W.cell? ⟨w.heap.size, 17, none⟩ = some (.slice m.ckP m.ckN m.ckC) ∧ W.cell? ⟨w.heap.size, 18, none⟩ = some (.slice m.pfP m.pfN m.pfC) ∧ W.cell? ⟨w.heap.size, 19, none⟩ = some (.slice m.hnP m.hnN m.hnC) ∧ W.cell? ⟨w.heap.size, 20, none⟩ = some (.slice m.txP m.txN m.txC) ∧ Box w W m.cells :=
  ⟨h.2 3 _ rfl, h.2 4 _ rfl, h.2 5 _ rfl, h.2 6 _ rfl, h.2 7 _ rfl, h.2 8 _ rfl, h.2 9 _ rfl, h.2 10 _ rfl, h.2 11 _ rfl, h.2 12 _ rfl, h.2 13 _ rfl, h.2 14 _ rfl, h.2 15 _ rfl, h.2 16 _ rfl, h.2 17 _ rfl, h.2 18 _ rfl, h.2 19 _ rfl, h.2 20 _ rfl, h⟩

def presL (m : Msg) : List Bool := [m.view != 0, m.slot != 0, m.untl != 0, !m.value.toList.isEmpty, !sgZ m.g0 m.g1 m.g2 m.g3 m.gd.data.toList m.gs.data.toList, decide (0 < m.stN), decide (0 < m.enN), !emptyB m.sl m.rt (m.ckN + m.pfN + m.hnN), decide (0 < m.txN)]
def pb (m : Msg) (i : Nat) : Bool := (presL m).getD i false
/-- the bits of the fields that have been looked at -/
def PBits (m : Msg) (k o : Nat) : Prop := o < 2 ^ k ∧ ∀ j, j < 9 → o.testBit j = (decide (j < k) && pb m j)

def PresRet (m : Msg) (w : World) (e : Ending) (w' : World) : Prop := ∃ o : Nat, e = .returned (.int .i64 (o : Int)) ∧ PBits m 9 o ∧ Below w.heap.size w w'

theorem ofInt_i64 (a : Nat) (ha : a < 9223372036854775808) : (BitVec.ofInt 64 (a : Int)).toNat = a := by
  rw [BitVec.ofInt_natCast, BitVec.toNat_ofNat]; exact Nat.mod_eq_of_lt (by omega)
theorem or_nat (a b : Nat) (ha : a < 9223372036854775808) (hb : b < 9223372036854775808) : bits .or .i64 (a : Int) (b : Int) = ((a ||| b : Nat) : Int) := by
  have hx : a ||| b < 2 ^ 63 := Nat.or_lt_two_pow (by omega) (by omega)
  show IntKind.i64.wrap ((BitVec.ofInt 64 (a : Int) ||| BitVec.ofInt 64 (b : Int)).toNat : Int) = _
  rw [BitVec.toNat_or, ofInt_i64 a ha, ofInt_i64 b hb, IntKind.wrap_i64]
  omega
theorem pbits_f {m : Msg} {k o : Nat} (h : PBits m k o) (hb : pb m k = false) : PBits m (k + 1) o := by
  refine ⟨Nat.lt_of_lt_of_le h.1 (Nat.pow_le_pow_right (by omega) (by omega)), fun j hj => ?_⟩
  rw [h.2 j hj]
  by_cases e : j = k
  · subst e; simp [hb]
  · have : decide (j < k) = decide (j < k + 1) := by congr 1; simp only [eq_iff_iff]; omega
    rw [this]
theorem pbits_t {m : Msg} {k o : Nat} (h : PBits m k o) (hb : pb m k = true) : PBits m (k + 1) (o ||| 2 ^ k) := by
  refine ⟨Nat.or_lt_two_pow (Nat.lt_of_lt_of_le h.1 (Nat.pow_le_pow_right (by omega) (by omega))) (Nat.pow_lt_pow_right (by omega) (by omega)), fun j hj => ?_⟩
  rw [Nat.testBit_or, h.2 j hj, Nat.testBit_two_pow]
  by_cases e : j = k
  · subst e; simp [hb]
  · have h1 : decide (j < k) = decide (j < k + 1) := by congr 1; simp only [eq_iff_iff]; omega
    have h2 : decide (k = j) = false := by simp; omega
    rw [h1, h2, Bool.or_false]

theorem bBox {b : Bool} {w W : World} {cs : List Value} {f : FuncId} {args : Array Value} (hb : Box w W cs) (h : Calls Tryz.prog f args W (BRet b W)) : Calls Tryz.prog f args W fun e w' => e = .returned (.bool b) ∧ Box w w' cs :=
  h.mono fun _ _ ⟨h1, h2⟩ => ⟨h1, hb.below h2⟩

set_option maxHeartbeats 6400000 in
set_option maxRecDepth 1000000 in
theorem present_any (m : Msg) (w : World) (hm : m.Ok w) : Calls Tryz.prog 53 #[.agg #[.int .i64 m.kind, .int .i64 m.frm, .int .i64 m.dst, .int .i64 m.view, .int .i64 m.slot, .string m.value, .int .i64 m.untl, .int .i64 m.g0, .int .i64 m.g1, .int .i64 m.g2, .int .i64 m.g3, .string m.gd, .string m.gs, .slice m.stP m.stN m.stC, .slice m.enP m.enN m.enC, .int .i64 m.sl, .string m.rt, .slice m.ckP m.ckN m.ckC, .slice m.pfP m.pfN m.pfC, .slice m.hnP m.hnN m.hnC, .slice m.txP m.txN m.txC]] w (PresRet m w) := by
  have hB0 : Box w (w.alloc (.cells #[.int .i64 m.kind, .int .i64 m.frm, .int .i64 m.dst, .int .i64 m.view, .int .i64 m.slot, .string m.value, .int .i64 m.untl, .int .i64 m.g0, .int .i64 m.g1, .int .i64 m.g2, .int .i64 m.g3, .string m.gd, .string m.gs, .slice m.stP m.stN m.stC, .slice m.enP m.enN m.enC, .int .i64 m.sl, .string m.rt, .slice m.ckP m.ckN m.ckC, .slice m.pfP m.pfN m.pfC, .slice m.hnP m.hnN m.hnC, .slice m.txP m.txN m.txC] 37)) m.cells := Box.first w m.cells 37
  have HM := Lib.hid hm
  have hneq := neq28 m.g0 m.g1 m.g2 m.g3 m.gd m.gs
  clear hm
  go_enter Tryz.func53, Tryz.ntmps53
  go_wp2
  revert hB0
  generalize w.alloc _ = W1
  intro hB0
  go_region_held3 (fun W => W.cell? ⟨w.heap.size, 3, none⟩ = some (.int .i64 m.view) ∧ W.cell? ⟨w.heap.size, 4, none⟩ = some (.int .i64 m.slot) ∧ W.cell? ⟨w.heap.size, 5, none⟩ = some (.string m.value) ∧ W.cell? ⟨w.heap.size, 6, none⟩ = some (.int .i64 m.untl) ∧ W.cell? ⟨w.heap.size, 7, none⟩ = some (.int .i64 m.g0) ∧ W.cell? ⟨w.heap.size, 8, none⟩ = some (.int .i64 m.g1) ∧ W.cell? ⟨w.heap.size, 9, none⟩ = some (.int .i64 m.g2) ∧ W.cell? ⟨w.heap.size, 10, none⟩ = some (.int .i64 m.g3) ∧ W.cell? ⟨w.heap.size, 11, none⟩ = some (.string m.gd) ∧ W.cell? ⟨w.heap.size, 12, none⟩ = some (.string m.gs) ∧ W.cell? ⟨w.heap.size, 13, none⟩ = some (.slice m.stP m.stN m.stC) ∧ W.cell? ⟨w.heap.size, 14, none⟩ = some (.slice m.enP m.enN m.enC) ∧ W.cell? ⟨w.heap.size, 15, none⟩ = some (.int .i64 m.sl) ∧ W.cell? ⟨w.heap.size, 16, none⟩ = some (.string m.rt) ∧ W.cell? ⟨w.heap.size, 17, none⟩ = some (.slice m.ckP m.ckN m.ckC) ∧ W.cell? ⟨w.heap.size, 18, none⟩ = some (.slice m.pfP m.pfN m.pfC) ∧ W.cell? ⟨w.heap.size, 19, none⟩ = some (.slice m.hnP m.hnN m.hnC) ∧ W.cell? ⟨w.heap.size, 20, none⟩ = some (.slice m.txP m.txN m.txC) ∧ Box w W m.cells)
    (first | exact boxP hB0 | exact boxP hB0.drew | exact boxP hB2 | exact boxP (hB2.alloc _) | exact boxP hB2.drew)
    (first
      | (go_at_call 96; (with_reducible refine (bBox (by first | exact hB0 | exact hB0.drew) (empty_any _ _ _ _ _ _ _ _ _ _ _ HM.out.ckH HM.out.pfH HM.out.hnH _)).mono ?_); rintro e w2 ⟨rfl, hB2⟩))
  go_wp2
  obtain ⟨W3, hW3⟩ : ∃ W3, W3 = w2.alloc (.cells #[.bool (m.view != 0), .bool (m.slot != 0), .bool (m.untl != 0), .bool (!m.value.toList.isEmpty), .bool (!sgZ m.g0 m.g1 m.g2 m.g3 m.gd.data.toList m.gs.data.toList), .bool (decide (0 < m.stN)), .bool (decide (0 < m.enN)), .bool (!emptyB m.sl m.rt (m.ckN + m.pfN + m.hnN)), .bool (decide (0 < m.txN))] 4) := ⟨_, rfl⟩
  have hcs : ∀ i, i < 9 → W3.cell? ⟨w2.heap.size, i, none⟩ = some (.bool (pb m i)) := fun i hi => by
    rw [hW3]
    match i, hi with
    | 0, _ => simp [pb, presL]
    | 1, _ => simp [pb, presL]
    | 2, _ => simp [pb, presL]
    | 3, _ => simp [pb, presL]
    | 4, _ => simp [pb, presL]
    | 5, _ => simp [pb, presL]
    | 6, _ => simp [pb, presL]
    | 7, _ => simp [pb, presL]
    | 8, _ => simp [pb, presL]
  have hB3 : Box w W3 m.cells := by rw [hW3]; exact hB2.alloc _
  rw [← hW3]
  have HCS := Lib.hid hcs
  clear hcs hW3
  generalize w2.heap.size = blk at HCS ⊢
  go_loop [3, 40] (fun x i => ∃ (k o : Nat), k ≤ 9 ∧ i = .int .i64 k ∧ x = .int .i64 o ∧ PBits m k o) (fun _ i => 9 - (intOf i).toNat)
  case atStart => exact ⟨0, 0, by omega, rfl, rfl, by omega, fun j _ => by simp⟩
  case round =>
    obtain ⟨k, o, hk, rfl, rfl, hP⟩ := hrel
    by_cases hkn : k < 9
    · have hk9 : k = 0 ∨ k = 1 ∨ k = 2 ∨ k = 3 ∨ k = 4 ∨ k = 5 ∨ k = 6 ∨ k = 7 ∨ k = 8 := by omega
      rcases hk9 with rfl | rfl | rfl | rfl | rfl | rfl | rfl | rfl | rfl
      · have hc := HCS.out 0 (by omega)
        go_wp2
        · have hb : pb m 0 = true := by assumption
          go_round
          case rel => exact ⟨1, o ||| 1, by omega, rfl, congrArg (Value.int .i64) (or_nat o 1 (by have := hP.1; omega) (by omega)), pbits_t (k := 0) hP hb⟩
          case measure => simp [intOf]
        · have hb : pb m 0 = false := by assumption
          go_round
          case rel => exact ⟨1, o, by omega, rfl, rfl, pbits_f (k := 0) hP hb⟩
          case measure => simp [intOf]
      · have hc := HCS.out 1 (by omega)
        go_wp2
        · have hb : pb m 1 = true := by assumption
          go_round
          case rel => exact ⟨2, o ||| 2, by omega, rfl, congrArg (Value.int .i64) (or_nat o 2 (by have := hP.1; omega) (by omega)), pbits_t (k := 1) hP hb⟩
          case measure => simp [intOf]
        · have hb : pb m 1 = false := by assumption
          go_round
          case rel => exact ⟨2, o, by omega, rfl, rfl, pbits_f (k := 1) hP hb⟩
          case measure => simp [intOf]
      · have hc := HCS.out 2 (by omega)
        go_wp2
        · have hb : pb m 2 = true := by assumption
          go_round
          case rel => exact ⟨3, o ||| 4, by omega, rfl, congrArg (Value.int .i64) (or_nat o 4 (by have := hP.1; omega) (by omega)), pbits_t (k := 2) hP hb⟩
          case measure => simp [intOf]
        · have hb : pb m 2 = false := by assumption
          go_round
          case rel => exact ⟨3, o, by omega, rfl, rfl, pbits_f (k := 2) hP hb⟩
          case measure => simp [intOf]
      · have hc := HCS.out 3 (by omega)
        go_wp2
        · have hb : pb m 3 = true := by assumption
          go_round
          case rel => exact ⟨4, o ||| 8, by omega, rfl, congrArg (Value.int .i64) (or_nat o 8 (by have := hP.1; omega) (by omega)), pbits_t (k := 3) hP hb⟩
          case measure => simp [intOf]
        · have hb : pb m 3 = false := by assumption
          go_round
          case rel => exact ⟨4, o, by omega, rfl, rfl, pbits_f (k := 3) hP hb⟩
          case measure => simp [intOf]
      · have hc := HCS.out 4 (by omega)
        go_wp2
        · have hb : pb m 4 = true := by assumption
          go_round
          case rel => exact ⟨5, o ||| 16, by omega, rfl, congrArg (Value.int .i64) (or_nat o 16 (by have := hP.1; omega) (by omega)), pbits_t (k := 4) hP hb⟩
          case measure => simp [intOf]
        · have hb : pb m 4 = false := by assumption
          go_round
          case rel => exact ⟨5, o, by omega, rfl, rfl, pbits_f (k := 4) hP hb⟩
          case measure => simp [intOf]
      · have hc := HCS.out 5 (by omega)
        go_wp2
        · have hb : pb m 5 = true := by assumption
          go_round
          case rel => exact ⟨6, o ||| 32, by omega, rfl, congrArg (Value.int .i64) (or_nat o 32 (by have := hP.1; omega) (by omega)), pbits_t (k := 5) hP hb⟩
          case measure => simp [intOf]
        · have hb : pb m 5 = false := by assumption
          go_round
          case rel => exact ⟨6, o, by omega, rfl, rfl, pbits_f (k := 5) hP hb⟩
          case measure => simp [intOf]
      · have hc := HCS.out 6 (by omega)
        go_wp2
        · have hb : pb m 6 = true := by assumption
          go_round
          case rel => exact ⟨7, o ||| 64, by omega, rfl, congrArg (Value.int .i64) (or_nat o 64 (by have := hP.1; omega) (by omega)), pbits_t (k := 6) hP hb⟩
          case measure => simp [intOf]
        · have hb : pb m 6 = false := by assumption
          go_round
          case rel => exact ⟨7, o, by omega, rfl, rfl, pbits_f (k := 6) hP hb⟩
          case measure => simp [intOf]
      · have hc := HCS.out 7 (by omega)
        go_wp2
        · have hb : pb m 7 = true := by assumption
          go_round
          case rel => exact ⟨8, o ||| 128, by omega, rfl, congrArg (Value.int .i64) (or_nat o 128 (by have := hP.1; omega) (by omega)), pbits_t (k := 7) hP hb⟩
          case measure => simp [intOf]
        · have hb : pb m 7 = false := by assumption
          go_round
          case rel => exact ⟨8, o, by omega, rfl, rfl, pbits_f (k := 7) hP hb⟩
          case measure => simp [intOf]
      · have hc := HCS.out 8 (by omega)
        go_wp2
        · have hb : pb m 8 = true := by assumption
          go_round
          case rel => exact ⟨9, o ||| 256, by omega, rfl, congrArg (Value.int .i64) (or_nat o 256 (by have := hP.1; omega) (by omega)), pbits_t (k := 8) hP hb⟩
          case measure => simp [intOf]
        · have hb : pb m 8 = false := by assumption
          go_round
          case rel => exact ⟨9, o, by omega, rfl, rfl, pbits_f (k := 8) hP hb⟩
          case measure => simp [intOf]
    · obtain rfl : k = 9 := by omega
      go_wp2
      go_ret
      exact ⟨o, rfl, hP, hB3.1.1⟩
end Go.Proofs.YtoigjpkdcadlnaaGreatDoor
