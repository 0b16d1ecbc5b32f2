/-
  TopTransferred: SHA-256, exactly: a new hash; a string written to it.
-/
import Derived.Test.YtnaglmigkbbljaaGreatDoorDcA
set_option maxHeartbeats 6400000
set_option maxRecDepth 1000000
namespace Go.Proofs.YtnaglmigkbbljaaGreatDoor
open Go Go.RowKit
def HashAt (W : World) (b : Nat) (st : List Int) (r : ByteArray) (n : Int) : Prop := Words W b 243 st [.string r, .int .u64 n]
def restSize (W : World) (b : Nat) : Nat := match W.cell? ⟨b, 8, none⟩ with | some (.string s) => s.size | _ => 0
theorem HashAt.cell8 {W : World} {b : Nat} {st : List Int} {r : ByteArray} {n : Int} (h : HashAt W b st r n) (hst : st.length = 8) : W.cell? ⟨b, 8, none⟩ = some (.string r) := by
 obtain ⟨s0, s1, s2, s3, s4, s5, s6, s7, rfl⟩ := len8 hst
 exact cellOf h rfl
theorem HashAt.cell9 {W : World} {b : Nat} {st : List Int} {r : ByteArray} {n : Int} (h : HashAt W b st r n) (hst : st.length = 8) : W.cell? ⟨b, 9, none⟩ = some (.int .u64 n) := by
 obtain ⟨s0, s1, s2, s3, s4, s5, s6, s7, rfl⟩ := len8 hst
 exact cellOf h rfl
theorem HashAt.frozen {W : World} {b : Nat} {st : List Int} {r : ByteArray} {n : Int} (h : HashAt W b st r n) (j : Nat) : W.frozen? ⟨b, j, none⟩ = false := frozenOf h
theorem HashAt.lt {W : World} {b : Nat} {st : List Int} {r : ByteArray} {n : Int} (h : HashAt W b st r n) : b < W.heap.size := Words.lt h
theorem HashAt.rest {W : World} {b : Nat} {st : List Int} {r : ByteArray} {n : Int} (h : HashAt W b st r n) (hst : st.length = 8) : restSize W b = r.size := by
 unfold restSize
 rw [h.cell8 hst]
theorem HashAt.set {W : World} {b : Nat} {st : List Int} {r : ByteArray} {n : Int} (h : HashAt W b st r n) (hst : st.length = 8) (t : ByteArray) : HashAt (W.setCell ⟨b, 8, none⟩ (.string t)) b st t n := by
 obtain ⟨s0, s1, s2, s3, s4, s5, s6, s7, rfl⟩ := len8 hst
 unfold HashAt Words at *
 unfold World.setCell
 simp [Array.getElem?_modify, h, u32V]
theorem new_ex (w : World) : Calls Tryz.prog 98 #[] w fun e w' => ∃ b, e = .returned (.pointer (some ⟨b, 0, none⟩)) ∧ w.heap.size ≤ b ∧ HashAt w' b startL ByteArray.empty 0 ∧ Below w.heap.size w w' := by
 go_enter Tryz.func98, Tryz.ntmps98
 go_wp2_with (go_at_call 147; refine (start_ex _).mono ?_; rintro e w1 ⟨rfl, hb1⟩)
 go_ret
 refine ⟨w1.heap.size, rfl, hb1.size, ?_, hb1.trans (((Below.refl _ w1).alloc (Nat.le_refl _) _).mono hb1.size)⟩
 unfold HashAt Words
 rw [heap_alloc_new]
 rfl
def rF (t : ByteArray) : Nat → ByteArray
 | 0 => t
 | k + 1 => (rF t k).extract 64 (rF t k).size
def stF (st : List Int) (t : ByteArray) : Nat → List Int
 | 0 => st
 | k + 1 => blockF (stF st t k) ((rF t k).extract 0 64)
theorem rF_size (t : ByteArray) : ∀ k, 64 * k ≤ t.size → (rF t k).size = t.size - 64 * k
 | 0, _ => by simp [rF]
 | k + 1, h => by
  have := rF_size t k (by omega)
  simp only [rF, ByteArray.size_extract]
  omega
theorem stF_len {st : List Int} (t : ByteArray) (h : st.length = 8) : ∀ k, (stF st t k).length = 8
 | 0 => h
 | k + 1 => by simp only [stF, blockF]; rw [finF_len, stF_len t h k]
def Wrote (W : World) (b : Nat) (st : List Int) (t : ByteArray) (n : Int) : Prop := HashAt W b (stF st t (t.size / 64)) (rF t (t.size / 64)) n
theorem hbl {q : List Int} (R : ByteArray) (h : q.length = 8) : (blockF q (R.extract 0 64)).length = 8 := by unfold blockF; rw [finF_len, h]
theorem grown_both {w a b : World} {k : Nat} (h : w.grownBy a (some k)) (g : a.grownBy b (some k)) : w.grownBy b (some k) :=
 ⟨g.os.trans h.os, g.tape.trans h.tape, g.output.trans h.output, Nat.le_trans h.size g.size, fun i hi hne => (g.block i (by have := h.size; omega) hne).trans (h.block i hi hne)⟩
theorem grown_set {w a : World} {k j : Nat} (h : w.grownBy a (some k)) (v : Value) : w.grownBy (a.setCell ⟨k, j, none⟩ v) (some k) :=
 ⟨h.os, h.tape, h.output, by simpa [World.setCell] using h.size, fun i hi hne => (Below.heap_setCell _ ⟨k, j, none⟩ _ i (by rintro rfl; exact hne rfl)).trans (h.block i hi hne)⟩
theorem write_ex (b : Nat) (st : List Int) (r s : ByteArray) (n : Int) (w : World) (hst : st.length = 8) (h : HashAt w b st r n) (hn : 0 ≤ n ∧ n ≤ 1048576) (hr : r.size ≤ 1048576) (hs : s.size ≤ 1048576) :
  Calls Tryz.prog 99 #[.pointer (some ⟨b, 0, none⟩), .string s] w fun e w' => (∃ v, e = .returned v) ∧ Wrote w' b st (r ++ s) (n + s.size) ∧ w.grownBy w' (some b) := by
 obtain ⟨s0, s1, s2, s3, s4, s5, s6, s7, rfl⟩ := len8 hst
 have h8 : w.cell? ⟨b, 8, none⟩ = some (.string r) := cellOf h rfl
 have h9 : w.cell? ⟨b, 9, none⟩ = some (.int .u64 n) := cellOf h rfl
 have hf8 := h.frozen 8
 have hf9 := h.frozen 9
 have hn0 := hn.1
 have hn1 := hn.2
 have H := Lib.hid h
 clear h hn
 go_enter Tryz.func99, Tryz.ntmps99
 go_upto_block 0 with fail
 obtain ⟨T, hT⟩ : ∃ T, T = r ++ s := ⟨_, rfl⟩
 have hTs : T.size ≤ 2097152 := by rw [hT, ByteArray.size_append]; omega
 have H1 := Lib.hid (show HashAt ((w.setCell ⟨b, 9, none⟩ (.int .u64 (n + s.size))).setCell ⟨b, 8, none⟩ (.string T)) b [s0, s1, s2, s3, s4, s5, s6, s7] T (n + s.size) from by
  have := H.out
  unfold HashAt Words at *
  unfold World.setCell
  simp [Array.getElem?_modify, this, u32V])
 have G1 := Lib.hid (show w.grownBy ((w.setCell ⟨b, 9, none⟩ (.int .u64 (n + s.size))).setCell ⟨b, 8, none⟩ (.string T)) (some b) from
  ⟨rfl, rfl, rfl, by simp [World.setCell], fun i hi hne => (Below.heap_setCell _ ⟨b, 8, none⟩ _ i (by rintro rfl; exact hne rfl)).trans (Below.heap_setCell _ ⟨b, 9, none⟩ _ i (by rintro rfl; exact hne rfl))⟩)
 rw [← hT]
 have HT := Lib.hid hT
 clear hT h8 h9 hf8 hf9 H
 generalize (w.setCell ⟨b, 9, none⟩ (.int .u64 (n + s.size))).setCell ⟨b, 8, none⟩ (.string T) = w1 at H1 G1 ⊢
 go_wp2_with fail
 go_loopw [] (fun wr => ∃ k : Nat, 64 * k ≤ T.size ∧ HashAt wr b (stF [s0, s1, s2, s3, s4, s5, s6, s7] T k) (rF T k) (n + s.size) ∧ w.grownBy wr (some b)) (fun wr => restSize wr b)
 case atStart => exact ⟨0, by omega, H1.out, G1.out⟩
 case round =>
  obtain ⟨k, hk, hh, hg⟩ := hrel
  have hstl := stF_len (st := [s0, s1, s2, s3, s4, s5, s6, s7]) T rfl k
  have hrs := rF_size T k hk
  have HSN := Lib.hid (show stF [s0, s1, s2, s3, s4, s5, s6, s7] T (k + 1) = blockF (stF [s0, s1, s2, s3, s4, s5, s6, s7] T k) ((rF T k).extract 0 64) from rfl)
  have HRN := Lib.hid (show rF T (k + 1) = (rF T k).extract 64 (rF T k).size from rfl)
  have HH := Lib.hid hh
  have HG := Lib.hid hg
  have hrest := hh.rest hstl
  have h8 := hh.cell8 hstl
  have hf8 := hh.frozen 8
  have HDone := Lib.hid (show ¬ 64 ≤ (rF T k).size → Wrote wr b [s0, s1, s2, s3, s4, s5, s6, s7] T (n + s.size) from fun hlt => by
   unfold Wrote
   have e : T.size / 64 = k := by omega
   rw [e]; exact HH.out)
  clear hh hg
  generalize hq : stF [s0, s1, s2, s3, s4, s5, s6, s7] T k = q at HH hstl HSN
  clear hq
  generalize hR : rF T k = R at HH hrs HSN HRN hrest h8 HDone
  clear hR
  have HRS := Lib.hid hrs
  clear hrs
  by_cases hl : 64 ≤ R.size
  ·have e0 : (64 : Int) ≤ (R.size : Int) := by omega
   go_upto_region 3 with fail
   refine wp_region_still_tail 8 (by kernel_rfl) (by kernel_rfl) ?_
   simp only [List.take_succ_cons, List.take_zero, List.drop_succ_cons, List.drop_zero]
   change wpStill _ _ (World.drew wr) (fun a' => wpList _ _ _ _ a' (World.drew wr)) _ _
   have HH5 := Lib.hid (show HashAt (World.drew wr) b q R (n + s.size) from HH.out)
   have HG5 := Lib.hid (show w.grownBy (World.drew wr) (some b) from ⟨HG.out.os, HG.out.tape, HG.out.output, HG.out.size, HG.out.block⟩)
   have h8 : (World.drew wr).cell? ⟨b, 8, none⟩ = some (.string R) := h8
   have hblt := HH.out.lt
   clear HH HG hf8
   generalize World.drew wr = w5 at HH5 HG5 h8 ⊢
   repeat still_step
   refine wpStill_nil ?_
   go_wp2_with (go_at_call 148; refine (add_ex b 243 q _ (R.extract 0 64) _ (by rw [ByteArray.size_extract]; omega) hstl HH5.out).mono ?_; rintro e w6 ⟨⟨v, rfl⟩, hW, hg6⟩; have HW6 := Lib.hid (show HashAt w6 b (blockF q (R.extract 0 64)) R (n + s.size) from hW); have HG6 := Lib.hid (grown_both HG5.out hg6); have h8 := HW6.out.cell8 (hbl R hstl); have hf8 := HW6.out.frozen 8; clear hW hg6 HG5 HH5)
   go_roundw
   case rel =>
    refine ⟨k + 1, by have := HRS.out; omega, ?_, grown_set HG6.out _⟩
    rw [HSN.out, HRN.out]
    exact HW6.out.set (hbl R hstl) _
   case measure =>
    rw [hrest, HashAt.rest (HW6.out.set (hbl R hstl) _) (hbl R hstl), ByteArray.size_extract]
    have := HRS.out
    omega
  ·have e0 : ¬ (64 : Int) ≤ (R.size : Int) := by omega
   go_wp2_with fail
   go_end0
   exact ⟨⟨_, rfl⟩, HT.out ▸ HDone.out hl, HG.out⟩
end Go.Proofs.YtnaglmigkbbljaaGreatDoor
