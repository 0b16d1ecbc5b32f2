/-
  TopTransferred: SHA-256, exactly: the sum.
-/
import Derived.Test.YtnaglmigkbbljaaGreatDoorDcB
set_option maxHeartbeats 6400000
set_option maxRecDepth 1000000
namespace Go.Proofs.YtnaglmigkbbljaaGreatDoor
open Go Go.RowKit
theorem Tryz.info5 : (Tryz.prog.info? 5).map (fun i => (i.zero, i.size, i.bytes)) = some (some (.int .u8 0), 1, 1) := by kernel_rfl
theorem Tryz.info106 : (Tryz.prog.info? 106).map (·.size) = some 32 := by kernel_rfl
def padN (m : Nat) : Nat := (120 - m % 64) % 64
theorem HashAt.below {W W' : World} {b : Nat} {st : List Int} {r : ByteArray} {n : Int} (h : HashAt W b st r n) (hb : Below W.heap.size W W') : HashAt W' b st r n := Words.kept h hb
def u8I (l : List Int) : List Value := l.map fun i => Value.int .u8 i
def endA (r : ByteArray) : List UInt8 := (r ++ ⟨#[128]⟩ : ByteArray).data.toList
structure SumW (w : World) (b : Nat) (st : List Int) (r : ByteArray) (n : Int) (W : World) : Prop where
 hash : HashAt W b st r n
 res : W.heap[w.heap.size]? = some (.cells (u8I (List.replicate 32 0)).toArray 106 (0, 0))
 bl : Below w.heap.size w W
theorem SumW.below {w W W' : World} {b : Nat} {st : List Int} {r : ByteArray} {n : Int} (h : SumW w b st r n W) (hb : Below W.heap.size W W') : SumW w b st r n W' :=
 ⟨h.hash.below hb, (hb.block _ (Array.getElem?_eq_some_iff.mp h.res).1).trans h.res, h.bl.trans (hb.mono h.bl.size)⟩
def lenI (n : Int) (k : Nat) : Int := 8 * n / 2 ^ (56 - 8 * k) % 256
def lenL (n : Int) (k : Nat) : List UInt8 := (List.range k).map fun k => UInt8.ofNat (lenI n k).toNat
theorem lenL_snoc (n : Int) (k : Nat) : u8V (lenL n (k + 1)) = u8V (lenL n k) ++ [.int .u8 (lenI n k)] := by
 have h0 : 0 ≤ lenI n k := Int.emod_nonneg _ (by decide)
 have h1 : lenI n k < 256 := Int.emod_lt_of_pos _ (by decide)
 simp [lenL, List.range_succ, u8V]
 omega
theorem u8V_append (a b : List UInt8) : u8V (a ++ b) = u8V a ++ u8V b := by simp [u8V]
theorem OwnM.grown {w W : World} {base : Nat} {e : TypeId} {g n cap : Nat} {xs : List Value} {row : Option Nat} (h : OwnM w base e (.slice (some ⟨g, 0, none⟩) n cap) n xs) (hg : w.grownBy W row) (hne : some g ≠ row) : OwnM W base e (.slice (some ⟨g, 0, none⟩) n cap) n xs := by
 obtain ⟨h1, g', cap', cur, fz, h2, h3, h4, h5⟩ := h
 injection h2 with h2 _ h6
 injection h2 with h2
 injection h2 with h2
 subst h2 h6
 exact ⟨h1, g, cap, cur, fz, rfl, h3, (hg.block g (Array.getElem?_eq_some_iff.mp h4).1 hne).trans h4, h5⟩
def partS (E : List UInt8) (a n : Nat) : ByteArray := ⟨((E.drop a).take n).toArray⟩
theorem partS_size {E : List UInt8} {a n : Nat} (h : a + n ≤ E.length) : (partS E a n).size = n := by
 show ((E.drop a).take n).toArray.size = n
 simp
 omega
def Bytes (W : World) (b : Nat) (l : List Int) : Prop := W.heap[b]? = some (.cells (u8I l).toArray 106 (0, 0))
theorem u8I_set (l : List Int) (j : Nat) (x : Int) : u8I (l.set j x) = (u8I l).set j (.int .u8 x) := by simp [u8I, List.map_set]
theorem Bytes.cell {W : World} {b : Nat} {l : List Int} (h : Bytes W b l) {j : Nat} (hj : j < l.length) : W.cell? ⟨b, j, none⟩ = some (.int .u8 (at0 l j)) := by
 refine cellOf h ?_
 simp [u8I, at0, hj]
theorem Bytes.frozen {W : World} {b : Nat} {l : List Int} (h : Bytes W b l) (j : Nat) : W.frozen? ⟨b, j, none⟩ = false := frozenOf h
theorem Bytes.set {W : World} {b : Nat} {l : List Int} (h : Bytes W b l) (j : Nat) (x : Int) : Bytes (W.setCell ⟨b, j, none⟩ (.int .u8 x)) b (l.set j x) := by
 unfold Bytes at *
 unfold World.setCell
 simp only [Array.getElem?_modify, h, if_true, Option.map_some]
 rw [u8I_set]
 simp
def outF (f : List Int) : Nat → List Int
 | 0 => List.replicate 32 0
 | k + 1 => (outF f k).set k (at0 f (k / 4) / 2 ^ (24 - 8 * (k % 4)) % 256)
theorem outF_len (f : List Int) : ∀ k, (outF f k).length = 32
 | 0 => by simp [outF]
 | k + 1 => by simp [outF, outF_len f k]
theorem conv_part {w : World} {base g n cap : Nat} {E : List UInt8} (h : OwnM w base 5 (.slice (some ⟨g, 0, none⟩) n cap) n (u8V E)) (a m c : Nat) (hm : a + m ≤ n) :
  Sem.run Tryz.prog (convert 23 9 (.slice (some ⟨g, a, none⟩) m c)) w = .ok (.string (partS E a m)) w := by
 have hl : E.length = n := by have := h.1; simpa [u8V] using this
 have hc : ∀ j (hj : j < ((E.drop a).take m).length), w.cell? ((⟨g, a, none⟩ : Addr).add j) = some (.int .u8 (((E.drop a).take m)[j].toNat : Int)) := fun j hj => by
  obtain ⟨g', cap', h2, _, _, _, h6⟩ := h.cell
  injection h2 with h2 _ _
  injection h2 with h2
  injection h2 with h2
  subst h2
  have hadd : (⟨g, a, none⟩ : Addr).add j = ⟨g, a + j, none⟩ := by unfold Addr.add; split <;> simp_all
  rw [hadd]
  have hj' : j < m ∧ j < E.length - a := by
   have : j < min m (E.length - a) := by simpa using hj
   omega
  refine h6 (a + j) _ ?_
  simp [u8V]
  exact ⟨E[a + j]'(by omega), by simp [show a + j < E.length by omega], rfl⟩
 have := run_convert_bytes_back (P := Tryz.prog) w 23 9 5 ⟨g, a, none⟩ c ((E.drop a).take m) Tryz.underlying23 Tryz.underlying5 Tryz.underlying9 hc
 rw [show ((E.drop a).take m).length = m by simp; omega] at this
 exact this
def fsF (st : List Int) (E : List UInt8) : Nat → List Int
 | 0 => st
 | q + 1 => blockF (fsF st E q) (partS E (64 * q) 64)
theorem fsF_len {st : List Int} (E : List UInt8) (h : st.length = 8) : ∀ q, (fsF st E q).length = 8
 | 0 => h
 | q + 1 => by simp only [fsF, blockF]; rw [finF_len, fsF_len E h q]
theorem SumW.grown {w W W' : World} {b : Nat} {st : List Int} {r : ByteArray} {n : Int} {row : Option Nat} {B : Nat} (h : SumW w b st r n W) (hg : W.grownBy W' row) (hr : ∀ k, row = some k → B ≤ k) (hb : b < B) (hB : w.heap.size < B) : SumW w b st r n W' := by
 have hk : ∀ k, k < B → k < W.heap.size → W'.heap[k]? = W.heap[k]? := fun k h1 h2 => hg.block k h2 fun e => by have := hr k e.symm; omega
 refine ⟨(hk b hb h.hash.lt).trans h.hash, (hk _ hB (Array.getElem?_eq_some_iff.mp h.res).1).trans h.res, ⟨hg.os.trans h.bl.os, hg.tape.trans h.bl.tape, hg.output.trans h.bl.output, Nat.le_trans h.bl.size hg.size, fun i hi => (hk i (by omega) (by have := h.bl.size; omega)).trans (h.bl.block i hi)⟩⟩
theorem u8V_snoc (l : List UInt8) (x : UInt8) : u8V (l ++ [x]) = u8V l ++ [.int .u8 (x.toNat : Int)] := by simp [u8V]
theorem one_new (W : World) (t : TypeId) (x : Value) : ∀ j u, [x][j]? = some u → (W.alloc (.cells #[x] t)).cell? ((⟨W.heap.size, 0, none⟩ : Addr).add j) = some u := fun j u hj => by
 match j, hj with
 | 0, hj =>
  simp at hj
  subst hj
  exact cellOf (heap_alloc_new W _) rfl
def lenOfV : Value → Nat
 | .slice _ n _ => n
 | _ => 0
def finE (r : ByteArray) (n : Int) : List UInt8 := endA r ++ List.replicate (padN (endA r).length) 0 ++ lenL n 8
def sumF (st : List Int) (r : ByteArray) (n : Int) : List Int := outF (fsF st (finE r n) ((finE r n).length / 64)) 32
def SumRet (l : List Int) (w : World) (e : Ending) (w' : World) : Prop := e = .returned (.agg (u8I l).toArray) ∧ Below w.heap.size w w'
theorem sum_ex (b : Nat) (st : List Int) (r : ByteArray) (n : Int) (w : World) (hst : st.length = 8) (h : HashAt w b st r n) (hn : 0 ≤ n ∧ n ≤ 1048576) (hr : r.size ≤ 1048576) :
  Calls Tryz.prog 100 #[.pointer (some ⟨b, 0, none⟩)] w (SumRet (sumF st r n) w) := by
 obtain ⟨i0, hi, hz0, hz1, hz2⟩ := info_parts Tryz.info5
 have h8 := h.cell8 hst
 have kc := fun (W : World) (s : ByteArray) => run_bytes_of_string W 9 23 5 s Tryz.underlying9 Tryz.underlying23 Tryz.underlying5
 have H := Lib.hid h
 clear h
 go_enter Tryz.func100, Tryz.ntmps100
 go_upto_region 1 with fail
 have hb1 := (Below.refl _ w).alloc (Nat.le_refl _) (.cells (u8I (List.replicate 32 0)).toArray 106)
 have H1 := Lib.hid (H.out.below hb1)
 have HR := Lib.hid (show (w.alloc (.cells (u8I (List.replicate 32 0)).toArray 106)).heap[w.heap.size]? = some (.cells (u8I (List.replicate 32 0)).toArray 106 (0, 0)) from heap_alloc_new w _)
 change Code.wp _ _ _ _ (w.alloc (.cells (u8I (List.replicate 32 0)).toArray 106))
 have B1 := Lib.hid hb1
 clear hb1 h8
 generalize w.alloc (.cells (u8I (List.replicate 32 0)).toArray 106) = w1 at H1 HR B1 ⊢
 have h8 := H1.out.cell8 hst
 go_upto_block 0 with fail
 obtain ⟨B, hB⟩ : ∃ B, B = w1.heap.size := ⟨_, rfl⟩
 have hBw : B ≤ w1.heap.size := by omega
 have hBb : b < B := by have := H1.out.lt; omega
 have hBr : w.heap.size < B := by have := (Array.getElem?_eq_some_iff.mp HR.out).1; omega
 clear hB
 have hc1 := grownCap_ge w1 (r.size + 1) 0 5
 have hc2 := grownCap_le_maxLen w1 (r.size + 1) 0 5 (by unfold maxLen; omega)
 generalize grownCap w1 (r.size + 1) 0 5 = cp at hc1 hc2 ⊢
 have hTs : (r ++ ⟨#[128]⟩ : ByteArray).size = r.size + 1 := by rw [ByteArray.size_append]; rfl
 have HO := Lib.hid (show OwnM (w1.alloc (.cells (bytesRow (r ++ ⟨#[128]⟩) cp) 5 ((bytesRow (r ++ ⟨#[128]⟩) cp).size, (bytesRow (r ++ ⟨#[128]⟩) cp).size + 1))).drew B 5 (.slice (some ⟨w1.heap.size, 0, none⟩) (r.size + 1) cp) (r.size + 1) (u8V (endA r)) by
  have := own_of_string w1 B (r ++ ⟨#[128]⟩) cp hBw (by omega) hc2
  rw [hTs] at this
  exact this.below (below_drew _))
 have hb2 : Below w1.heap.size w1 (w1.alloc (.cells (bytesRow (r ++ ⟨#[128]⟩) cp) 5 ((bytesRow (r ++ ⟨#[128]⟩) cp).size, (bytesRow (r ++ ⟨#[128]⟩) cp).size + 1))).drew := below_drewN ((Below.refl _ w1).alloc (Nat.le_refl _) _) 1
 have HF := Lib.hid (SumW.mk (H1.out.below hb2) ((hb2.block _ (Array.getElem?_eq_some_iff.mp HR.out).1).trans HR.out) (B1.out.trans (hb2.mono B1.out.size)))
 have hB2 : B ≤ (w1.alloc (.cells (bytesRow (r ++ ⟨#[128]⟩) cp) 5 ((bytesRow (r ++ ⟨#[128]⟩) cp).size, (bytesRow (r ++ ⟨#[128]⟩) cp).size + 1))).drew.heap.size := by have := hb2.size; omega
 clear hb2 h8 H1 HR B1
 generalize (w1.alloc (.cells (bytesRow (r ++ ⟨#[128]⟩) cp) 5 ((bytesRow (r ++ ⟨#[128]⟩) cp).size, (bytesRow (r ++ ⟨#[128]⟩) cp).size + 1))).drew = w2 at HO HF hB2 ⊢
 have hea : (endA r).length = r.size + 1 := hTs
 obtain ⟨l, hle⟩ : ∃ l, l = endA r := ⟨_, rfl⟩
 rw [← hle] at HO hea
 have HLE := Lib.hid hle
 clear hle
 obtain ⟨m, hm⟩ : ∃ m, m = r.size + 1 := ⟨_, rfl⟩
 rw [← hm] at hea HO ⊢
 have hmle : m ≤ 1048577 := by omega
 clear hm hTs
 go_wp2_with fail
 go_loopw [3] (fun v wr => ∃ j : Nat, j ≤ padN m ∧ OwnM wr B 5 v (m + j) (u8V (l ++ List.replicate j 0)) ∧ SumW w b st r n wr ∧ B ≤ wr.heap.size) (fun v _ => m + padN m - lenOfV v)
 case atStart => exact ⟨0, by omega, by simpa using HO.out, HF.out, hB2⟩
 case round =>
  obtain ⟨j, hj, ho, hf, hBr2⟩ := hrel
  have HO := Lib.hid ho
  have HF := Lib.hid hf
  clear ho hf
  obtain ⟨g, cap, rfl, hg1, hg2, hg3, _⟩ := HO.out.cell
  by_cases hjn : j < padN m
  ·have e1 : ¬ ((m + j : Nat) : Int) % 64 = 56 := by unfold padN at hjn; omega
   go_wp2_with (at_builtin; refine wpList_append_ownM _ rfl _ _ 23 rfl B 5 i0 (.int .u8 0) Tryz.underlying23 hi hz0 hz1 hz2 rfl _ _ _ rfl (HO.out.below ((Below.refl _ _).alloc (Nat.le_refl _) _)) ⟨wr.heap.size, 0, none⟩ 1 1 [.int .u8 0] rfl rfl ?c1 ?c2 ?c3 ?c4 ?_)
   case c1 => exact one_new _ _ _
   case c2 => intro u hu; simp at hu; subst hu; rfl
   case c3 => unfold padN at hj; omega
   case c4 => simp; omega
   ·intro v' w5 hO5 hg5
    have hb5 := (World.grownBy_alloc wr (.cells #[.int .u8 0] 5) (some g)).trans hg5
    have HF5 := Lib.hid (HF.out.grown hb5 (fun k hk => by injection hk with hk; omega) hBb hBr)
    have HO5 := Lib.hid (show OwnM w5 B 5 v' (m + (j + 1)) (u8V (l ++ List.replicate (j + 1) 0)) by
     rw [List.replicate_succ', ← List.append_assoc, u8V_snoc]
     exact hO5)
    have hs5 := hb5.size
    obtain ⟨g', cap', rfl, _⟩ := HO5.out.cell
    clear hO5 hg5 hb5 HO HF
    go_wp2_with fail
    go_roundw
    case rel => exact ⟨j + 1, by omega, HO5.out, HF5.out, by omega⟩
    case measure => simp [lenOfV]; omega
  ·obtain ⟨L, hL⟩ : ∃ L, L = l ++ List.replicate j 0 := ⟨_, rfl⟩
   obtain ⟨M, hM⟩ : ∃ M, M = m + j := ⟨_, rfl⟩
   have hjp : j = padN m := by omega
   have hm64 : M % 64 = 56 := by unfold padN at hjp; omega
   have hLl : L.length = M := by rw [hL, List.length_append, List.length_replicate, hea, hM]
   have hMs : M ≤ 1048700 := by unfold padN at hjp; omega
   have HL := Lib.hid (show L = l ++ List.replicate (padN m) 0 by rw [hL, hjp])
   rw [← hL, ← hM] at HO
   rw [← hM] at hg3 ⊢
   have e2 : (m : Int) + (j : Int) = (M : Int) := by omega
   have e1 : (M : Int) % 64 = 56 := by omega
   clear hL hM hjp hj hjn
   go_wp2_with fail
   clear e1 e2
   go_loopw [3, 22] (fun v i wr => ∃ k : Nat, k ≤ 8 ∧ i = .int .i64 k ∧ OwnM wr B 5 v (M + k) (u8V (L ++ lenL n k)) ∧ SumW w b st r n wr ∧ B ≤ wr.heap.size) (fun _ i _ => 8 - (intOf i).toNat)
   case atStart => exact ⟨0, by omega, rfl, by simpa [lenL] using HO.out, HF.out, hBr2⟩
   case round =>
    clear HO HF hg1 hg2 hg3
    obtain ⟨k, hk, rfl, ho, hf, hBr3⟩ := hrel
    have HO := Lib.hid ho
    have HF := Lib.hid hf
    clear ho hf
    obtain ⟨g, cap, rfl, hg1, hg2, hg3, _⟩ := HO.out.cell
    by_cases hkn : k < 8
    ·have x0 : IntKind.i64.wrap (8 * (k : Int)) = 8 * (k : Int) := by rw [IntKind.wrap_i64]; omega
     have x1 : IntKind.i64.wrap (56 - 8 * (k : Int)) = 56 - 8 * (k : Int) := by rw [IntKind.wrap_i64]; omega
     have hkz : (k : Int) < 8 := by omega
     have hn0 := hn.1
     have hn1 := hn.2
     have h9 := HF.out.hash.cell9 hst
     go_wp2_with (at_builtin; refine wpList_append_ownM _ rfl _ _ 23 rfl B 5 i0 (.int .u8 0) Tryz.underlying23 hi hz0 hz1 hz2 rfl _ _ _ rfl (HO.out.below ((Below.refl _ _).alloc (Nat.le_refl _) _)) ⟨wr.heap.size, 0, none⟩ 1 1 [.int .u8 (lenI n k)] rfl rfl ?c1 ?c2 ?c3 ?c4 ?_)
     case c1 => exact one_new _ _ _
     case c2 => intro u hu; simp at hu; subst hu; rfl
     case c3 => omega
     case c4 => simp; omega
     ·intro v' w5 hO5 hg5
      have hb5 := (World.grownBy_alloc wr (.cells #[.int .u8 (lenI n k)] 5) (some g)).trans hg5
      have HF5 := Lib.hid (HF.out.grown hb5 (fun k hk => by injection hk with hk; omega) hBb hBr)
      have HO5 := Lib.hid (show OwnM w5 B 5 v' (M + (k + 1)) (u8V (L ++ lenL n (k + 1))) by
       rw [u8V_append, lenL_snoc, ← List.append_assoc, ← u8V_append]
       exact hO5)
      have hs5 := hb5.size
      obtain ⟨g', cap', rfl, _⟩ := HO5.out.cell
      clear hO5 hg5 hb5 HO HF h9
      go_wp2_with fail
      go_roundw
      case rel => exact ⟨k + 1, by omega, by go_num, HO5.out, HF5.out, by omega⟩
      case measure => simp [intOf]; omega
    ·obtain ⟨E, hE⟩ : ∃ E, E = L ++ lenL n k := ⟨_, rfl⟩
     have hk8 : k = 8 := by omega
     have HE := Lib.hid (show E = L ++ lenL n 8 by rw [hE, hk8])
     obtain ⟨N, hN⟩ : ∃ N, N = M + k := ⟨_, rfl⟩
     rw [← hE, ← hN] at HO
     rw [← hN] at hg3 ⊢
     have hN64 : N % 64 = 0 := by omega
     have hEl : E.length = N := by have := HO.out.1; simpa [u8V] using this
     have hNs : N ≤ 1048800 := by omega
     have hkd : decide ((k : Int) < 8) = false := by simp; omega
     clear hE hN hk8 hk
     obtain ⟨s0, s1, s2, s3, s4, s5, s6, s7, rfl⟩ := len8 hst
     have g0 : wr.cell? ⟨b, 0, none⟩ = some (.int .u32 s0) := Words.cell HF.out.hash (j := 0) (by simp); have g1 : wr.cell? ⟨b, 1, none⟩ = some (.int .u32 s1) := Words.cell HF.out.hash (j := 1) (by simp); have g2 : wr.cell? ⟨b, 2, none⟩ = some (.int .u32 s2) := Words.cell HF.out.hash (j := 2) (by simp); have g3 : wr.cell? ⟨b, 3, none⟩ = some (.int .u32 s3) := Words.cell HF.out.hash (j := 3) (by simp); have g4 : wr.cell? ⟨b, 4, none⟩ = some (.int .u32 s4) := Words.cell HF.out.hash (j := 4) (by simp); have g5 : wr.cell? ⟨b, 5, none⟩ = some (.int .u32 s5) := Words.cell HF.out.hash (j := 5) (by simp); have g6 : wr.cell? ⟨b, 6, none⟩ = some (.int .u32 s6) := Words.cell HF.out.hash (j := 6) (by simp); have g7 : wr.cell? ⟨b, 7, none⟩ = some (.int .u32 s7) := Words.cell HF.out.hash (j := 7) (by simp)
     go_upto_region 10 with fail
     have hb6 := (Below.refl _ wr).alloc (Nat.le_refl _) (.cells (u32V [s0, s1, s2, s3, s4, s5, s6, s7]).toArray 240)
     have HX := Lib.hid (show Words (wr.alloc (.cells (u32V [s0, s1, s2, s3, s4, s5, s6, s7]).toArray 240)) wr.heap.size 240 [s0, s1, s2, s3, s4, s5, s6, s7] [] from by have := heap_alloc_new wr (.cells (u32V [s0, s1, s2, s3, s4, s5, s6, s7]).toArray 240); unfold Words; rw [this]; rfl)
     have HO6 := Lib.hid (HO.out.below hb6)
     have HF6 := Lib.hid (HF.out.below hb6)
     change Code.wp _ _ _ _ (wr.alloc (.cells (u32V [s0, s1, s2, s3, s4, s5, s6, s7]).toArray 240))
     obtain ⟨X, hX⟩ : ∃ X, X = wr.heap.size := ⟨_, rfl⟩
     have hXB : B ≤ X := by omega
     have hXg : X ≠ g := by omega
     have hX6 : X < (wr.alloc (.cells (u32V [s0, s1, s2, s3, s4, s5, s6, s7]).toArray 240)).heap.size := by simp; omega
     rw [← hX] at HX ⊢
     generalize wr.alloc (.cells (u32V [s0, s1, s2, s3, s4, s5, s6, s7]).toArray 240) = w6 at HX HO6 HF6 hX6 ⊢
     clear hb6 HO HF hX g0 g1 g2 g3 g4 g5 g6 g7 hg1 hg2 hBr3
     go_wp2_with fail
     go_loopw [6] (fun i wr => ∃ q a : Nat, a = 64 * q ∧ a ≤ N ∧ i = .int .i64 a ∧ Words wr X 240 (fsF [s0, s1, s2, s3, s4, s5, s6, s7] E q) [] ∧ OwnM wr B 5 (.slice (some ⟨g, 0, none⟩) N cap) N (u8V E) ∧ SumW w b [s0, s1, s2, s3, s4, s5, s6, s7] r n wr) (fun i _ => N - (intOf i).toNat)
     case atStart => exact ⟨0, 0, rfl, by omega, rfl, HX.out, HO6.out, HF6.out⟩
     case round =>
      clear HX HO6 HF6 hX6
      obtain ⟨q, a, ha, haN, rfl, hx, ho, hf⟩ := hrel
      have HX := Lib.hid hx
      have HO := Lib.hid ho
      have HF := Lib.hid hf
      clear hx ho hf
      have HA := Lib.hid ha
      by_cases haN2 : a < N
      ·have h64 : a + 64 ≤ N := by omega
       have hconv := conv_part HO.out a 64 (cap - a) h64
       have y0 : (0 : Int) ≤ (a : Int) := by omega
       have y1 : (a : Int) + 64 ≤ (cap : Int) := by omega
       have y2 : IntKind.i64.wrap ((a : Int) + 64) = (a : Int) + 64 := by rw [IntKind.wrap_i64]; omega
       have hsl : (fsF [s0, s1, s2, s3, s4, s5, s6, s7] E q).length = 8 := fsF_len E rfl q
       have HFN := Lib.hid (show fsF [s0, s1, s2, s3, s4, s5, s6, s7] E (q + 1) = blockF (fsF [s0, s1, s2, s3, s4, s5, s6, s7] E q) (partS E a 64) by rw [HA.out]; rfl)
       clear ha
       generalize fsF [s0, s1, s2, s3, s4, s5, s6, s7] E q = f at HX hsl HFN
       go_wp2_with (go_at_call 148; refine (add_ex X 240 f [] (partS E a 64) _ (partS_size (by omega)) hsl HX.out).mono ?_; rintro e w7 ⟨⟨v, rfl⟩, hW, hg7⟩)
       go_roundw
       case rel =>
        refine ⟨q + 1, a + 64, by have := HA.out; omega, by omega, by go_num, by rw [HFN.out]; exact hW, HO.out.grown hg7 (fun e => hXg (by injection e with e; exact e.symm)), HF.out.grown hg7 (fun k hk => by injection hk with hk; omega) hBb hBr⟩
       case measure => simp [intOf]; omega
      ·have haN3 : a = N := by omega
       have HS := Lib.hid (show Words wr X 240 (fsF [s0, s1, s2, s3, s4, s5, s6, s7] E (N / 64)) [] by
        have h1 := HX.out
        have h2 : q = N / 64 := by have := HA.out; omega
        rw [h2] at h1
        exact h1)
       have hsl : (fsF [s0, s1, s2, s3, s4, s5, s6, s7] E (N / 64)).length = 8 := fsF_len E rfl _
       have had : decide ((a : Int) < (N : Int)) = false := by simp; omega
       clear HX haN3 ha haN HA
       go_upto_region 15 with fail
       have hb8 := (Below.refl _ wr).alloc (Nat.le_refl _) (.cells (u8I (List.replicate 32 0)).toArray 106)
       have HY := Lib.hid (show Bytes (wr.alloc (.cells (u8I (List.replicate 32 0)).toArray 106)) wr.heap.size (List.replicate 32 0) from heap_alloc_new wr _)
       have HS8 := Lib.hid (HS.out.kept hb8)
       have HF8 := Lib.hid (HF.out.below hb8)
       have hYw : w.heap.size < wr.heap.size := (Array.getElem?_eq_some_iff.mp HF.out.res).1
       have hXY : X < wr.heap.size := HS.out.lt
       change Code.wp _ _ _ _ (wr.alloc (.cells (u8I (List.replicate 32 0)).toArray 106))
       obtain ⟨Y, hY⟩ : ∃ Y, Y = wr.heap.size := ⟨_, rfl⟩
       rw [← hY] at HY hYw hXY ⊢
       generalize wr.alloc (.cells (u8I (List.replicate 32 0)).toArray 106) = w8 at HY HS8 HF8 ⊢
       clear hb8 HS HF HO hY
       obtain ⟨f, hfe⟩ : ∃ f, f = fsF [s0, s1, s2, s3, s4, s5, s6, s7] E (N / 64) := ⟨_, rfl⟩
       rw [← hfe] at HS8 hsl
       have HSF := Lib.hid hfe
       clear hfe
       go_wp2_with fail
       go_loopw [56] (fun i wr => ∃ k : Nat, k ≤ 32 ∧ i = .int .i64 k ∧ Bytes wr Y (outF f k) ∧ Words wr X 240 f [] ∧ SumW w b [s0, s1, s2, s3, s4, s5, s6, s7] r n wr) (fun i _ => 32 - (intOf i).toNat)
       case atStart => exact ⟨0, by omega, rfl, HY.out, HS8.out, HF8.out⟩
       case round =>
        clear HY HS8 HF8
        obtain ⟨k, hk, rfl, hy, hx, hf⟩ := hrel
        have HY := Lib.hid hy
        have HX := Lib.hid hx
        have HF := Lib.hid hf
        clear hy hx hf
        by_cases hkn : k < 32
        ·obtain ⟨q4, hq4⟩ : ∃ q : Nat, q = k / 4 := ⟨_, rfl⟩
         obtain ⟨r4, hr4⟩ : ∃ q : Nat, q = k % 4 := ⟨_, rfl⟩
         have z0 : (k : Int) / 4 = (q4 : Int) := by omega
         have z1 : (k : Int) % 4 = (r4 : Int) := by omega
         have z2 : IntKind.i64.wrap (8 * (r4 : Int)) = 8 * (r4 : Int) := by rw [IntKind.wrap_i64]; omega
         have z3 : IntKind.i64.wrap (24 - 8 * (r4 : Int)) = 24 - 8 * (r4 : Int) := by rw [IntKind.wrap_i64]; omega
         have z4 : (0 : Int) ≤ (q4 : Int) := by omega
         have z5 : (q4 : Int) < 8 := by omega
         have z6 : (r4 : Int) < 4 := by omega
         have z7 : (0 : Int) ≤ (r4 : Int) := by omega
         have z8 : (0 : Int) ≤ (k : Int) := by omega
         have z9 : (k : Int) < 32 := by omega
         have hcx := HX.out.cell (j := q4) (by omega)
         have hcy := HY.out.cell (j := k) (by rw [outF_len]; omega)
         have hfy := HY.out.frozen k
         have HON := Lib.hid (show outF f (k + 1) = (outF f k).set k (at0 f q4 / 2 ^ (24 - 8 * r4) % 256) by rw [hq4, hr4]; rfl)
         clear hq4 hr4
         go_wp2_with fail
         go_roundw
         case rel =>
          exact ⟨k + 1, by omega, by go_num, by rw [HON.out]; exact HY.out.set k _, HX.out.other (by omega), HF.out.grown (grown_set ⟨rfl, rfl, rfl, Nat.le_refl _, fun _ _ _ => rfl⟩ _) (fun k hk => by injection hk with hk; omega) hBb hBr⟩
         case measure => simp [intOf]; omega
        ·have hk32 : k = 32 := by omega
         have HZ := Lib.hid (show Bytes wr Y (outF f 32) by have := HY.out; rwa [hk32] at this)
         have hol := outF_len f 32
         have hkd2 : decide ((k : Int) < 32) = false := by simp; omega
         clear HY hk32
         have HFIN := Lib.hid (show outF f 32 = sumF [s0, s1, s2, s3, s4, s5, s6, s7] r n by
          have e1 : E = finE r n := by
           unfold finE
           rw [HE.out, HL.out, HLE.out, ← hea, HLE.out]
          unfold sumF
          rw [HSF.out, ← hEl, e1])
         generalize outF f 32 = O at HZ hol HFIN
         obtain ⟨ca, hca⟩ : ∃ ca, ca = (u8I O).toArray := ⟨_, rfl⟩
         have HZ2 := Lib.hid (show wr.heap[Y]? = some (.cells ca 106 (0, 0)) by rw [hca]; exact HZ.out)
         have hcs : ca.size = 32 := by rw [hca]; simp [u8I, hol]
         have hco : ca.all (·.oneCell') = true := by rw [hca]; simp [u8I, Value.oneCell']
         have HCA := Lib.hid hca
         clear hca HZ
         go_wp2_with (first
          | (refine wpList_load_row rfl 106 (.tmp 7) rfl Y rfl 106 ca (0, 0) _ HZ2.out Tryz.underlying106 rfl (by rw [hcs]; exact Tryz.info106) ?_)
          | (refine wpList_store_row rfl 106 (.tmp 2) (.tmp 72) rfl w.heap.size ca rfl rfl 106 _ HF.out.res (by rw [hcs]; exact Tryz.info106) (by rw [hcs]; simp [u8I]) hco ?_))
         refine bodyPost_ret (results_cell_row rfl _ _ w.heap.size 106 ca (0, 0) _ rfl (setRow_heap _ _ _ _ _ _ HF.out.res) Tryz.underlying106 rfl (by rw [hcs]; exact Tryz.info106)) rfl ⟨?_, ?_⟩
         ·rw [HCA.out, HFIN.out]
         ·exact ⟨HF.out.bl.os, HF.out.bl.tape, HF.out.bl.output, by have := HF.out.bl.size; simpa using this, fun i hi => (setRow_other _ _ _ _ (by omega)).trans (HF.out.bl.block i hi)⟩
end Go.Proofs.YtnaglmigkbbljaaGreatDoor
