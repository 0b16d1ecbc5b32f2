/-
  EpochOf: wire.Get returns.
-/
import Derived.Test.YtmcnpaehmnadeaaGreatDoorE0
import Derived.Test.YtmcnpaehmnadeaaGreatDoorEsAB
import Derived.Test.YtmcnpaehmnadeaaGreatDoorEaAB
import Derived.WalkKit
import Derived.KernelRfl
import Derived.Lib.Hide
import Derived.Deep.QuietTactic
import Derived.BigQuiet
import Derived.Deep.DeepCutAuto
import Derived.OwnWalk
import Derived.Maps.AppendAt
set_option maxHeartbeats 6400000
set_option maxRecDepth 1000000
namespace Go.Proofs.YtmcnpaehmnadeaaGreatDoor
open Go Go.RowKit
theorem wrap_u64_lt (n : Int) : IntKind.u64.wrap n < 18446744073709551616 := by simp [IntKind.wrap, IntKind.bits, IntKind.signed]; omega
theorem bits_u64 (op : BinOp) (a b : Int) : 0 ≤ bits op .u64 a b ∧ bits op .u64 a b < 18446744073709551616 := by
 unfold bits
 exact ⟨wrap_u64_nonneg _, wrap_u64_lt _⟩
def GetRet (s : ByteArray) (w : World) (e : Ending) (w' : World) : Prop := ∃ n k c : Int, e = .returned (.tuple #[.int .u64 n, .int .i64 k, .int .i64 c]) ∧ w' = w ∧ (c = 0 → 0 ≤ n ∧ n < 18446744073709551616 ∧ 1 ≤ k ∧ k ≤ s.size)
theorem get_any (s : ByteArray) (w : World) (hs : s.size ≤ 1048576) : Calls Tryz.prog 81 #[.string s] w (GetRet s w) := by
 obtain ⟨M, hM⟩ : ∃ M : Nat, M = min s.size 10 := ⟨_, rfl⟩
 have hM1 : M ≤ s.size := by omega
 have hM2 : M ≤ 10 := by omega
 have hM3 : min (s.size : Int) 10 = (M : Int) := by omega
 clear hM
 go_enter Tryz.func81, Tryz.ntmps81
 go_wp2
 go_loopw [5, 11] (fun x i wr => ∃ (m : Int) (k : Nat), 0 ≤ m ∧ m < 18446744073709551616 ∧ k ≤ M ∧ x = .int .u64 m ∧ i = .int .i64 k ∧ wr = w) (fun _ i _ => M - (intOf i).toNat)
 case atStart => exact ⟨0, 0, by omega, by omega, Nat.zero_le _, rfl, rfl, rfl⟩
 case round =>
  obtain ⟨m, k, hm0, hm1, hk, rfl, rfl, rfl⟩ := hrel
  by_cases hkn : k < M
  ·have e0 : (0 : Int) ≤ (k : Int) := by omega
   have e1 : (k : Int) < (s.size : Int) := by omega
   go_upto_region 6 with fail
   obtain ⟨c, hc⟩ : ∃ c : Nat, c = s[k].toNat := ⟨_, rfl⟩
   have hc1 : c < 256 := by rw [hc]; exact s[k].toNat_lt
   rw [← hc]
   clear hc
   by_cases hc2 : 128 ≤ c
   ·go_wp2_with fail
    go_roundw
    case rel => exact ⟨_, k + 1, (bits_u64 _ _ _).1, (bits_u64 _ _ _).2, by omega, rfl, by go_num, by first | rfl | trivial⟩
    case measure => simp [intOf]; omega
   ·go_wp2_with (go_at_call 115; refine (Tryz.bits_Len8 _ _ (by omega) (by omega)).mono ?_; rintro e w1 ⟨rfl, rfl⟩)
    all_goals
     go_ret3
     exact ⟨_, _, _, rfl, rfl, fun h => by first | omega | exact ⟨(bits_u64 _ _ _).1, (bits_u64 _ _ _).2, by omega, by omega⟩⟩
  ·go_wp2_with fail
   all_goals
    go_ret3
    exact ⟨_, _, _, rfl, rfl, fun h => by omega⟩
end Go.Proofs.YtmcnpaehmnadeaaGreatDoor
/-
  EpochOf: wire.GetString, wire.GetList return.
-/
namespace Go.Proofs.YtmcnpaehmnadeaaGreatDoor
open Go Go.RowKit
def GStrRet (s : ByteArray) (w : World) (e : Ending) (w' : World) : Prop := ∃ (x : ByteArray) (k c : Int), e = .returned (.tuple #[.string x, .int .i64 k, .int .i64 c]) ∧ w' = w ∧ x.size ≤ s.size ∧ (c = 0 → 1 ≤ k ∧ k ≤ s.size)
theorem getString_any (s : ByteArray) (w : World) (hs : s.size ≤ 1048576) : Calls Tryz.prog 55 #[.string s] w (GStrRet s w) := by
 go_enter Tryz.func55, Tryz.ntmps55
 go_upto_if 16 with (go_at_call 81; refine (get_any _ _ hs).mono ?_; rintro e w1 ⟨n, k, c, rfl, rfl, hc⟩)
 by_cases hc0 : c = 0
 ·obtain ⟨hn0, hn1, hk0, hk1⟩ := hc hc0
  subst hc0
  clear hc
  by_cases hle : n ≤ (s.size : Int) - k
  ·obtain ⟨n, rfl⟩ := Int.eq_ofNat_of_zero_le hn0
   obtain ⟨k, rfl⟩ := Int.eq_ofNat_of_zero_le (show 0 ≤ k by omega)
   clear hn1 hn0
   have q1 : (k : Int) ≤ (k : Int) + n := by omega
   have q2 : (k : Int) + n ≤ (s.size : Int) := by omega
   have q3 : ((k : Int) + n).toNat = k + n := by omega
   have q4 : k + n ≤ s.size := by omega
   go_wp2_with fail
   go_ret3
   exact ⟨_, _, _, rfl, rfl, by rw [ByteArray.size_extract]; omega, fun _ => ⟨by omega, by omega⟩⟩
  ·go_wp2_with fail
   all_goals
    go_ret3
    exact ⟨_, _, _, rfl, rfl, Nat.zero_le _, fun h => by omega⟩
 ·go_wp2_with fail
  all_goals
   go_ret3
   exact ⟨_, _, _, rfl, rfl, Nat.zero_le _, fun h => absurd h hc0⟩
end Go.Proofs.YtmcnpaehmnadeaaGreatDoor
/-
  EpochOf: slices of strings that a call makes.
-/
namespace Go.Proofs.YtmcnpaehmnadeaaGreatDoor
open Go Go.RowKit
def StrsAt (w : World) (b off n B : Nat) : Prop := b < w.heap.size ∧ ∀ i, i < n → ∃ s : ByteArray, w.cell? ⟨b, off + i, none⟩ = some (.string s) ∧ s.size ≤ B
def StrsP (w : World) (p : Option Addr) (n B : Nat) : Prop := n = 0 ∨ ∃ b off, p = some ⟨b, off, none⟩ ∧ StrsAt w b off n B
theorem StrsP.below {w W : World} {p : Option Addr} {n B : Nat} (h : Below w.heap.size w W) (hs : StrsP w p n B) : StrsP W p n B := by
 rcases hs with hs | ⟨b, off, rfl, hb, hs⟩
 ·exact .inl hs
 ·exact .inr ⟨b, off, rfl, Nat.lt_of_lt_of_le hb h.size, fun i hi => by obtain ⟨s, h1, h2⟩ := hs i hi; exact ⟨s, (h.cell (by exact hb)).trans h1, h2⟩⟩
theorem Tryz.info9 : (Tryz.prog.info? 9).map (fun i => (i.zero, i.size, i.bytes)) = some (some (.string ⟨#[]⟩), 1, 16) := by kernel_rfl
def strVs (ss : List ByteArray) : List Value := ss.map Value.string
theorem strVs_snoc (ss : List ByteArray) (s : ByteArray) : strVs ss ++ [.string s] = strVs (ss ++ [s]) := by simp [strVs]
def AllSz (B : Nat) (ss : List ByteArray) : Prop := ∀ s ∈ ss, s.size ≤ B
theorem AllSz.snoc {B : Nat} {ss : List ByteArray} (h : AllSz B ss) {s : ByteArray} (hs : s.size ≤ B) : AllSz B (ss ++ [s]) := fun x hx => by
 rcases List.mem_append.mp hx with hx | hx
 ·exact h x hx
 ·rw [List.mem_singleton.mp hx]; exact hs
theorem strsV_of_own {w : World} {B base n : Nat} {v : Value} {ss : List ByteArray} (h : w.ownsRow base 9 1 v n (strVs ss)) (hs : AllSz B ss) : ∃ p cap, v = .slice p n cap ∧ StrsP w p n B := by
 rcases h.2 with ⟨rfl, rfl⟩ | ⟨g, cap, cur, rfl, _, hc, hcap, _, hsz, hx⟩
 ·exact ⟨none, 0, rfl, .inl rfl⟩
 ·have hl : ss.length = n := by have := h.1; simp [strVs] at this; omega
  have hg : g < w.heap.size := (gLt hc)
  refine ⟨_, cap, rfl, .inr ⟨g, 0, rfl, hg, fun i hi => ⟨ss[i]'(by omega), ?_, hs _ (List.getElem_mem _)⟩⟩⟩
  have hj2 : (cur.toList.take (n * 1))[i]? = some (.string (ss[i]'(by omega))) := by rw [hx]; simp [strVs, hl, hi]
  rw [List.getElem?_take] at hj2
  split at hj2
  ·simp [World.cell?, hc]
   simpa using hj2
  ·cases hj2
theorem own_cap {w : World} {base e sz n cap : Nat} {p : Option Addr} {xs : List Value} (h : w.ownsRow base e sz (.slice p n cap) n xs) : n ≤ cap := by
 rcases h.2 with ⟨h0, hn⟩ | ⟨g, cap', cur, h1, _, _, h4, _⟩
 ·omega
 ·injection h1 with e1 e2 e3
  omega
def ListRet (s : ByteArray) (w : World) (e : Ending) (w' : World) : Prop := ∃ (p : Option Addr) (n cap : Nat) (k c : Int), e = .returned (.tuple #[.slice p n cap, .int .i64 k, .int .i64 c]) ∧ StrsP w' p n s.size ∧ n ≤ s.size ∧ n ≤ cap ∧ Below w.heap.size w w'
theorem list_any (s : ByteArray) (w : World) (hs : s.size ≤ 1048576) : Calls Tryz.prog 54 #[.string s, .func (.func 55) #[] #[]] w (ListRet s w) := by
 obtain ⟨i0, hi, hz0, hz1, hz2⟩ := info_parts Tryz.info9
 go_enter Tryz.func54, Tryz.ntmps54
 go_upto_if 21 with (go_at_call 81; refine (get_any _ _ hs).mono ?_; rintro e w1 ⟨n, k, c, rfl, rfl, hc⟩)
 by_cases hc0 : c = 0
 ·obtain ⟨hn0, hn1, hk0, hk1⟩ := hc hc0
  subst hc0
  obtain ⟨k0, rfl⟩ := Int.eq_ofNat_of_zero_le (show 0 ≤ k by omega)
  clear hc
  simp only [bne_self_eq_false]
  go_wp2_with fail
  go_loopw [8, 10, 24] (fun a v i wr => ∃ (at' : Nat) (ss : List ByteArray) (j : Int), at' ≤ s.size ∧ ss.length ≤ at' ∧ 0 ≤ j ∧ j ≤ n ∧ a = .int .i64 at' ∧ i = .int .u64 j ∧ AllSz s.size ss ∧ wr.ownsRow w1.heap.size 9 1 v ss.length (strVs ss) ∧ Below w1.heap.size w1 wr) (fun a _ _ _ => s.size - (intOf a).toNat)
  case atStart => exact ⟨k0, [], 0, by omega, Nat.zero_le _, by omega, hn0, rfl, rfl, fun _ h => (by cases h), World.ownsRow_nil _ _ _ _, Below.refl _ _⟩
  case round =>
   obtain ⟨a, ss, j, ha, hl, hj0, hj1, rfl, rfl, hss, hown, hbl⟩ := hrel
   have HO := Lib.hid hown
   have HB := Lib.hid hbl
   have hsz := hbl.size
   have HSS := Lib.hid hss
   clear hown hbl hss
   by_cases hjn : j < n
   ·have e0 : (a : Int) ≤ (s.size : Int) := by omega
    have e1 : (s.extract a s.size).size ≤ 1048576 := by rw [ByteArray.size_extract]; omega
    have e2 : (s.extract a s.size).size = s.size - a := by rw [ByteArray.size_extract]; omega
    go_upto_if 36 with (go_at_call 55; refine (getString_any _ _ e1).mono ?_; rintro e w2 ⟨x, q, c2, rfl, rfl, hx, hc2⟩)
    by_cases h0 : c2 = 0
    ·obtain ⟨hq0, hq1⟩ := hc2 h0
     subst h0
     obtain ⟨q0, rfl⟩ := Int.eq_ofNat_of_zero_le (show 0 ≤ q by omega)
     clear hc2
     have hq2 : q0 ≤ s.size - a := by omega
     have hxs : x.size ≤ s.size := by omega
     clear e1 e2 hq1 hx
     go_wp2_with (at_builtin; refine wpList_append_own _ rfl _ _ 25 rfl w1.heap.size 9 i0 (.string ⟨#[]⟩) 1 16 Tryz.underlying25 hi hz0 hz1 hz2 rfl (by decide) _ _ _ rfl (HO.out.alloc _) ⟨w2.heap.size, 0, none⟩ 1 1 [.string x] rfl rfl ?c1 ?c2 ?c3 ?c4 ?c5 ?_)
     case c1 =>
      intro j u hj
      match j, hj with
      | 0, hj => simp at hj; subst hj; simp [Addr.add]
     case c2 => intro u hu; simp at hu; subst hu; rfl
     case c3 => unfold maxLen; omega
     case c4 => omega
     case c5 => simp; omega
     ·intro v' w3 hown' hgrow _
      have hb3 : Below w1.heap.size w1 w3 := below_grown HB.out hsz HO.out hgrow
      rw [strVs_snoc] at hown'
      have HO3 := Lib.hid hown'
      have HS3 := Lib.hid (HSS.out.snoc hxs)
      clear hown' hgrow
      go_wp2_with fail
      go_roundw
      case rel => exact ⟨a + q0, ss ++ [x], j + 1, by omega, by rw [List.length_append]; show ss.length + 1 ≤ _; omega, by omega, by omega, by go_num, by go_num, HS3.out, by rw [List.length_append]; exact HO3.out, hb3⟩
      case measure => simp [intOf]; omega
    ·clear hc2
     go_wp2_with fail
     all_goals
      go_ret3
      exact ⟨none, 0, 0, _, _, rfl, .inl rfl, Nat.zero_le _, Nat.le_refl _, HB.out⟩
   ·go_wp2_with fail
    obtain ⟨p, cp, hv, hp⟩ := strsV_of_own HO.out HSS.out
    subst hv
    go_ret3
    exact ⟨p, ss.length, cp, _, _, rfl, hp, by omega, own_cap HO.out, HB.out⟩
 ·go_wp2_with fail
  all_goals
   go_ret3
   exact ⟨none, 0, 0, _, _, rfl, .inl rfl, Nat.zero_le _, Nat.le_refl _, Below.refl _ _⟩
theorem getList_any (s : ByteArray) (w : World) (hs : s.size ≤ 1048576) : Calls Tryz.prog 36 #[.string s] w (ListRet s w) := by
 go_enter Tryz.func36, Tryz.ntmps36
 go_wp2_with (go_at_call 54; refine (list_any s _ hs).mono ?_; rintro e w1 ⟨p, n, cap, k, c, rfl, h1, h2, h4, h3⟩)
 go_ret3
 exact ⟨p, n, cap, k, c, rfl, h1, h2, h4, h3⟩
end Go.Proofs.YtmcnpaehmnadeaaGreatDoor
/-
  EpochOf: wire.put, wire.PutList: what they write is short.
-/
namespace Go.Proofs.YtmcnpaehmnadeaaGreatDoor
open Go Go.RowKit
def BldR (B b K : Nat) (w : World) (e : Ending) (w' : World) : Prop := e = .returned (.tuple #[]) ∧ ∃ l : List UInt8, l.length ≤ K ∧ Lib.IsBuilder 138 5 B b (Lib.byteCells l) w' ∧ Below B w w'
theorem byteCells_snoc (l : List UInt8) (c : Nat) (hc : c < 256) : Lib.byteCells l ++ [.int .u8 (c : Int)] = Lib.byteCells (l ++ [UInt8.ofNat c]) := by
 simp [Lib.byteCells]
 omega
theorem byteCells_len (l : List UInt8) : (Lib.byteCells l).length = l.length := by simp [Lib.byteCells]
theorem bits_u8 (op : BinOp) (a b : Int) : ∃ c : Nat, c < 256 ∧ bits op .u8 a b = (c : Int) := by
 have h0 : 0 ≤ bits op .u8 a b := by unfold bits; exact wrap_u8_nonneg _
 have h1 : bits op .u8 a b < 256 := by unfold bits; simp [IntKind.wrap, IntKind.bits, IntKind.signed]; omega
 exact ⟨(bits op .u8 a b).toNat, by omega, by omega⟩
theorem put_next {m j : Nat} (hm : m * 128 ^ j < 2097152) (hj : j ≤ 3) (hge : 128 ≤ m) : j + 1 ≤ 3 ∧ m / 128 * 128 ^ (j + 1) < 2097152 := by
 have hj2 : j ≤ 2 := by
  by_cases h : j = 3
  ·subst h; omega
  ·omega
 refine ⟨by omega, ?_⟩
 have h1 : m / 128 * 128 ^ (j + 1) ≤ m * 128 ^ j := by
  rw [Nat.pow_succ, Nat.mul_comm (128 ^ j) 128, ← Nat.mul_assoc]
  exact Nat.mul_le_mul_right _ (Nat.div_mul_le_self m 128)
 omega
theorem put_any (B b n : Nat) (l : List UInt8) (w : World) (hn : n < 2097152) (hl : l.length ≤ 1000000000) (h : Lib.IsBuilder 138 5 B b (Lib.byteCells l) w) (hB : B ≤ w.heap.size) :
  Calls Tryz.prog 88 #[.pointer (some ⟨b, 0, none⟩), .int .u64 n] w (BldR B b (l.length + 10) w) := by
 have H := Lib.hid h
 clear h
 go_enter Tryz.func88, Tryz.ntmps88
 go_wp2_with fail
 go_loopw [1] (fun x wr => ∃ (m j : Nat) (lk : List UInt8), x = .int .u64 m ∧ j ≤ 3 ∧ m * 128 ^ j < 2097152 ∧ lk.length ≤ l.length + j ∧ Lib.IsBuilder 138 5 B b (Lib.byteCells lk) wr ∧ Below B w wr) (fun x _ => (intOf x).toNat)
 case atStart => exact ⟨n, 0, l, rfl, by omega, by simpa using hn, by omega, H.out, Below.refl _ _⟩
 case round =>
  obtain ⟨m, j, lk, rfl, hj, hm, hlk, hI, hb⟩ := hrel
  have HI := Lib.hid hI
  have HB := Lib.hid hb
  have hsz := hb.size
  have hm1 : m < 2097152 := by
   have := Nat.mul_le_mul_left m (Nat.one_le_pow j 128 (by omega))
   omega
  have HM := Lib.hid hm
  clear hI hb hm
  by_cases hge : 128 ≤ m
  ·go_wp2_with (go_at_call 122; refine (Tryz.Builder_WriteByte B b _ _ _ HI.out (by rw [byteCells_len]; omega) (by omega)).mono ?_; rintro e w1 ⟨rfl, hA, hb1⟩; have HA := Lib.hid hA; have HB1 := Lib.hid hb1; clear hA hb1)
   obtain ⟨c, hc, hcb⟩ := bits_u8 .or ((m : Int) % 256) 128
   rw [hcb, byteCells_snoc _ _ hc] at HA
   have hnx := put_next HM.out hj hge
   exact ⟨⟨m / 128, j + 1, lk ++ [UInt8.ofNat c], by simp, hnx.1, hnx.2, by rw [List.length_append]; show lk.length + 1 ≤ _; omega, .inr HA.out, HB.out.trans HB1.out⟩, by simp [intOf]; omega⟩
  ·go_wp2_with (go_at_call 122; refine (Tryz.Builder_WriteByte B b _ _ _ HI.out (by rw [byteCells_len]; omega) (by omega)).mono ?_; rintro e w1 ⟨rfl, hA, hb1⟩; have HA := Lib.hid hA; have HB1 := Lib.hid hb1; clear hA hb1)
   rw [byteCells_snoc _ _ (by omega)] at HA
   go_end0
   exact ⟨rfl, lk ++ [UInt8.ofNat m], by rw [List.length_append]; show lk.length + 1 ≤ _; omega, .inr HA.out, HB.out.trans HB1.out⟩
def StrRet (B : Nat) (w : World) (e : Ending) (w' : World) : Prop := ∃ s : ByteArray, s.size ≤ B ∧ e = .returned (.string s) ∧ Below w.heap.size w w'
theorem putList_any (p : Option Addr) (n cap K : Nat) (w : World) (hn : n ≤ 1000) (hK : K ≤ 1000) (h : StrsP w p n K) : Calls Tryz.prog 59 #[.slice p n cap] w (StrRet (10 + n * (K + 10)) w) := by
 have H := Lib.hid h
 have hf := Lib.fresh_isBuilder 138 5 w
 have HF := Lib.hid hf
 clear h hf
 go_enter Tryz.func59, Tryz.ntmps59
 go_upto_region 3 with (go_at_call 88; refine (put_any w.heap.size w.heap.size n [] _ (by omega) (by simp) HF.out (by simp)).mono ?_; rintro e w1 ⟨rfl, l1, hl1, hI1, hb1⟩)
 have hbw : Below w.heap.size w w1 := ((Below.refl _ _).alloc (Nat.le_refl _) _).trans hb1
 have HI1 := Lib.hid hI1
 have HB1 := Lib.hid hbw
 have hl0 : l1.length ≤ 10 := by simpa using hl1
 have hmul : n * (K + 10) ≤ 1010000 := Nat.le_trans (Nat.mul_le_mul hn (show K + 10 ≤ 1010 by omega)) (by omega)
 have HMUL := Lib.hid hmul
 clear hI1 hb1 hbw hl1 hmul
 go_wp2_with fail
 go_loopw [12] (fun i wr => ∃ (k : Nat) (lk : List UInt8), k ≤ n ∧ i = .int .i64 k ∧ lk.length ≤ 10 + k * (K + 10) ∧ Lib.IsBuilder 138 5 w.heap.size w.heap.size (Lib.byteCells lk) wr ∧ Below w.heap.size w wr) (fun i _ => n - (intOf i).toNat)
 case atStart => exact ⟨0, l1, Nat.zero_le _, rfl, by omega, HI1.out, HB1.out⟩
 case round =>
  obtain ⟨k, lk, hk, rfl, hlk, hI, hb⟩ := hrel
  have HI := Lib.hid hI
  have HB := Lib.hid hb
  have HLK := Lib.hid hlk
  have hsz := hb.size
  by_cases hkn : k < n
  ·obtain ⟨b, off, rfl, hbk, hcell⟩ : ∃ b off, p = some ⟨b, off, none⟩ ∧ b < w.heap.size ∧ ∃ s : ByteArray, w.cell? ⟨b, off + k, none⟩ = some (.string s) ∧ s.size ≤ K := by
    rcases H.out with h0 | ⟨b, off, hp, hb, hi⟩
    ·omega
    ·exact ⟨b, off, hp, hb, hi k hkn⟩
   obtain ⟨x, hc, hx⟩ := hcell
   have hc1 : wr.cell? ⟨b, off + k, none⟩ = some (.string x) := (hb.cell (by exact hbk)).trans hc
   have hkm : (k + 1) * (K + 10) ≤ n * (K + 10) := Nat.mul_le_mul_right _ hkn
   have hsm : (k + 1) * (K + 10) = k * (K + 10) + (K + 10) := Nat.succ_mul _ _
   have hlen : lk.length ≤ 1010010 := by have := HMUL.out; omega
   have HS := Lib.hid hsm
   clear hI hb hlk hc hsm hkm
   go_wp2_with (first
    | (go_at_call 88; refine (put_any w.heap.size w.heap.size x.size lk _ (by omega) (by omega) HI.out (by omega)).mono ?_; rintro e w2 ⟨rfl, l2, hl2, hI2, hb2⟩; have HI2 := Lib.hid hI2; have HB2 := Lib.hid hb2; have hsz2 := hb2.size; clear hI2 hb2)
    | (go_at_call 89; refine (Tryz.Builder_WriteString w.heap.size w.heap.size _ x _ HI2.out (by rw [byteCells_len]; omega) (by omega)).mono ?_; rintro e w3 ⟨rfl, hA, hb3⟩; have HA := Lib.hid hA; have HB3 := Lib.hid hb3; clear hA hb3))
   have hA' : Lib.IsBuilder 138 5 w.heap.size w.heap.size (Lib.byteCells (l2 ++ x.data.toList)) w3 := by
    rw [Lib.byteCells_append]; exact .inr HA.out
   have hxl : x.data.toList.length = x.size := by rw [Array.length_toList]; rfl
   go_roundw
   case rel => exact ⟨k + 1, l2 ++ x.data.toList, by omega, by go_num, by rw [List.length_append, hxl]; have := HS.out; have := HLK.out; omega, hA', (HB.out.trans HB2.out).trans HB3.out⟩
   case measure => simp [intOf]; omega
  ·obtain rfl : k = n := by omega
   clear hI hb hlk
   go_wp2_with (go_at_call 90; refine (Tryz.Builder_String_any w.heap.size w.heap.size lk _ HI.out (by omega)).mono ?_; rintro e w2 ⟨rfl, hb2⟩; have HB2 := Lib.hid hb2; clear hb2)
   go_ret
   exact ⟨_, by show lk.toArray.size ≤ _; rw [List.size_toArray]; exact HLK.out, rfl, HB.out.trans HB2.out⟩
end Go.Proofs.YtmcnpaehmnadeaaGreatDoor
