/-
  EpochOf: sederuntref40.take returns.
-/
import Derived.Test.YtmcnpaehmnadeaaGreatDoorEtAD
import Derived.Test.YtmcnpaehmnadeaaGreatDoorEtEG
set_option maxHeartbeats 6400000
set_option maxRecDepth 1000000
namespace Go.Proofs.YtmcnpaehmnadeaaGreatDoor
open Go Go.RowKit
theorem ba_ne {s : ByteArray} (h : s.size ≠ 0) : s.toList ≠ [] := fun e => h (by
 have h2 : s.data.toList = [] := by rw [← e]; exact (ByteArray.toList_eq s).symm
 have : s.data.size = 0 := by rw [← Array.length_toList, h2]; rfl
 exact this)
theorem ba_nil {s : ByteArray} (h : s.size = 0) : s = ⟨#[]⟩ := by
 cases s with
 | mk d => congr 1; exact Array.eq_empty_of_size_eq_zero h
def TakeRet (s : ByteArray) (m : Int) (w : World) (e : Ending) (w' : World) : Prop := ∃ n k : Int, e = .returned (.tuple #[.int .i64 n, .int .i64 k]) ∧ w' = w ∧ (k = 0 ∨ 1 ≤ k ∧ k ≤ s.size ∧ 0 ≤ n ∧ n ≤ m)
theorem take_any (s : ByteArray) (m : Int) (w : World) (hs : s.size ≤ 1048576) : Calls Tryz.prog 73 #[.string s, .int .i64 m] w (TakeRet s m w) := by
 by_cases h0 : s.size = 0
 ·have hn := ba_nil h0
  subst hn
  go_enter Tryz.func73, Tryz.ntmps73
  go_wp2_with fail
  go_ret2
  exact ⟨_, _, rfl, rfl, .inl rfl⟩
 ·have h1 : s.toList.isEmpty = false := by have := ba_ne h0; simpa using this
  have e0 : (0 : Int) < (s.size : Int) := by omega
  have e1 : 0 < s.size := by omega
  go_enter Tryz.func73, Tryz.ntmps73
  go_upto_region 4 with fail
  obtain ⟨c, hc⟩ : ∃ c : Nat, c = s[0].toNat := ⟨_, rfl⟩
  have hc1 : c < 256 := by rw [hc]; exact s[0].toNat_lt
  rw [← hc]
  clear hc
  have hw1 : wrap64 (c : Int) = c := by unfold wrap64; omega
  rw [hw1]
  by_cases hc2 : 128 ≤ c
  ·by_cases h2 : 2 ≤ s.size
   ·have e2 : (1 : Int) < (s.size : Int) := by omega
    have e3 : 1 < s.size := by omega
    obtain ⟨d, hd⟩ : ∃ d : Nat, d = s[1].toNat := ⟨_, rfl⟩
    have hd1 : d < 256 := by rw [hd]; exact s[1].toNat_lt
    have hw2 : wrap64 (wrap64 ((c : Int) - 128) + 128 * (d : Int)) = (c : Int) - 128 + 128 * d := by unfold wrap64; omega
    rw [hd] at hd1 hw2
    clear hd
    go_wp2_with fail
    all_goals
     go_ret2
     exact ⟨_, _, rfl, rfl, by omega⟩
   ·go_wp2_with fail
    all_goals
     go_ret2
     exact ⟨_, _, rfl, rfl, by omega⟩
  ·go_wp2_with fail
   all_goals
    go_ret2
    exact ⟨_, _, rfl, rfl, by omega⟩
end Go.Proofs.YtmcnpaehmnadeaaGreatDoor
/-
  EpochOf: sederuntref40.strings returns.
-/
namespace Go.Proofs.YtmcnpaehmnadeaaGreatDoor
open Go Go.RowKit
def StringsRet (s : ByteArray) (w : World) (e : Ending) (w' : World) : Prop := ∃ (p : Option Addr) (n cap : Nat) (b : Bool), e = .returned (.tuple #[.slice p n cap, .bool b]) ∧ StrsP w' p n s.size ∧ n ≤ 25 ∧ n ≤ cap ∧ Below w.heap.size w w'
theorem strings_any (s : ByteArray) (w : World) (hs : s.size ≤ 1048576) : Calls Tryz.prog 47 #[.string s] w (StringsRet s w) := by
 obtain ⟨i0, hi, hz0, hz1, hz2⟩ := info_parts Tryz.info9
 go_enter Tryz.func47, Tryz.ntmps47
 go_upto_if 16 with (go_at_call 73; refine (take_any _ _ _ hs).mono ?_; rintro e w1 ⟨n, k, rfl, rfl, hc⟩)
 by_cases hc0 : k = 0
 ·subst hc0
  clear hc
  go_wp2_with fail
  go_ret2
  exact ⟨none, 0, 0, _, rfl, .inl rfl, Nat.zero_le _, Nat.le_refl _, Below.refl _ _⟩
 ·obtain ⟨hk0, hk1, hn0, hn1⟩ : 1 ≤ k ∧ k ≤ s.size ∧ 0 ≤ n ∧ n ≤ 25 := by omega
  obtain ⟨k0, rfl⟩ := Int.eq_ofNat_of_zero_le (show 0 ≤ k by omega)
  obtain ⟨n0, rfl⟩ := Int.eq_ofNat_of_zero_le (show 0 ≤ n by omega)
  clear hc
  have d0 : ((k0 : Int) == 0) = false := by simp; omega
  simp only [d0]
  go_wp2_with fail
  go_loopw [5, 6, 7] (fun a v i wr => ∃ (at' : Nat) (ss : List ByteArray), at' ≤ s.size ∧ ss.length ≤ n0 ∧ a = .int .i64 at' ∧ i = .int .i64 ss.length ∧ AllSz s.size ss ∧ wr.ownsRow w1.heap.size 9 1 v ss.length (strVs ss) ∧ Below w1.heap.size w1 wr) (fun _ _ i _ => n0 - (intOf i).toNat)
  case atStart => exact ⟨k0, [], by omega, Nat.zero_le _, rfl, rfl, fun _ h => (by cases h), World.ownsRow_nil _ _ _ _, Below.refl _ _⟩
  case round =>
   obtain ⟨a, ss, ha, hl, rfl, rfl, hss, hown, hbl⟩ := hrel
   have HO := Lib.hid hown
   have HB := Lib.hid hbl
   have hsz := hbl.size
   have HSS := Lib.hid hss
   clear hown hbl hss
   by_cases hjn : ss.length < n0
   ·have e0 : (a : Int) ≤ (s.size : Int) := by omega
    have e1 : (s.extract a s.size).size ≤ 1048576 := by rw [ByteArray.size_extract]; omega
    have e2 : (s.extract a s.size).size = s.size - a := by rw [ByteArray.size_extract]; omega
    go_upto_region 9 with (go_at_call 73; refine (take_any _ _ _ e1).mono ?_; rintro e w2 ⟨x, q, rfl, rfl, hc2⟩)
    rw [e2] at hc2
    clear e1 e2
    by_cases h0 : q = 0
    ·subst h0
     clear hc2
     go_wp2_with fail
     go_ret2
     exact ⟨none, 0, 0, _, rfl, .inl rfl, Nat.zero_le _, Nat.le_refl _, HB.out⟩
    ·obtain ⟨hq0, hq1, hx0, hx1⟩ : 1 ≤ q ∧ q ≤ (s.size - a : Nat) ∧ 0 ≤ x ∧ x ≤ 200 := by omega
     obtain ⟨q0, rfl⟩ := Int.eq_ofNat_of_zero_le (show 0 ≤ q by omega)
     obtain ⟨x0, rfl⟩ := Int.eq_ofNat_of_zero_le (show 0 ≤ x by omega)
     clear hc2
     by_cases hle : a + q0 + x0 ≤ s.size
     ·have q1 : (a : Int) + q0 ≤ (a : Int) + q0 + x0 := by omega
      have q2 : (a : Int) + q0 + x0 ≤ (s.size : Int) := by omega
      have q3 : ((a : Int) + q0 + x0).toNat = a + q0 + x0 := by omega
      have q4 : ((a : Int) + q0).toNat = a + q0 := by omega
      have q5 : (0 : Int) ≤ (a : Int) + q0 := by omega
      have q6 : (0 : Int) ≤ (a : Int) + q0 + x0 := by omega
      have q7 : (a : Int) + q0 ≤ s.size := by omega
      have d1 : ((q0 : Int) == 0) = false := by simp; omega
      have hxs : (s.extract (a + q0) (a + q0 + x0)).size ≤ s.size := by rw [ByteArray.size_extract]; omega
      go_wp2_with (at_builtin; refine wpList_append_own _ rfl _ _ 25 rfl w1.heap.size 9 i0 (.string ⟨#[]⟩) 1 16 Tryz.underlying25 hi hz0 hz1 hz2 rfl (by decide) _ _ _ rfl (HO.out.alloc _) ⟨w2.heap.size, 0, none⟩ 1 1 [.string (s.extract (a + q0) (a + q0 + x0))] rfl rfl ?c1 ?c2 ?c3 ?c4 ?c5 ?_)
      case c1 =>
       intro j u hj
       match j, hj with
       | 0, hj => simp at hj; subst hj; simp [Addr.add]
      case c2 => intro u hu; simp at hu; subst hu; rfl
      case c3 => unfold maxLen; omega
      case c4 => omega
      case c5 => simp; omega
      ·intro v' w3 hown' hgrow _
       have hb3 : Below w1.heap.size w1 w3 := below_grown HB.out hsz HO.out hgrow
       rw [strVs_snoc] at hown'
       have HO3 := Lib.hid hown'
       have HS3 := Lib.hid (HSS.out.snoc hxs)
       clear hown' hgrow
       go_wp2_with fail
       go_roundw
       case rel => exact ⟨a + q0 + x0, _, by omega, by rw [List.length_append]; show ss.length + 1 ≤ _; omega, by go_num, by rw [List.length_append]; go_num, HS3.out, by rw [List.length_append]; exact HO3.out, hb3⟩
       case measure => simp [intOf]; omega
     ·go_wp2_with fail
      go_ret2
      exact ⟨none, 0, 0, _, rfl, .inl rfl, Nat.zero_le _, Nat.le_refl _, HB.out⟩
   ·go_wp2_with fail
    obtain ⟨p, cp, hv, hp⟩ := strsV_of_own HO.out HSS.out
    subst hv
    go_ret2
    exact ⟨p, ss.length, cp, _, rfl, hp, by omega, own_cap HO.out, HB.out⟩
end Go.Proofs.YtmcnpaehmnadeaaGreatDoor
/-
  EpochOf: sederuntref40.put, Digits: what they return is short.
-/
namespace Go.Proofs.YtmcnpaehmnadeaaGreatDoor
open Go Go.RowKit
theorem ov2 : ∀ x y : Nat, x ≤ 1152921504606846976 → y ≤ 1152921504606846976 → (9223372036854775807 < x + y) = False := fun x y h1 h2 => by simp; omega
def b1 (v : Int) : ByteArray := ⟨#[UInt8.ofNat v.toNat]⟩
theorem b1_size (v : Int) : (b1 v).size = 1 := rfl
theorem conv1 (W : World) (b : Nat) (v : Int) (hc : W.cell? ⟨b, 0, none⟩ = some (.int .u8 v)) : (convert 129 9 (.slice (some ⟨b, 0, none⟩) 1 1)).run Tryz.prog W = .ok (.string (b1 v)) W := by
 rw [run_convert_bytes_string W 129 9 5 (some ⟨b, 0, none⟩) 1 1 Tryz.underlying129 Tryz.underlying5 Tryz.underlying9]
 have hl := run_loadCells_list (P := Tryz.prog) W ⟨b, 0, none⟩ ([v].map (Value.int .u8)) (fun j u hj => by
  match j, hj with
  | 0, hj => simp at hj; subst hj; simpa [Addr.add] using hc)
 rw [run_bytesToString W ⟨b, 0, none⟩ 1 1 _ hl]
 rfl
theorem conv_new (W : World) (v : Int) : (convert 129 9 (.slice (some ⟨W.heap.size, 0, none⟩) 1 1)).run Tryz.prog (W.alloc (.cells #[.int .u8 v] 5)) = .ok (.string (b1 v)) (W.alloc (.cells #[.int .u8 v] 5)) :=
 conv1 _ _ v (by simp)
theorem conv_after {w w1 : World} {v : Int} (hb : Below (w.alloc (.cells #[.int .u8 v] 5)).drew.heap.size (w.alloc (.cells #[.int .u8 v] 5)).drew w1) :
  (convert 129 9 (.slice (some ⟨w.heap.size, 0, none⟩) 1 1)).run Tryz.prog w1 = .ok (.string (b1 v)) w1 :=
 conv1 _ _ v ((hb.cell (p := ⟨w.heap.size, 0, none⟩) (by simp)).trans (by simp))
theorem below_ad {w w1 : World} {o : Obj} (h : Below (w.alloc o).drew.heap.size (w.alloc o).drew w1) : Below w.heap.size w w1 :=
 ((Below.refl _ _).alloc (Nat.le_refl _) o).drew.trans (h.mono (by simp))
theorem below_d {w w1 : World} (h : Below w.drew.heap.size w.drew w1) (o : Obj) : Below w.heap.size w (w1.alloc o) :=
 (((Below.refl _ _).drew).trans h).alloc h.size o
theorem rput1 (n : Nat) (hn : n < 128) (w : World) : Calls Tryz.prog 110 #[.int .i64 n] w (StrRet 1 w) := by
 have hcv := conv_new
 go_enter Tryz.func110, Tryz.ntmps110
 go_wp2_with fail
 go_ret
 exact ⟨_, Nat.le_of_eq (b1_size _), rfl, (Below.refl _ _).alloc (Nat.le_refl _) _⟩
theorem rput1' (n : Int) (h0 : 0 ≤ n) (hn : n < 128) (w : World) : Calls Tryz.prog 110 #[.int .i64 n] w (StrRet 1 w) := by
 obtain ⟨k, rfl⟩ := Int.eq_ofNat_of_zero_le h0
 exact rput1 k (by omega) w
theorem rput_any (n : Nat) (hn : n < 16384) (w : World) : Calls Tryz.prog 110 #[.int .i64 n] w (StrRet 2 w) := by
 by_cases h1 : n < 128
 ·exact (rput1 n h1 w).mono fun _ _ ⟨s, h1, h2, h3⟩ => ⟨s, by omega, h2, h3⟩
 ·have hcv := conv_new
  go_enter Tryz.func110, Tryz.ntmps110
  have hcd : ∀ v, (convert 129 9 (.slice (some ⟨w.heap.size, 0, none⟩) 1 1)).run Tryz.prog (w.alloc (.cells #[.int .u8 v] 5)).drew = .ok (.string (b1 v)) (w.alloc (.cells #[.int .u8 v] 5)).drew := fun v => conv1 _ _ v (by simp)
  have o2 := ov2
  have o1 := b1_size
  have e1 : IntKind.i64.wrap ((n : Int) / 128) = ((n / 128 : Nat) : Int) := by simp [IntKind.wrap, IntKind.bits, IntKind.signed]; omega
  go_upto_region 3 with fail
  go_region_with (go_at_call 110; refine (rput1' _ (by omega) (by omega) _).mono ?_; rintro e w1 ⟨s1, hs1, rfl, hb1⟩; first | have hk := conv_after hb1 | skip; have hs2 : s1.size ≤ 1152921504606846976 := by omega)
  all_goals
   have hsz := hb1.size
   go_wp2_with fail
   go_ret
   exact ⟨_, by simp only [ByteArray.size_append, b1_size]; omega, rfl, by first | exact below_ad hb1 | exact below_d hb1 _⟩
theorem dig1 (n : Int) (hn : n < 10) (w : World) : Calls Tryz.prog 74 #[.int .i64 n] w (StrRet 1 w) := by
 have hcv := conv_new
 go_enter Tryz.func74, Tryz.ntmps74
 go_wp2_with fail
 go_ret
 exact ⟨_, Nat.le_of_eq (b1_size _), rfl, (Below.refl _ _).alloc (Nat.le_refl _) _⟩
theorem dig_step (K : Nat) (hK : K ≤ 100) (m : Nat) (h0 : 10 ≤ m) (hn : m < 9223372036854775808) (ih : ∀ W : World, Calls Tryz.prog 74 #[.int .i64 ((m : Int) / 10)] W (StrRet K W)) (w : World) : Calls Tryz.prog 74 #[.int .i64 m] w (StrRet (K + 1) w) := by
 have hcv := conv_new
 have hcd : ∀ v, (convert 129 9 (.slice (some ⟨w.heap.size, 0, none⟩) 1 1)).run Tryz.prog (w.alloc (.cells #[.int .u8 v] 5)).drew = .ok (.string (b1 v)) (w.alloc (.cells #[.int .u8 v] 5)).drew := fun v => conv1 _ _ v (by simp)
 have IH := Lib.hid ih
 have e1 : IntKind.i64.wrap ((m : Int) / 10) = ((m / 10 : Nat) : Int) := by simp [IntKind.wrap, IntKind.bits, IntKind.signed]; omega
 clear ih hn
 go_enter Tryz.func74, Tryz.ntmps74
 have o2 := ov2
 have o1 := b1_size
 go_upto_region 3 with fail
 go_region_with (go_at_call 74; refine (IH.out _).mono ?_; rintro e w1 ⟨s1, hs1, rfl, hb1⟩; first | have hk := conv_after hb1 | skip; have hs2 : s1.size ≤ 1152921504606846976 := by omega)
 all_goals
  have hsz := hb1.size
  go_wp2_with fail
  go_ret
  exact ⟨_, by simp only [ByteArray.size_append, b1_size]; omega, rfl, by first | exact below_ad hb1 | exact below_d hb1 _⟩
theorem dig_le (K : Nat) : ∀ (n : Int) (w : World), K ≤ 18 → I64 n → n < 10 ^ (K + 1) → Calls Tryz.prog 74 #[.int .i64 n] w (StrRet (K + 1) w) := by
 induction K with
 | zero => exact fun n w _ _ h1 => dig1 n (by simpa using h1) w
 | succ K ih =>
  intro n w hK h0 h1
  by_cases h : n < 10
  ·exact (dig1 n h w).mono fun _ _ ⟨s, h1, h2, h3⟩ => ⟨s, by omega, h2, h3⟩
  ·obtain ⟨m, rfl⟩ := Int.eq_ofNat_of_zero_le (show 0 ≤ n by omega)
   unfold I64 at h0
   refine dig_step (K + 1) (by omega) m (by omega) (by omega) (fun W => ih _ W (by omega) (by unfold I64; omega) ?_) w
   rw [Int.pow_succ] at h1
   omega
theorem dig_any (n : Int) (h0 : I64 n) (w : World) : Calls Tryz.prog 74 #[.int .i64 n] w (StrRet 19 w) := dig_le 18 n w (by omega) h0 (by unfold I64 at h0; omega)
end Go.Proofs.YtmcnpaehmnadeaaGreatDoor
