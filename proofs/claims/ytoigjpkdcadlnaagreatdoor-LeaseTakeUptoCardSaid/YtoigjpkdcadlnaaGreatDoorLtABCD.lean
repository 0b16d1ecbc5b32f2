/-
  LeaseTake: the reference's varints and lists: what they return is short.
-/
import Derived.Test.YtoigjpkdcadlnaaGreatDoorLvABC
import Derived.Laws.BytesString
import Derived.Lib.ConvBytes
import Derived.Maps.AppendAt
namespace Go.Proofs.YtoigjpkdcadlnaaGreatDoor
open Go Go.RowKit

/-- a string of at most so many bytes; nothing that was there has changed -/
def StrRet (B : Nat) (w : World) (e : Ending) (w' : World) : Prop := ∃ s : ByteArray, s.size ≤ B ∧ e = .returned (.string s) ∧ Below w.heap.size w w'

theorem Tryz.info5 : (Tryz.prog.info? 5).map (fun i => (i.zero, i.size, i.bytes)) = some (some (.int .u8 0), 1, 1) := by kernel_rfl

def bytesV (bs : List UInt8) : List Value := bs.map fun b => .int .u8 b.toNat

theorem put_step {k m : Nat} (hk : k ≤ 9) (hm : m < 2 ^ (64 - 7 * k)) (h : 128 ≤ m) : k + 1 ≤ 9 ∧ m / 128 < 2 ^ (64 - 7 * (k + 1)) := by
  match k, hk with
  | 0, _ => exact ⟨by omega, by simp at hm ⊢; omega⟩
  | 1, _ => exact ⟨by omega, by simp at hm ⊢; omega⟩
  | 2, _ => exact ⟨by omega, by simp at hm ⊢; omega⟩
  | 3, _ => exact ⟨by omega, by simp at hm ⊢; omega⟩
  | 4, _ => exact ⟨by omega, by simp at hm ⊢; omega⟩
  | 5, _ => exact ⟨by omega, by simp at hm ⊢; omega⟩
  | 6, _ => exact ⟨by omega, by simp at hm ⊢; omega⟩
  | 7, _ => exact ⟨by omega, by simp at hm ⊢; omega⟩
  | 8, _ => exact ⟨by omega, by simp at hm ⊢; omega⟩
  | 9, _ => exfalso; simp at hm; omega
def PutBd (k m : Nat) : Prop := k ≤ 9 ∧ m < 2 ^ (64 - 7 * k)

theorem below_grown {B : Nat} {w wr w1 : World} {o : Obj} {e : TypeId} {sz n : Nat} {v : Value} {xs : List Value} (hbl : Below B w wr) (hB : B ≤ wr.heap.size) (hown : wr.ownsRow B e sz v n xs) (hg : (wr.alloc o).grownBy w1 v.ownBlock) : Below B w w1 := by
  have h1 : Below B w (wr.alloc o) := hbl.alloc hB o
  refine ⟨hg.os.trans h1.os, hg.tape.trans h1.tape, hg.output.trans h1.output, Nat.le_trans h1.size hg.size, fun i hi => ?_⟩
  refine (hg.block i (by have := World.size_alloc wr o; omega) fun e => ?_).trans (h1.block i hi)
  rcases hown.2 with ⟨rfl, _⟩ | ⟨g, cap, cur, rfl, hbg, _⟩
  · cases e
  · simp [Value.ownBlock] at e; omega

theorem bytesV_snoc (bs : List UInt8) (x : Nat) (hx : x < 256) : bytesV bs ++ [.int .u8 (x : Int)] = bytesV (bs ++ [UInt8.ofNat x]) := by
  unfold bytesV
  rw [List.map_append]
  congr 1
  simp
  omega

theorem conv_own {w : World} {B n : Nat} {v : Value} {l : List UInt8} (h : w.ownsRow B 5 1 v n (bytesV l)) (hn : 0 < n) :
    ∃ s : ByteArray, s.size = l.length ∧ (convert 206 9 v).run Tryz.prog w = .ok (.string s) w := by
  rcases h.2 with ⟨_, rfl⟩ | ⟨g, cap, cur, rfl, _, hc, hcap, _, hsz, hx⟩
  · omega
  have hl : l.length = n := by have := h.1; simp [bytesV] at this; omega
  refine ⟨⟨l.toArray⟩, by simp [ByteArray.size], ?_⟩
  have hh := run_convert_bytes_back (P := Tryz.prog) w 206 9 5 ⟨g, 0, none⟩ cap l Tryz.underlying206 Tryz.underlying5 Tryz.underlying9 (fun j hj => by
    rw [Addr.add_lit]
    have hj2 : (cur.toList.take (n * 1))[j]? = some (.int .u8 (l[j].toNat : Int)) := by rw [hx]; simp [bytesV, hj]
    rw [List.getElem?_take] at hj2
    split at hj2
    · simp [World.cell?, hc]
      simpa using hj2
    · cases hj2)
  rw [hl] at hh
  exact hh

set_option maxHeartbeats 1600000 in
set_option maxRecDepth 1000000 in
theorem put_any (n : Nat) (hn : n < 18446744073709551616) (w : World) : Calls Tryz.prog 94 #[.int .u64 n] w (StrRet 10 w) := by
  obtain ⟨i0, hi, hz0, hz1, hz2⟩ := info_parts Tryz.info5
  go_enter Tryz.func94, Tryz.ntmps94
  go_wp2
  go_loopw [0, 3] (fun x v wr => ∃ (m : Nat) (bs : List UInt8), PutBd bs.length m ∧ m < 18446744073709551616 ∧ x = .int .u64 m ∧ wr.ownsRow w.heap.size 5 1 v bs.length (bytesV bs) ∧ Below w.heap.size w wr) (fun x _ _ => (intOf x).toNat)
  case atStart => exact ⟨n, [], ⟨by simp, by simpa using hn⟩, hn, rfl, World.ownsRow_nil _ _ _ _, Below.refl _ _⟩
  case round =>
    obtain ⟨m, bs, hbd, hm, rfl, hown, hbl⟩ := hrel
    by_cases hge : 128 ≤ m
    · have hst := put_step hbd.1 hbd.2 hge
      have HB := Lib.hid hbl
      have hsz := hbl.size
      go_wp2_with (at_builtin; refine wpList_append_own _ rfl _ _ 206 rfl w.heap.size 5 i0 (.int .u8 0) 1 1 Tryz.underlying206 hi hz0 hz1 hz2 rfl (by decide) _ _ _ rfl (hown.alloc _) ⟨wr.heap.size, 0, none⟩ 1 1 [.int .u8 (128 + (m : Int) % 128)] rfl rfl ?c1 ?c2 ?c3 ?c4 ?c5 ?_)
      case c1 =>
        intro j u hj
        match j, hj with
        | 0, hj => simp at hj; subst hj; simp [Addr.add]
      case c2 => intro u hu; simp at hu; subst hu; rfl
      case c3 => have := hbd.1; unfold maxLen; omega
      case c4 => have := hbd.1; omega
      case c5 => simp; omega
      · intro v' w1 hown' hgrow _
        have hb1 : Below w.heap.size w w1 := below_grown hbl hsz hown hgrow
        have e1 : ((128 + m % 128 : Nat) : Int) = 128 + (m : Int) % 128 := by omega
        rw [← e1, bytesV_snoc _ _ (by omega)] at hown'
        have HO := Lib.hid hown'
        clear hown' hgrow hown hbl e1
        go_wp2
        go_roundw
        case rel => exact ⟨m / 128, bs ++ [UInt8.ofNat (128 + m % 128)], by rw [List.length_append]; exact hst, by omega, by go_num, by rw [List.length_append]; exact HO.out, hb1⟩
        case measure => simp [intOf]; omega
    · go_wp2_with (at_builtin; refine wpList_append_own _ rfl _ _ 206 rfl w.heap.size 5 i0 (.int .u8 0) 1 1 Tryz.underlying206 hi hz0 hz1 hz2 rfl (by decide) _ _ _ rfl (hown.alloc _) ⟨wr.heap.size, 0, none⟩ 1 1 [.int .u8 (m : Int)] rfl rfl ?d1 ?d2 ?d3 ?d4 ?d5 ?_)
      case d1 =>
        intro j u hj
        match j, hj with
        | 0, hj => simp at hj; subst hj; simp [Addr.add]
      case d2 => intro u hu; simp at hu; subst hu; rfl
      case d3 => have := hbd.1; unfold maxLen; omega
      case d4 => have := hbd.1; omega
      case d5 => have := hbl.size; simp; omega
      · intro v' w1 hown' hgrow hnil
        have hb1 : Below w.heap.size w w1 := below_grown hbl hbl.size hown hgrow
        rw [bytesV_snoc _ _ (by omega)] at hown'
        obtain ⟨s, hs, hcv⟩ := conv_own (l := bs ++ [UInt8.ofNat m]) (n := bs.length + 1) hown' (by omega)
        have hsl : s.size ≤ 10 := by rw [hs]; have := hbd.1; simp; omega
        clear hown' hgrow hown hbl hs
        go_wp2
        go_ret
        exact ⟨s, hsl, rfl, hb1⟩
end Go.Proofs.YtoigjpkdcadlnaaGreatDoor

/-
  LeaseTake: the reference's codes of numbers, strings and lists: what they return is short.
-/
namespace Go.Proofs.YtoigjpkdcadlnaaGreatDoor
open Go Go.RowKit

def U64Ret (w : World) (e : Ending) (w' : World) : Prop := ∃ k : Nat, k < 18446744073709551616 ∧ e = .returned (.int .u64 (k : Int)) ∧ w = w'

theorem u64_ret {x : Int} {w : World} (h0 : 0 ≤ x) (h1 : x < 18446744073709551616) : U64Ret w (.returned (.int .u64 x)) w :=
  ⟨x.toNat, by omega, by rw [Int.toNat_of_nonneg h0], rfl⟩

set_option maxHeartbeats 800000 in
theorem zigzag_any (x : Int) (h0 : -9223372036854775808 ≤ x) (h1 : x ≤ 9223372036854775807) (w : World) : Calls Tryz.prog 95 #[.int .i64 x] w (U64Ret w) := by
  by_cases hx : 0 ≤ x
  · go_enter Tryz.func95, Tryz.ntmps95
    go_wp2
    go_ret
    exact u64_ret (by omega) (by omega)
  · go_enter Tryz.func95, Tryz.ntmps95
    go_wp2
    go_ret
    exact u64_ret (by omega) (by omega)

set_option maxHeartbeats 800000 in
theorem putString_any (s : ByteArray) (hs : s.size ≤ 4611686018427387904) (w : World) : Calls Tryz.prog 47 #[.string s] w (StrRet (10 + s.size) w) := by
  go_enter Tryz.func47, Tryz.ntmps47
  go_wp2_with (go_at_call 94; refine (put_any _ (by omega) _).mono ?_; rintro e w1 ⟨s1, hs1, rfl, hb1⟩)
  go_ret
  exact ⟨s1 ++ s, by rw [ByteArray.size_append]; omega, rfl, hb1⟩

/-- so many integers lie there -/
def IntsAt (w : World) (b off n : Nat) (zs : Nat → Int) : Prop := b < w.heap.size ∧ ∀ i, i < n → w.cell? ⟨b, off + i, none⟩ = some (.int .i64 (zs i)) ∧ -9223372036854775808 ≤ zs i ∧ zs i ≤ 9223372036854775807

set_option maxHeartbeats 1600000 in
set_option maxRecDepth 1000000 in
theorem putInts_any (b off n cap : Nat) (zs : Nat → Int) (w : World) (hn : n ≤ 100) (h : IntsAt w b off n zs) : Calls Tryz.prog 46 #[.slice (some ⟨b, off, none⟩) n cap] w (StrRet (10 + 10 * n) w) := by
  have H := Lib.hid h
  clear h
  go_enter Tryz.func46, Tryz.ntmps46
  go_wp2_with (go_at_call 94; refine (put_any _ (by omega) _).mono ?_; rintro e w1 ⟨s1, hs1, rfl, hb1⟩)
  go_loopw [3, 4] (fun o i wr => ∃ (k : Nat) (s : ByteArray), k ≤ n ∧ i = .int .i64 k ∧ o = .string s ∧ s.size ≤ 10 + 10 * k ∧ Below w.heap.size w wr) (fun _ i _ => n - (intOf i).toNat)
  case atStart => exact ⟨0, s1, Nat.zero_le _, rfl, rfl, by omega, hb1⟩
  case round =>
    obtain ⟨k, s, hk, rfl, rfl, hs, hbl⟩ := hrel
    clear hb1
    by_cases hkn : k < n
    · obtain ⟨hc, hl, hh⟩ := H.out.2 k hkn
      have hc1 : wr.cell? ⟨b, off + k, none⟩ = some (.int .i64 (zs k)) := (hbl.cell (by exact H.out.1)).trans hc
      clear hc
      go_wp2_with (first
        | (go_at_call 95; refine (zigzag_any _ hl hh _).mono ?_; rintro e w2 ⟨z, hz, rfl, rfl⟩)
        | (go_at_call 94; refine (put_any _ hz _).mono ?_; rintro e w3 ⟨s3, hs3, rfl, hb3⟩))
      have hb4 : Below w.heap.size w w3 := hbl.trans (hb3.mono hbl.size)
      go_roundw
      case rel => exact ⟨k + 1, s ++ s3, by omega, by go_num, rfl, by rw [ByteArray.size_append]; omega, hb4⟩
      case measure => simp [intOf]; omega
    · go_wp2
      go_ret
      exact ⟨s, by omega, rfl, hbl⟩

/-- a slice of strings, each of at most so many bytes -/
def StrsAt (w : World) (b off n B : Nat) : Prop := b < w.heap.size ∧ ∀ i, i < n → ∃ s : ByteArray, w.cell? ⟨b, off + i, none⟩ = some (.string s) ∧ s.size ≤ B
def StrsP (w : World) (p : Option Addr) (n B : Nat) : Prop := n = 0 ∨ ∃ b off, p = some ⟨b, off, none⟩ ∧ StrsAt w b off n B

set_option maxHeartbeats 1600000 in
set_option maxRecDepth 1000000 in
theorem putList_some (b off n cap B : Nat) (w : World) (hn : n ≤ 1048576) (hB : B ≤ 2199200000000) (h : StrsAt w b off n B) : Calls Tryz.prog 49 #[.slice (some ⟨b, off, none⟩) n cap] w (StrRet (10 + (10 + B) * n) w) := by
  have H := Lib.hid h
  have hmul : (10 + B) * n ≤ 2306028339210485760 := by
    have := Nat.mul_le_mul (show 10 + B ≤ 2199200000010 by omega) hn
    omega
  clear h
  go_enter Tryz.func49, Tryz.ntmps49
  go_wp2_with (go_at_call 94; refine (put_any _ (by omega) _).mono ?_; rintro e w1 ⟨s1, hs1, rfl, hb1⟩)
  go_loopw [3, 4] (fun o i wr => ∃ (k : Nat) (s : ByteArray), k ≤ n ∧ i = .int .i64 k ∧ o = .string s ∧ s.size ≤ 10 + (10 + B) * k ∧ Below w.heap.size w wr) (fun _ i _ => n - (intOf i).toNat)
  case atStart => exact ⟨0, s1, Nat.zero_le _, rfl, rfl, by omega, hb1⟩
  case round =>
    obtain ⟨k, s, hk, rfl, rfl, hs, hbl⟩ := hrel
    clear hb1
    by_cases hkn : k < n
    · obtain ⟨x, hc, hx⟩ := H.out.2 k hkn
      have hc1 : wr.cell? ⟨b, off + k, none⟩ = some (.string x) := (hbl.cell (by exact H.out.1)).trans hc
      have hmk : (10 + B) * (k + 1) ≤ (10 + B) * n := Nat.mul_le_mul_left _ hkn
      have hms : (10 + B) * (k + 1) = (10 + B) * k + (10 + B) := Nat.mul_succ _ _
      have hss : s.size ≤ 4611686018427387904 := by omega
      have HM := Lib.hid hms
      have HK := Lib.hid hmk
      have HS := Lib.hid hs
      clear hc hms hmk hs hmul
      go_wp2_with (go_at_call 47; refine (putString_any _ (by omega) _).mono ?_; rintro e w3 ⟨s3, hs3, rfl, hb3⟩)
      have hb4 : Below w.heap.size w w3 := hbl.trans (hb3.mono hbl.size)
      go_roundw
      case rel => exact ⟨k + 1, s ++ s3, by omega, by go_num, rfl, by rw [ByteArray.size_append]; have := HM.out; have := HS.out; omega, hb4⟩
      case measure => simp [intOf]; omega
    · obtain rfl : k = n := by omega
      go_wp2
      go_ret
      exact ⟨s, hs, rfl, hbl⟩

set_option maxHeartbeats 1600000 in
set_option maxRecDepth 1000000 in
theorem putList_none (p : Option Addr) (cap : Nat) (w : World) : Calls Tryz.prog 49 #[.slice p 0 cap] w (StrRet 10 w) := by
  go_enter Tryz.func49, Tryz.ntmps49
  go_wp2_with (go_at_call 94; refine (put_any 0 (by omega) _).mono ?_; rintro e w1 ⟨s1, hs1, rfl, hb1⟩)
  go_loopw [3, 4] (fun o i wr => ∃ s : ByteArray, i = .int .i64 0 ∧ o = .string s ∧ s.size ≤ 10 ∧ Below w.heap.size w wr) (fun _ _ _ => 0)
  case atStart => exact ⟨s1, rfl, rfl, hs1, hb1⟩
  case round =>
    obtain ⟨s, rfl, rfl, hs, hbl⟩ := hrel
    clear hb1
    go_wp2
    go_ret
    exact ⟨s, hs, rfl, hbl⟩

theorem StrRet.mono {B C : Nat} {w : World} (h : B ≤ C) {e : Ending} {w' : World} (hs : StrRet B w e w') : StrRet C w e w' := by
  obtain ⟨s, h1, h2, h3⟩ := hs
  exact ⟨s, Nat.le_trans h1 h, h2, h3⟩
theorem putList_any (p : Option Addr) (n cap B : Nat) (w : World) (hn : n ≤ 1048576) (hB : B ≤ 2199200000000) (h : StrsP w p n B) : Calls Tryz.prog 49 #[.slice p n cap] w (StrRet (10 + (10 + B) * n) w) := by
  rcases h with rfl | ⟨b, off, rfl, h⟩
  · exact (putList_none p cap w).mono fun _ _ hh => hh.mono (by omega)
  · exact putList_some b off n cap B w hn hB h
end Go.Proofs.YtoigjpkdcadlnaaGreatDoor

/-
  LeaseTake: the reference's code of a signature is short.
-/
namespace Go.Proofs.YtoigjpkdcadlnaaGreatDoor
open Go Go.RowKit

/-- what a function's first box holds, and that nothing older has changed -/
def Box (w W : World) (cs : List Value) : Prop := InW w W ∧ ∀ j u, cs[j]? = some u → W.cell? ⟨w.heap.size, j, none⟩ = some u
theorem InW.alloc {w W : World} (h : InW w W) (o : Obj) : InW w (W.alloc o) := ⟨h.1.alloc (Nat.le_of_lt h.2) o, by have := World.size_alloc W o; have := h.2; omega⟩
theorem Box.alloc {w W : World} {cs : List Value} (h : Box w W cs) (o : Obj) : Box w (W.alloc o) cs :=
  ⟨h.1.alloc o, fun j u hj => (((Below.refl W.heap.size W).alloc (Nat.le_refl _) o).cell (p := ⟨w.heap.size, j, none⟩) h.1.2).trans (h.2 j u hj)⟩
theorem Box.drew {w W : World} {cs : List Value} (h : Box w W cs) : Box w W.drew cs := ⟨h.1.drew, h.2⟩
theorem Box.drewN {w W : World} {cs : List Value} (h : Box w W cs) (k : Nat) : Box w (W.drewN k) cs := ⟨h.1.drewN k, h.2⟩
theorem Box.below {w W W' : World} {cs : List Value} (h : Box w W cs) (hb : Below W.heap.size W W') : Box w W' cs :=
  ⟨⟨h.1.1.trans (hb.mono (Nat.le_of_lt h.1.2)), Nat.lt_of_lt_of_le h.1.2 hb.size⟩, fun j u hj => (hb.cell (p := ⟨w.heap.size, j, none⟩) h.1.2).trans (h.2 j u hj)⟩
theorem Box.first (w : World) (cs : List Value) (t : TypeId) : Box w (w.alloc (.cells cs.toArray t)) cs :=
  ⟨⟨(Below.refl _ _).alloc (Nat.le_refl _) _, by have := World.size_alloc w (.cells cs.toArray t); omega⟩, fun j u hj => by
    have hh : (w.alloc (.cells cs.toArray t)).heap[w.heap.size]? = some (.cells cs.toArray t) := Array.getElem?_push_size
    unfold World.cell?
    simp only [hh]
    simpa using hj⟩

/-- a string of at most so many bytes; the box is as it was -/
def StrBox (B : Nat) (w : World) (cs : List Value) (e : Ending) (w' : World) : Prop := ∃ s : ByteArray, s.size ≤ B ∧ e = .returned (.string s) ∧ Box w w' cs
theorem strBox {B : Nat} {w W : World} {cs : List Value} {f : FuncId} {args : Array Value} (hb : Box w W cs) (h : Calls Tryz.prog f args W (StrRet B W)) : Calls Tryz.prog f args W (StrBox B w cs) :=
  h.mono fun _ _ ⟨s, h1, h2, h3⟩ => ⟨s, h1, h2, hb.below h3⟩

def I64 (x : Int) : Prop := -9223372036854775808 ≤ x ∧ x ≤ 9223372036854775807

theorem box6 {w W : World} {c0 c1 c2 c3 c4 c5 : Value} (h : Box w W [c0, c1, c2, c3, c4, c5]) : W.cell? ⟨w.heap.size, 0, none⟩ = some c0 ∧ W.cell? ⟨w.heap.size, 1, none⟩ = some c1 ∧ W.cell? ⟨w.heap.size, 2, none⟩ = some c2 ∧
    W.cell? ⟨w.heap.size, 3, none⟩ = some c3 ∧ W.cell? ⟨w.heap.size, 4, none⟩ = some c4 ∧ W.cell? ⟨w.heap.size, 5, none⟩ = some c5 ∧ Box w W [c0, c1, c2, c3, c4, c5] :=
  ⟨h.2 0 _ rfl, h.2 1 _ rfl, h.2 2 _ rfl, h.2 3 _ rfl, h.2 4 _ rfl, h.2 5 _ rfl, h⟩

theorem ov2 : ∀ x y : Nat, x ≤ 1152921504606846976 → y ≤ 1152921504606846976 → (9223372036854775807 < x + y) = False := fun x y h1 h2 => by simp; omega
theorem ov3 : ∀ x y z : Nat, x ≤ 1152921504606846976 → y ≤ 1152921504606846976 → z ≤ 1152921504606846976 → (9223372036854775807 < x + y + z) = False := fun x y z h1 h2 h3 => by simp; omega
theorem ov4 : ∀ x y z u : Nat, x ≤ 1152921504606846976 → y ≤ 1152921504606846976 → z ≤ 1152921504606846976 → u ≤ 1152921504606846976 → (9223372036854775807 < x + y + z + u) = False := fun x y z u h1 h2 h3 h4 => by simp; omega
theorem ov5 : ∀ x y z u v : Nat, x ≤ 1152921504606846976 → y ≤ 1152921504606846976 → z ≤ 1152921504606846976 → u ≤ 1152921504606846976 → v ≤ 1152921504606846976 → (9223372036854775807 < x + y + z + u + v) = False := fun x y z u v h1 h2 h3 h4 h5 => by simp; omega

theorem IntsAt.drew {W : World} {b off n : Nat} {zs : Nat → Int} (h : IntsAt W b off n zs) : IntsAt W.drew b off n zs := h
theorem ints4 {W : World} {a b c d : Int} (ha : I64 a) (hb : I64 b) (hc : I64 c) (hd : I64 d) (t : TypeId) :
    IntsAt (W.alloc (.cells #[.int .i64 a, .int .i64 b, .int .i64 c, .int .i64 d] t)) W.heap.size 0 4 (fun i => if i = 0 then a else if i = 1 then b else if i = 2 then c else d) := by
  refine ⟨by have := World.size_alloc W (.cells #[.int .i64 a, .int .i64 b, .int .i64 c, .int .i64 d] t); omega, fun i hi => ?_⟩
  match i, hi with
  | 0, _ => exact ⟨by simp, ha⟩
  | 1, _ => exact ⟨by simp, hb⟩
  | 2, _ => exact ⟨by simp, hc⟩
  | 3, _ => exact ⟨by simp, hd⟩

set_option maxHeartbeats 1600000 in
set_option maxRecDepth 1000000 in
theorem signedEnc_any (a b c d : Int) (x y : ByteArray) (ha : I64 a) (hb : I64 b) (hc : I64 c) (hd : I64 d) (hx : x.size ≤ 1048576) (hy : y.size ≤ 1048576) (w : World) :
    Calls Tryz.prog 48 #[.agg #[.int .i64 a, .int .i64 b, .int .i64 c, .int .i64 d, .string x, .string y]] w (StrRet 2097222 w) := by
  have hB0 := Box.first w [.int .i64 a, .int .i64 b, .int .i64 c, .int .i64 d, .string x, .string y] 28
  go_enter Tryz.func48, Tryz.ntmps48
  go_wp2
  revert hB0
  generalize w.alloc _ = W1
  intro hB0
  have o2 := ov2
  have o3 := ov3
  go_region_held3 (fun W => W.cell? ⟨w.heap.size, 0, none⟩ = some (.int .i64 a) ∧ W.cell? ⟨w.heap.size, 1, none⟩ = some (.int .i64 b) ∧ W.cell? ⟨w.heap.size, 2, none⟩ = some (.int .i64 c) ∧
      W.cell? ⟨w.heap.size, 3, none⟩ = some (.int .i64 d) ∧ W.cell? ⟨w.heap.size, 4, none⟩ = some (.string x) ∧ W.cell? ⟨w.heap.size, 5, none⟩ = some (.string y) ∧ Box w W [.int .i64 a, .int .i64 b, .int .i64 c, .int .i64 d, .string x, .string y])
    (first | exact box6 (by assumption) | exact box6 (Box.alloc (by assumption) _) | exact box6 (Box.drew (by assumption)) | exact box6 (Box.alloc (Box.drew (by assumption)) _) | exact box6 (Box.drew (Box.alloc (by assumption) _)))
    (first
      | (go_at_call 46; refine (strBox (by first | assumption | exact Box.alloc (by assumption) _ | exact Box.alloc (Box.drew (by assumption)) _ | exact Box.drew (Box.alloc (by assumption) _)) (putInts_any _ 0 4 _ _ _ (by omega) (by first | exact (ints4 ha hb hc hd _).drew | exact ints4 ha hb hc hd _))).mono ?_; rintro e w2 ⟨s2, hs2, rfl, hB2⟩; have hs2' : s2.size ≤ 1152921504606846976 := Nat.le_trans hs2 (by omega))
      | (go_at_call 47; refine (strBox (by first | assumption | exact Box.drew (by assumption)) (putString_any _ (by omega) _)).mono ?_; rintro e w3 ⟨s3, hs3, rfl, hB3⟩; have hs3' : s3.size ≤ 1152921504606846976 := Nat.le_trans hs3 (by omega)))
  all_goals
    clear o2 o3
    go_wp2
    go_ret
    exact ⟨_, by simp only [ByteArray.size_append]; omega, rfl, hB3.1.1⟩
end Go.Proofs.YtoigjpkdcadlnaaGreatDoor

/-
  LeaseTake: the reference's codes of signatures and of entries are short.
-/
namespace Go.Proofs.YtoigjpkdcadlnaaGreatDoor
open Go Go.RowKit

/-- a signature lies there -/
def SgnAt (w : World) (b o : Nat) : Prop := ∃ (a0 a1 a2 a3 : Int) (x y : ByteArray), I64 a0 ∧ I64 a1 ∧ I64 a2 ∧ I64 a3 ∧ x.size ≤ 1048576 ∧ y.size ≤ 1048576 ∧
  w.cell? ⟨b, o, none⟩ = some (.int .i64 a0) ∧ w.cell? ⟨b, o + 1, none⟩ = some (.int .i64 a1) ∧ w.cell? ⟨b, o + 2, none⟩ = some (.int .i64 a2) ∧ w.cell? ⟨b, o + 3, none⟩ = some (.int .i64 a3) ∧
  w.cell? ⟨b, o + 4, none⟩ = some (.string x) ∧ w.cell? ⟨b, o + 5, none⟩ = some (.string y)
/-- a slice of signatures -/
def SgnsP (w : World) (p : Option Addr) (n : Nat) : Prop := n = 0 ∨ ∃ b off, p = some ⟨b, off, none⟩ ∧ b < w.heap.size ∧ ∀ i, i < n → SgnAt w b (off + i * 6)

theorem SgnAt.below {w W : World} {B b o : Nat} (h : Below B w W) (hb : b < B) (hs : SgnAt w b o) : SgnAt W b o := by
  obtain ⟨a0, a1, a2, a3, x, y, h0, h1, h2, h3, hx, hy, c0, c1, c2, c3, c4, c5⟩ := hs
  exact ⟨a0, a1, a2, a3, x, y, h0, h1, h2, h3, hx, hy, (h.cell (by exact hb)).trans c0, (h.cell (by exact hb)).trans c1, (h.cell (by exact hb)).trans c2, (h.cell (by exact hb)).trans c3, (h.cell (by exact hb)).trans c4, (h.cell (by exact hb)).trans c5⟩
theorem SgnsP.below {w W : World} {p : Option Addr} {n : Nat} (h : Below w.heap.size w W) (hs : SgnsP w p n) : SgnsP W p n := by
  rcases hs with hs | ⟨b, off, rfl, hb, hs⟩
  · exact .inl hs
  · exact .inr ⟨b, off, rfl, Nat.lt_of_lt_of_le hb h.size, fun i hi => (hs i hi).below h hb⟩
theorem StrsP.below {w W : World} {p : Option Addr} {n B : Nat} (h : Below w.heap.size w W) (hs : StrsP w p n B) : StrsP W p n B := by
  rcases hs with hs | ⟨b, off, rfl, hb, hs⟩
  · exact .inl hs
  · exact .inr ⟨b, off, rfl, Nat.lt_of_lt_of_le hb h.size, fun i hi => by obtain ⟨s, h1, h2⟩ := hs i hi; exact ⟨s, (h.cell (by exact hb)).trans h1, h2⟩⟩

theorem Tryz.info9 : (Tryz.prog.info? 9).map (fun i => (i.zero, i.size, i.bytes)) = some (some (.string ⟨#[]⟩), 1, 16) := by kernel_rfl

/-- a slice of strings of its own; nothing that was there has changed -/
def StrsRet (n B : Nat) (w : World) (e : Ending) (w' : World) : Prop := ∃ p cap, e = .returned (.slice p n cap) ∧ StrsP w' p n B ∧ Below w.heap.size w w'

def strVs (ss : List ByteArray) : List Value := ss.map Value.string
theorem strVs_snoc (ss : List ByteArray) (s : ByteArray) : strVs ss ++ [.string s] = strVs (ss ++ [s]) := by simp [strVs]
def AllSz (B : Nat) (ss : List ByteArray) : Prop := ∀ s ∈ ss, s.size ≤ B
theorem AllSz.snoc {B : Nat} {ss : List ByteArray} (h : AllSz B ss) {s : ByteArray} (hs : s.size ≤ B) : AllSz B (ss ++ [s]) := fun x hx => by
  rcases List.mem_append.mp hx with hx | hx
  · exact h x hx
  · rw [List.mem_singleton.mp hx]; exact hs

theorem strsV_of_own {w : World} {B base n : Nat} {v : Value} {ss : List ByteArray} (h : w.ownsRow base 9 1 v n (strVs ss)) (hs : AllSz B ss) : ∃ p cap, v = .slice p n cap ∧ StrsP w p n B := by
  rcases h.2 with ⟨rfl, rfl⟩ | ⟨g, cap, cur, rfl, _, hc, hcap, _, hsz, hx⟩
  · exact ⟨none, 0, rfl, .inl rfl⟩
  · have hl : ss.length = n := by have := h.1; simp [strVs] at this; omega
    have hg : g < w.heap.size := (Array.getElem?_eq_some_iff.mp hc).1
    refine ⟨_, cap, rfl, .inr ⟨g, 0, rfl, hg, fun i hi => ⟨ss[i]'(by omega), ?_, hs _ (List.getElem_mem _)⟩⟩⟩
    have hj2 : (cur.toList.take (n * 1))[i]? = some (.string (ss[i]'(by omega))) := by rw [hx]; simp [strVs, hl, hi]
    rw [List.getElem?_take] at hj2
    split at hj2
    · simp [World.cell?, hc]
      simpa using hj2
    · cases hj2

theorem own_below {w W : World} {base e sz n : Nat} {v : Value} {xs : List Value} (h : w.ownsRow base e sz v n xs) (hb : Below w.heap.size w W) : W.ownsRow base e sz v n xs := by
  refine ⟨h.1, ?_⟩
  rcases h.2 with h0 | ⟨g, cap, cur, rfl, hg, hc, hr⟩
  · exact .inl h0
  · exact .inr ⟨g, cap, cur, rfl, hg, (hb.block g (Array.getElem?_eq_some_iff.mp hc).1).trans hc, hr⟩

set_option maxHeartbeats 1600000 in
set_option maxRecDepth 1000000 in
theorem seals_some (b off n cap : Nat) (w : World) (hn : n ≤ 1048576) (hb : b < w.heap.size) (h : ∀ i, i < n → SgnAt w b (off + i * 6)) :
    Calls Tryz.prog 93 #[.slice (some ⟨b, off, none⟩) n cap] w (StrsRet n 2097222 w) := by
  obtain ⟨i0, hi, hz0, hz1, hz2⟩ := info_parts Tryz.info9
  have H := Lib.hid h
  clear h
  go_enter Tryz.func93, Tryz.ntmps93
  go_wp2
  go_loopw [3, 4] (fun v i wr => ∃ (k : Nat) (ss : List ByteArray), k ≤ n ∧ i = .int .i64 k ∧ AllSz 2097222 ss ∧ wr.ownsRow w.heap.size 9 1 v k (strVs ss) ∧ Below w.heap.size w wr) (fun _ i _ => n - (intOf i).toNat)
  case atStart => exact ⟨0, [], Nat.zero_le _, rfl, fun _ hx => (by cases hx), World.ownsRow_nil _ _ _ _, Below.refl _ _⟩
  case round =>
    obtain ⟨k, ss, hk, rfl, hss, hown, hbl⟩ := hrel
    have hsz := hbl.size
    by_cases hkn : k < n
    · obtain ⟨a0, a1, a2, a3, x, y, q0, q1, q2, q3, hx, hy, c0, c1, c2, c3, c4, c5⟩ := (H.out k hkn).below hbl hb
      go_wp2_with (first
        | (go_at_call 48; refine (signedEnc_any _ _ _ _ _ _ q0 q1 q2 q3 hx hy _).mono ?_; rintro e w2 ⟨s2, hs2, rfl, hb2⟩; have hown2 : w2.ownsRow w.heap.size 9 1 u3 k (strVs ss) := own_below hown hb2; have hsz2 := hb2.size)
        | (at_builtin; refine wpList_append_own _ rfl _ _ 31 rfl w.heap.size 9 i0 (.string ⟨#[]⟩) 1 16 Tryz.underlying31 hi hz0 hz1 hz2 rfl (by decide) _ _ _ rfl (hown2.alloc _) ⟨w2.heap.size, 0, none⟩ 1 1 [.string s2] rfl rfl ?c1 ?c2 ?c3 ?c4 ?c5 ?_))
      case c1 =>
        intro j u hj
        match j, hj with
        | 0, hj => simp at hj; subst hj; simp [Addr.add]
      case c2 => intro u hu; simp at hu; subst hu; rfl
      case c3 => unfold maxLen; omega
      case c4 => omega
      case c5 => simp; omega
      · intro v' w3 hown' hgrow _
        have hb3 : Below w.heap.size w w3 := below_grown (hbl.trans (hb2.mono hsz)) (by omega) hown2 hgrow
        rw [strVs_snoc] at hown'
        have HO := Lib.hid hown'
        have HS := Lib.hid (hss.snoc hs2)
        clear hown' hgrow hown hown2 hbl hb2 hss c0 c1 c2 c3 c4 c5
        go_wp2
        go_roundw
        case rel => exact ⟨k + 1, ss ++ [s2], by omega, by go_num, HS.out, HO.out, hb3⟩
        case measure => simp [intOf]; omega
    · obtain rfl : k = n := by omega
      obtain ⟨p, cp, hv, hp⟩ := strsV_of_own hown hss
      have HP := Lib.hid hp
      have HV := Lib.hid hv
      clear hv hp hown
      go_wp2
      go_ret
      exact ⟨p, cp, congrArg Ending.returned HV.out, HP.out, hbl⟩

set_option maxHeartbeats 1600000 in
set_option maxRecDepth 1000000 in
theorem seals_none (p : Option Addr) (cap : Nat) (w : World) : Calls Tryz.prog 93 #[.slice p 0 cap] w (StrsRet 0 2097222 w) := by
  go_enter Tryz.func93, Tryz.ntmps93
  go_wp2
  go_loopw [3, 4] (fun v i wr => v = .slice none 0 0 ∧ i = .int .i64 0 ∧ Below w.heap.size w wr) (fun _ _ _ => 0)
  case atStart => exact ⟨rfl, rfl, Below.refl _ _⟩
  case round =>
    obtain ⟨rfl, rfl, hbl⟩ := hrel
    go_wp2
    go_ret
    exact ⟨none, 0, rfl, .inl rfl, hbl⟩

theorem seals_any (p : Option Addr) (n cap : Nat) (w : World) (hn : n ≤ 1048576) (h : SgnsP w p n) : Calls Tryz.prog 93 #[.slice p n cap] w (StrsRet n 2097222 w) := by
  rcases h with rfl | ⟨b, off, rfl, hb, h⟩
  · exact seals_none p cap w
  · exact seals_some b off n cap w hn hb h

/-! the code of an entry -/
def StrsBox (n B : Nat) (w : World) (cs : List Value) (e : Ending) (w' : World) : Prop := ∃ p cap, e = .returned (.slice p n cap) ∧ StrsP w' p n B ∧ Box w w' cs
theorem strsBox {n B : Nat} {w W : World} {cs : List Value} {f : FuncId} {args : Array Value} (hb : Box w W cs) (h : Calls Tryz.prog f args W (StrsRet n B W)) : Calls Tryz.prog f args W (StrsBox n B w cs) :=
  h.mono fun _ _ ⟨p, cap, h1, h2, h3⟩ => ⟨p, cap, h1, h2, hb.below h3⟩

theorem ints1 {W : World} {a : Int} (ha : I64 a) (t : TypeId) : IntsAt (W.alloc (.cells #[.int .i64 a] t)) W.heap.size 0 1 (fun _ => a) := by
  refine ⟨by have := World.size_alloc W (.cells #[.int .i64 a] t); omega, fun i hi => ?_⟩
  match i, hi with
  | 0, _ => exact ⟨by simp, ha⟩
theorem StrsP.drew {W : World} {p : Option Addr} {n B : Nat} (h : StrsP W p n B) : StrsP W.drew p n B := h

theorem box3 {w W : World} {c0 c1 c2 : Value} (h : Box w W [c0, c1, c2]) : W.cell? ⟨w.heap.size, 0, none⟩ = some c0 ∧ W.cell? ⟨w.heap.size, 1, none⟩ = some c1 ∧ W.cell? ⟨w.heap.size, 2, none⟩ = some c2 ∧ Box w W [c0, c1, c2] :=
  ⟨h.2 0 _ rfl, h.2 1 _ rfl, h.2 2 _ rfl, h⟩

theorem mulB {B n : Nat} (hn : n ≤ 1048576) : (10 + B) * n ≤ (10 + B) * 1048576 := Nat.mul_le_mul_left _ hn

set_option maxHeartbeats 1600000 in
set_option maxRecDepth 1000000 in
theorem entryEnc_any (a : Int) (x : ByteArray) (p : Option Addr) (n cap : Nat) (ha : I64 a) (hx : x.size ≤ 1048576) (hn : n ≤ 1048576) (w : World) (hp : SgnsP w p n) :
    Calls Tryz.prog 45 #[.agg #[.int .i64 a, .string x, .slice p n cap]] w (StrRet 2199140000000 w) := by
  have hB0 := Box.first w [.int .i64 a, .string x, .slice p n cap] 110
  have HP := Lib.hid hp
  have HM := Lib.hid (mulB (B := 2097222) hn)
  clear hp
  go_enter Tryz.func45, Tryz.ntmps45
  go_wp2
  revert hB0
  generalize w.alloc _ = W1
  intro hB0
  have o2 := ov2
  have o3 := ov3
  go_region_held3 (fun W => W.cell? ⟨w.heap.size, 0, none⟩ = some (.int .i64 a) ∧ W.cell? ⟨w.heap.size, 1, none⟩ = some (.string x) ∧ W.cell? ⟨w.heap.size, 2, none⟩ = some (.slice p n cap) ∧ Box w W [.int .i64 a, .string x, .slice p n cap])
    (first | exact box3 (by assumption) | exact box3 (Box.alloc (by assumption) _) | exact box3 (Box.drew (by assumption)) | exact box3 (Box.drew (Box.alloc (by assumption) _)))
    (first
      | (go_at_call 46; refine (strBox (by first | assumption | exact Box.alloc (by assumption) _ | exact Box.drew (Box.alloc (by assumption) _)) (putInts_any _ 0 1 _ _ _ (by omega) (by first | exact (ints1 ha _).drew | exact ints1 ha _))).mono ?_; rintro e w2 ⟨s2, hs2, rfl, hB2⟩; have hs2' : s2.size ≤ 1152921504606846976 := Nat.le_trans hs2 (by omega))
      | (go_at_call 47; refine (strBox (by first | assumption | exact Box.drew (by assumption)) (putString_any _ (by omega) _)).mono ?_; rintro e w3 ⟨s3, hs3, rfl, hB3⟩; have hs3' : s3.size ≤ 1152921504606846976 := Nat.le_trans hs3 (by omega))
      | (go_at_call 93; refine (strsBox (by first | assumption | exact Box.drew (by assumption)) (seals_any _ _ _ _ hn (HP.out.below (by first | exact hB3.1.1 | exact hB2.1.1)))).mono ?_; rintro e w4 ⟨p4, c4, rfl, hP4, hB4⟩; have HP4 := Lib.hid hP4; clear hP4)
      | (go_at_call 49; refine (strBox (by first | assumption | exact Box.drew (by assumption)) (putList_any _ _ _ 2097222 _ hn (by omega) HP4.out)).mono ?_; rintro e w5 ⟨s5, hs5, rfl, hB5⟩; have hs5' : s5.size ≤ 1152921504606846976 := Nat.le_trans hs5 (by have := HM.out; omega)))
  all_goals
    clear o2 o3
    go_wp2
    go_ret
    exact ⟨_, by simp only [ByteArray.size_append]; have := HM.out; omega, rfl, hB5.1.1⟩
end Go.Proofs.YtoigjpkdcadlnaaGreatDoor
