/-
  LeaseTake: the reference's code of a message is short.
-/
import Derived.Test.YtoigjpkdcadlnaaGreatDoorLtEF
namespace Go.Proofs.YtoigjpkdcadlnaaGreatDoor
open Go Go.RowKit

def StatAt (w : World) (b o : Nat) : Prop := ∃ (a b0 c d e0 e1 e2 e3 : Int) (x y z : ByteArray) (p : Option Addr) (n cap : Nat), I64 a ∧ I64 b0 ∧ I64 c ∧ I64 d ∧ I64 e0 ∧ I64 e1 ∧ I64 e2 ∧ I64 e3 ∧ x.size ≤ 1048576 ∧ y.size ≤ 1048576 ∧ z.size ≤ 1048576 ∧ n ≤ 1048576 ∧ SgnsP w p n ∧
  w.cell? ⟨b, o, none⟩ = some (.int .i64 a) ∧ w.cell? ⟨b, o + 1, none⟩ = some (.int .i64 b0) ∧ w.cell? ⟨b, o + 2, none⟩ = some (.int .i64 c) ∧ w.cell? ⟨b, o + 3, none⟩ = some (.int .i64 d) ∧ w.cell? ⟨b, o + 4, none⟩ = some (.string x) ∧ w.cell? ⟨b, o + 5, none⟩ = some (.slice p n cap) ∧
  w.cell? ⟨b, o + 6, none⟩ = some (.int .i64 e0) ∧ w.cell? ⟨b, o + 7, none⟩ = some (.int .i64 e1) ∧ w.cell? ⟨b, o + 8, none⟩ = some (.int .i64 e2) ∧ w.cell? ⟨b, o + 9, none⟩ = some (.int .i64 e3) ∧ w.cell? ⟨b, o + 10, none⟩ = some (.string y) ∧ w.cell? ⟨b, o + 11, none⟩ = some (.string z)
def StatsP (w : World) (p : Option Addr) (n : Nat) : Prop := n = 0 ∨ ∃ b off, p = some ⟨b, off, none⟩ ∧ b < w.heap.size ∧ ∀ i, i < n → StatAt w b (off + i * 12)
def EntsP (w : World) (p : Option Addr) (n : Nat) : Prop := n = 0 ∨ ∃ b off, p = some ⟨b, off, none⟩ ∧ b < w.heap.size ∧ ∀ i, i < n → EntAt w b (off + i * 3)

theorem StatAt.below {w W : World} {b o : Nat} (h : Below w.heap.size w W) (hb : b < w.heap.size) (hs : StatAt w b o) : StatAt W b o := by
  obtain ⟨a, b0, c, d, e0, e1, e2, e3, x, y, z, p, n, cap, h1, h2, h3, h4, h5, h6, h7, h8, h9, h10, h11, h12, hp, k0, k1, k2, k3, k4, k5, k6, k7, k8, k9, k10, k11⟩ := hs
  exact ⟨a, b0, c, d, e0, e1, e2, e3, x, y, z, p, n, cap, h1, h2, h3, h4, h5, h6, h7, h8, h9, h10, h11, h12, hp.below h, (h.cell (by exact hb)).trans k0, (h.cell (by exact hb)).trans k1, (h.cell (by exact hb)).trans k2, (h.cell (by exact hb)).trans k3, (h.cell (by exact hb)).trans k4, (h.cell (by exact hb)).trans k5,
    (h.cell (by exact hb)).trans k6, (h.cell (by exact hb)).trans k7, (h.cell (by exact hb)).trans k8, (h.cell (by exact hb)).trans k9, (h.cell (by exact hb)).trans k10, (h.cell (by exact hb)).trans k11⟩
theorem EntAt.below {w W : World} {b o : Nat} (h : Below w.heap.size w W) (hb : b < w.heap.size) (hs : EntAt w b o) : EntAt W b o := by
  obtain ⟨a, x, p, n, cap, h1, h2, h3, hp, k0, k1, k2⟩ := hs
  exact ⟨a, x, p, n, cap, h1, h2, h3, hp.below h, (h.cell (by exact hb)).trans k0, (h.cell (by exact hb)).trans k1, (h.cell (by exact hb)).trans k2⟩
theorem HandAt.below {w W : World} {b o : Nat} (h : Below w.heap.size w W) (hb : b < w.heap.size) (hs : HandAt w b o) : HandAt W b o := by
  obtain ⟨s, h1, k0, he⟩ := hs
  exact ⟨s, h1, (h.cell (by exact hb)).trans k0, he.below h hb⟩
theorem StatsP.below {w W : World} {p : Option Addr} {n : Nat} (h : Below w.heap.size w W) (hs : StatsP w p n) : StatsP W p n := by
  rcases hs with hs | ⟨b, off, rfl, hb, hs⟩
  · exact .inl hs
  · exact .inr ⟨b, off, rfl, Nat.lt_of_lt_of_le hb h.size, fun i hi => (hs i hi).below h hb⟩
theorem EntsP.below {w W : World} {p : Option Addr} {n : Nat} (h : Below w.heap.size w W) (hs : EntsP w p n) : EntsP W p n := by
  rcases hs with hs | ⟨b, off, rfl, hb, hs⟩
  · exact .inl hs
  · exact .inr ⟨b, off, rfl, Nat.lt_of_lt_of_le hb h.size, fun i hi => (hs i hi).below h hb⟩
theorem HandsP.below {w W : World} {p : Option Addr} {n : Nat} (h : Below w.heap.size w W) (hs : HandsP w p n) : HandsP W p n := by
  rcases hs with hs | ⟨b, off, rfl, hb, hs⟩
  · exact .inl hs
  · exact .inr ⟨b, off, rfl, Nat.lt_of_lt_of_le hb h.size, fun i hi => (hs i hi).below h hb⟩

structure Msg where
  kind : Int
  frm : Int
  dst : Int
  view : Int
  slot : Int
  value : ByteArray
  untl : Int
  g0 : Int
  g1 : Int
  g2 : Int
  g3 : Int
  gd : ByteArray
  gs : ByteArray
  stP : Option Addr
  stN : Nat
  stC : Nat
  enP : Option Addr
  enN : Nat
  enC : Nat
  sl : Int
  rt : ByteArray
  ckP : Option Addr
  ckN : Nat
  ckC : Nat
  pfP : Option Addr
  pfN : Nat
  pfC : Nat
  hnP : Option Addr
  hnN : Nat
  hnC : Nat
  txP : Option Addr
  txN : Nat
  txC : Nat

def Msg.cells (m : Msg) : List Value := [.int .i64 m.kind, .int .i64 m.frm, .int .i64 m.dst, .int .i64 m.view, .int .i64 m.slot, .string m.value, .int .i64 m.untl, .int .i64 m.g0, .int .i64 m.g1, .int .i64 m.g2, .int .i64 m.g3, .string m.gd, .string m.gs, .slice m.stP m.stN m.stC, .slice m.enP m.enN m.enC, .int .i64 m.sl, .string m.rt, .slice m.ckP m.ckN m.ckC, .slice m.pfP m.pfN m.pfC, .slice m.hnP m.hnN m.hnC, .slice m.txP m.txN m.txC]
/-- a message that can be read -/
structure Msg.Ok (m : Msg) (w : World) : Prop where
  kindH : I64 m.kind
  frmH : I64 m.frm
  dstH : I64 m.dst
  viewH : I64 m.view
  slotH : I64 m.slot
  valueH : m.value.size ≤ 1048576
  untlH : I64 m.untl
  g0H : I64 m.g0
  g1H : I64 m.g1
  g2H : I64 m.g2
  g3H : I64 m.g3
  gdH : m.gd.size ≤ 1048576
  gsH : m.gs.size ≤ 1048576
  stH : m.stN ≤ 1048576
  enH : m.enN ≤ 1048576
  slH : I64 m.sl
  rtH : m.rt.size ≤ 1048576
  ckH : m.ckN ≤ 1048576
  pfH : m.pfN ≤ 1048576
  hnH : m.hnN ≤ 1048576
  txH : m.txN ≤ 1048576
  stR : StatsP w m.stP m.stN
  enR : EntsP w m.enP m.enN
  ckR : StrsP w m.ckP m.ckN 1048576
  pfR : SgnsP w m.pfP m.pfN
  hnR : HandsP w m.hnP m.hnN
  txR : StrsP w m.txP m.txN 1048576
theorem Msg.Ok.below {m : Msg} {w W : World} (h : Below w.heap.size w W) (hm : m.Ok w) : m.Ok W :=
  { hm with stR := hm.stR.below h, enR := hm.enR.below h, ckR := hm.ckR.below h, pfR := hm.pfR.below h, hnR := hm.hnR.below h, txR := hm.txR.below h }

/-- an own list of strings behind a world -/
def BelOwn (W0 : World) (v : Value) (n : Nat) (xs : List Value) (W : World) : Prop := Below W0.heap.size W0 W ∧ W.ownsRow W0.heap.size 9 1 v n xs
theorem below_trans {a b c : World} (h : Below a.heap.size a b) (h2 : Below b.heap.size b c) : Below a.heap.size a c := h.trans (h2.mono h.size)

theorem ints6 {W : World} {a b c d e f : Int} (ha : I64 a) (hb : I64 b) (hc : I64 c) (hd : I64 d) (he : I64 e) (hf : I64 f) (t : TypeId) :
    IntsAt (W.alloc (.cells #[.int .i64 a, .int .i64 b, .int .i64 c, .int .i64 d, .int .i64 e, .int .i64 f] t)) W.heap.size 0 6 (fun i => if i = 0 then a else if i = 1 then b else if i = 2 then c else if i = 3 then d else if i = 4 then e else f) := by
  refine ⟨by have := World.size_alloc W (.cells #[.int .i64 a, .int .i64 b, .int .i64 c, .int .i64 d, .int .i64 e, .int .i64 f] t); omega, fun i hi => ?_⟩
  match i, hi with
  | 0, _ => exact ⟨by simp, ha⟩
  | 1, _ => exact ⟨by simp, hb⟩
  | 2, _ => exact ⟨by simp, hc⟩
  | 3, _ => exact ⟨by simp, hd⟩
  | 4, _ => exact ⟨by simp, he⟩
  | 5, _ => exact ⟨by simp, hf⟩

theorem ovA : ∀ x y : Nat, x ≤ 1000000000000000000 → y ≤ 2306100000000000010 → (9223372036854775807 < x + y) = False := fun x y h1 h2 => by simp; omega
theorem ovB : ∀ x y z : Nat, x ≤ 1000000000000000000 → y ≤ 2306100000000000010 → z ≤ 2306100000000000010 → (9223372036854775807 < x + y + z) = False := fun x y z h1 h2 h3 => by simp; omega
theorem ovC : ∀ x y z u : Nat, x ≤ 1000000000000000000 → y ≤ 2306100000000000010 → z ≤ 2306100000000000010 → u ≤ 2306100000000000010 → (9223372036854775807 < x + y + z + u) = False := fun x y z u h1 h2 h3 h4 => by simp; omega
theorem ovD : ∀ x y z u v : Nat, x ≤ 1000000000000000000 → y ≤ 2306100000000000010 → z ≤ 2306100000000000010 → u ≤ 2306100000000000010 → v ≤ 1000000000000000000 → (9223372036854775807 < x + y + z + u + v) = False := fun x y z u v h1 h2 h3 h4 h5 => by simp; omega

/-- the lists of codes that encode has made, and the box -/
def EncF (w : World) (cs : List Value) (p1 : Option Addr) (n1 : Nat) (p2 : Option Addr) (n2 : Nat) (W : World) : Prop := Box w W cs ∧ StrsP W p1 n1 2199140000000 ∧ StrsP W p2 n2 2199140000000
theorem EncF.keeps (w : World) (cs : List Value) (p1 : Option Addr) (n1 : Nat) (p2 : Option Addr) (n2 : Nat) : Keeps (EncF w cs p1 n1 p2 n2) := fun _ _ h hb => ⟨h.1.below hb, h.2.1.below hb, h.2.2.below hb⟩

theorem boxA {m : Msg} {w W : World} (h : Box w W m.cells) : W.cell? ⟨w.heap.size, 0, none⟩ = some (.int .i64 m.kind) ∧ W.cell? ⟨w.heap.size, 1, none⟩ = some (.int .i64 m.frm) ∧ W.cell? ⟨w.heap.size, 2, none⟩ = some (.int .i64 m.dst) ∧ W.cell? ⟨w.heap.size, 3, none⟩ = some (.int .i64 m.view) ∧ W.cell? ⟨w.heap.size, 4, none⟩ = some (.int .i64 m.slot) ∧ W.cell? ⟨w.heap.size, 5, none⟩ = some (.string m.value) ∧ W.cell? ⟨w.heap.size, 6, none⟩ = some (.int .i64 m.untl) ∧ W.cell? ⟨w.heap.size, 7, none⟩ = some (.int .i64 m.g0) ∧ W.cell? ⟨w.heap.size, 8, none⟩ = some (.int .i64 m.g1) ∧ W.cell? ⟨w.heap.size, 9, none⟩ = some (.int .i64 m.g2) ∧ W.cell? ⟨w.heap.size, 10, none⟩ = some (.int .i64 m.g3) ∧ W.cell? ⟨w.heap.size, 11, none⟩ = some (.string m.gd) ∧ W.cell? ⟨w.heap.size, 12, none⟩ = some (.string m.gs) ∧ Box w W m.cells :=
  ⟨h.2 0 _ rfl, h.2 1 _ rfl, h.2 2 _ rfl, h.2 3 _ rfl, h.2 4 _ rfl, h.2 5 _ rfl, h.2 6 _ rfl, h.2 7 _ rfl, h.2 8 _ rfl, h.2 9 _ rfl, h.2 10 _ rfl, h.2 11 _ rfl, h.2 12 _ rfl, h⟩
theorem boxB {m : Msg} {w W : World} (h : Box w W m.cells) : W.cell? ⟨w.heap.size, 15, none⟩ = some (.int .i64 m.sl) ∧ W.cell? ⟨w.heap.size, 16, none⟩ = some (.string m.rt) ∧ W.cell? ⟨w.heap.size, 17, none⟩ = some (.slice m.ckP m.ckN m.ckC) ∧ W.cell? ⟨w.heap.size, 18, none⟩ = some (.slice m.pfP m.pfN m.pfC) ∧ W.cell? ⟨w.heap.size, 19, none⟩ = some (.slice m.hnP m.hnN m.hnC) ∧ W.cell? ⟨w.heap.size, 20, none⟩ = some (.slice m.txP m.txN m.txC) ∧ Box w W m.cells :=
  ⟨h.2 15 _ rfl, h.2 16 _ rfl, h.2 17 _ rfl, h.2 18 _ rfl, h.2 19 _ rfl, h.2 20 _ rfl, h⟩

set_option maxHeartbeats 6400000 in
set_option maxRecDepth 1000000 in
theorem encode_any (m : Msg) (w : World) (hm : m.Ok w) : Calls Tryz.prog 22 #[.agg #[.int .i64 m.kind, .int .i64 m.frm, .int .i64 m.dst, .int .i64 m.view, .int .i64 m.slot, .string m.value, .int .i64 m.untl, .int .i64 m.g0, .int .i64 m.g1, .int .i64 m.g2, .int .i64 m.g3, .string m.gd, .string m.gs, .slice m.stP m.stN m.stC, .slice m.enP m.enN m.enC, .int .i64 m.sl, .string m.rt, .slice m.ckP m.ckN m.ckC, .slice m.pfP m.pfN m.pfC, .slice m.hnP m.hnN m.hnC, .slice m.txP m.txN m.txC]] w (StrRet 7000000000000000000 w) := by
  obtain ⟨i0, hi, hz0, hz1, hz2⟩ := info_parts Tryz.info9
  have hB0 : Box w (w.alloc (.cells #[.int .i64 m.kind, .int .i64 m.frm, .int .i64 m.dst, .int .i64 m.view, .int .i64 m.slot, .string m.value, .int .i64 m.untl, .int .i64 m.g0, .int .i64 m.g1, .int .i64 m.g2, .int .i64 m.g3, .string m.gd, .string m.gs, .slice m.stP m.stN m.stC, .slice m.enP m.enN m.enC, .int .i64 m.sl, .string m.rt, .slice m.ckP m.ckN m.ckC, .slice m.pfP m.pfN m.pfC, .slice m.hnP m.hnN m.hnC, .slice m.txP m.txN m.txC] 37)) m.cells := Box.first w m.cells 37
  have HM := Lib.hid hm
  have HS1 := Lib.hid (mulB (B := 2199140000000) hm.stH)
  have HS2 := Lib.hid (mulB (B := 2199140000000) hm.enH)
  have HS3 := Lib.hid (mulB (B := 1048576) hm.txH)
  have hst := hm.stH
  have hen := hm.enH
  have htx := hm.txH
  clear hm
  go_enter Tryz.func22, Tryz.ntmps22
  go_wp2
  revert hB0
  generalize w.alloc _ = W1
  intro hB0
  go_loopw [3, 5] (fun v i wr => ∃ (k : Nat) (ss : List ByteArray), k ≤ m.stN ∧ i = .int .i64 k ∧ AllSz 2199140000000 ss ∧ BelOwn W1 v k (strVs ss) wr) (fun _ i _ => m.stN - (intOf i).toNat)
  case atStart => exact ⟨0, [], Nat.zero_le _, rfl, fun _ hx => (by cases hx), Below.refl _ _, World.ownsRow_nil _ _ _ _⟩
  case round =>
    obtain ⟨k, ss, hk, rfl, hss, hF⟩ := hrel
    have hBx : Box w wr m.cells := hB0.below hF.1
    have hc13 : wr.cell? ⟨w.heap.size, 13, none⟩ = some (.slice m.stP m.stN m.stC) := hBx.2 13 _ rfl
    have hszr := hF.1.size
    by_cases hkn : k < m.stN
    · obtain ⟨b, off, hp, hb, hh⟩ : ∃ b off, m.stP = some ⟨b, off, none⟩ ∧ b < w.heap.size ∧ ∀ i, i < m.stN → StatAt w b (off + i * 12) := by
        rcases HM.out.stR with h0 | h1
        · omega
        · exact h1
      obtain ⟨a, b0, c, d, e0, e1, e2, e3, x, y, z, p, n, cap, q1, q2, q3, q4, q5, q6, q7, q8, q9, q10, q11, q12, qp, k0, k1, k2, k3, k4, k5, k6, k7, k8, k9, k10, k11⟩ := (hh k hkn).below hBx.1.1 hb
      have HQ := Lib.hid qp
      rw [hp] at hc13
      clear hh qp hp hBx
      have hown := hF.2
      have hbl := hF.1
      clear hF
      go_wp2_with (first
        | (go_at_call 44; refine (statusEnc_any _ _ _ _ _ _ _ _ _ _ _ _ _ _ q1 q2 q3 q4 q5 q6 q7 q8 q9 q10 q11 q12 _ HQ.out).mono ?_; rintro e w2 ⟨s2, hs2, rfl, hb2⟩; have hown2 : w2.ownsRow W1.heap.size 9 1 u3 k (strVs ss) := own_below hown hb2; have hsz2 := hb2.size)
        | (at_builtin; refine wpList_append_own _ rfl _ _ 31 rfl W1.heap.size 9 i0 (.string ⟨#[]⟩) 1 16 Tryz.underlying31 hi hz0 hz1 hz2 rfl (by decide) _ _ _ rfl (hown2.alloc _) ⟨w2.heap.size, 0, none⟩ 1 1 [.string s2] rfl rfl ?c1 ?c2 ?c3 ?c4 ?c5 ?_))
      case c1 =>
        intro j u hj
        match j, hj with
        | 0, hj => simp at hj; subst hj; simp [Addr.add]
      case c2 => intro u hu; simp at hu; subst hu; rfl
      case c3 => unfold maxLen; omega
      case c4 => omega
      case c5 => simp; omega
      · intro v' w3 hown' hgrow _
        have hb3 : Below W1.heap.size W1 w3 := below_grown (below_trans hbl hb2) (by omega) hown2 hgrow
        rw [strVs_snoc] at hown'
        have HO := Lib.hid hown'
        have HS := Lib.hid (hss.snoc hs2)
        clear hown' hgrow hown hown2 hbl hb2 hss k0 k1 k2 k3 k4 k5 k6 k7 k8 k9 k10 k11 hc13
        go_wp2
        go_roundw
        case rel => exact ⟨k + 1, ss ++ [s2], by omega, by go_num, HS.out, hb3, HO.out⟩
        case measure => simp [intOf]; omega
    · obtain ⟨p1, c1, hv, hp1⟩ := strsV_of_own hF.2 hss
      subst hv
      have HP1 := Lib.hid hp1
      have hk20 : k ≤ 1048576 := by omega
      have HS4 := Lib.hid (mulB (B := 2199140000000) hk20)
      clear hF hp1 hss hszr hB0
      go_wp2
      obtain ⟨W2, rfl⟩ : ∃ W2 : World, W2 = wr := ⟨_, rfl⟩
      clear hc13
      go_loopw [4, 6] (fun v i wr => ∃ (k : Nat) (ss : List ByteArray), k ≤ m.enN ∧ i = .int .i64 k ∧ AllSz 2199140000000 ss ∧ BelOwn W2 v k (strVs ss) wr) (fun _ i _ => m.enN - (intOf i).toNat)
      case atStart => exact ⟨0, [], Nat.zero_le _, rfl, fun _ hx => (by cases hx), Below.refl _ _, World.ownsRow_nil _ _ _ _⟩
      case round =>
        obtain ⟨k2, ss, hk2, rfl, hss, hF⟩ := hrel
        have hBy : Box w wr m.cells := hBx.below hF.1
        have hc14 : wr.cell? ⟨w.heap.size, 14, none⟩ = some (.slice m.enP m.enN m.enC) := hBy.2 14 _ rfl
        have hszr := hF.1.size
        by_cases hkn2 : k2 < m.enN
        · obtain ⟨b, off, hp, hb, hh⟩ : ∃ b off, m.enP = some ⟨b, off, none⟩ ∧ b < w.heap.size ∧ ∀ i, i < m.enN → EntAt w b (off + i * 3) := by
            rcases HM.out.enR with h0 | h1
            · omega
            · exact h1
          obtain ⟨a, x, p, n, cap, q1, q2, q3, qp, k0, k1, k2'⟩ := (hh k2 hkn2).below hBy.1.1 hb
          have HQ := Lib.hid qp
          rw [hp] at hc14
          clear hh qp hp hBy
          have hown := hF.2
          have hbl := hF.1
          clear hF
          go_wp2_with (first
            | (go_at_call 45; refine (entryEnc_any _ _ _ _ _ q1 q2 q3 _ HQ.out).mono ?_; rintro e w2 ⟨s2, hs2, rfl, hb2⟩; have hown2 : w2.ownsRow W2.heap.size 9 1 u4 k2 (strVs ss) := own_below hown hb2; have hsz2 := hb2.size)
            | (at_builtin; refine wpList_append_own _ rfl _ _ 31 rfl W2.heap.size 9 i0 (.string ⟨#[]⟩) 1 16 Tryz.underlying31 hi hz0 hz1 hz2 rfl (by decide) _ _ _ rfl (hown2.alloc _) ⟨w2.heap.size, 0, none⟩ 1 1 [.string s2] rfl rfl ?d1 ?d2 ?d3 ?d4 ?d5 ?_))
          case d1 =>
            intro j u hj
            match j, hj with
            | 0, hj => simp at hj; subst hj; simp [Addr.add]
          case d2 => intro u hu; simp at hu; subst hu; rfl
          case d3 => unfold maxLen; omega
          case d4 => omega
          case d5 => simp; omega
          · intro v' w3 hown' hgrow _
            have hb3 : Below W2.heap.size W2 w3 := below_grown (below_trans hbl hb2) (by omega) hown2 hgrow
            rw [strVs_snoc] at hown'
            have HO := Lib.hid hown'
            have HS := Lib.hid (hss.snoc hs2)
            clear hown' hgrow hown hown2 hbl hb2 hss k0 k1 k2' hc14
            go_wp2
            go_roundw
            case rel => exact ⟨k2 + 1, ss ++ [s2], by omega, by go_num, HS.out, hb3, HO.out⟩
            case measure => simp [intOf]; omega
        · obtain ⟨p2, c2, hv, hp2⟩ := strsV_of_own hF.2 hss
          subst hv
          have hE : EncF w m.cells p1 k p2 k2 wr := ⟨hBy, HP1.out.below hF.1, hp2⟩
          have hk21 : k2 ≤ 1048576 := by omega
          have HS5 := Lib.hid (mulB (B := 2199140000000) hk21)
          clear hF hp2 hss hszr hBx hBy HP1
          go_wp2_with fail
          clear hc14
          have o2 := ov2
          have o3 := ov3
          go_region_held3 (fun W => W.cell? ⟨w.heap.size, 0, none⟩ = some (.int .i64 m.kind) ∧ W.cell? ⟨w.heap.size, 1, none⟩ = some (.int .i64 m.frm) ∧ W.cell? ⟨w.heap.size, 2, none⟩ = some (.int .i64 m.dst) ∧ W.cell? ⟨w.heap.size, 3, none⟩ = some (.int .i64 m.view) ∧ W.cell? ⟨w.heap.size, 4, none⟩ = some (.int .i64 m.slot) ∧ W.cell? ⟨w.heap.size, 5, none⟩ = some (.string m.value) ∧ W.cell? ⟨w.heap.size, 6, none⟩ = some (.int .i64 m.untl) ∧ W.cell? ⟨w.heap.size, 7, none⟩ = some (.int .i64 m.g0) ∧ W.cell? ⟨w.heap.size, 8, none⟩ = some (.int .i64 m.g1) ∧ W.cell? ⟨w.heap.size, 9, none⟩ = some (.int .i64 m.g2) ∧ W.cell? ⟨w.heap.size, 10, none⟩ = some (.int .i64 m.g3) ∧ W.cell? ⟨w.heap.size, 11, none⟩ = some (.string m.gd) ∧ W.cell? ⟨w.heap.size, 12, none⟩ = some (.string m.gs) ∧ Box w W m.cells)
            (first | exact boxA hE.1 | exact boxA hE.1.drew | exact boxA (hE.1.alloc _) | exact boxA (hE.1.alloc _).drew | exact boxA hE2.1 | exact boxA hE3.1 | exact boxA hE4.1 | exact boxA hE5.1)
            (first
              | (go_at_call 46; refine (strF (EncF.keeps w m.cells p1 k p2 k2) (by first | exact (EncF.keeps _ _ _ _ _ _).drew ((EncF.keeps _ _ _ _ _ _).alloc hE _) | exact (EncF.keeps _ _ _ _ _ _).alloc hE _) (putInts_any _ 0 6 _ _ _ (by omega) (by first | exact (ints6 HM.out.kindH HM.out.frmH HM.out.dstH HM.out.viewH HM.out.slotH HM.out.untlH _).drew | exact ints6 HM.out.kindH HM.out.frmH HM.out.dstH HM.out.viewH HM.out.slotH HM.out.untlH _))).mono ?_; rintro e w2 ⟨s2, hs2, rfl, hE2⟩; have hs2' : s2.size ≤ 1152921504606846976 := Nat.le_trans hs2 (by omega); have hvs := HM.out.valueH)
              | (go_at_call 47; (with_reducible refine (strF (EncF.keeps w m.cells p1 k p2 k2) hE2 (putString_any m.value (by omega) _)).mono ?_); rintro e w3 ⟨s3, hs3, rfl, hE3⟩; have hs3' : s3.size ≤ 1152921504606846976 := Nat.le_trans hs3 (by omega))
              | (go_at_call 48; (with_reducible refine (strF (EncF.keeps w m.cells p1 k p2 k2) hE3 (signedEnc_any _ _ _ _ _ _ HM.out.g0H HM.out.g1H HM.out.g2H HM.out.g3H HM.out.gdH HM.out.gsH _)).mono ?_); rintro e w4 ⟨s4, hs4, rfl, hE4⟩)
              | (go_at_call 47; (with_reducible refine (strF (EncF.keeps w m.cells p1 k p2 k2) hE4 (putString_any s4 (by omega) _)).mono ?_); rintro e w5 ⟨s5, hs5, rfl, hE5⟩; have hs5' : s5.size ≤ 1152921504606846976 := Nat.le_trans hs5 (by omega)))
          clear o2 o3 hE hE2 hE3 hE4
          have hx7 : s2.size + s3.size + s5.size ≤ 1000000000000000000 := by omega
          have hx8 : s2.size + s3.size + s5.size ≤ 10000000 := by omega
          have HX := Lib.hid hx8
          clear hx8
          go_wp2_with fail
          have HM5 := Lib.hid (HM.out.below hE5.1.1.1)
          have HP5 := Lib.hid hE5.2.1
          have oA := ovA
          have oB := ovB
          have oC := ovC
          have oD := ovD
          clear hs2' hs3' hs5'
          go_region_held3 (fun W => W.cell? ⟨w.heap.size, 15, none⟩ = some (.int .i64 m.sl) ∧ W.cell? ⟨w.heap.size, 16, none⟩ = some (.string m.rt) ∧ W.cell? ⟨w.heap.size, 17, none⟩ = some (.slice m.ckP m.ckN m.ckC) ∧ W.cell? ⟨w.heap.size, 18, none⟩ = some (.slice m.pfP m.pfN m.pfC) ∧ W.cell? ⟨w.heap.size, 19, none⟩ = some (.slice m.hnP m.hnN m.hnC) ∧ W.cell? ⟨w.heap.size, 20, none⟩ = some (.slice m.txP m.txN m.txC) ∧ Box w W m.cells)
            (first | exact boxB hE5.1 | exact boxB hE5.1.drew | exact boxB hE6.1 | exact boxB hE7.1 | exact boxB hE8.1 | exact boxB hE9.1 | exact boxB hE10.1)
            (first
              | (go_at_call 49; (with_reducible refine (strF (EncF.keeps w m.cells p1 k p2 k2) (by first | exact hE5 | exact (EncF.keeps _ _ _ _ _ _).drew hE5) (putList_any p1 k _ 2199140000000 _ hk20 (by omega) (by first | exact HP5.out | exact HP5.out.drew))).mono ?_); rintro e w6 ⟨s6, hs6, rfl, hE6⟩; have HP6 := Lib.hid hE6.2.2; have hs6' : s6.size ≤ 2306100000000000010 := Nat.le_trans hs6 (by have := HS4.out; omega))
              | (go_at_call 49; (with_reducible refine (strF (EncF.keeps w m.cells p1 k p2 k2) hE6 (putList_any p2 k2 _ 2199140000000 _ hk21 (by omega) HP6.out)).mono ?_); rintro e w7 ⟨s7, hs7, rfl, hE7⟩; have HM7 := Lib.hid (HM.out.below hE7.1.1.1); have hs7' : s7.size ≤ 2306100000000000010 := Nat.le_trans hs7 (by have := HS5.out; omega))
              | (go_at_call 50; (with_reducible refine (strF (EncF.keeps w m.cells p1 k p2 k2) hE7 (snapEnc_any _ _ _ _ _ _ _ _ _ _ _ HM7.out.slH HM7.out.rtH HM7.out.ckH HM7.out.pfH HM7.out.hnH _ HM7.out.ckR HM7.out.pfR HM7.out.hnR)).mono ?_); rintro e w8 ⟨s8, hs8, rfl, hE8⟩)
              | (go_at_call 47; (with_reducible refine (strF (EncF.keeps w m.cells p1 k p2 k2) hE8 (putString_any s8 (by omega) _)).mono ?_); rintro e w9 ⟨s9, hs9, rfl, hE9⟩; have HM9 := Lib.hid (HM.out.below hE9.1.1.1); have hs9' : s9.size ≤ 2306100000000000010 := Nat.le_trans hs9 (by omega))
              | (go_at_call 49; (with_reducible refine (strF (EncF.keeps w m.cells p1 k p2 k2) hE9 (putList_any m.txP m.txN _ 1048576 _ htx (by omega) HM9.out.txR)).mono ?_); rintro e w10 ⟨s10, hs10, rfl, hE10⟩; have hs10' : s10.size ≤ 1000000000000000000 := Nat.le_trans hs10 (by have := HS3.out; omega)))
          all_goals
            clear oA oB oC oD
            go_wp2
            go_ret
            exact ⟨_, by simp only [ByteArray.size_append]; have := HS3.out; have := HS4.out; have := HS5.out; omega, rfl, hE10.1.1.1⟩
end Go.Proofs.YtoigjpkdcadlnaaGreatDoor

/-
  LeaseTake: Few returns.
-/
namespace Go.Proofs.YtoigjpkdcadlnaaGreatDoor
open Go Go.RowKit

def BoolRet (w : World) (e : Ending) (w' : World) : Prop := ∃ b : Bool, e = .returned (.bool b) ∧ Below w.heap.size w w'

theorem Tryz.size37 : (Tryz.prog.info? 37).map (·.size) = some 21 := by kernel_rfl

set_option maxHeartbeats 1600000 in
set_option maxRecDepth 1000000 in
theorem few_any (m : Msg) (w : World) (hm : m.Ok w) : Calls Tryz.prog 6 #[.agg #[.int .i64 m.kind, .int .i64 m.frm, .int .i64 m.dst, .int .i64 m.view, .int .i64 m.slot, .string m.value, .int .i64 m.untl, .int .i64 m.g0, .int .i64 m.g1, .int .i64 m.g2, .int .i64 m.g3, .string m.gd, .string m.gs, .slice m.stP m.stN m.stC, .slice m.enP m.enN m.enC, .int .i64 m.sl, .string m.rt, .slice m.ckP m.ckN m.ckC, .slice m.pfP m.pfN m.pfC, .slice m.hnP m.hnN m.hnC, .slice m.txP m.txN m.txC]] w (BoolRet w) := by
  have hB0 : Box w (w.alloc (.cells #[.int .i64 m.kind, .int .i64 m.frm, .int .i64 m.dst, .int .i64 m.view, .int .i64 m.slot, .string m.value, .int .i64 m.untl, .int .i64 m.g0, .int .i64 m.g1, .int .i64 m.g2, .int .i64 m.g3, .string m.gd, .string m.gs, .slice m.stP m.stN m.stC, .slice m.enP m.enN m.enC, .int .i64 m.sl, .string m.rt, .slice m.ckP m.ckN m.ckC, .slice m.pfP m.pfN m.pfC, .slice m.hnP m.hnN m.hnC, .slice m.txP m.txN m.txC] 37)) m.cells := Box.first w m.cells 37
  have HM := Lib.hid (hm.below hB0.1.1)
  have htx := hm.txH
  clear hm
  go_enter Tryz.func6, Tryz.ntmps6
  go_wp2_with (first
    | (refine wpList_load_row rfl 37 (.tmp 1) rfl w.heap.size rfl 37 #[.int .i64 m.kind, .int .i64 m.frm, .int .i64 m.dst, .int .i64 m.view, .int .i64 m.slot, .string m.value, .int .i64 m.untl, .int .i64 m.g0, .int .i64 m.g1, .int .i64 m.g2, .int .i64 m.g3, .string m.gd, .string m.gs, .slice m.stP m.stN m.stC, .slice m.enP m.enN m.enC, .int .i64 m.sl, .string m.rt, .slice m.ckP m.ckN m.ckC, .slice m.pfP m.pfN m.pfC, .slice m.hnP m.hnN m.hnC, .slice m.txP m.txN m.txC] (0, 0) _ (heap_alloc_new w _) Tryz.underlying37 rfl Tryz.size37 ?_)
    | (go_at_call 22; refine (encode_any m _ HM.out).mono ?_; rintro e w2 ⟨s2, -, rfl, hb2⟩; have hB2 := hB0.below hb2; have hc20 : w2.cell? ⟨w.heap.size, 20, none⟩ = some (.slice m.txP m.txN m.txC) := hB2.2 20 _ rfl))
  all_goals
    go_ret
    exact ⟨_, rfl, hB2.1.1⟩
end Go.Proofs.YtoigjpkdcadlnaaGreatDoor
