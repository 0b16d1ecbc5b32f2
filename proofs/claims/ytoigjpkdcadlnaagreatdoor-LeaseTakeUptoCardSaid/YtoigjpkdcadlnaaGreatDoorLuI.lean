/-
  LeaseTake: message.Valid returns.
-/
import Derived.Test.YtoigjpkdcadlnaaGreatDoorLuH
import Derived.Deep.DeepCutAuto
namespace Go.Proofs.YtoigjpkdcadlnaaGreatDoor
open Go Go.RowKit

theorem SgnsP.toA {w W : World} {C : Nat} {p : Option Addr} {n : Nat} (h : Below w.heap.size w W) (hC : w.heap.size ≤ C) (hs : SgnsP w p n) : SgnsA W C p n := by
  rcases hs with hs | ⟨b, off, rfl, hb, hs⟩
  · exact .inl hs
  · exact .inr ⟨b, off, rfl, Nat.lt_of_lt_of_le hb h.size, by omega, fun i hi => (hs i hi).below h hb⟩
theorem EntAt.toA {w W : World} {C b o : Nat} (h : Below w.heap.size w W) (hC : w.heap.size ≤ C) (hb : b < w.heap.size) (hs : EntAt w b o) : EntA W C b o := by
  obtain ⟨a, x, p, n, cap, _, _, h3, hp, k0, k1, k2⟩ := hs
  exact ⟨a, x, p, n, cap, h3, hp.toA h hC, (h.cell (by exact hb)).trans k0, (h.cell (by exact hb)).trans k1, (h.cell (by exact hb)).trans k2⟩
theorem HandsP.toA {w W : World} {C : Nat} {p : Option Addr} {n : Nat} (h : Below w.heap.size w W) (hC : w.heap.size ≤ C) (hs : HandsP w p n) : HandsA W C p n := by
  rcases hs with hs | ⟨b, off, rfl, hb, hs⟩
  · exact .inl hs
  · refine .inr ⟨b, off, rfl, Nat.lt_of_lt_of_le hb h.size, by omega, fun i hi => ?_⟩
    obtain ⟨s, _, k0, he⟩ := hs i hi
    exact ⟨⟨s, (h.cell (by exact hb)).trans k0⟩, he.toA h hC hb⟩
def StatA (w : World) (C b o : Nat) : Prop := ∃ (a b0 c d e0 e1 e2 e3 : Int) (x y z : ByteArray) (p : Option Addr) (n cap : Nat), I64 e0 ∧ I64 e1 ∧ I64 e2 ∧ I64 e3 ∧ y.size ≤ 1048576 ∧ z.size ≤ 1048576 ∧ n ≤ 1048576 ∧ SgnsA w C p n ∧
  w.cell? ⟨b, o, none⟩ = some (.int .i64 a) ∧ w.cell? ⟨b, o + 1, none⟩ = some (.int .i64 b0) ∧ w.cell? ⟨b, o + 2, none⟩ = some (.int .i64 c) ∧ w.cell? ⟨b, o + 3, none⟩ = some (.int .i64 d) ∧ w.cell? ⟨b, o + 4, none⟩ = some (.string x) ∧ w.cell? ⟨b, o + 5, none⟩ = some (.slice p n cap) ∧
  w.cell? ⟨b, o + 6, none⟩ = some (.int .i64 e0) ∧ w.cell? ⟨b, o + 7, none⟩ = some (.int .i64 e1) ∧ w.cell? ⟨b, o + 8, none⟩ = some (.int .i64 e2) ∧ w.cell? ⟨b, o + 9, none⟩ = some (.int .i64 e3) ∧ w.cell? ⟨b, o + 10, none⟩ = some (.string y) ∧ w.cell? ⟨b, o + 11, none⟩ = some (.string z)
theorem StatAt.toA {w W W' : World} {C b o : Nat} (h : Below w.heap.size w W) (hC : w.heap.size ≤ C) (hb : b < w.heap.size) (hG : W.grownBy W' (some C)) (hs : StatAt w b o) : StatA W' C b o := by
  have hs' := hs.below h hb
  obtain ⟨a, b0, c, d, e0, e1, e2, e3, x, y, z, p, n, cap, h1, h2, h3, h4, h5, h6, h7, h8, h9, h10, h11, h12, hp, k0, k1, k2, k3, k4, k5, k6, k7, k8, k9, k10, k11⟩ := hs
  have hbW : b < W.heap.size := Nat.lt_of_lt_of_le hb h.size
  have hne : b ≠ C := by omega
  have ce : ∀ j u, w.cell? ⟨b, j, none⟩ = some u → W'.cell? ⟨b, j, none⟩ = some u := fun j u hu => (only_cell hG (p := ⟨b, j, none⟩) hbW hne).trans ((h.cell (p := ⟨b, j, none⟩) hb).trans hu)
  exact ⟨a, b0, c, d, e0, e1, e2, e3, x, y, z, p, n, cap, h5, h6, h7, h8, h10, h11, h12, (hp.toA h hC).only hG, ce _ _ k0, ce _ _ k1, ce _ _ k2, ce _ _ k3, ce _ _ k4, ce _ _ k5, ce _ _ k6, ce _ _ k7, ce _ _ k8, ce _ _ k9, ce _ _ k10, ce _ _ k11⟩

def IntRet (w : World) (e : Ending) (w' : World) : Prop := ∃ k : Int, e = .returned (.int .i64 k) ∧ Below w.heap.size w w'
/-- behind the checker's making: the box and the checker -/
structure VW (m : Msg) (w W4 : World) (C : Nat) : Prop where
  box : Box w W4 m.cells
  ge : w.heap.size < C
  lt : C < W4.heap.size
def ChkAt (W4 : World) (C : Nat) (W : World) : Prop := ∃ p q, Chk C p q W ∧ W4.grownBy W (some C)

theorem boxC {m : Msg} {w W4 W : World} {C : Nat} (h : VW m w W4 C) (hG : W4.grownBy W (some C)) (j : Nat) (u : Value) (hj : m.cells[j]? = some u) : W.cell? ⟨w.heap.size, j, none⟩ = some u :=
  (only_cell hG (p := ⟨w.heap.size, j, none⟩) h.box.1.2 (by have := h.ge; show w.heap.size ≠ C; omega)).trans (h.box.2 j u hj)

theorem handsA_only {w W : World} {C : Nat} {a : Option Addr} {n : Nat} (h : w.grownBy W (some C)) (hs : HandsA w C a n) : HandsA W C a n := by
  rcases hs with hs | ⟨b, off, rfl, hb, hne, hs⟩
  · exact .inl hs
  · exact .inr ⟨b, off, rfl, Nat.lt_of_lt_of_le hb h.size, hne, fun i hi => (hs i hi).only h hb hne⟩
theorem below_only {w W4 W : World} {B C : Nat} (h : Below B w W4) (hB : B ≤ W4.heap.size) (hG : W4.grownBy W (some C)) (hC : B ≤ C) : Below B w W :=
  ⟨hG.os.trans h.os, hG.tape.trans h.tape, hG.output.trans h.output, Nat.le_trans h.size hG.size, fun i hi => (hG.block i (by omega) (fun e => by injection e; omega)).trans (h.block i hi)⟩
theorem VW.ret {m : Msg} {w W4 W : World} {C : Nat} (h : VW m w W4 C) (hG : W4.grownBy W (some C)) : Below w.heap.size w W := below_only h.box.1.1 (Nat.le_of_lt h.box.1.2) hG (Nat.le_of_lt h.ge)
theorem Tryz.size101 : (Tryz.prog.info? 101).map (·.size) = some 12 := by kernel_rfl

set_option maxHeartbeats 12800000 in
set_option maxRecDepth 1000000 in
theorem valid_weak (m : Msg) (w : World) (hm : m.Ok w) : Calls Tryz.prog 23 #[.agg #[.int .i64 m.kind, .int .i64 m.frm, .int .i64 m.dst, .int .i64 m.view, .int .i64 m.slot, .string m.value, .int .i64 m.untl, .int .i64 m.g0, .int .i64 m.g1, .int .i64 m.g2, .int .i64 m.g3, .string m.gd, .string m.gs, .slice m.stP m.stN m.stC, .slice m.enP m.enN m.enC, .int .i64 m.sl, .string m.rt, .slice m.ckP m.ckN m.ckC, .slice m.pfP m.pfN m.pfC, .slice m.hnP m.hnN m.hnC, .slice m.txP m.txN m.txC]] w (IntRet w) := by
  have hB0 : Box w (w.alloc (.cells #[.int .i64 m.kind, .int .i64 m.frm, .int .i64 m.dst, .int .i64 m.view, .int .i64 m.slot, .string m.value, .int .i64 m.untl, .int .i64 m.g0, .int .i64 m.g1, .int .i64 m.g2, .int .i64 m.g3, .string m.gd, .string m.gs, .slice m.stP m.stN m.stC, .slice m.enP m.enN m.enC, .int .i64 m.sl, .string m.rt, .slice m.ckP m.ckN m.ckC, .slice m.pfP m.pfN m.pfC, .slice m.hnP m.hnN m.hnC, .slice m.txP m.txN m.txC] 37)) m.cells := Box.first w m.cells 37
  have HM := Lib.hid hm
  have HM1 := Lib.hid (hm.below hB0.1.1)
  have hst := hm.stH
  have hen := hm.enH
  have htx := hm.txH
  clear hm
  go_enter Tryz.func23, Tryz.ntmps23
  go_wp2_with (first
    | (refine wpList_load_row rfl 37 (.tmp 1) rfl w.heap.size rfl 37 #[.int .i64 m.kind, .int .i64 m.frm, .int .i64 m.dst, .int .i64 m.view, .int .i64 m.slot, .string m.value, .int .i64 m.untl, .int .i64 m.g0, .int .i64 m.g1, .int .i64 m.g2, .int .i64 m.g3, .string m.gd, .string m.gs, .slice m.stP m.stN m.stC, .slice m.enP m.enN m.enC, .int .i64 m.sl, .string m.rt, .slice m.ckP m.ckN m.ckC, .slice m.pfP m.pfN m.pfC, .slice m.hnP m.hnN m.hnC, .slice m.txP m.txN m.txC] (0, 0) _ (heap_alloc_new w _) Tryz.underlying37 rfl Tryz.size37 ?_)
    | (go_at_call 51; refine (kind_any _ _).mono ?_; rintro e w1 ⟨ks, kf, rfl, hk0, hk1, rfl⟩)
    | (go_at_call 52; refine (number_any _ _).mono ?_; rintro e w1 ⟨rfl, rfl⟩)
    | (go_at_call 53; refine (present_any m _ HM1.out).mono ?_; rintro e w2 ⟨o, rfl, hPB, hb2⟩; have HPB := Lib.hid hPB; clear hPB; have hB2 := hB0.below hb2; have hc13 : w2.cell? ⟨w.heap.size, 13, none⟩ = some (.slice m.stP m.stN m.stC) := hB2.2 13 _ rfl; have hc0 : w2.cell? ⟨w.heap.size, 0, none⟩ = some (.int .i64 m.kind) := hB2.2 0 _ rfl; have hc20 : w2.cell? ⟨w.heap.size, 20, none⟩ = some (.slice m.txP m.txN m.txC) := hB2.2 20 _ rfl; have hlt2 := hB2.1.2))
  all_goals first
    | (go_ret; exact ⟨_, rfl, hB0.1.1⟩)
    | (go_ret; exact ⟨_, rfl, hB2.1.1⟩)
    | skip
  all_goals
    have hV : VW m w (w2.alloc (.cells #[.bool false, .bool false] 121)) w2.heap.size := ⟨hB2.alloc _, hlt2, by have := World.size_alloc w2 (.cells #[.bool false, .bool false] 121); omega⟩
    have hC4 : Chk w2.heap.size false false (w2.alloc (.cells #[.bool false, .bool false] 121)) := Array.getElem?_push_size
    have HV := Lib.hid hV
    have HC4 := Lib.hid hC4
    have HTX := Lib.hid ((HM.out.below hB2.1.1).txR.below (((Below.refl w2.heap.size w2).alloc (Nat.le_refl _) (.cells #[.bool false, .bool false] 121))))
    clear hV hC4 hB0 hB2 hc13 hc0 hc20 HM1 hb2
    generalize w2.alloc _ = W4 at HV HC4 HTX ⊢
    generalize w2.heap.size = C at HV HC4 ⊢
    clear hlt2
    go_loop [6, 76] (fun x i => ∃ (k : Nat) (z : Int), k ≤ m.txN ∧ i = .int .i64 k ∧ x = .int .i64 z) (fun _ i => m.txN - (intOf i).toNat)
    case atStart => exact ⟨0, 0, Nat.zero_le _, rfl, rfl⟩
    case round =>
      obtain ⟨k, z, hk, rfl, rfl⟩ := hrel
      by_cases hkn : k < m.txN
      · obtain ⟨b, off, hp, hb, hx⟩ : ∃ b off, m.txP = some ⟨b, off, none⟩ ∧ b < W4.heap.size ∧ ∀ i, i < m.txN → ∃ s : ByteArray, W4.cell? ⟨b, off + i, none⟩ = some (.string s) ∧ s.size ≤ 1048576 := by
          rcases HTX.out with h0 | ⟨b, off, h1, h2⟩
          · omega
          · exact ⟨b, off, h1, h2.1, h2.2⟩
        obtain ⟨s, hc, hs⟩ := hx k hkn
        rw [hp]
        go_wp2
        go_round
        case rel => exact ⟨k + 1, _, by omega, by go_num, rfl⟩
        case measure => simp [intOf]; omega
      · go_upto_region 15 with fail
        go_cut [] (fun wx => ChkAt W4 C wx)
        case first =>
          have hg0 := only_refl W4 (some C)
          have c5 := boxC HV.out hg0 5 _ rfl
          have c13 := boxC HV.out hg0 13 _ rfl
          have c14 := boxC HV.out hg0 14 _ rfl
          have c20 := boxC HV.out hg0 20 _ rfl
          have k1 := HC4.out.c1
          have g1 := HC4.out.f1
          clear hg0
          go_wp2
          all_goals
            go_meet
            exact ⟨_, _, HC4.out.set1 _, only_setCell (p := ⟨C, 1, none⟩) (only_refl W4 _) (.inl rfl) _⟩
        case rest =>
          obtain ⟨p1, q1, hK1, hG1⟩ := hcut
          have t7 := boxC HV.out hG1 7 _ rfl
          have t8 := boxC HV.out hG1 8 _ rfl
          have t9 := boxC HV.out hG1 9 _ rfl
          have t10 := boxC HV.out hG1 10 _ rfl
          have t11 := boxC HV.out hG1 11 _ rfl
          have t12 := boxC HV.out hG1 12 _ rfl
          have HK1 := Lib.hid hK1
          have HG1 := Lib.hid hG1
          clear hK1 hG1
          go_wp2_with (go_at_call 54; refine (signed_any C 1 _ _ _ _ _ (by omega) (HK1.out.alloc _) (sgn1 HM.out.g0H HM.out.g1H HM.out.g2H HM.out.g3H HM.out.gdH HM.out.gsH (by have := HK1.out.lt; omega) _)).mono ?_; rintro e w3 ⟨p3, q3, rfl, hK3, hG3⟩; have hG3' := only_trans HG1.out (only_trans (only_alloc (only_refl _ _) _) hG3); have t13 : w3.cell? ⟨w.heap.size, 13, none⟩ = some (.slice m.stP m.stN m.stC) := boxC HV.out hG3' 13 _ rfl; have HG3 := Lib.hid hG3'; have HK3 := Lib.hid hK3; clear hG3 hG3' hK3)
          go_loopw [119] (fun i wr => ∃ (k : Nat) (p q : Bool), k ≤ m.stN ∧ i = .int .i64 k ∧ Chk C p q wr ∧ W4.grownBy wr (some C)) (fun i _ => m.stN - (intOf i).toNat)
          case atStart => exact ⟨0, p3, q3, Nat.zero_le _, rfl, HK3.out, HG3.out⟩
          case round =>
            obtain ⟨k2, p4, q4, hk2, rfl, hK4, hG4⟩ := hrel
            by_cases hkn2 : k2 < m.stN
            · obtain ⟨b, off, hp, hb, hx⟩ : ∃ b off, m.stP = some ⟨b, off, none⟩ ∧ b < w.heap.size ∧ ∀ i, i < m.stN → StatAt w b (off + i * 12) := by
                rcases HM.out.stR with h0 | h1
                · omega
                · exact h1
              obtain ⟨a, b0, c, d, e0, e1, e2, e3, x, y, z', pp, nn, cap, i0, i1, i2, i3, hy, hz, hn', hsp, l0, l1, l2, l3, l4, l5, l6, l7, l8, l9, l10, l11⟩ := (hx k2 hkn2).toA HV.out.box.1.1 (Nat.le_of_lt HV.out.ge) hb hG4
              rw [hp]
              have HSP := Lib.hid hsp
              have HK4 := Lib.hid hK4
              have HG4 := Lib.hid hG4
              clear hx hsp hp hK4 hG4
              go_wp2_with (first
                | (refine wpList_load_row rfl 101 (.tmp 10) rfl wr.heap.size rfl 101 #[.int .i64 a, .int .i64 b0, .int .i64 c, .int .i64 d, .string x, .slice pp nn cap, .int .i64 e0, .int .i64 e1, .int .i64 e2, .int .i64 e3, .string y, .string z'] (0, 0) _ (heap_alloc_new wr _) Tryz.underlying101 rfl Tryz.size101 ?_)
                | (go_at_call 55; refine (status_any C nn cap _ _ _ _ _ _ _ _ _ _ _ pp _ _ _ hn' (HK4.out.alloc _) (HSP.out.only (only_alloc (only_refl _ _) _)) i0 i1 i2 i3 hy hz).mono ?_; rintro e w5 ⟨p5, q5, rfl, hK5, hG5⟩; have HK5 := Lib.hid hK5; have HG5 := Lib.hid (only_trans HG4.out (only_trans (only_alloc (only_refl _ _) _) hG5)); clear hK5 hG5))
              all_goals
                go_roundw
                case rel => exact ⟨k2 + 1, p5, q5, by omega, by go_num, HK5.out, HG5.out⟩
                case measure => simp [intOf]; omega
            · have t14 : wr.cell? ⟨w.heap.size, 14, none⟩ = some (.slice m.enP m.enN m.enC) := boxC HV.out hG4 14 _ rfl
              have HK4 := Lib.hid hK4
              have HG4 := Lib.hid hG4
              clear hK4 hG4
              go_wp2
              go_loopw [129] (fun i wr => ∃ (k : Nat) (p q : Bool), k ≤ m.enN ∧ i = .int .i64 k ∧ Chk C p q wr ∧ W4.grownBy wr (some C)) (fun i _ => m.enN - (intOf i).toNat)
              case atStart => exact ⟨0, p4, q4, Nat.zero_le _, rfl, HK4.out, HG4.out⟩
              case round =>
                obtain ⟨k3, p6, q6, hk3, rfl, hK6, hG6⟩ := hrel
                by_cases hkn3 : k3 < m.enN
                · obtain ⟨b, off, hp, hb, hx⟩ : ∃ b off, m.enP = some ⟨b, off, none⟩ ∧ b < w.heap.size ∧ ∀ i, i < m.enN → EntAt w b (off + i * 3) := by
                    rcases HM.out.enR with h0 | h1
                    · omega
                    · exact h1
                  obtain ⟨a, x, pp, nn, cap, hn', hsp, l0, l1, l2⟩ := ((hx k3 hkn3).toA HV.out.box.1.1 (Nat.le_of_lt HV.out.ge) hb).only hG6 (Nat.lt_of_lt_of_le hb HV.out.box.1.1.size) (by have := HV.out.ge; omega)
                  rw [hp]
                  have HSP := Lib.hid hsp
                  have HK6 := Lib.hid hK6
                  have HG6 := Lib.hid hG6
                  clear hx hsp hp hK6 hG6
                  go_wp2_with (go_at_call 56; refine (entry_any C nn cap _ _ pp _ _ _ hn' (HK6.out.alloc _) (HSP.out.only (only_alloc (only_refl _ _) _))).mono ?_; rintro e w7 ⟨p7, q7, rfl, hK7, hG7⟩; have HK7 := Lib.hid hK7; have HG7 := Lib.hid (only_trans HG6.out (only_trans (only_alloc (only_refl _ _) _) hG7)); clear hK7 hG7)
                  all_goals
                    go_roundw
                    case rel => exact ⟨k3 + 1, p7, q7, by omega, by go_num, HK7.out, HG7.out⟩
                    case measure => simp [intOf]; omega
                · have t15 := boxC HV.out hG6 15 _ rfl
                  have t16 := boxC HV.out hG6 16 _ rfl
                  have t17 := boxC HV.out hG6 17 _ rfl
                  have t18 := boxC HV.out hG6 18 _ rfl
                  have t19 := boxC HV.out hG6 19 _ rfl
                  have HK6 := Lib.hid hK6
                  have HG6 := Lib.hid hG6
                  have hpf := HM.out.pfH
                  have hhn := HM.out.hnH
                  clear hK6 hG6
                  go_wp2_with (first
                    | (go_at_call 57; refine (snapshot_any C _ _ _ _ _ _ _ _ _ _ _ _ _ _ hpf hhn HK6.out (((HM.out.pfR.toA HV.out.box.1.1 (Nat.le_of_lt HV.out.ge))).only HG6.out) (handsA_only HG6.out (HM.out.hnR.toA HV.out.box.1.1 (Nat.le_of_lt HV.out.ge)))).mono ?_; rintro e w8 ⟨p8, q8, rfl, hK8, hG8⟩; have HK8 := Lib.hid hK8; have hG8' := only_trans HG6.out hG8; have u17 : w8.cell? ⟨w.heap.size, 17, none⟩ = some (.slice m.ckP m.ckN m.ckC) := boxC HV.out hG8' 17 _ rfl; have HG8 := Lib.hid hG8'; clear hK8 hG8 hG8')
                    | (go_at_call 58; refine (chkE_any C p8 q8 _ HK8.out).mono ?_; rintro e w9 ⟨rfl, rfl⟩))
                  all_goals
                    go_ret
                    exact ⟨_, rfl, HV.out.ret HG8.out⟩
end Go.Proofs.YtoigjpkdcadlnaaGreatDoor
