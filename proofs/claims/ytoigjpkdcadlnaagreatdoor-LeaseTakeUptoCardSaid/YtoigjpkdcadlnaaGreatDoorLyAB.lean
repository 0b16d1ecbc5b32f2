/-
  LeaseTake: message.Valid's checker, and the reference's helpers, at what is zero.
-/
import Derived.Test.YtoigjpkdcadlnaaGreatDoorLwF
namespace Go.Proofs.YtoigjpkdcadlnaaGreatDoor
open Go Go.RowKit

/-- a method of the checker that finds nothing wrong -/
def Chk0 (C : Nat) (w : World) (e : Ending) (w' : World) : Prop := e = .returned (.tuple #[]) ∧ Chk C false false w' ∧ w.grownBy w' (some C)
/-- the zero signature lies there -/
def Sg0At (w : World) (b : Nat) : Prop := w.cell? ⟨b, 0, none⟩ = some (.int .i64 0) ∧ w.cell? ⟨b, 1, none⟩ = some (.int .i64 0) ∧ w.cell? ⟨b, 2, none⟩ = some (.int .i64 0) ∧ w.cell? ⟨b, 3, none⟩ = some (.int .i64 0) ∧
  w.cell? ⟨b, 4, none⟩ = some (.string ⟨#[]⟩) ∧ w.cell? ⟨b, 5, none⟩ = some (.string ⟨#[]⟩)
theorem Sg0At.only {w W : World} {C b : Nat} (h : w.grownBy W (some C)) (hb : b < w.heap.size) (hne : b ≠ C) (hs : Sg0At w b) : Sg0At W b := by
  obtain ⟨c0, c1, c2, c3, c4, c5⟩ := hs
  exact ⟨(only_cell h (by exact hb) (by exact hne)).trans c0, (only_cell h (by exact hb) (by exact hne)).trans c1, (only_cell h (by exact hb) (by exact hne)).trans c2, (only_cell h (by exact hb) (by exact hne)).trans c3, (only_cell h (by exact hb) (by exact hne)).trans c4, (only_cell h (by exact hb) (by exact hne)).trans c5⟩
theorem sg0_new (W : World) (t : TypeId) : Sg0At (W.alloc (.cells #[.int .i64 0, .int .i64 0, .int .i64 0, .int .i64 0, .string ⟨#[]⟩, .string ⟨#[]⟩] t)) W.heap.size :=
  ⟨by simp, by simp, by simp, by simp, by simp, by simp⟩

set_option maxHeartbeats 1600000 in
set_option maxRecDepth 1000000 in
theorem signed_zero (C b cap : Nat) (w : World) (hC : Chk C false false w) (hb : b < w.heap.size) (hne : b ≠ C) (h : Sg0At w b) :
    Calls Tryz.prog 54 #[.pointer (some ⟨C, 0, none⟩), .slice (some ⟨b, 0, none⟩) 1 cap] w (Chk0 C w) := by
  have H := Lib.hid h
  clear h
  go_enter Tryz.func54, Tryz.ntmps54
  go_wp2
  go_loopw [8] (fun i wr => ∃ (k : Nat), k ≤ 1 ∧ i = .int .i64 k ∧ Chk C false false wr ∧ w.grownBy wr (some C)) (fun i _ => 1 - (intOf i).toNat)
  case atStart => exact ⟨0, Nat.zero_le _, rfl, hC, only_refl _ _⟩
  case round =>
    obtain ⟨k, hk, rfl, hK, hG⟩ := hrel
    by_cases hkn : k < 1
    · obtain rfl : k = 0 := by omega
      obtain ⟨c0, c1, c2, c3, c4, c5⟩ := H.out.only hG hb hne
      have hlt := hK.lt
      have hneC : C ≠ wr.heap.size := by omega
      have k1 := hK.c1
      have g1 := hK.f1
      have HK := Lib.hid hK
      have HG := Lib.hid hG
      clear hK hG hC
      go_wp2
      all_goals
        go_roundw
        case rel => exact ⟨1, by omega, by go_num, (HK.out.set1 _).alloc _, only_alloc (only_setCell (p := ⟨C, 1, none⟩) HG.out (.inl rfl) _) _⟩
        case measure => simp [intOf]
    · obtain rfl : k = 1 := by omega
      go_wp2
      go_end0
      exact ⟨rfl, hK, hG⟩

set_option maxHeartbeats 1600000 in
set_option maxRecDepth 1000000 in
theorem cert_zero (C cap : Nat) (a : Option Addr) (w : World) (hC : Chk C false false w) :
    Calls Tryz.prog 97 #[.pointer (some ⟨C, 0, none⟩), .slice a 0 cap] w (Chk0 C w) := by
  have k1 := hC.c1
  have g1 := hC.f1
  have HC := Lib.hid hC
  clear hC
  go_enter Tryz.func97, Tryz.ntmps97
  go_wp2_with (go_at_call 54; refine (signed_none C cap a false false _ (HC.out.set1 _)).mono ?_; rintro e w2 ⟨rfl, hC2, hG2⟩)
  all_goals
    go_end0
    exact ⟨rfl, hC2, only_trans (only_setCell (p := ⟨C, 1, none⟩) (only_refl w _) (.inl rfl) _) hG2⟩

set_option maxHeartbeats 6400000 in
set_option maxRecDepth 1000000 in
theorem snapshot_zero (C cc cp ch : Nat) (pc pp ph : Option Addr) (w : World) (hC : Chk C false false w) :
    Calls Tryz.prog 57 #[.pointer (some ⟨C, 0, none⟩), .agg #[.int .i64 0, .string ⟨#[]⟩, .slice pc 0 cc, .slice pp 0 cp, .slice ph 0 ch]] w (Chk0 C w) := by
  have k0 := hC.c0
  have g0 := hC.f0
  have k1 := hC.c1
  have g1 := hC.f1
  have hlt := hC.lt
  have hneC : C ≠ w.heap.size := by omega
  have HC := Lib.hid hC
  have n0 : numB 0 = true := rfl
  clear hC
  go_enter Tryz.func57, Tryz.ntmps57
  go_wp2_with (first
    | (go_at_call 52; refine (number_any 0 _).mono ?_; rintro e w1 ⟨rfl, rfl⟩; simp only [n0])
    | (go_at_call 97; refine (cert_zero C cp pp _ (((HC.out.set0 _).set1 _).alloc _)).mono ?_; rintro e w2 ⟨rfl, hC2, hG2⟩; have t4 : w2.cell? ⟨w.heap.size, 4, none⟩ = some (.slice ph 0 ch) := box_only hG2 (by simp) hneC 4 _ rfl; have HG2 := Lib.hid (only_trans (only_alloc (two_set _ _) _) hG2); have HC2 := Lib.hid hC2; clear hG2 hC2))
  all_goals
    go_loopw [45] (fun i wr => i = .int .i64 0 ∧ Chk C false false wr ∧ w.grownBy wr (some C)) (fun _ _ => 0)
    case atStart => exact ⟨rfl, HC2.out, HG2.out⟩
    case round =>
      obtain ⟨rfl, hK, hG⟩ := hrel
      go_wp2
      go_end0
      exact ⟨rfl, hK, hG⟩

set_option maxHeartbeats 1600000 in
set_option maxRecDepth 1000000 in
theorem short_zero (b cap : Nat) (w : World) (h : Sg0At w b) : Calls Tryz.prog 104 #[.slice (some ⟨b, 0, none⟩) 1 cap] w fun e w' => e = .returned (.bool true) ∧ w = w' := by
  obtain ⟨c0, c1, c2, c3, c4, c5⟩ := h
  go_enter Tryz.func104, Tryz.ntmps104
  go_wp2
  go_loop [3] (fun i => ∃ k : Nat, k ≤ 1 ∧ i = .int .i64 k) (fun i => 1 - (intOf i).toNat)
  case atStart => exact ⟨0, Nat.zero_le _, rfl⟩
  case round =>
    obtain ⟨k, hk, rfl⟩ := hrel
    by_cases hkn : k < 1
    · obtain rfl : k = 0 := by omega
      go_wp2
      go_round
      case rel => exact ⟨1, by omega, by go_num⟩
      case measure => simp [intOf]
    · obtain rfl : k = 1 := by omega
      go_wp2
      go_ret
      exact ⟨rfl, rfl⟩
end Go.Proofs.YtoigjpkdcadlnaaGreatDoor

/-
  LeaseTake: message.Valid at a grant that is right.
-/
namespace Go.Proofs.YtoigjpkdcadlnaaGreatDoor
open Go Go.RowKit

/-- a grant, with nothing else in it -/
abbrev zMsg (frm dst view untl : Int) (stP enP ckP pfP hnP txP : Option Addr) (stC enC ckC pfC hnC txC : Nat) : Msg :=
  { kind := 9, frm := frm, dst := dst, view := view, slot := 0, value := ⟨#[]⟩, untl := untl, g0 := 0, g1 := 0, g2 := 0, g3 := 0, gd := ⟨#[]⟩, gs := ⟨#[]⟩, stP := stP, stN := 0, stC := stC, enP := enP, enN := 0, enC := enC, sl := 0, rt := ⟨#[]⟩, ckP := ckP, ckN := 0, ckC := ckC, pfP := pfP, pfN := 0, pfC := pfC, hnP := hnP, hnN := 0, hnC := hnC, txP := txP, txN := 0, txC := txC }
theorem i64_0 : I64 0 := ⟨by omega, by omega⟩
theorem zOk (frm dst view untl : Int) (stP enP ckP pfP hnP txP : Option Addr) (stC enC ckC pfC hnC txC : Nat) (w : World) (h0 : I64 frm) (h1 : I64 dst) (h2 : I64 view) (h3 : I64 untl) : (zMsg frm dst view untl stP enP ckP pfP hnP txP stC enC ckC pfC hnC txC).Ok w :=
  { kindH := ⟨by show (-9223372036854775808 : Int) ≤ 9; omega, by show (9 : Int) ≤ 9223372036854775807; omega⟩, frmH := h0, dstH := h1, viewH := h2, slotH := i64_0, valueH := Nat.zero_le _, untlH := h3, g0H := i64_0, g1H := i64_0, g2H := i64_0, g3H := i64_0, gdH := Nat.zero_le _, gsH := Nat.zero_le _, stH := Nat.zero_le _, enH := Nat.zero_le _, slH := i64_0, rtH := Nat.zero_le _, ckH := Nat.zero_le _, pfH := Nat.zero_le _, hnH := Nat.zero_le _, txH := Nat.zero_le _, stR := .inl rfl, enR := .inl rfl, ckR := .inl rfl, pfR := .inl rfl, hnR := .inl rfl, txR := .inl rfl }

theorem and5 : ∀ o : Fin 512, (bits .andNot .i64 ((o.val : Nat) : Int) 5 = 0) ↔ (o.val.testBit 1 = false ∧ o.val.testBit 3 = false ∧ o.val.testBit 4 = false ∧ o.val.testBit 5 = false ∧ o.val.testBit 6 = false ∧ o.val.testBit 7 = false ∧ o.val.testBit 8 = false) := by decide +kernel
/-- the fields that a grant does not have are zero -/
def NoMore (m : Msg) : Prop := pb m 1 = false ∧ pb m 3 = false ∧ pb m 4 = false ∧ pb m 5 = false ∧ pb m 6 = false ∧ pb m 7 = false ∧ pb m 8 = false
theorem and5_iff {m : Msg} {o : Nat} (h : PBits m 9 o) : bits .andNot .i64 (o : Int) 5 = 0 ↔ NoMore m := by
  have h1 := and5 ⟨o, by have := h.1; simpa using this⟩
  have e : ∀ j, j < 9 → o.testBit j = pb m j := fun j hj => by rw [h.2 j hj]; simp [hj]
  simp only [e 1 (by omega), e 3 (by omega), e 4 (by omega), e 5 (by omega), e 6 (by omega), e 7 (by omega), e 8 (by omega)] at h1
  exact h1
theorem zNoMore (frm dst view untl : Int) (stP enP ckP pfP hnP txP : Option Addr) (stC enC ckC pfC hnC txC : Nat) : NoMore (zMsg frm dst view untl stP enP ckP pfP hnP txP stC enC ckC pfC hnC txC) := ⟨rfl, by show (!(ByteArray.toList ⟨#[]⟩).isEmpty) = false; rw [ByteArray.toList_eq]; rfl, rfl, rfl, rfl, rfl, rfl⟩

def OkRet (w : World) (e : Ending) (w' : World) : Prop := e = .returned (.int .i64 0) ∧ Below w.heap.size w w'

theorem boxZ {w W4 W : World} {C : Nat} {cs : List Value} (h : Box w W4 cs) (hC : w.heap.size < C) (hG : W4.grownBy W (some C)) (j : Nat) (u : Value) (hj : cs[j]? = some u) : W.cell? ⟨w.heap.size, j, none⟩ = some u :=
  (only_cell hG (p := ⟨w.heap.size, j, none⟩) h.1.2 (by show w.heap.size ≠ C; omega)).trans (h.2 j u hj)

set_option maxHeartbeats 12800000 in
set_option maxRecDepth 1000000 in
theorem valid_yes (frm dst view untl : Int) (stP enP ckP pfP hnP txP : Option Addr) (stC enC ckC pfC hnC txC : Nat) (w : World) (h0 : 0 ≤ frm) (h1 : frm < 12) (h2 : 0 ≤ dst) (h3 : dst < 18) (h4 : 0 ≤ view) (h5 : view ≤ 2147483647) (h6 : 0 ≤ untl) (h7 : untl ≤ 9223372036854775807) :
    Calls Tryz.prog 23 #[.agg #[.int .i64 9, .int .i64 frm, .int .i64 dst, .int .i64 view, .int .i64 0, .string ⟨#[]⟩, .int .i64 untl, .int .i64 0, .int .i64 0, .int .i64 0, .int .i64 0, .string ⟨#[]⟩, .string ⟨#[]⟩, .slice stP 0 stC, .slice enP 0 enC, .int .i64 0, .string ⟨#[]⟩, .slice ckP 0 ckC, .slice pfP 0 pfC, .slice hnP 0 hnC, .slice txP 0 txC]] w (OkRet w) := by
  have hB0 : Box w (w.alloc (.cells #[.int .i64 9, .int .i64 frm, .int .i64 dst, .int .i64 view, .int .i64 0, .string ⟨#[]⟩, .int .i64 untl, .int .i64 0, .int .i64 0, .int .i64 0, .int .i64 0, .string ⟨#[]⟩, .string ⟨#[]⟩, .slice stP 0 stC, .slice enP 0 enC, .int .i64 0, .string ⟨#[]⟩, .slice ckP 0 ckC, .slice pfP 0 pfC, .slice hnP 0 hnC, .slice txP 0 txC] 37)) [.int .i64 9, .int .i64 frm, .int .i64 dst, .int .i64 view, .int .i64 0, .string ⟨#[]⟩, .int .i64 untl, .int .i64 0, .int .i64 0, .int .i64 0, .int .i64 0, .string ⟨#[]⟩, .string ⟨#[]⟩, .slice stP 0 stC, .slice enP 0 enC, .int .i64 0, .string ⟨#[]⟩, .slice ckP 0 ckC, .slice pfP 0 pfC, .slice hnP 0 hnC, .slice txP 0 txC] := Box.first w [.int .i64 9, .int .i64 frm, .int .i64 dst, .int .i64 view, .int .i64 0, .string ⟨#[]⟩, .int .i64 untl, .int .i64 0, .int .i64 0, .int .i64 0, .int .i64 0, .string ⟨#[]⟩, .string ⟨#[]⟩, .slice stP 0 stC, .slice enP 0 enC, .int .i64 0, .string ⟨#[]⟩, .slice ckP 0 ckC, .slice pfP 0 pfC, .slice hnP 0 hnC, .slice txP 0 txC] 37
  have HM := Lib.hid (fun W => zOk frm dst view untl stP enP ckP pfP hnP txP stC enC ckC pfC hnC txC W ⟨by omega, by omega⟩ ⟨by omega, by omega⟩ ⟨by omega, by omega⟩ ⟨by omega, by omega⟩)
  have nv : numB view = true := (numB_t ⟨h4, h5⟩).symm
  have n0 : numB 0 = true := rfl
  go_enter Tryz.func23, Tryz.ntmps23
  go_wp2_with (first
    | (refine wpList_load_row rfl 37 (.tmp 1) rfl w.heap.size rfl 37 #[.int .i64 9, .int .i64 frm, .int .i64 dst, .int .i64 view, .int .i64 0, .string ⟨#[]⟩, .int .i64 untl, .int .i64 0, .int .i64 0, .int .i64 0, .int .i64 0, .string ⟨#[]⟩, .string ⟨#[]⟩, .slice stP 0 stC, .slice enP 0 enC, .int .i64 0, .string ⟨#[]⟩, .slice ckP 0 ckC, .slice pfP 0 pfC, .slice hnP 0 hnC, .slice txP 0 txC] (0, 0) _ (heap_alloc_new w _) Tryz.underlying37 rfl Tryz.size37 ?_)
    | (go_at_call 51; refine (kind_grant _).mono ?_; rintro e w1 ⟨rfl, rfl⟩)
    | (go_at_call 52; (with_reducible refine (number_any view _).mono ?_); rintro e w1 ⟨rfl, rfl⟩)
    | (go_at_call 52; refine (number_any 0 _).mono ?_; rintro e w1 ⟨rfl, rfl⟩)
    | (go_at_call 53; refine (present_any (zMsg frm dst view untl stP enP ckP pfP hnP txP stC enC ckC pfC hnC txC) _ (HM.out _)).mono ?_; rintro e w2 ⟨o, rfl, hPB, hb2⟩; have hand : bits .andNot .i64 (o : Int) 5 = 0 := (and5_iff hPB).mpr (zNoMore frm dst view untl stP enP ckP pfP hnP txP stC enC ckC pfC hnC txC); clear hPB; have hB2 := hB0.below hb2; have hc13 : w2.cell? ⟨w.heap.size, 13, none⟩ = some (.slice stP 0 stC) := hB2.2 13 _ rfl; have hc0 : w2.cell? ⟨w.heap.size, 0, none⟩ = some (.int .i64 9) := hB2.2 0 _ rfl; have hc20 : w2.cell? ⟨w.heap.size, 20, none⟩ = some (.slice txP 0 txC) := hB2.2 20 _ rfl; have hlt2 := hB2.1.2))
  have hV : Box w (w2.alloc (.cells #[.bool false, .bool false] 121)) [.int .i64 9, .int .i64 frm, .int .i64 dst, .int .i64 view, .int .i64 0, .string ⟨#[]⟩, .int .i64 untl, .int .i64 0, .int .i64 0, .int .i64 0, .int .i64 0, .string ⟨#[]⟩, .string ⟨#[]⟩, .slice stP 0 stC, .slice enP 0 enC, .int .i64 0, .string ⟨#[]⟩, .slice ckP 0 ckC, .slice pfP 0 pfC, .slice hnP 0 hnC, .slice txP 0 txC] := hB2.alloc _
  have hC4 : Chk w2.heap.size false false (w2.alloc (.cells #[.bool false, .bool false] 121)) := Array.getElem?_push_size
  have HV := Lib.hid hV
  have HC4 := Lib.hid hC4
  clear hV hC4 hB0 hB2 hc13 hc0 hc20 hb2 hand
  generalize w2.alloc _ = W4 at HV HC4 ⊢
  generalize w2.heap.size = C at HC4 hlt2 ⊢
  go_loop [6, 76] (fun x i => i = .int .i64 0 ∧ x = .int .i64 0) (fun _ i => 0)
  case atStart => exact ⟨rfl, rfl⟩
  case round =>
    obtain ⟨rfl, rfl⟩ := hrel
    go_upto_region 15 with fail
    have hg0 := only_refl W4 (some C)
    have c5 := boxZ HV.out hlt2 hg0 5 _ rfl
    have c13 := boxZ HV.out hlt2 hg0 13 _ rfl
    have c14 := boxZ HV.out hlt2 hg0 14 _ rfl
    have c20 := boxZ HV.out hlt2 hg0 20 _ rfl
    have k1 := HC4.out.c1
    have g1 := HC4.out.f1
    clear hg0
    go_upto_region 16 with fail
    have hK1 := HC4.out.set1 false
    have hG1 : W4.grownBy (W4.setCell ⟨C, 1, none⟩ (.bool false)) (some C) := only_setCell (p := ⟨C, 1, none⟩) (only_refl W4 _) (.inl rfl) _
    clear c5 c13 c14 c20 k1 g1
    revert hK1 hG1
    generalize W4.setCell ⟨C, 1, none⟩ (.bool false) = W5
    intro hK1 hG1
    have t7 := boxZ HV.out hlt2 hG1 7 _ rfl
    have t8 := boxZ HV.out hlt2 hG1 8 _ rfl
    have t9 := boxZ HV.out hlt2 hG1 9 _ rfl
    have t10 := boxZ HV.out hlt2 hG1 10 _ rfl
    have t11 := boxZ HV.out hlt2 hG1 11 _ rfl
    have t12 := boxZ HV.out hlt2 hG1 12 _ rfl
    have HK1 := Lib.hid hK1
    have HG1 := Lib.hid hG1
    clear hK1 hG1
    go_wp2_with (go_at_call 54; refine (signed_zero C _ _ _ (HK1.out.alloc _) (by have := World.size_alloc W5 (.cells #[.int .i64 0, .int .i64 0, .int .i64 0, .int .i64 0, .string ⟨#[]⟩, .string ⟨#[]⟩] 28); omega) (by have := HK1.out.lt; omega) (sg0_new W5 _)).mono ?_; rintro e w3 ⟨rfl, hK3, hG3⟩; have hG3' := only_trans HG1.out (only_trans (only_alloc (only_refl _ _) _) hG3); have t13 : w3.cell? ⟨w.heap.size, 13, none⟩ = some (.slice stP 0 stC) := boxZ HV.out hlt2 hG3' 13 _ rfl; have HG3 := Lib.hid hG3'; have HK3 := Lib.hid hK3; clear hG3 hG3' hK3)
    go_loopw [119] (fun i wr => i = .int .i64 0 ∧ Chk C false false wr ∧ W4.grownBy wr (some C)) (fun i _ => 0)
    case atStart => exact ⟨rfl, HK3.out, HG3.out⟩
    case round =>
      obtain ⟨rfl, hK4, hG4⟩ := hrel
      have t14 : wr.cell? ⟨w.heap.size, 14, none⟩ = some (.slice enP 0 enC) := boxZ HV.out hlt2 hG4 14 _ rfl
      have HK4 := Lib.hid hK4
      have HG4 := Lib.hid hG4
      clear hK4 hG4
      go_wp2
      go_loopw [129] (fun i wr => i = .int .i64 0 ∧ Chk C false false wr ∧ W4.grownBy wr (some C)) (fun i _ => 0)
      case atStart => exact ⟨rfl, HK4.out, HG4.out⟩
      case round =>
        obtain ⟨rfl, hK6, hG6⟩ := hrel
        have t15 := boxZ HV.out hlt2 hG6 15 _ rfl
        have t16 := boxZ HV.out hlt2 hG6 16 _ rfl
        have t17 := boxZ HV.out hlt2 hG6 17 _ rfl
        have t18 := boxZ HV.out hlt2 hG6 18 _ rfl
        have t19 := boxZ HV.out hlt2 hG6 19 _ rfl
        have HK6 := Lib.hid hK6
        have HG6 := Lib.hid hG6
        clear hK6 hG6
        go_wp2_with (first
          | (go_at_call 57; refine (snapshot_zero C _ _ _ _ _ _ _ HK6.out).mono ?_; rintro e w8 ⟨rfl, hK8, hG8⟩; have HK8 := Lib.hid hK8; have hG8' := only_trans HG6.out hG8; have u17 : w8.cell? ⟨w.heap.size, 17, none⟩ = some (.slice ckP 0 ckC) := boxZ HV.out hlt2 hG8' 17 _ rfl; have HG8 := Lib.hid hG8'; clear hK8 hG8 hG8')
          | (go_at_call 58; refine (chkE_any C false false _ HK8.out).mono ?_; rintro e w9 ⟨rfl, rfl⟩))
        go_ret
        exact ⟨rfl, below_only HV.out.1.1 (Nat.le_of_lt HV.out.1.2) HG8.out (Nat.le_of_lt hlt2)⟩
end Go.Proofs.YtoigjpkdcadlnaaGreatDoor
