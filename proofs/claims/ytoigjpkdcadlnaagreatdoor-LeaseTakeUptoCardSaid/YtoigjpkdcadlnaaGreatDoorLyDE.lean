/-
  LeaseTake: the reference's Valid of messages at a grant that is right: its parts.
-/
import Derived.Test.YtoigjpkdcadlnaaGreatDoorLyC
namespace Go.Proofs.YtoigjpkdcadlnaaGreatDoor
open Go Go.RowKit

set_option maxHeartbeats 3200000 in
set_option maxRecDepth 1000000 in
theorem ranges_zero (frm dst view untl : Int) (stP enP ckP pfP hnP txP : Option Addr) (stC enC ckC pfC hnC txC : Nat) (w : World) : Calls Tryz.prog 63 #[.agg #[.int .i64 9, .int .i64 frm, .int .i64 dst, .int .i64 view, .int .i64 0, .string ⟨#[]⟩, .int .i64 untl, .int .i64 0, .int .i64 0, .int .i64 0, .int .i64 0, .string ⟨#[]⟩, .string ⟨#[]⟩, .slice stP 0 stC, .slice enP 0 enC, .int .i64 0, .string ⟨#[]⟩, .slice ckP 0 ckC, .slice pfP 0 pfC, .slice hnP 0 hnC, .slice txP 0 txC]] w (BRet true w) := by
  have hB0 : Box w (w.alloc (.cells #[.int .i64 9, .int .i64 frm, .int .i64 dst, .int .i64 view, .int .i64 0, .string ⟨#[]⟩, .int .i64 untl, .int .i64 0, .int .i64 0, .int .i64 0, .int .i64 0, .string ⟨#[]⟩, .string ⟨#[]⟩, .slice stP 0 stC, .slice enP 0 enC, .int .i64 0, .string ⟨#[]⟩, .slice ckP 0 ckC, .slice pfP 0 pfC, .slice hnP 0 hnC, .slice txP 0 txC] 37)) [.int .i64 9, .int .i64 frm, .int .i64 dst, .int .i64 view, .int .i64 0, .string ⟨#[]⟩, .int .i64 untl, .int .i64 0, .int .i64 0, .int .i64 0, .int .i64 0, .string ⟨#[]⟩, .string ⟨#[]⟩, .slice stP 0 stC, .slice enP 0 enC, .int .i64 0, .string ⟨#[]⟩, .slice ckP 0 ckC, .slice pfP 0 pfC, .slice hnP 0 hnC, .slice txP 0 txC] := Box.first w [.int .i64 9, .int .i64 frm, .int .i64 dst, .int .i64 view, .int .i64 0, .string ⟨#[]⟩, .int .i64 untl, .int .i64 0, .int .i64 0, .int .i64 0, .int .i64 0, .string ⟨#[]⟩, .string ⟨#[]⟩, .slice stP 0 stC, .slice enP 0 enC, .int .i64 0, .string ⟨#[]⟩, .slice ckP 0 ckC, .slice pfP 0 pfC, .slice hnP 0 hnC, .slice txP 0 txC] 37
  have n0 : numB 0 = true := rfl
  go_enter Tryz.func63, Tryz.ntmps63
  go_wp2
  revert hB0
  generalize w.alloc _ = W1
  intro hB0
  have c13 := hB0.2 13 _ rfl
  have c14 := hB0.2 14 _ rfl
  have c15 := hB0.2 15 _ rfl
  have c19 := hB0.2 19 _ rfl
  go_loop [3] (fun i => i = .int .i64 0) (fun _ => 0)
  case atStart => rfl
  case round =>
    obtain rfl := hrel
    go_wp2
    go_loop [4] (fun i => i = .int .i64 0) (fun _ => 0)
    case atStart => rfl
    case round =>
      obtain rfl := hrel
      go_wp2
      go_loop [5] (fun i => i = .int .i64 0) (fun _ => 0)
      case atStart => rfl
      case round =>
        obtain rfl := hrel
        go_wp2_with (go_at_call 61; refine (numberRef_any 0 _).mono ?_; rintro e w2 ⟨rfl, rfl⟩)
        go_ret
        exact ⟨rfl, hB0.1.1⟩

set_option maxHeartbeats 6400000 in
set_option maxRecDepth 1000000 in
theorem lengths_zero (frm dst view untl : Int) (stP enP ckP pfP hnP txP : Option Addr) (stC enC ckC pfC hnC txC : Nat) (w : World) : Calls Tryz.prog 64 #[.agg #[.int .i64 9, .int .i64 frm, .int .i64 dst, .int .i64 view, .int .i64 0, .string ⟨#[]⟩, .int .i64 untl, .int .i64 0, .int .i64 0, .int .i64 0, .int .i64 0, .string ⟨#[]⟩, .string ⟨#[]⟩, .slice stP 0 stC, .slice enP 0 enC, .int .i64 0, .string ⟨#[]⟩, .slice ckP 0 ckC, .slice pfP 0 pfC, .slice hnP 0 hnC, .slice txP 0 txC]] w (BRet true w) := by
  have hB0 : Box w (w.alloc (.cells #[.int .i64 9, .int .i64 frm, .int .i64 dst, .int .i64 view, .int .i64 0, .string ⟨#[]⟩, .int .i64 untl, .int .i64 0, .int .i64 0, .int .i64 0, .int .i64 0, .string ⟨#[]⟩, .string ⟨#[]⟩, .slice stP 0 stC, .slice enP 0 enC, .int .i64 0, .string ⟨#[]⟩, .slice ckP 0 ckC, .slice pfP 0 pfC, .slice hnP 0 hnC, .slice txP 0 txC] 37)) [.int .i64 9, .int .i64 frm, .int .i64 dst, .int .i64 view, .int .i64 0, .string ⟨#[]⟩, .int .i64 untl, .int .i64 0, .int .i64 0, .int .i64 0, .int .i64 0, .string ⟨#[]⟩, .string ⟨#[]⟩, .slice stP 0 stC, .slice enP 0 enC, .int .i64 0, .string ⟨#[]⟩, .slice ckP 0 ckC, .slice pfP 0 pfC, .slice hnP 0 hnC, .slice txP 0 txC] := Box.first w [.int .i64 9, .int .i64 frm, .int .i64 dst, .int .i64 view, .int .i64 0, .string ⟨#[]⟩, .int .i64 untl, .int .i64 0, .int .i64 0, .int .i64 0, .int .i64 0, .string ⟨#[]⟩, .string ⟨#[]⟩, .slice stP 0 stC, .slice enP 0 enC, .int .i64 0, .string ⟨#[]⟩, .slice ckP 0 ckC, .slice pfP 0 pfC, .slice hnP 0 hnC, .slice txP 0 txC] 37
  go_enter Tryz.func64, Tryz.ntmps64
  go_upto_region 1 with fail
  revert hB0
  generalize w.alloc _ = W1
  intro hB0
  have hX := Box.first W1 [.int .i64 0, .string ⟨#[]⟩, .slice ckP 0 ckC, .slice pfP 0 pfC, .slice hnP 0 hnC] 35
  have hBX := hB0.alloc (.cells #[.int .i64 0, .string ⟨#[]⟩, .slice ckP 0 ckC, .slice pfP 0 pfC, .slice hnP 0 hnC] 35)
  have c5 := hB0.2 5 _ rfl
  have c13 := hB0.2 13 _ rfl
  have c14 := hB0.2 14 _ rfl
  have c15 := hB0.2 15 _ rfl
  have c16 := hB0.2 16 _ rfl
  have c17 := hB0.2 17 _ rfl
  have c18 := hB0.2 18 _ rfl
  have c19 := hB0.2 19 _ rfl
  have c20 := hB0.2 20 _ rfl
  have hltW := hB0.1.2
  have hneW : w.heap.size ≠ W1.heap.size := by omega
  go_wp2
  have HB := Lib.hid hBX
  have HX := Lib.hid hX
  clear hBX hX hB0 c5 c13 c14 c15 c16 c17 c18 c19 c20
  generalize W1.alloc _ = W2 at HB HX ⊢
  have d20 := HB.out.2 20 _ rfl
  have d13 := HB.out.2 13 _ rfl
  have d14 := HB.out.2 14 _ rfl
  have x4 := HX.out.2 4 _ rfl
  have x3 := HX.out.2 3 _ rfl
  have g7 := HB.out.2 7 _ rfl
  have g8 := HB.out.2 8 _ rfl
  have g9 := HB.out.2 9 _ rfl
  have g10 := HB.out.2 10 _ rfl
  have g11 := HB.out.2 11 _ rfl
  have g12 := HB.out.2 12 _ rfl
  have hl1 := HB.out.1.2
  have hl2 := HX.out.1.2
  have hne1 : w.heap.size ≠ W2.heap.size := by omega
  have hne2 : W1.heap.size ≠ W2.heap.size := by omega
  go_loop [4, 5] (fun x i => x = .int .i64 0 ∧ i = .int .i64 0) (fun _ _ => 0)
  case atStart => exact ⟨rfl, rfl⟩
  case round =>
    obtain ⟨rfl, rfl⟩ := hrel
    go_wp2
    go_loop [6] (fun i => i = .int .i64 0) (fun _ => 0)
    case atStart => rfl
    case round =>
      obtain rfl := hrel
      go_wp2
      go_loop [7] (fun i => i = .int .i64 0) (fun _ => 0)
      case atStart => rfl
      case round =>
        obtain rfl := hrel
        go_wp2
        go_loop [8] (fun i => i = .int .i64 0) (fun _ => 0)
        case atStart => rfl
        case round =>
          obtain rfl := hrel
          go_wp2_with (first
            | (go_at_call 104; (with_reducible refine (short_none pfP pfC _).mono ?_); rintro e w2 ⟨rfl, rfl⟩)
            | (go_at_call 104; refine (short_zero _ _ _ (sg0_new W2 _)).mono ?_; rintro e w3 ⟨rfl, rfl⟩))
          go_ret
          exact ⟨rfl, (HB.out.1.alloc _).1⟩
end Go.Proofs.YtoigjpkdcadlnaaGreatDoor

/-
  LeaseTake: the reference's Valid of messages at a grant that is right.
-/
namespace Go.Proofs.YtoigjpkdcadlnaaGreatDoor
open Go Go.RowKit

theorem zNoSpare (frm dst view untl : Int) (stP enP ckP pfP hnP txP : Option Addr) (stC enC ckC pfC hnC txC : Nat) : ¬ ∃ i, i < 9 ∧ Spare (zMsg frm dst view untl stP enP ckP pfP hnP txP stC enC ckC pfC hnC txC) 9 i := by
  rintro ⟨i, hi, h1, h2⟩
  obtain ⟨z1, z3, z4, z5, z6, z7, z8⟩ := zNoMore frm dst view untl stP enP ckP pfP hnP txP stC enC ckC pfC hnC txC
  match i, hi with
  | 0, _ => exact absurd h2 (by decide)
  | 1, _ => rw [z1] at h1; cases h1
  | 2, _ => exact absurd h2 (by decide)
  | 3, _ => rw [z3] at h1; cases h1
  | 4, _ => rw [z4] at h1; cases h1
  | 5, _ => rw [z5] at h1; cases h1
  | 6, _ => rw [z6] at h1; cases h1
  | 7, _ => rw [z7] at h1; cases h1
  | 8, _ => rw [z8] at h1; cases h1

set_option maxHeartbeats 12800000 in
set_option maxRecDepth 1000000 in
theorem validRef_yes (frm dst view untl : Int) (stP enP ckP pfP hnP txP : Option Addr) (stC enC ckC pfC hnC txC : Nat) (w : World) (h0 : 0 ≤ frm) (h1 : frm < 12) (h2 : 0 ≤ dst) (h3 : dst < 18) (h4 : 0 ≤ view) (h5 : view ≤ 2147483647) (h6 : 0 ≤ untl) (h7 : untl ≤ 9223372036854775807) :
    Calls Tryz.prog 27 #[.agg #[.int .i64 9, .int .i64 frm, .int .i64 dst, .int .i64 view, .int .i64 0, .string ⟨#[]⟩, .int .i64 untl, .int .i64 0, .int .i64 0, .int .i64 0, .int .i64 0, .string ⟨#[]⟩, .string ⟨#[]⟩, .slice stP 0 stC, .slice enP 0 enC, .int .i64 0, .string ⟨#[]⟩, .slice ckP 0 ckC, .slice pfP 0 pfC, .slice hnP 0 hnC, .slice txP 0 txC]] w (OkRet w) := by
  have hB0 : Box w (w.alloc (.cells #[.int .i64 9, .int .i64 frm, .int .i64 dst, .int .i64 view, .int .i64 0, .string ⟨#[]⟩, .int .i64 untl, .int .i64 0, .int .i64 0, .int .i64 0, .int .i64 0, .string ⟨#[]⟩, .string ⟨#[]⟩, .slice stP 0 stC, .slice enP 0 enC, .int .i64 0, .string ⟨#[]⟩, .slice ckP 0 ckC, .slice pfP 0 pfC, .slice hnP 0 hnC, .slice txP 0 txC] 37)) [.int .i64 9, .int .i64 frm, .int .i64 dst, .int .i64 view, .int .i64 0, .string ⟨#[]⟩, .int .i64 untl, .int .i64 0, .int .i64 0, .int .i64 0, .int .i64 0, .string ⟨#[]⟩, .string ⟨#[]⟩, .slice stP 0 stC, .slice enP 0 enC, .int .i64 0, .string ⟨#[]⟩, .slice ckP 0 ckC, .slice pfP 0 pfC, .slice hnP 0 hnC, .slice txP 0 txC] := Box.first w [.int .i64 9, .int .i64 frm, .int .i64 dst, .int .i64 view, .int .i64 0, .string ⟨#[]⟩, .int .i64 untl, .int .i64 0, .int .i64 0, .int .i64 0, .int .i64 0, .string ⟨#[]⟩, .string ⟨#[]⟩, .slice stP 0 stC, .slice enP 0 enC, .int .i64 0, .string ⟨#[]⟩, .slice ckP 0 ckC, .slice pfP 0 pfC, .slice hnP 0 hnC, .slice txP 0 txC] 37
  have hA0 : (w.alloc (.cells #[.int .i64 9, .int .i64 frm, .int .i64 dst, .int .i64 view, .int .i64 0, .string ⟨#[]⟩, .int .i64 untl, .int .i64 0, .int .i64 0, .int .i64 0, .int .i64 0, .string ⟨#[]⟩, .string ⟨#[]⟩, .slice stP 0 stC, .slice enP 0 enC, .int .i64 0, .string ⟨#[]⟩, .slice ckP 0 ckC, .slice pfP 0 pfC, .slice hnP 0 hnC, .slice txP 0 txC] 37)).heap[w.heap.size]? = some (.cells #[.int .i64 9, .int .i64 frm, .int .i64 dst, .int .i64 view, .int .i64 0, .string ⟨#[]⟩, .int .i64 untl, .int .i64 0, .int .i64 0, .int .i64 0, .int .i64 0, .string ⟨#[]⟩, .string ⟨#[]⟩, .slice stP 0 stC, .slice enP 0 enC, .int .i64 0, .string ⟨#[]⟩, .slice ckP 0 ckC, .slice pfP 0 pfC, .slice hnP 0 hnC, .slice txP 0 txC] 37 (0, 0)) := heap_alloc_new w _
  have HM := Lib.hid (fun W => zOk frm dst view untl stP enP ckP pfP hnP txP stC enC ckC pfC hnC txC W ⟨by omega, by omega⟩ ⟨by omega, by omega⟩ ⟨by omega, by omega⟩ ⟨by omega, by omega⟩)
  have nv : numB view = true := (numB_t ⟨h4, h5⟩).symm
  have n0 : numB 0 = true := rfl
  have HB0 := Lib.hid hB0
  have HA0 := Lib.hid hA0
  clear hB0 hA0
  go_enter Tryz.func27, Tryz.ntmps27
  go_wp2_with (first
    | (go_at_call 61; (with_reducible refine (numberRef_any view _).mono ?_); rintro e w1 ⟨rfl, rfl⟩)
    | (go_at_call 61; refine (numberRef_any 0 _).mono ?_; rintro e w1 ⟨rfl, rfl⟩)
    | (refine wpList_load_row rfl 37 (.tmp 1) rfl w.heap.size rfl 37 #[.int .i64 9, .int .i64 frm, .int .i64 dst, .int .i64 view, .int .i64 0, .string ⟨#[]⟩, .int .i64 untl, .int .i64 0, .int .i64 0, .int .i64 0, .int .i64 0, .string ⟨#[]⟩, .string ⟨#[]⟩, .slice stP 0 stC, .slice enP 0 enC, .int .i64 0, .string ⟨#[]⟩, .slice ckP 0 ckC, .slice pfP 0 pfC, .slice hnP 0 hnC, .slice txP 0 txC] (0, 0) _ (by first | exact HA3.out | exact HA2.out | exact HA0.out) Tryz.underlying37 rfl Tryz.size37 ?_)
    | (go_at_call 62; refine (spare_any (zMsg frm dst view untl stP enP ckP pfP hnP txP stC enC ckC pfC hnC txC) 9 (by omega) rfl _ (HM.out _)).mono ?_; rintro e w2 ⟨b2, rfl, hb2, hbl2⟩; obtain rfl : b2 = false := (by cases b2; rfl; exact absurd (hb2.mp rfl) (zNoSpare frm dst view untl stP enP ckP pfP hnP txP stC enC ckC pfC hnC txC)); clear hb2; have HA2 := Lib.hid ((hbl2.block w.heap.size HB0.out.1.2).trans HA0.out); have hB2 := HB0.out.below hbl2; have a0 : w2.cell? ⟨w.heap.size, 0, none⟩ = some (.int .i64 9) := hB2.2 0 _ rfl; have HB2 := Lib.hid hB2; clear hbl2 hB2)
    | (go_at_call 63; refine (ranges_zero frm dst view untl stP enP ckP pfP hnP txP stC enC ckC pfC hnC txC _).mono ?_; rintro e w3 ⟨rfl, hb3⟩; have HA3 := Lib.hid ((hb3.block w.heap.size HB2.out.1.2).trans HA2.out); have HB3 := Lib.hid (HB2.out.below hb3); clear hb3)
    | (go_at_call 64; refine (lengths_zero frm dst view untl stP enP ckP pfP hnP txP stC enC ckC pfC hnC txC _).mono ?_; rintro e w4 ⟨rfl, hb4⟩; have hB4 := HB3.out.below hb4; have a17 : w4.cell? ⟨w.heap.size, 17, none⟩ = some (.slice ckP 0 ckC) := hB4.2 17 _ rfl; have HB4 := Lib.hid hB4; clear hb4 hB4))
  go_ret
  exact ⟨rfl, HB4.out.1.1⟩
end Go.Proofs.YtoigjpkdcadlnaaGreatDoor
