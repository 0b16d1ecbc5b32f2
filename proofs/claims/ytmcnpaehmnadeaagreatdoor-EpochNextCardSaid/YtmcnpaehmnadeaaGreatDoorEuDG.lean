/-
  EpochOf: sederuntref40.request, Same, In, requests return.
-/
import Derived.Test.YtmcnpaehmnadeaaGreatDoorEtEG
import Derived.Test.YtmcnpaehmnadeaaGreatDoorEuAC
import Derived.Test.YtmcnpaehmnadeaaGreatDoorEtHI
set_option maxHeartbeats 6400000
set_option maxRecDepth 1000000
namespace Go.Proofs.YtmcnpaehmnadeaaGreatDoor
open Go Go.RowKit
theorem rreq_any (c n : Int) (s : ByteArray) (w : World) : Calls Tryz.prog 108 #[.agg #[.int .i64 c, .int .i64 n, .string s]] w (IntRet w) := by
 go_enter Tryz.func108, Tryz.ntmps108
 go_wp2
 all_goals
  go_ret
  exact ⟨_, rfl, (Below.refl _ _).alloc (Nat.le_refl _) _⟩
theorem rsame_any (c n c' n' : Int) (s s' : ByteArray) (w : World) : Calls Tryz.prog 148 #[.agg #[.int .i64 c, .int .i64 n, .string s], .agg #[.int .i64 c', .int .i64 n', .string s']] w (BoolRet w) := by
 go_enter Tryz.func148, Tryz.ntmps148
 go_wp2
 all_goals
  go_ret
  exact ⟨_, rfl, ((Below.refl _ _).alloc (Nat.le_refl _) _).alloc (by simp) _⟩
def VI (w0 : World) (b o q : Nat) (c n c' n' : Int) (s s' : ByteArray) (W : World) : Prop :=
 W.cell? ⟨b, o, none⟩ = some (.int .i64 c) ∧ W.cell? ⟨b, o + 1, none⟩ = some (.int .i64 n) ∧ W.cell? ⟨b, o + 2, none⟩ = some (.string s) ∧
 W.cell? ⟨q, 0, none⟩ = some (.int .i64 c') ∧ W.cell? ⟨q, 1, none⟩ = some (.int .i64 n') ∧ W.cell? ⟨q, 2, none⟩ = some (.string s') ∧ b < W.heap.size ∧ q < W.heap.size ∧ Below w0.heap.size w0 W
theorem VI.below {w0 : World} {b o q : Nat} {c n c' n' : Int} {s s' : ByteArray} {W W' : World} (h : VI w0 b o q c n c' n' s s' W) (hb : Below W.heap.size W W') : VI w0 b o q c n c' n' s s' W' := by
 obtain ⟨h0, h1, h2, h3, h4, h5, h6, h7, h8⟩ := h
 exact ⟨(hb.cell (p := ⟨b, o, none⟩) h6).trans h0, (hb.cell (p := ⟨b, o + 1, none⟩) h6).trans h1, (hb.cell (p := ⟨b, o + 2, none⟩) h6).trans h2, (hb.cell (p := ⟨q, 0, none⟩) h7).trans h3, (hb.cell (p := ⟨q, 1, none⟩) h7).trans h4, (hb.cell (p := ⟨q, 2, none⟩) h7).trans h5,
  Nat.lt_of_lt_of_le h6 hb.size, Nat.lt_of_lt_of_le h7 hb.size, h8.trans (hb.mono h8.size)⟩
theorem viS {w0 : World} {b o q : Nat} {c n c' n' : Int} {s s' : ByteArray} {W : World} (h : VI w0 b o q c n c' n' s s' W) :
  W.cell? ⟨b, o, none⟩ = some (.int .i64 c) ∧ W.cell? ⟨b, o + 1, none⟩ = some (.int .i64 n) ∧ W.cell? ⟨b, o + 2, none⟩ = some (.string s) ∧
  W.cell? ⟨q, 0, none⟩ = some (.int .i64 c') ∧ W.cell? ⟨q, 1, none⟩ = some (.int .i64 n') ∧ W.cell? ⟨q, 2, none⟩ = some (.string s') ∧ VI w0 b o q c n c' n' s s' W := ⟨h.1, h.2.1, h.2.2.1, h.2.2.2.1, h.2.2.2.2.1, h.2.2.2.2.2.1, h⟩
theorem rin_any (p : Option Addr) (k cap : Nat) (c' n' : Int) (s' : ByteArray) (w : World) (hk : k ≤ 1000) (hr : ReqsP w p k) : Calls Tryz.prog 109 #[.slice p k cap, .agg #[.int .i64 c', .int .i64 n', .string s']] w (BoolRet w) := by
  have hb0 : Below w.heap.size w (w.alloc (.cells #[.int .i64 c', .int .i64 n', .string s'] 81)) := (Below.refl _ _).alloc (Nat.le_refl _) _
  have HB0 := Lib.hid hb0
  have HR := Lib.hid (hr.below hb0)
  have hq : w.heap.size < (w.alloc (.cells #[.int .i64 c', .int .i64 n', .string s'] 81)).heap.size := by simp
  have q0 : (w.alloc (.cells #[.int .i64 c', .int .i64 n', .string s'] 81)).cell? ⟨w.heap.size, 0, none⟩ = some (.int .i64 c') := by simp
  have q1 : (w.alloc (.cells #[.int .i64 c', .int .i64 n', .string s'] 81)).cell? ⟨w.heap.size, 1, none⟩ = some (.int .i64 n') := by simp
  have q2 : (w.alloc (.cells #[.int .i64 c', .int .i64 n', .string s'] 81)).cell? ⟨w.heap.size, 2, none⟩ = some (.string s') := by simp
  clear hr hb0
  go_enter Tryz.func109, Tryz.ntmps109
  go_wp2_with fail
  revert HB0 HR hq q0 q1 q2
  generalize w.alloc (.cells #[.int .i64 c', .int .i64 n', .string s'] 81) = W0
  intro HB0 HR hq q0 q1 q2
  have HQ := Lib.hid (And.intro q0 (And.intro q1 q2))
  clear q0 q1 q2
  go_loopw [5] (fun i wr => ∃ j : Nat, j ≤ k ∧ i = .int .i64 j ∧ Below W0.heap.size W0 wr) (fun i _ => k - (intOf i).toNat)
  case atStart => exact ⟨0, Nat.zero_le _, rfl, Below.refl _ _⟩
  case round =>
    obtain ⟨j, hj, rfl, hb⟩ := hrel
    by_cases hjk : j < k
    · obtain ⟨b, off, rfl, hbb, c, n, s, _, _, _, k0, k1, k2⟩ : ∃ b off, p = some ⟨b, off, none⟩ ∧ b < W0.heap.size ∧ ReqAt W0 b (off + j * 3) := by
        rcases HR.out with h | ⟨b, off, h1, h2, h3⟩
        · omega
        · exact ⟨b, off, h1, h2, h3 j hjk⟩
      have hV : VI W0 b (off + j * 3) w.heap.size c n c' n' s s' wr := ⟨(hb.cell (p := ⟨b, off + j * 3, none⟩) hbb).trans k0, (hb.cell (p := ⟨b, off + j * 3 + 1, none⟩) hbb).trans k1, (hb.cell (p := ⟨b, off + j * 3 + 2, none⟩) hbb).trans k2,
        (hb.cell (p := ⟨w.heap.size, 0, none⟩) hq).trans HQ.out.1, (hb.cell (p := ⟨w.heap.size, 1, none⟩) hq).trans HQ.out.2.1, (hb.cell (p := ⟨w.heap.size, 2, none⟩) hq).trans HQ.out.2.2, Nat.lt_of_lt_of_le hbb hb.size, Nat.lt_of_lt_of_le hq hb.size, hb⟩
      have HV := Lib.hid hV
      clear k0 k1 k2 hb hV
      go_upto_region 4 with fail
      go_region_held3 (fun W => W.cell? ⟨b, off + j * 3, none⟩ = some (.int .i64 c) ∧ W.cell? ⟨b, off + j * 3 + 1, none⟩ = some (.int .i64 n) ∧ W.cell? ⟨b, off + j * 3 + 2, none⟩ = some (.string s) ∧
          W.cell? ⟨w.heap.size, 0, none⟩ = some (.int .i64 c') ∧ W.cell? ⟨w.heap.size, 1, none⟩ = some (.int .i64 n') ∧ W.cell? ⟨w.heap.size, 2, none⟩ = some (.string s') ∧ VI W0 b (off + j * 3) w.heap.size c n c' n' s s' W)
        (first | exact viS HV.out | exact viS (HV.out.below (below_drew _)) | exact viS hV2)
        ((go_at_call 148; refine (rsame_any c n c' n' s s' _).mono ?_; rintro e w2 ⟨r, rfl, hb2⟩; have hV2 := (HV.out.below (below_drew _)).below hb2))
      have hbe := hV2.2.2.2.2.2.2.2.2
      cases r
      all_goals
        go_wp2_with fail
        first
          | (go_ret; exact ⟨_, rfl, HB0.out.trans (hbe.mono (Nat.le_of_lt hq))⟩)
          | (go_roundw
             case rel => exact ⟨j + 1, by omega, by go_num, hbe⟩
             case measure => simp [intOf]; omega)
    · go_wp2
      go_ret
      exact ⟨_, rfl, HB0.out.trans (hb.mono (Nat.le_of_lt hq))⟩
def VJ (w0 : World) (p : Option Addr) (j b o : Nat) (c n : Int) (s : ByteArray) (W : World) : Prop :=
 W.cell? ⟨b, o, none⟩ = some (.int .i64 c) ∧ W.cell? ⟨b, o + 1, none⟩ = some (.int .i64 n) ∧ W.cell? ⟨b, o + 2, none⟩ = some (.string s) ∧ b < W.heap.size ∧ ReqsP W p j ∧ Below w0.heap.size w0 W
theorem VJ.below {w0 : World} {p : Option Addr} {j b o : Nat} {c n : Int} {s : ByteArray} {W W' : World} (h : VJ w0 p j b o c n s W) (hb : Below W.heap.size W W') : VJ w0 p j b o c n s W' := by
 obtain ⟨h0, h1, h2, h3, h4, h5⟩ := h
 exact ⟨(hb.cell (p := ⟨b, o, none⟩) h3).trans h0, (hb.cell (p := ⟨b, o + 1, none⟩) h3).trans h1, (hb.cell (p := ⟨b, o + 2, none⟩) h3).trans h2, Nat.lt_of_lt_of_le h3 hb.size, h4.below hb, h5.trans (hb.mono h5.size)⟩
theorem vjS {w0 : World} {p : Option Addr} {j b o : Nat} {c n : Int} {s : ByteArray} {W : World} (h : VJ w0 p j b o c n s W) :
  W.cell? ⟨b, o, none⟩ = some (.int .i64 c) ∧ W.cell? ⟨b, o + 1, none⟩ = some (.int .i64 n) ∧ W.cell? ⟨b, o + 2, none⟩ = some (.string s) ∧ VJ w0 p j b o c n s W := ⟨h.1, h.2.1, h.2.2.1, h⟩
theorem rreqs_any (p : Option Addr) (k cap : Nat) (w : World) (hk : k ≤ 1000) (hc : k ≤ cap) (hr : ReqsP w p k) : Calls Tryz.prog 75 #[.slice p k cap] w (IntRet w) := by
  have HR := Lib.hid hr
  clear hr
  go_enter Tryz.func75, Tryz.ntmps75
  go_wp2
  go_loopw [3] (fun i wr => ∃ j : Nat, j ≤ k ∧ i = .int .i64 j ∧ Below w.heap.size w wr) (fun i _ => k - (intOf i).toNat)
  case atStart => exact ⟨0, Nat.zero_le _, rfl, Below.refl _ _⟩
  case round =>
    obtain ⟨j, hj, rfl, hb⟩ := hrel
    by_cases hjk : j < k
    · obtain ⟨b, off, rfl, hbb, c, n, s, _, _, _, k0, k1, k2⟩ : ∃ b off, p = some ⟨b, off, none⟩ ∧ b < w.heap.size ∧ ReqAt w b (off + j * 3) := by
        rcases HR.out with h | ⟨b, off, h1, h2, h3⟩
        · omega
        · exact ⟨b, off, h1, h2, h3 j hjk⟩
      have hV : VJ w (some ⟨b, off, none⟩) j b (off + j * 3) c n s wr := ⟨(hb.cell (p := ⟨b, off + j * 3, none⟩) hbb).trans k0, (hb.cell (p := ⟨b, off + j * 3 + 1, none⟩) hbb).trans k1, (hb.cell (p := ⟨b, off + j * 3 + 2, none⟩) hbb).trans k2, Nat.lt_of_lt_of_le hbb hb.size, (reqs_take HR.out hj).below hb, hb⟩
      have HV := Lib.hid hV
      have d0 := hV.1
      have d1 := hV.2.1
      have d2 := hV.2.2.1
      have e0 : (0 : Int) ≤ (j : Int) := by omega
      have e1 : (j : Int) ≤ (cap : Int) := by omega
      have e2 : j ≤ cap := by omega
      clear k0 k1 k2 hb hV
      go_upto_region 7 with (go_at_call 108; refine (rreq_any c n s _).mono ?_; rintro e w2 ⟨r, rfl, hb2⟩; have HV2 := Lib.hid (HV.out.below hb2); clear hb2)
      all_goals first
        | (go_ret; exact ⟨_, rfl, HV2.out.2.2.2.2.2⟩)
        | skip
      go_region_held3 (fun W => W.cell? ⟨b, off + j * 3, none⟩ = some (.int .i64 c) ∧ W.cell? ⟨b, off + j * 3 + 1, none⟩ = some (.int .i64 n) ∧ W.cell? ⟨b, off + j * 3 + 2, none⟩ = some (.string s) ∧ VJ w (some ⟨b, off, none⟩) j b (off + j * 3) c n s W)
        (first | exact vjS HV2.out | exact vjS (HV2.out.below (below_drew _)) | exact vjS hV3)
        ((go_at_call 109; refine (rin_any _ j cap c n s _ (by omega) (HV2.out.below (below_drew _)).2.2.2.2.1).mono ?_; rintro e w3 ⟨r3, rfl, hb3⟩; have hV3 := (HV2.out.below (below_drew _)).below hb3))
      have hbe := hV3.2.2.2.2.2
      cases r3
      all_goals
        go_wp2_with fail
        first
          | (go_ret; exact ⟨_, rfl, hbe⟩)
          | (go_roundw
             case rel => exact ⟨j + 1, by omega, by go_num, hbe⟩
             case measure => simp [intOf]; omega)
    · go_wp2
      go_ret
      exact ⟨_, rfl, hb⟩
end Go.Proofs.YtmcnpaehmnadeaaGreatDoor
/-
  EpochOf: sederuntref40.list returns a short string.
-/
namespace Go.Proofs.YtmcnpaehmnadeaaGreatDoor
open Go Go.RowKit
theorem ov3 : ∀ x y z : Nat, x ≤ 1152921504606846976 → y ≤ 1152921504606846976 → z ≤ 1152921504606846976 → (9223372036854775807 < x + y + z) = False := fun x y z h1 h2 h3 => by simp; omega
def VS (w0 : World) (b o : Nat) (s : ByteArray) (W : World) : Prop := W.cell? ⟨b, o, none⟩ = some (.string s) ∧ b < W.heap.size ∧ Below w0.heap.size w0 W
theorem VS.below {w0 : World} {b o : Nat} {s : ByteArray} {W W' : World} (h : VS w0 b o s W) (hb : Below W.heap.size W W') : VS w0 b o s W' :=
 ⟨(hb.cell (p := ⟨b, o, none⟩) h.2.1).trans h.1, Nat.lt_of_lt_of_le h.2.1 hb.size, h.2.2.trans (hb.mono h.2.2.size)⟩
theorem vsS {w0 : World} {b o : Nat} {s : ByteArray} {W : World} (h : VS w0 b o s W) : W.cell? ⟨b, o, none⟩ = some (.string s) ∧ VS w0 b o s W := ⟨h.1, h⟩
theorem rlist_any (p : Option Addr) (k cap K : Nat) (w : World) (hk : k ≤ 1000) (hK : K ≤ 1000) (h : StrsP w p k K) : Calls Tryz.prog 76 #[.slice p k cap] w (StrRet 2000000 w) := by
 have H := Lib.hid h
 clear h
 go_enter Tryz.func76, Tryz.ntmps76
 go_wp2_with (go_at_call 110; refine (rput_any k (by omega) _).mono ?_; rintro e w1 ⟨s1, hs1, rfl, hb1⟩)
 go_loopw [3, 4] (fun o i wr => ∃ (j : Nat) (s : ByteArray), j ≤ k ∧ i = .int .i64 j ∧ o = .string s ∧ s.size ≤ 2 + j * 1002 ∧ Below w.heap.size w wr) (fun _ i _ => k - (intOf i).toNat)
 case atStart => exact ⟨0, s1, Nat.zero_le _, rfl, rfl, by omega, hb1⟩
 case round =>
  obtain ⟨j, s, hj, rfl, rfl, hs, hbl⟩ := hrel
  clear hb1
  by_cases hjk : j < k
  ·obtain ⟨b, off, rfl, hbb, x, hc, hx⟩ : ∃ b off, p = some ⟨b, off, none⟩ ∧ b < w.heap.size ∧ ∃ s : ByteArray, w.cell? ⟨b, off + j, none⟩ = some (.string s) ∧ s.size ≤ K := by
    rcases H.out with h0 | ⟨b, off, hp, hb, hi⟩
    ·omega
    ·exact ⟨b, off, hp, hb, hi j hjk⟩
   have HV := Lib.hid (show VS w b (off + j) x wr from ⟨(hbl.cell (p := ⟨b, off + j, none⟩) hbb).trans hc, Nat.lt_of_lt_of_le hbb hbl.size, hbl⟩)
   have o2 := ov2
   have o3 := ov3
   have hx2 : x.size ≤ 1152921504606846976 := by omega
   have hs2 : s.size ≤ 1152921504606846976 := by omega
   clear hc hbl
   go_upto_region 5 with fail
   go_region_held3 (fun W => W.cell? ⟨b, off + j, none⟩ = some (.string x) ∧ VS w b (off + j) x W)
    (first | exact vsS HV.out | exact vsS (HV.out.below (below_drew _)) | exact vsS hV3)
    ((go_at_call 110; refine (rput_any x.size (by omega) _).mono ?_; rintro e w3 ⟨s3, hs3, rfl, hb3⟩; have hV3 := (HV.out.below (below_drew _)).below hb3; have hs32 : s3.size ≤ 1152921504606846976 := by omega))
   clear o2 o3 hx2 hs2
   have hbe := hV3.2.2
   go_wp2_with fail
   go_roundw
   case rel => exact ⟨j + 1, _, by omega, by go_num, rfl, by simp only [ByteArray.size_append]; omega, hbe⟩
   case measure => simp [intOf]; omega
  ·go_wp2_with fail
   go_ret
   exact ⟨s, by omega, rfl, hbl⟩
end Go.Proofs.YtmcnpaehmnadeaaGreatDoor
/-
  EpochOf: sederuntref40.value of a batch returns a short string.
-/
namespace Go.Proofs.YtmcnpaehmnadeaaGreatDoor
open Go Go.RowKit
theorem digQ {w : World} {v : Value} {ss : List ByteArray} {q : Nat} {c n : Int} {s : ByteArray} {W : World} (x : Int) (hx : I64 x) (h : VQ w v ss q c n s W) : Calls Tryz.prog 74 #[.int .i64 x] W (StrQ 21 w v ss q c n s) :=
 (dig_any x hx W).mono fun _ _ ⟨y, h1, h2, h3⟩ => ⟨y, by omega, h2, h.below h3⟩
def EN (w : World) (c0 : Int) (p : Option Addr) (k cap : Nat) (W : World) : Prop := W.heap[w.heap.size]? = some (.cells #[.int .i64 1, .int .i64 c0, .slice p k cap] 61 (0, 0))
theorem rvalueB_any (c0 : Int) (p : Option Addr) (k cap : Nat) (w : World) (hk : k ≤ 300) (hr : ReqsP w p k) : Calls Tryz.prog 50 #[.agg #[.int .i64 1, .int .i64 c0, .slice p k cap]] w (StrRet 2000000 w) := by
 obtain ⟨i0, hi, hz0, hz1, hz2⟩ := info_parts Tryz.info9
 have hb0 : Below w.heap.size w (w.alloc (.cells #[.int .i64 1, .int .i64 c0, .slice p k cap] 61)) := (Below.refl _ _).alloc (Nat.le_refl _) _
 have HR := Lib.hid (hr.below hb0)
 have HB0 := Lib.hid hb0
 have hE0 : EN w c0 p k cap (w.alloc (.cells #[.int .i64 1, .int .i64 c0, .slice p k cap] 61)) := heap_alloc_new w _
 have HE0 := Lib.hid hE0
 have hsz0 : w.heap.size < (w.alloc (.cells #[.int .i64 1, .int .i64 c0, .slice p k cap] 61)).heap.size := by simp
 clear hr hb0 hE0
 go_enter Tryz.func50, Tryz.ntmps50
 go_upto_region 6 with fail
 revert HR HB0 HE0 hsz0
 generalize w.alloc (.cells #[.int .i64 1, .int .i64 c0, .slice p k cap] 61) = W0
 intro HR HB0 HE0 hsz0
 go_wp2_with fail
 have hV0 : VB W0 (.slice (some ⟨W0.heap.size, 0, none⟩) 1 1) [⟨#[98, 97, 116, 99, 104]⟩] (W0.alloc (.cells #[.string ⟨#[98, 97, 116, 99, 104]⟩] 9)) :=
  ⟨(Below.refl _ _).alloc (Nat.le_refl _) _, ⟨rfl, .inr ⟨W0.heap.size, 1, #[.string ⟨#[98, 97, 116, 99, 104]⟩], rfl, Nat.le_refl _, heap_alloc_new W0 _, Nat.le_refl _, by unfold maxLen; omega, rfl, rfl⟩⟩, fun x hx => by rcases List.mem_singleton.mp hx with rfl; exact (by decide)⟩
 have HV0 := Lib.hid hV0
 clear hV0
 generalize W0.alloc (.cells #[.string ⟨#[98, 97, 116, 99, 104]⟩] 9) = W2 at HV0 ⊢
 go_loopw [3, 4] (fun v i wr => ∃ (j : Nat) (ss : List ByteArray), j ≤ k ∧ i = .int .i64 j ∧ ss.length = 1 + j * 3 ∧ VB W0 v ss wr) (fun _ i _ => k - (intOf i).toNat)
 case atStart => exact ⟨0, _, Nat.zero_le _, rfl, rfl, HV0.out⟩
 case round =>
  obtain ⟨j, ss, hj, rfl, hl, hV⟩ := hrel
  have HV := Lib.hid hV
  have a2 : wr.cell? ⟨w.heap.size, 2, none⟩ = some (.slice p k cap) := (hV.bl.cell (p := ⟨w.heap.size, 2, none⟩) hsz0).trans (cellOf HE0.out (j := 2) rfl)
  by_cases hjk : j < k
  ·obtain ⟨b, off, rfl, hbb, c, n, s, hc, hn, hs, k0, k1, k2⟩ : ∃ b off, p = some ⟨b, off, none⟩ ∧ b < W0.heap.size ∧ ReqAt W0 b (off + j * 3) := by
    rcases HR.out with h | ⟨b, off, h1, h2, h3⟩
    ·omega
    ·exact ⟨b, off, h1, h2, h3 j hjk⟩
   have d0 := (hV.bl.cell (p := ⟨b, off + j * 3, none⟩) hbb).trans k0
   have d1 := (hV.bl.cell (p := ⟨b, off + j * 3 + 1, none⟩) hbb).trans k1
   have d2 := (hV.bl.cell (p := ⟨b, off + j * 3 + 2, none⟩) hbb).trans k2
   have hsz := hV.bl.size
   have hne : u3.ownBlock ≠ some wr.heap.size := fun e => by have := (hV.own.lt _ e).2; omega
   clear k0 k1 k2
   go_upto_region 11 with fail
   have hQ : VQ W0 u3 ss wr.heap.size c n s (wr.alloc (.cells #[.int .i64 c, .int .i64 n, .string s] 81)) := ⟨hV.below ((Below.refl _ _).alloc (Nat.le_refl _) _), heap_alloc_new wr _⟩
   have hsz1 : W0.heap.size < (wr.alloc (.cells #[.int .i64 c, .int .i64 n, .string s] 81)).heap.size := by rw [World.size_alloc]; omega
   clear d0 d1 d2 hV a2
   revert hQ hsz1
   generalize wr.alloc (.cells #[.int .i64 c, .int .i64 n, .string s] 81) = W1
   generalize wr.heap.size = q at hne hsz ⊢
   intro hQ hsz1
   have HQ := Lib.hid hQ
   have hss : ss.length ≤ 1000 := by omega
   have HL := Lib.hid hl
   clear hQ hl
   go_region_held3 (fun W => W.cell? ⟨q, 0, none⟩ = some (.int .i64 c) ∧ W.cell? ⟨q, 1, none⟩ = some (.int .i64 n) ∧ W.cell? ⟨q, 2, none⟩ = some (.string s) ∧ VP W0 q c n s W)
    (first | exact vqS HQ.out | exact vqS HQ.out.drew | exact vqS hQ2 | exact vqS hQ3 | exact vqS (hQ3.alloc _) | exact vpS hP5)
    (first
     | (go_at_call 74; (with_reducible refine (digQ c hc HQ.out.drew).mono ?_); rintro e w2 ⟨x2, hx2, rfl, hQ2⟩)
     | (go_at_call 74; (with_reducible refine (digQ n hn hQ2).mono ?_); rintro e w3 ⟨x3, hx3, rfl, hQ3⟩)
     | (refine step_append_lies _ (by rfl) _ _ _ (by rfl) W0.heap.size 9 i0 (.string ⟨#[]⟩) 1 16 Tryz.underlying25 hi hz0 hz1 hz2 rfl (by omega) u3 ss.length (strVs ss) (by rfl) ((hQ3.alloc _).1.own) ⟨w3.heap.size, 0, none⟩ 3 3 [.string x2, .string x3, .string s] (by rfl) (by rfl) (World.news_of_block (cs := #[.string x2, .string x3, .string s]) (t := 9) (fr := (0, 0)) (heap_alloc_new w3 _)) (by simp [Value.oneCell']) (by omega) (by unfold maxLen; omega) (by omega) (by have := hQ3.1.bl.size; simp; omega) (w3.heap.size + 1) (by simp) ?_; intro g5 c5 w5 hown5 hgrow hat hlt; have hP5 := vq_grown (hQ3.alloc _) hne hgrow))
   rw [strVs_app] at hown5
   have hV5 := vb_grown (hQ3.alloc _).1 (ss' := ss ++ [x2, x3, s]) (by rw [List.length_append]; exact hown5) (HQ.out.1.all.app3 (by omega) (by omega) hs) hgrow
   have HV5 := Lib.hid hV5
   clear hown5 hgrow hat hV5
   go_wp2_with fail
   go_roundw
   case rel => exact ⟨j + 1, ss ++ [x2, x3, s], by omega, by go_num, by rw [List.length_append, HL.out]; show _ + 3 = _; omega, HV5.out⟩
   case measure => simp [intOf]; omega
  ·have hss : ss.length ≤ 1000 := by omega
   obtain ⟨p3, c3, hv, hp3⟩ := strsV_of_own hV.own hV.all
   subst hv
   have hbw := hV.bl
   clear hV hl
   go_wp2_with (go_at_call 76; refine (rlist_any p3 ss.length c3 1000 _ hss (by omega) hp3).mono ?_; rintro e w2 ⟨x, hx, rfl, hb2⟩)
   go_ret
   exact ⟨x, hx, rfl, HB0.out.trans ((hbw.trans (hb2.mono hbw.size)).mono (Nat.le_of_lt hsz0))⟩
end Go.Proofs.YtmcnpaehmnadeaaGreatDoor
/-
  EpochOf: sederuntref40.number, Valid return.
-/
namespace Go.Proofs.YtmcnpaehmnadeaaGreatDoor
open Go Go.RowKit
def NumRet (w : World) (e : Ending) (w' : World) : Prop := ∃ k : Int, e = .returned (.int .i64 k) ∧ I64 k ∧ Below w.heap.size w w'
theorem num_step {i m c : Nat} (hm : m < 10 ^ i) (hc : c ≤ 9) : 10 * m + c < 10 ^ (i + 1) := by rw [Nat.pow_succ]; omega
theorem num_bound {i m : Nat} (hm : m < 10 ^ i) (hi : i ≤ 7) : m < 10000000 := Nat.lt_of_lt_of_le hm (Nat.le_trans (Nat.pow_le_pow_right (by omega) hi) (by omega))
theorem number_any (s : ByteArray) (w : World) (hs : s.size ≤ 1048576) : Calls Tryz.prog 48 #[.string s] w (NumRet w) := by
 go_enter Tryz.func48, Tryz.ntmps48
 go_wp2_with fail
 go_loopw [3, 4] (fun n i wr => ∃ m j : Nat, n = .int .i64 m ∧ i = .int .i64 j ∧ j ≤ s.size ∧ j ≤ 7 ∧ m < 10 ^ j ∧ wr = w) (fun _ i _ => s.size - (intOf i).toNat)
 case atStart => exact ⟨0, 0, rfl, rfl, Nat.zero_le _, by omega, by simp, rfl⟩
 case round =>
  obtain ⟨m, j, rfl, rfl, hj, hj7, hm, rfl⟩ := hrel
  have hmb := num_bound hm hj7
  have HM := Lib.hid hm
  clear hm
  by_cases hjs : j < s.size
  ·have e0 : (0 : Int) ≤ (j : Int) := by omega
   have e1 : (j : Int) < (s.size : Int) := by omega
   by_cases hok : 48 ≤ s[j].toNat ∧ s[j].toNat ≤ 57 ∧ j ≤ 6
   ·have hst := num_step HM.out (show s[j].toNat - 48 ≤ 9 by omega)
    have hc1 := hok.1
    have hc2 := hok.2.1
    have hj6 := hok.2.2
    clear hok
    go_wp2_with fail
    exact ⟨⟨10 * m + (s[j].toNat - 48), j + 1, by congr 1; omega, by go_num, by omega, by omega, hst, trivial⟩, by simp [intOf]; omega⟩
   ·go_wp2_with fail
    all_goals first
     | (go_ret; exact ⟨_, rfl, by unfold I64; omega, Below.refl _ _⟩)
     | (exfalso; omega)
  ·by_cases h0 : s.size = 0
   ·have hn := ba_nil h0
    subst hn
    go_wp2_with fail
    all_goals
     go_ret
     exact ⟨_, rfl, by unfold I64; omega, Below.refl _ _⟩
   ·have h1 : s.toList.isEmpty = false := by have := ba_ne h0; simpa using this
    go_wp2_with (go_at_call 74; refine (dig_any _ (by unfold I64; omega) _).mono ?_; rintro e w2 ⟨x, hx, rfl, hb2⟩)
    all_goals
     go_ret
     exact ⟨_, rfl, by unfold I64; omega, hb2⟩
theorem rvalidB_any (p : Option Addr) (k cap : Nat) (w : World) (hk : k ≤ 300) (hc : k ≤ cap) (hr : ReqsP w p k) : Calls Tryz.prog 49 #[.agg #[.int .i64 1, .int .i64 0, .slice p k cap]] w (IntRet w) := by
 have hb : Below w.heap.size w (w.alloc (.cells #[.int .i64 1, .int .i64 0, .slice p k cap] 61)) := (Below.refl _ _).alloc (Nat.le_refl _) _
 have HR := Lib.hid (hr.below hb)
 have HB := Lib.hid hb
 have hq : w.heap.size < (w.alloc (.cells #[.int .i64 1, .int .i64 0, .slice p k cap] 61)).heap.size := by simp
 have hE : EN w 0 p k cap (w.alloc (.cells #[.int .i64 1, .int .i64 0, .slice p k cap] 61)) := heap_alloc_new w _
 have HE := Lib.hid hE
 clear hr hb
 go_enter Tryz.func49, Tryz.ntmps49
 go_wp2_with (first
  | (go_at_call 75; refine (rreqs_any p k cap _ (by omega) hc HR.out).mono ?_; rintro e w1 ⟨r, rfl, hb1⟩; have HB1 := Lib.hid hb1; have q0 := (hb1.cell (p := ⟨w.heap.size, 0, none⟩) hq).trans (cellOf HE.out (j := 0) rfl); have q1 := (hb1.cell (p := ⟨w.heap.size, 1, none⟩) hq).trans (cellOf HE.out (j := 1) rfl); have q2 := (hb1.cell (p := ⟨w.heap.size, 2, none⟩) hq).trans (cellOf HE.out (j := 2) rfl); clear hb1)
  | (go_at_call 50; refine (rvalueB_any 0 p k cap _ hk (HR.out.below HB1.out)).mono ?_; rintro e w2 ⟨x, hx, rfl, hb2⟩; have HB2 := Lib.hid hb2; clear hb2))
 all_goals first
  | (go_ret; exact ⟨_, rfl, HB.out.trans ((HB1.out.trans (HB2.out.mono HB1.out.size)).mono (Nat.le_of_lt hq))⟩)
  | (go_ret; exact ⟨_, rfl, HB.out.trans (HB1.out.mono (Nat.le_of_lt hq))⟩)
  | (go_ret; exact ⟨_, rfl, HB.out⟩)
theorem rvalidJ0 (c : Nat) (hc : c < 6) (w : World) : Calls Tryz.prog 49 #[.agg #[.int .i64 2, .int .i64 (c : Int), .slice none 0 0]] w (IntRet w) := by
 have hb : Below w.heap.size w (w.alloc (.cells #[.int .i64 2, .int .i64 (c : Int), .slice none 0 0] 61)) := (Below.refl _ _).alloc (Nat.le_refl _) _
 have HB := Lib.hid hb
 have hq : w.heap.size < (w.alloc (.cells #[.int .i64 2, .int .i64 (c : Int), .slice none 0 0] 61)).heap.size := by simp
 have HE := Lib.hid (heap_alloc_new w (.cells #[.int .i64 2, .int .i64 (c : Int), .slice none 0 0] 61))
 clear hb
 go_enter Tryz.func49, Tryz.ntmps49
 go_wp2_with (first
  | (go_at_call 75; refine (rreqs_any none 0 0 _ (by omega) (Nat.le_refl _) (.inl rfl)).mono ?_; rintro e w1 ⟨r, rfl, hb1⟩; have HB1 := Lib.hid hb1; have q0 := (hb1.cell (p := ⟨w.heap.size, 0, none⟩) hq).trans (cellOf HE.out (j := 0) rfl); have q1 := (hb1.cell (p := ⟨w.heap.size, 1, none⟩) hq).trans (cellOf HE.out (j := 1) rfl); have q2 := (hb1.cell (p := ⟨w.heap.size, 2, none⟩) hq).trans (cellOf HE.out (j := 2) rfl); clear hb1)
  | (go_at_call 50; refine (rval_join c hc _).mono ?_; rintro e w2 ⟨rfl, hb2⟩; have HB2 := Lib.hid hb2; clear hb2))
 all_goals first
  | (go_ret; exact ⟨_, rfl, HB.out.trans ((HB1.out.trans (HB2.out.mono HB1.out.size)).mono (Nat.le_of_lt hq))⟩)
  | (go_ret; exact ⟨_, rfl, HB.out.trans (HB1.out.mono (Nat.le_of_lt hq))⟩)
  | (go_ret; exact ⟨_, rfl, HB.out⟩)
theorem rvalidF_any (w : World) : Calls Tryz.prog 49 #[.agg #[.int .i64 3, .int .i64 0, .slice none 0 0]] w (IntRet w) := by
 have hb : Below w.heap.size w (w.alloc (.cells #[.int .i64 3, .int .i64 0, .slice none 0 0] 61)) := (Below.refl _ _).alloc (Nat.le_refl _) _
 have HB := Lib.hid hb
 have hq : w.heap.size < (w.alloc (.cells #[.int .i64 3, .int .i64 0, .slice none 0 0] 61)).heap.size := by simp
 have HE := Lib.hid (heap_alloc_new w (.cells #[.int .i64 3, .int .i64 0, .slice none 0 0] 61))
 clear hb
 go_enter Tryz.func49, Tryz.ntmps49
 go_wp2_with (first
  | (go_at_call 75; refine (rreqs_any none 0 0 _ (by omega) (Nat.le_refl _) (.inl rfl)).mono ?_; rintro e w1 ⟨r, rfl, hb1⟩; have HB1 := Lib.hid hb1; have q0 := (hb1.cell (p := ⟨w.heap.size, 0, none⟩) hq).trans (cellOf HE.out (j := 0) rfl); have q1 := (hb1.cell (p := ⟨w.heap.size, 1, none⟩) hq).trans (cellOf HE.out (j := 1) rfl); have q2 := (hb1.cell (p := ⟨w.heap.size, 2, none⟩) hq).trans (cellOf HE.out (j := 2) rfl); clear hb1)
  | (go_at_call 50; refine (rval_finish _).mono ?_; rintro e w2 ⟨rfl, hb2⟩; have HB2 := Lib.hid hb2; clear hb2))
 all_goals first
  | (go_ret; exact ⟨_, rfl, HB.out.trans ((HB1.out.trans (HB2.out.mono HB1.out.size)).mono (Nat.le_of_lt hq))⟩)
  | (go_ret; exact ⟨_, rfl, HB.out.trans (HB1.out.mono (Nat.le_of_lt hq))⟩)
  | (go_ret; exact ⟨_, rfl, HB.out⟩)
theorem rvalidJ1 (c : Int) (hc : ¬ (0 ≤ c ∧ c < 6)) (w : World) : Calls Tryz.prog 49 #[.agg #[.int .i64 2, .int .i64 c, .slice none 0 0]] w fun e w' => e = .returned (.int .i64 1) ∧ Below w.heap.size w w' := by
 go_enter Tryz.func49, Tryz.ntmps49
 go_wp2_with fail
 all_goals first
  | (go_ret; exact ⟨rfl, (Below.refl _ _).alloc (Nat.le_refl _) _⟩)
  | (exfalso; omega)
theorem rvalidJ_any (c : Int) (w : World) : Calls Tryz.prog 49 #[.agg #[.int .i64 2, .int .i64 c, .slice none 0 0]] w fun e w' => ∃ r : Int, e = .returned (.int .i64 r) ∧ (r = 0 → 0 ≤ c ∧ c < 6) ∧ Below w.heap.size w w' := by
 by_cases hc : 0 ≤ c ∧ c < 6
 ·obtain ⟨k, rfl⟩ := Int.eq_ofNat_of_zero_le hc.1
  exact (rvalidJ0 k (by omega) w).mono fun _ _ ⟨r, h1, h2⟩ => ⟨r, h1, fun _ => hc, h2⟩
 ·exact (rvalidJ1 c hc w).mono fun _ _ ⟨h1, h2⟩ => ⟨1, h1, fun h => by omega, h2⟩
theorem rvalid0 (w : World) : Calls Tryz.prog 49 #[.agg #[.int .i64 0, .int .i64 0, .slice none 0 0]] w fun e w' => e = .returned (.int .i64 1) ∧ Below w.heap.size w w' := by
 go_enter Tryz.func49, Tryz.ntmps49
 go_wp2_with fail
 go_ret
 exact ⟨rfl, (Below.refl _ _).alloc (Nat.le_refl _) _⟩
end Go.Proofs.YtmcnpaehmnadeaaGreatDoor
