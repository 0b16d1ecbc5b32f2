/-
  EpochOf: strconv.Atoi and strconv.Itoa return, where the library's variables are laid.
-/
import Derived.Test.YtmcnpaehmnadeaaGreatDoorEtAD
import Derived.Lib.ItoaLen
import Derived.Lib.AtoiAllCases
import Derived.Lib.AtoiErrMem
import Derived.Deep.RegionHeld3
import Derived.Deep.RegionWith
set_option maxHeartbeats 6400000
set_option maxRecDepth 1000000
namespace Go.Proofs.YtmcnpaehmnadeaaGreatDoor
open Go Go.RowKit
theorem var_below {w W : World} {n : String} {cs : Array Value} (hb : Below w.heap.size w W) (h : w.var? Tryz.prog n = some cs) : W.var? Tryz.prog n = some cs := by
 unfold World.var? at h ⊢
 cases hg : Tryz.prog.globalNamed n with
 | none => rw [hg] at h; cases h
 | some g =>
  rw [hg] at h
  simp only [Option.bind_some] at h ⊢
  have hlt : g < w.heap.size := by
   by_cases hh : g < w.heap.size
   ·exact hh
   ·rw [Array.getElem?_eq_none (by omega)] at h; cases h
  rw [hb.block g hlt]
  exact h
structure GL (w : World) : Prop where
 es : ∃ t p, w.var? Tryz.prog "strconv.ErrSyntax" = some #[.iface t p]
 er : ∃ t p, w.var? Tryz.prog "strconv.ErrRange" = some #[.iface t p]
 tab : Lib.TabIs Tryz.prog w "internal/strconv.uint64pow10" .u64 Lib.pow10Tab
theorem GL.below {w W : World} (h : GL w) (hb : Below w.heap.size w W) : GL W :=
 ⟨by obtain ⟨t, p, h1⟩ := h.es; exact ⟨t, p, var_below hb h1⟩, by obtain ⟨t, p, h1⟩ := h.er; exact ⟨t, p, var_below hb h1⟩, var_below hb h.tab⟩
def I64 (x : Int) : Prop := -9223372036854775808 ≤ x ∧ x ≤ 9223372036854775807
def AtoiRet (w : World) (e : Ending) (w' : World) : Prop := ∃ (n : Int) (err : Value), I64 n ∧ e = .returned (.tuple #[.int .i64 n, err]) ∧ Below w.heap.size w w'
theorem atoi_any (s : ByteArray) (w : World) (hs : s.size ≤ 1048576) (hG : GL w) : Calls Tryz.prog 37 #[.string s] w (AtoiRet w) := by
 obtain ⟨t1, p1, h1⟩ := hG.es
 obtain ⟨t2, p2, h2⟩ := hG.er
 cases h : Lib.atoiAll s.data.toList with
 | ok v =>
  refine (Tryz.strconv_Atoi_ok s (by omega) v h w).mono ?_
  rintro e w' ⟨rfl, hw⟩
  refine ⟨v, _, Lib.atoiAll_bounds h, rfl, ?_⟩
  rcases hw with rfl | ⟨t, rfl⟩
  ·exact Below.refl _ _
  ·exact Lib.bytesWorld_below w 5 t
 | range =>
  refine (Tryz.strconv_Atoi_range_var s (by omega) h t2 p2 w h2).mono ?_
  rintro e w' ⟨N, rfl, _, _, hb⟩
  refine ⟨_, _, ?_, rfl, hb⟩
  unfold Lib.atoiSat
  split
  ·exact ⟨by omega, by omega⟩
  ·exact ⟨by omega, by omega⟩
 | _ =>
  refine (Any.strconv_Atoi_syntax_var Tryz.laysC172 s (by omega) h t1 p1 w h1).mono ?_
  rintro e w' ⟨N, rfl, _, _, hb⟩
  exact ⟨0, _, ⟨by omega, by omega⟩, rfl, hb⟩
theorem grow_below (w : World) (k : Nat) (os : Array Obj) : Below w.heap.size w (Sort.grow (w.drewN k) os) :=
 ⟨rfl, rfl, rfl, by show _ ≤ (w.heap ++ os).size; simp, fun i hi => by show (w.heap ++ os)[i]? = w.heap[i]?; rw [Array.getElem?_append_left hi]⟩
theorem itoa_any (n : Int) (w : World) (hn : I64 n) (hG : GL w) : Calls Tryz.prog 60 #[.int .i64 n] w (StrRet 21 w) := by
 refine (Tryz.strconv_Itoa n hn.1 hn.2 w hG.tab).mono ?_
 rintro e w' ⟨rfl, k, os, rfl⟩
 exact ⟨_, by show (Lib.itoa n).toArray.size ≤ _; rw [List.size_toArray]; exact Lib.itoa_length_le n hn.1 hn.2, rfl, grow_below w k os⟩
end Go.Proofs.YtmcnpaehmnadeaaGreatDoor
/-
  EpochOf: entry.valid returns.
-/
namespace Go.Proofs.YtmcnpaehmnadeaaGreatDoor
open Go Go.RowKit
def ReqAt (w : World) (b o : Nat) : Prop := ∃ (c n : Int) (s : ByteArray), I64 c ∧ I64 n ∧ s.size ≤ 1000 ∧ w.cell? ⟨b, o, none⟩ = some (.int .i64 c) ∧ w.cell? ⟨b, o + 1, none⟩ = some (.int .i64 n) ∧ w.cell? ⟨b, o + 2, none⟩ = some (.string s)
def ReqsP (w : World) (p : Option Addr) (n : Nat) : Prop := n = 0 ∨ ∃ b off, p = some ⟨b, off, none⟩ ∧ b < w.heap.size ∧ ∀ i, i < n → ReqAt w b (off + i * 3)
theorem ReqAt.below {w W : World} {B b o : Nat} (h : Below B w W) (hb : b < B) (hr : ReqAt w b o) : ReqAt W b o := by
 obtain ⟨c, n, s, h1, h2, h3, k0, k1, k2⟩ := hr
 exact ⟨c, n, s, h1, h2, h3, (h.cell (by exact hb)).trans k0, (h.cell (by exact hb)).trans k1, (h.cell (by exact hb)).trans k2⟩
theorem ReqsP.below {w W : World} {p : Option Addr} {n : Nat} (h : Below w.heap.size w W) (hr : ReqsP w p n) : ReqsP W p n := by
 rcases hr with h0 | ⟨b, off, rfl, hb, hi⟩
 ·exact .inl h0
 ·exact .inr ⟨b, off, rfl, Nat.lt_of_lt_of_le hb h.size, fun i hil => (hi i hil).below h hb⟩
theorem same_any (c n c' n' : Int) (s s' : ByteArray) (w : World) : Calls Tryz.prog 121 #[.agg #[.int .i64 c, .int .i64 n, .string s], .agg #[.int .i64 c', .int .i64 n', .string s']] w (BoolRet w) := by
 go_enter Tryz.func121, Tryz.ntmps121
 go_wp2
 all_goals
  go_ret
  exact ⟨_, rfl, ((Below.refl _ _).alloc (Nat.le_refl _) _).alloc (by simp) _⟩
theorem inC_any (c n c' n' : Int) (s s' : ByteArray) (q : Nat) (w : World) (hq : q < w.heap.size) (h0 : w.cell? ⟨q, 0, none⟩ = some (.int .i64 c')) (h1 : w.cell? ⟨q, 1, none⟩ = some (.int .i64 n')) (h2 : w.cell? ⟨q, 2, none⟩ = some (.string s')) :
  Calls Tryz.prog 120 #[.agg #[.int .i64 c, .int .i64 n, .string s], .pointer (some ⟨q, 0, none⟩)] w (BoolRet w) := by
 have hb : Below w.heap.size w (w.alloc (.cells #[.int .i64 c, .int .i64 n, .string s] 81)) := (Below.refl _ _).alloc (Nat.le_refl _) _
 have g0 := (hb.cell (p := ⟨q, 0, none⟩) hq).trans h0
 have g1 := (hb.cell (p := ⟨q, 1, none⟩) hq).trans h1
 have g2 := (hb.cell (p := ⟨q, 2, none⟩) hq).trans h2
 go_enter Tryz.func120, Tryz.ntmps120
 go_wp2_with (go_at_call 121; refine (same_any _ _ _ _ _ _ _).mono ?_; rintro e w1 ⟨r, rfl, hb1⟩)
 go_ret
 exact ⟨r, rfl, hb.trans (hb1.mono (by simp))⟩
theorem indexFunc_any (p : Option Addr) (k cap : Nat) (c' n' : Int) (s' : ByteArray) (q : Nat) (w : World) (hk : k ≤ 1000) (hr : ReqsP w p k) (hq : q < w.heap.size) (h0 : w.cell? ⟨q, 0, none⟩ = some (.int .i64 c')) (h1 : w.cell? ⟨q, 1, none⟩ = some (.int .i64 n')) (h2 : w.cell? ⟨q, 2, none⟩ = some (.string s')) :
    Calls Tryz.prog 152 #[.slice p k cap, .func (.func 120) #[] #[.pointer (some ⟨q, 0, none⟩)]] w (IntRet w) := by
  have HR := Lib.hid hr
  clear hr
  go_enter Tryz.func152, Tryz.ntmps152
  go_wp2
  go_loopw [8] (fun i wr => ∃ j : Nat, j ≤ k ∧ i = .int .i64 j ∧ Below w.heap.size w wr) (fun i _ => k - (intOf i).toNat)
  case atStart => exact ⟨0, Nat.zero_le _, rfl, Below.refl _ _⟩
  case round =>
    obtain ⟨j, hj, rfl, hb⟩ := hrel
    by_cases hjk : j < k
    · obtain ⟨b, off, rfl, hbb, c, n, s, _, _, _, k0, k1, k2⟩ : ∃ b off, p = some ⟨b, off, none⟩ ∧ b < w.heap.size ∧ ReqAt w b (off + j * 3) := by
        rcases HR.out with h | ⟨b, off, h1, h2, h3⟩
        · omega
        · exact ⟨b, off, h1, h2, h3 j hjk⟩
      have d0 := (hb.cell (p := ⟨b, off + j * 3, none⟩) hbb).trans k0
      have d1 := (hb.cell (p := ⟨b, off + j * 3 + 1, none⟩) hbb).trans k1
      have d2 := (hb.cell (p := ⟨b, off + j * 3 + 2, none⟩) hbb).trans k2
      have hsz := hb.size
      have HB := Lib.hid hb
      go_wp2_with (go_at_call 120; refine (inC_any _ _ _ _ _ _ q _ (by omega) ((HB.out.cell (p := ⟨q, 0, none⟩) hq).trans h0) ((HB.out.cell (p := ⟨q, 1, none⟩) hq).trans h1) ((HB.out.cell (p := ⟨q, 2, none⟩) hq).trans h2)).mono ?_; rintro e w1 ⟨r, rfl, hb1⟩)
      all_goals first
        | (go_ret; exact ⟨_, rfl, HB.out.trans (hb1.mono hsz)⟩)
        | (go_roundw
           case rel => exact ⟨j + 1, by omega, by go_num, HB.out.trans (hb1.mono hsz)⟩
           case measure => simp [intOf]; omega)
    · go_wp2
      go_ret
      exact ⟨_, rfl, hb⟩
theorem containsFunc_any (p : Option Addr) (k cap : Nat) (c' n' : Int) (s' : ByteArray) (q : Nat) (w : World) (hk : k ≤ 1000) (hr : ReqsP w p k) (hq : q < w.heap.size) (h0 : w.cell? ⟨q, 0, none⟩ = some (.int .i64 c')) (h1 : w.cell? ⟨q, 1, none⟩ = some (.int .i64 n')) (h2 : w.cell? ⟨q, 2, none⟩ = some (.string s')) :
  Calls Tryz.prog 119 #[.slice p k cap, .func (.func 120) #[] #[.pointer (some ⟨q, 0, none⟩)]] w (BoolRet w) := by
 go_enter Tryz.func119, Tryz.ntmps119
 go_wp2_with (go_at_call 152; refine (indexFunc_any p k cap c' n' s' q _ hk hr hq h0 h1 h2).mono ?_; rintro e w1 ⟨r, rfl, hb1⟩)
 go_ret
 exact ⟨_, rfl, hb1⟩
theorem in_any (p : Option Addr) (k cap : Nat) (c n : Int) (s : ByteArray) (w : World) (hk : k ≤ 1000) (hr : ReqsP w p k) : Calls Tryz.prog 87 #[.slice p k cap, .agg #[.int .i64 c, .int .i64 n, .string s]] w (BoolRet w) := by
 have hb : Below w.heap.size w (w.alloc (.cells #[.int .i64 c, .int .i64 n, .string s] 81)) := (Below.refl _ _).alloc (Nat.le_refl _) _
 have HR := Lib.hid (hr.below hb)
 clear hr
 go_enter Tryz.func87, Tryz.ntmps87
 go_wp2_with (go_at_call 119; refine (containsFunc_any p k cap c n s w.heap.size _ hk HR.out (by simp) (by simp) (by simp) (by simp)).mono ?_; rintro e w1 ⟨r, rfl, hb1⟩)
 go_ret
 exact ⟨_, rfl, hb.trans (hb1.mono (by simp))⟩
theorem reqs_take {w : World} {p : Option Addr} {n j : Nat} (h : ReqsP w p n) (hj : j ≤ n) : ReqsP w p j := by
 rcases h with rfl | ⟨b, off, rfl, hb, hi⟩
 ·exact .inl (by omega)
 ·exact .inr ⟨b, off, rfl, hb, fun i hil => hi i (by omega)⟩
def VF (w : World) (p : Option Addr) (j q : Nat) (c n : Int) (s : ByteArray) (W : World) : Prop := W.cell? ⟨q, 0, none⟩ = some (.int .i64 c) ∧ W.cell? ⟨q, 1, none⟩ = some (.int .i64 n) ∧ W.cell? ⟨q, 2, none⟩ = some (.string s) ∧ q < W.heap.size ∧ Below w.heap.size w W ∧ ReqsP W p j
theorem VF.below {w : World} {p : Option Addr} {j q : Nat} {c n : Int} {s : ByteArray} {W W' : World} (h : VF w p j q c n s W) (hb : Below W.heap.size W W') : VF w p j q c n s W' := by
 obtain ⟨h0, h1, h2, h3, h4, h5⟩ := h
 exact ⟨(hb.cell (p := ⟨q, 0, none⟩) h3).trans h0, (hb.cell (p := ⟨q, 1, none⟩) h3).trans h1, (hb.cell (p := ⟨q, 2, none⟩) h3).trans h2, Nat.lt_of_lt_of_le h3 hb.size, h4.trans (hb.mono h4.size), h5.below hb⟩
theorem VF.drew {w : World} {p : Option Addr} {j q : Nat} {c n : Int} {s : ByteArray} {W : World} (h : VF w p j q c n s W) : VF w p j q c n s W.drew := h.below ⟨rfl, rfl, rfl, Nat.le_refl _, fun _ _ => rfl⟩
theorem vfS {w : World} {p : Option Addr} {j q : Nat} {c n : Int} {s : ByteArray} {W : World} (h : VF w p j q c n s W) : W.cell? ⟨q, 0, none⟩ = some (.int .i64 c) ∧ W.cell? ⟨q, 1, none⟩ = some (.int .i64 n) ∧ W.cell? ⟨q, 2, none⟩ = some (.string s) ∧ VF w p j q c n s W := ⟨h.1, h.2.1, h.2.2.1, h⟩
theorem valid_any (p : Option Addr) (k cap : Nat) (w : World) (hk : k ≤ 1000) (hc : k ≤ cap) (hr : ReqsP w p k) : Calls Tryz.prog 58 #[.slice p k cap] w (IntRet w) := by
  have HR := Lib.hid hr
  clear hr
  go_enter Tryz.func58, Tryz.ntmps58
  go_wp2
  go_loopw [7] (fun i wr => ∃ j : Nat, j ≤ k ∧ i = .int .i64 j ∧ Below w.heap.size w wr) (fun i _ => k - (intOf i).toNat)
  case atStart => exact ⟨0, Nat.zero_le _, rfl, Below.refl _ _⟩
  case round =>
    obtain ⟨j, hj, rfl, hb⟩ := hrel
    by_cases hjk : j < k
    · obtain ⟨b, off, rfl, hbb, c, n, s, _, _, _, k0, k1, k2⟩ : ∃ b off, p = some ⟨b, off, none⟩ ∧ b < w.heap.size ∧ ReqAt w b (off + j * 3) := by
        rcases HR.out with h | ⟨b, off, h1, h2, h3⟩
        · omega
        · exact ⟨b, off, h1, h2, h3 j hjk⟩
      have d0 := (hb.cell (p := ⟨b, off + j * 3, none⟩) hbb).trans k0
      have d1 := (hb.cell (p := ⟨b, off + j * 3 + 1, none⟩) hbb).trans k1
      have d2 := (hb.cell (p := ⟨b, off + j * 3 + 2, none⟩) hbb).trans k2
      have hsz := hb.size
      have HB := Lib.hid hb
      have HRj := Lib.hid (reqs_take HR.out hj)
      clear k0 k1 k2 hb
      go_upto_region 4 with fail
      have hb1 : Below w.heap.size w (wr.alloc (.cells #[.int .i64 c, .int .i64 n, .string s] 81)) := HB.out.alloc hsz _
      have hV : VF w (some ⟨b, off, none⟩) j wr.heap.size c n s (wr.alloc (.cells #[.int .i64 c, .int .i64 n, .string s] 81)) := ⟨by simp, by simp, by simp, by simp, hb1, HRj.out.below hb1⟩
      clear d0 d1 d2 hb1
      revert hV
      generalize wr.alloc (.cells #[.int .i64 c, .int .i64 n, .string s] 81) = W1
      generalize wr.heap.size = q at hsz ⊢
      intro hV
      have HV := Lib.hid hV
      have q0 := hV.1
      have q1 := hV.2.1
      have q2 := hV.2.2.1
      have e0 : (0 : Int) ≤ (j : Int) := by omega
      have e1 : (j : Int) ≤ (cap : Int) := by omega
      have e2 : j ≤ cap := by omega
      clear hV
      go_upto_region 10 with fail
      all_goals first
        | (go_ret; exact ⟨_, rfl, HV.out.2.2.2.2.1⟩)
        | skip
      all_goals
        go_region_held3 (fun W => W.cell? ⟨q, 0, none⟩ = some (.int .i64 c) ∧ W.cell? ⟨q, 1, none⟩ = some (.int .i64 n) ∧ W.cell? ⟨q, 2, none⟩ = some (.string s) ∧ VF w (some ⟨b, off, none⟩) j q c n s W)
          (first | exact vfS HV.out | exact vfS HV.out.drew | exact vfS hV2)
          ((go_at_call 87; refine (in_any _ j cap c n s _ (by omega) (by first | exact HV.out.2.2.2.2.2 | exact HV.out.drew.2.2.2.2.2)).mono ?_; rintro e w2 ⟨r, rfl, hb2⟩; have hV2 := HV.out.drew.below hb2))
        cases r
        all_goals
          go_wp2_with fail
          first
            | (go_ret; exact ⟨_, rfl, hV2.2.2.2.2.1⟩)
            | (go_roundw
               case rel => exact ⟨j + 1, by omega, by go_num, hV2.2.2.2.2.1⟩
               case measure => simp [intOf]; omega)
    · go_wp2
      go_ret
      exact ⟨_, rfl, hb⟩
end Go.Proofs.YtmcnpaehmnadeaaGreatDoor
/-
  EpochOf: the closed calls, as the model's; entry.Valid.
-/
namespace Go.Proofs.YtmcnpaehmnadeaaGreatDoor
open Go Go.RowKit Go.AM
def jB (c : Nat) : ByteArray := ⟨(jS c).toArray⟩
def fB : ByteArray := ⟨fS.toArray⟩
def TurnRet (k c : Int) (w : World) (e : Ending) (w' : World) : Prop := e = .returned (.tuple #[.agg #[.int .i64 k, .int .i64 c, .slice none 0 0], .int .i64 0]) ∧ Below w.heap.size w w'
def TextRet (s : ByteArray) (w : World) (e : Ending) (w' : World) : Prop := e = .returned (.string s) ∧ Below w.heap.size w w'
theorem turn_of {f : FuncId} {k c : Int} {t : List UInt8} (h : outE k c ((runF Tryz.prog same0 known0 kindOf 3000).call f [.str t] s00) = true) (w : World) : Calls Tryz.prog f #[.string ⟨t.toArray⟩] w (TurnRet k c w) := by
 obtain ⟨s, hs⟩ := outE_some h
 rw [runF_eq] at hs
 refine ((plain_call progOk0 (args := [.str t]) rfl rfl hs).2 μ0 [.string ⟨t.toArray⟩] w ⟨rfl, trivial⟩).mono ?_
 rintro e w' ⟨v', rfl, hv, hb⟩
 obtain ⟨vs, hl, rfl⟩ := hv
 match vs, hl with
 | [v1, v2], ⟨h1, h2, _⟩ =>
  obtain ⟨us, hu, rfl⟩ := h1
  match us, hu with
  | [u1, u2, u3], ⟨g1, g2, g3, _⟩ =>
   have e1 : u1 = .int .i64 k := g1
   have e2 : u2 = .int .i64 c := g2
   have e3 : u3 = .slice none 0 0 := g3
   have e4 : v2 = .int .i64 0 := h2
   subst e1; subst e2; subst e3; subst e4
   exact ⟨rfl, hb⟩
theorem text_of {f : FuncId} {k c : Int} {t : List UInt8} (h : outS t ((runF Tryz.prog same0 known0 kindOf 3000).call f [.agg [.int .i64 k, .int .i64 c, .nilSlice]] s00) = true) (w : World) : Calls Tryz.prog f #[.agg #[.int .i64 k, .int .i64 c, .slice none 0 0]] w (TextRet ⟨t.toArray⟩ w) := by
 obtain ⟨s, hs⟩ := outS_some h
 rw [runF_eq] at hs
 refine ((plain_call progOk0 (args := [.agg [.int .i64 k, .int .i64 c, .nilSlice]]) rfl rfl hs).2 μ0 [.agg #[.int .i64 k, .int .i64 c, .slice none 0 0]] w ⟨⟨[.int .i64 k, .int .i64 c, .slice none 0 0], ⟨rfl, rfl, rfl, trivial⟩, rfl⟩, trivial⟩).mono ?_
 rintro e w' ⟨v', rfl, hv, hb⟩
 have e1 : v' = .string ⟨t.toArray⟩ := hv
 subst e1
 exact ⟨rfl, hb⟩
theorem dec_join (c : Nat) (hc : c < 6) (w : World) : Calls Tryz.prog 23 #[.string (jB c)] w (TurnRet 2 c w) := turn_of (List.all_eq_true.mp decRun c (by simpa using hc)) w
theorem dec_finish (w : World) : Calls Tryz.prog 23 #[.string fB] w (TurnRet 3 0 w) := turn_of decRunF w
theorem ref_join (c : Nat) (hc : c < 6) (w : World) : Calls Tryz.prog 31 #[.string (jB c)] w (TurnRet 2 c w) := turn_of (List.all_eq_true.mp refRun c (by simpa using hc)) w
theorem ref_finish (w : World) : Calls Tryz.prog 31 #[.string fB] w (TurnRet 3 0 w) := turn_of refRunF w
theorem val_join (c : Nat) (hc : c < 6) (w : World) : Calls Tryz.prog 39 #[.agg #[.int .i64 2, .int .i64 c, .slice none 0 0]] w (TextRet (jB c) w) := text_of (List.all_eq_true.mp valRun c (by simpa using hc)) w
theorem val_finish (w : World) : Calls Tryz.prog 39 #[.agg #[.int .i64 3, .int .i64 0, .slice none 0 0]] w (TextRet fB w) := text_of valRunF w
theorem rval_join (c : Nat) (hc : c < 6) (w : World) : Calls Tryz.prog 50 #[.agg #[.int .i64 2, .int .i64 c, .slice none 0 0]] w (TextRet (jB c) w) := text_of (List.all_eq_true.mp rvalRun c (by simpa using hc)) w
theorem rval_finish (w : World) : Calls Tryz.prog 50 #[.agg #[.int .i64 3, .int .i64 0, .slice none 0 0]] w (TextRet fB w) := text_of rvalRunF w
theorem validB_any (c : Int) (p : Option Addr) (k cap : Nat) (w : World) (hk : k ≤ 1000) (hc : k ≤ cap) (hr : ReqsP w p k) : Calls Tryz.prog 38 #[.agg #[.int .i64 1, .int .i64 c, .slice p k cap]] w (IntRet w) := by
 have hb : Below w.heap.size w (w.alloc (.cells #[.int .i64 1, .int .i64 c, .slice p k cap] 61)) := (Below.refl _ _).alloc (Nat.le_refl _) _
 have HR := Lib.hid (hr.below hb)
 have HB := Lib.hid hb
 clear hr hb
 go_enter Tryz.func38, Tryz.ntmps38
 go_wp2_with (go_at_call 58; refine (valid_any p k cap _ hk hc HR.out).mono ?_; rintro e w1 ⟨r, rfl, hb1⟩)
 all_goals first
  | (go_ret; exact ⟨_, rfl, HB.out.trans (hb1.mono (by simp))⟩)
  | (go_ret; exact ⟨_, rfl, HB.out⟩)
  | (go_ret; exact ⟨_, rfl, (Below.refl _ _).alloc (Nat.le_refl _) _⟩)
theorem validJ_any (c : Int) (w : World) : Calls Tryz.prog 38 #[.agg #[.int .i64 2, .int .i64 c, .slice none 0 0]] w fun e w' => ∃ r : Int, e = .returned (.int .i64 r) ∧ (r = 0 → 0 ≤ c ∧ c < 6) ∧ Below w.heap.size w w' := by
 go_enter Tryz.func38, Tryz.ntmps38
 go_wp2
 all_goals
  go_ret
  exact ⟨_, rfl, fun h => by omega, (Below.refl _ _).alloc (Nat.le_refl _) _⟩
theorem validF_any (w : World) : Calls Tryz.prog 38 #[.agg #[.int .i64 3, .int .i64 0, .slice none 0 0]] w (IntRet w) := by
 go_enter Tryz.func38, Tryz.ntmps38
 go_wp2
 all_goals
  go_ret
  exact ⟨_, rfl, (Below.refl _ _).alloc (Nat.le_refl _) _⟩
end Go.Proofs.YtmcnpaehmnadeaaGreatDoor
