/-
  EpochNext: slices.Compact at faults, exactly.
-/
import Derived.Test.YtmcnpaehmnadeaaGreatDoorFcP
import Derived.Lib.SliceRun
set_option maxHeartbeats 6400000
set_option maxRecDepth 1000000
namespace Go.Proofs.YtmcnpaehmnadeaaGreatDoor
open Go Go.RowKit
structure CSF (w0 W : World) (g : Nat) (M : List (Nat × Nat)) : Prop where
 cx : ∀ i (h : i < M.length), W.cell? ⟨g, i * 2, none⟩ = some (.int .u16 (M[i].1 : Nat)) ∧ W.cell? ⟨g, i * 2 + 1, none⟩ = some (.int .u16 (M[i].2 : Nat))
 fr : ∀ j, W.frozen? ⟨g, j, none⟩ = false
 gr : w0.grownBy W (some g)
theorem CSF.drewN {w0 W : World} {g : Nat} {M : List (Nat × Nat)} (h : CSF w0 W g M) (q : Nat) : CSF w0 (W.drewN q) g M := ⟨h.cx, h.fr, ⟨h.gr.os, h.gr.tape, h.gr.output, h.gr.size, h.gr.block⟩⟩
theorem tape_sets (b : Nat) : ∀ (vs : List Value) (o : Nat) (w : World), (w.setCells b o vs).tape = w.tape
 | [], _, _ => rfl
 | v :: r, o, w => tape_sets b r (o + 1) (w.setCell ⟨b, o, none⟩ v)
theorem size_sets (b : Nat) : ∀ (vs : List Value) (o : Nat) (w : World), (w.setCells b o vs).heap.size = w.heap.size
 | [], _, _ => rfl
 | v :: r, o, w => (size_sets b r (o + 1) (w.setCell ⟨b, o, none⟩ v)).trans (by simp)
theorem CSF.sets {w0 W : World} {g : Nat} {M : List (Nat × Nat)} (h : CSF w0 W g M) (o : Nat) (vs : List Value) : w0.grownBy (W.setCells g o vs) (some g) :=
 ⟨(World.os_setCells W g o vs).trans h.gr.os, (tape_sets g vs o W).trans h.gr.tape, (World.output_setCells W g o vs).trans h.gr.output, by rw [show (W.setCells g o vs).heap.size = W.heap.size from size_sets g vs o W]; exact h.gr.size, fun k hk hne => by
  rw [World.heap_setCells_other W g o vs (Nat.lt_of_lt_of_le hk h.gr.size) (fun e => hne (by rw [e]))]
  exact h.gr.block k hk hne⟩
theorem CSF.put {w0 W : World} {g : Nat} {M : List (Nat × Nat)} (h : CSF w0 W g M) {k : Nat} (hk : k < M.length) (x : Nat × Nat) : CSF w0 (W.setCells g (k * 2) [.int .u16 (x.1 : Int), .int .u16 (x.2 : Int)]) g (M.set k x) := by
 refine ⟨fun i hi => ?_, fun j => by rw [World.frozen?_setCells]; exact h.fr j, h.sets _ _⟩
 have hi2 : i < M.length := by simpa using hi
 by_cases hik : i = k
 ·subst hik
  have hin := World.cell?_setCells_in g [.int .u16 (x.1 : Int), .int .u16 (x.2 : Int)] (i * 2) W (fun j hj => by
   simp at hj
   rcases j with _ | _ | j
   ·rw [Nat.add_zero, (h.cx i hi2).1]; rfl
   ·rw [(h.cx i hi2).2]; rfl
   ·omega)
  have h0 := hin 0 (by simp)
  have h1 := hin 1 (by simp)
  simp at h0 h1
  simp only [List.getElem_set_self]
  exact ⟨h0, h1⟩
 ·rw [List.getElem_set_ne (by omega)]
  have h1 := World.cell?_setCells_out g [.int .u16 (x.1 : Int), .int .u16 (x.2 : Int)] (k * 2) W ⟨g, i * 2, none⟩ (fun _ _ => by simp; omega)
  have h2 := World.cell?_setCells_out g [.int .u16 (x.1 : Int), .int .u16 (x.2 : Int)] (k * 2) W ⟨g, i * 2 + 1, none⟩ (fun _ _ => by simp; omega)
  rw [h1, h2]
  exact h.cx i hi2
def CompF (g cap : Nat) (l : List (Nat × Nat)) (w : World) (e : Ending) (w' : World) : Prop :=
 ∃ C, cmpV l l.length = C ∧ e = .returned (.slice (some ⟨g, 0, none⟩) C.length cap) ∧ FltL w' (some ⟨g, 0, none⟩) C ∧ w.grownBy w' (some g)
theorem CSF.flt {w0 W : World} {g : Nat} {M C : List (Nat × Nat)} (h : CSF w0 W g M) (hg : g < w0.heap.size) (hC : M.take C.length = C) : FltL W (some ⟨g, 0, none⟩) C := by
 refine .inr ⟨g, 0, rfl, Nat.lt_of_lt_of_le hg h.gr.size, fun i hi => ?_⟩
 have hl : C.length ≤ M.length := by
  have := congrArg List.length hC
  rw [List.length_take] at this
  omega
 have he : C[i] = M[i]'(by omega) := by
  have h1 : (M.take C.length)[i]? = some C[i] := by rw [hC]; simp
  rw [List.getElem?_take_of_lt hi, List.getElem?_eq_getElem (by omega)] at h1
  injection h1 with h1
  exact h1.symm
 rw [he, Nat.zero_add]
 exact h.cx i (by omega)
theorem CSF.cut {w0 W : World} {g : Nat} {M : List (Nat × Nat)} (h : CSF w0 W g M) (c : Nat) (vs : List Value) : CSF w0 (W.setCells g (c * 2) vs) g (M.take c) := by
 refine ⟨fun i hi => ?_, fun j => by rw [World.frozen?_setCells]; exact h.fr j, h.sets _ _⟩
 rw [List.length_take] at hi
 have h1 := World.cell?_setCells_out g vs (c * 2) W ⟨g, i * 2, none⟩ (fun _ _ => .inl (show i * 2 < c * 2 by omega))
 have h2 := World.cell?_setCells_out g vs (c * 2) W ⟨g, i * 2 + 1, none⟩ (fun _ _ => .inl (show i * 2 + 1 < c * 2 by omega))
 rw [h1, h2, List.getElem_take]
 exact h.cx i (by omega)
theorem clear_run (w : World) (g o n c : Nat) (hn : 0 < n) (hc : ∀ j, j < n * 2 → (w.cell? ⟨g, o + j, none⟩).isSome = true) (hf : ∀ j, w.frozen? ⟨g, j, none⟩ = false) :
  ∃ vs : List Value, ∀ ty, (Builtin.clear_ #[47] ty #[.slice (some ⟨g, o, none⟩) n c]).run Tryz.prog w = .ok (.tuple #[]) (w.setCells g o vs) := by
 obtain ⟨i0, hi, hz0, hz1, hz2⟩ := info_parts Tryz.info69
 have hv : ∀ w, (zeroValue 69).run Tryz.prog w = .ok (.agg #[.int .u16 0, .int .u16 0]) w := fun w => by simp [zeroValue, typeInfo, hi, hz0]
 have hzc : (Value.agg #[.int .u16 0, .int .u16 0]).cells = #[.int .u16 0, .int .u16 0] := rfl
 refine ⟨(Builtin.zeroCells #[.int .u16 0, .int .u16 0] n).toList, fun ty => ?_⟩
 have hlen : (Builtin.zeroCells #[.int .u16 0, .int .u16 0] n).toList.length = n * 2 := by simp [Builtin.zeroCells]
 have hst := run_storeCells_cells (P := Tryz.prog) g o (Builtin.zeroCells #[.int .u16 0, .int .u16 0] n).toList 0 w (by rw [hlen]; simpa using hc) (fun j _ => hf _) (by
  intro v hv'
  simp only [Builtin.zeroCells, Array.mem_toList_iff, Array.mem_map] at hv'
  obtain ⟨a, _, rfl⟩ := hv'
  have h2 : a % #[Value.int .u16 0, Value.int .u16 0].size = a % 2 := rfl
  rw [h2]
  rcases Nat.mod_two_eq_zero_or_one a with h | h <;> rw [h] <;> rfl)
 simp only [Nat.add_zero] at hst
 obtain ⟨m, rfl⟩ : ∃ m, n = m + 1 := ⟨n - 1, by omega⟩
 simp [Builtin.clear_, run_underlying Tryz.underlying47, hv, hzc, hst]
end Go.Proofs.YtmcnpaehmnadeaaGreatDoor
/-
  EpochNext: slices.Compact at faults, exactly: the walk.
-/
namespace Go.Proofs.YtmcnpaehmnadeaaGreatDoor
open Go Go.RowKit
theorem cmpV_no {l : List (Nat × Nat)} {k : Nat} (hk : k + 1 < l.length) (h : cmpV l (k + 1) = l.take (k + 1)) (hne : l[k + 1] ≠ l[k]) : cmpV l (k + 2) = l.take (k + 2) := by
 rw [cmpV, if_neg, h, take_snoc hk]
 ·simp [hk]
 ·rintro ⟨_, h2⟩
  simp [hk, show k < l.length by omega] at h2
  exact hne h2
theorem cmpV_eq {l : List (Nat × Nat)} {k : Nat} (hk : k + 1 < l.length) (he : l[k + 1] = l[k]) : cmpV l (k + 2) = cmpV l (k + 1) := by
 rw [cmpV, if_pos]
 refine ⟨by omega, ?_⟩
 simp [hk, show k < l.length by omega, he]
theorem cmpV_ne {l : List (Nat × Nat)} {k : Nat} (hk : k + 1 < l.length) (hne : l[k + 1] ≠ l[k]) : cmpV l (k + 2) = cmpV l (k + 1) ++ [l[k + 1]] := by
 rw [cmpV, if_neg]
 ·simp [hk]
 ·rintro ⟨_, h2⟩
  simp [hk, show k < l.length by omega] at h2
  exact hne h2
theorem take_set {M : List (Nat × Nat)} {c : Nat} (h : c < M.length) (x : Nat × Nat) : (M.set c x).take (c + 1) = M.take c ++ [x] := by
 have h2 : c < (M.set c x).length := by simpa using h
 rw [take_snoc h2, List.getElem_set_self, List.take_set_of_le (Nat.le_refl _)]
theorem compactF_ex (g cap : Nat) (l : List (Nat × Nat)) (m : Nat) (w : World) (hm : l.length = m) (hm4 : m ≤ 200000) (hcap : m ≤ cap) (hg : g < w.heap.size) (h : CSF w w g l) : Calls Tryz.prog 139 #[.slice (some ⟨g, 0, none⟩) m cap] w (CompF g cap l w) := by
 have H := Lib.hid h
 have HM := Lib.hid hm
 have HG := Lib.hid hg
 clear h hm
 by_cases h2 : m < 2
 ·have e1 : (m : Int) < 2 := by omega
  have hC : cmpV l l.length = l := by
   rw [HM.out]
   match l, HM.out with
   | [], _ => subst m; rfl
   | [a], h => subst h; simp [cmpV]
   | a :: b :: t, h => simp at h; omega
  have HC := Lib.hid hC
  clear hC
  go_enter Tryz.func139, Tryz.ntmps139
  go_wp2_with fail
  go_ret
  exact ⟨l, HC.out, by rw [HM.out]; rfl, H.out.flt HG.out (by simp), H.out.gr⟩
 ·have e1 : ¬ (m : Int) < 2 := by omega
  have HC1 := Lib.hid (show cmpV l 1 = l.take 1 by
   match l, HM.out with
   | [], h => simp at h; omega
   | a :: t, _ => simp [cmpV])
  go_enter Tryz.func139, Tryz.ntmps139
  go_wp2_with fail
  go_loopw [3] (fun i wr => ∃ k : Nat, k < m ∧ i = .int .i64 (k + 1 : Nat) ∧ cmpV l (k + 1) = l.take (k + 1) ∧ CSF w wr g l) (fun i _ => m - (intOf i).toNat)
  case atStart => exact ⟨0, by omega, rfl, HC1.out, H.out⟩
  case round =>
   obtain ⟨k, hk, rfl, hc, hcs⟩ := hrel
   have HC := Lib.hid hc
   have HCS := Lib.hid hcs
   clear hc hcs
   by_cases hkm : k + 1 < m
   ·have hkl : k + 1 < l.length := by have := HM.out; omega
    obtain ⟨hc0, hc1⟩ := HCS.out.cx (k + 1) hkl
    obtain ⟨hd0, hd1⟩ := HCS.out.cx k (by omega)
    have HNO := Lib.hid (fun hne => cmpV_no hkl HC.out hne)
    have HEQ := Lib.hid (fun he => cmpV_eq hkl he)
    obtain ⟨a1, b1, hg1⟩ : ∃ a b, l[k + 1] = (a, b) := ⟨_, _, rfl⟩
    obtain ⟨a2, b2, hg2⟩ : ∃ a b, l[k]'(by omega) = (a, b) := ⟨_, _, rfl⟩
    rw [hg1, hg2] at HNO HEQ
    rw [hg1] at hc0 hc1
    rw [hg2] at hd0 hd1
    simp only at hc0 hc1 hd0 hd1
    clear hg1 hg2
    have e3 : ((k + 1 : Nat) : Int) < (m : Int) := by omega
    have e4 : (0 : Int) ≤ ((k + 1 : Nat) : Int) := by omega
    have e5 : IntKind.i64.wrap (((k + 1 : Nat) : Int) - 1) = (k : Int) := by rw [show ((k + 1 : Nat) : Int) - 1 = (k : Int) by omega]; simp [IntKind.wrap, IntKind.bits, IntKind.signed]; omega
    have e6 : (0 : Int) ≤ (k : Int) := by omega
    have e7 : (k : Int) < (m : Int) := by omega
    by_cases ha : a1 = a2
    ·by_cases hb : b1 = b2
     ·subst ha
      subst hb
      have HE := Lib.hid (HEQ.out rfl)
      clear HNO HEQ
      go_upto_region 6 with fail
      go_quiet (fail)
      go_upto_region 8 with fail
      have hcs2 := HCS.out.drewN nq
      clear hc0 hc1 hd0 hd1
      revert hcs2
      generalize wr.drewN nq = wB
      intro hcs2
      have HCS2 := Lib.hid hcs2
      have HS0 := Lib.hid (show k + 1 = (cmpV l (k + 2 + 0)).length ∧ l.take (k + 1) = cmpV l (k + 2 + 0) by
       rw [Nat.add_zero, HE.out, HC.out]
       refine ⟨?_, rfl⟩
       rw [List.length_take]
       omega)
      clear hcs2
      go_wp2_with fail
      go_loopw [3, 5] (fun a i wr => ∃ (t c : Nat) (M : List (Nat × Nat)), k + 2 + t ≤ m ∧ a = .int .i64 (c : Nat) ∧ i = .int .i64 (t + 1 : Nat) ∧ c = (cmpV l (k + 2 + t)).length ∧ c ≤ k + 1 + t ∧ M.length = m ∧ M.take c = cmpV l (k + 2 + t) ∧ (∀ x, k + 1 + t ≤ x → M[x]? = l[x]?) ∧ CSF w wr g M) (fun _ i _ => m - (intOf i).toNat)
      case atStart => exact ⟨0, k + 1, l, by omega, rfl, rfl, HS0.out.1, by omega, HM.out, HS0.out.2, fun _ _ => rfl, HCS2.out⟩
      case round =>
       obtain ⟨t, c, M, ht, rfl, rfl, hcl, hc1, hMl, hMt, hMr, hcs⟩ := hrel
       have HCL := Lib.hid (And.intro hcl hMt)
       have HMR := Lib.hid hMr
       have HML := Lib.hid hMl
       have HC3 := Lib.hid hcs
       clear hcl hMl hMt hMr hcs
       have f1 : (0 : Int) ≤ ((t + 1 : Nat) : Int) := by omega
       have f2 : (0 : Int) ≤ (c : Int) := by omega
       have f3 : (c : Int) < (m : Int) := by omega
       have f4 : (c : Int) ≤ (m : Int) := by omega
       have f5 : (c : Int) ≤ (cap : Int) := by omega
       by_cases htm : k + 2 + t < m
       ·have hkl2 : k + 1 + t + 1 < l.length := by have := HM.out; omega
        obtain ⟨hc0, hc1⟩ := HC3.out.cx (k + 2 + t) (by have := HML.out; omega)
        obtain ⟨hd0, hd1⟩ := HC3.out.cx (k + 1 + t) (by have := HML.out; omega)
        have hq1 : M[k + 2 + t]'(by have := HML.out; omega) = l[k + 1 + t + 1] := by
         have h := HMR.out (k + 2 + t) (by omega)
         rw [List.getElem?_eq_getElem (by have := HML.out; omega), List.getElem?_eq_getElem (by have := HM.out; omega)] at h
         injection h with h
         rw [h]
         congr 1
         omega
        have hq2 : M[k + 1 + t]'(by have := HML.out; omega) = l[k + 1 + t] := by
         have h := HMR.out (k + 1 + t) (by omega)
         rw [List.getElem?_eq_getElem (by have := HML.out; omega), List.getElem?_eq_getElem (by have := HM.out; omega)] at h
         injection h with h
        rw [hq1] at hc0 hc1
        rw [hq2] at hd0 hd1
        have HNE := Lib.hid (fun hne => cmpV_ne hkl2 hne)
        have HEQ := Lib.hid (fun he => cmpV_eq hkl2 he)
        obtain ⟨a1, b1, hg1⟩ : ∃ a b, l[k + 1 + t + 1] = (a, b) := ⟨_, _, rfl⟩
        obtain ⟨a2, b2, hg2⟩ : ∃ a b, l[k + 1 + t] = (a, b) := ⟨_, _, rfl⟩
        rw [hg1, hg2] at HNE HEQ
        rw [hg1] at hc0 hc1
        rw [hg2] at hd0 hd1
        simp only at hc0 hc1 hd0 hd1
        rw [show (k + 2 + t) * 2 = (k + 1) * 2 + (t + 1) * 2 by omega] at hc0 hc1
        rw [show (k + 1 + t) * 2 = (k + 1) * 2 + t * 2 by omega] at hd0 hd1
        rw [show k + 1 + t + 2 = k + 2 + (t + 1) by omega, show k + 1 + t + 1 = k + 2 + t by omega] at HNE HEQ
        have HCE := Lib.hid (fun (W : World) (hW : CSF w W g M) => show W.cell? ⟨g, (k + 1) * 2 + (t + 1) * 2, none⟩ = some (.int .u16 (a1 : Int)) ∧ W.cell? ⟨g, (k + 1) * 2 + (t + 1) * 2 + 1, none⟩ = some (.int .u16 (b1 : Int)) from by
         have h := hW.cx (k + 2 + t) (by have := HML.out; omega)
         rw [hq1, hg1] at h
         rwa [show (k + 2 + t) * 2 = (k + 1) * 2 + (t + 1) * 2 by omega] at h)
        clear hq1 hq2 hg1 hg2
        have e13 : ((t + 1 : Nat) : Int) < ((m - (k + 1) : Nat) : Int) := by omega
        have e15 : IntKind.i64.wrap (((t + 1 : Nat) : Int) - 1) = (t : Int) := by rw [show ((t + 1 : Nat) : Int) - 1 = (t : Int) by omega]; simp [IntKind.wrap, IntKind.bits, IntKind.signed]; omega
        have e16 : (0 : Int) ≤ (t : Int) := by omega
        have e17 : (t : Int) < ((m - (k + 1) : Nat) : Int) := by omega
        by_cases ha : a1 = a2
        ·by_cases hb : b1 = b2
         ·subst ha
          subst hb
          have HE2 := Lib.hid (HEQ.out rfl)
          clear HNE HEQ
          go_upto_region 11 with fail
          go_quiet (fail)
          go_wp2_with fail
          go_roundw
          case rel => exact ⟨t + 1, c, M, by omega, by first | rfl | go_num, by go_num, by rw [HE2.out]; exact HCL.out.1, by omega, HML.out, by rw [HE2.out]; exact HCL.out.2, fun x hx => HMR.out x (by omega), HC3.out.drewN _⟩
          case measure => simp [intOf]; omega
         ·subst ha
          have HN2 := Lib.hid (HNE.out fun h => hb (congrArg Prod.snd h))
          have d1 : ¬ (b1 : Int) = (b2 : Int) := by omega
          clear HNE HEQ
          go_upto_region 11 with fail
          go_quiet (fail)
          have hD := HC3.out.drewN nq
          clear hc0 hc1 hd0 hd1
          revert hD
          generalize wr.drewN nq = wD
          intro hD
          obtain ⟨c0, c1⟩ := HCE.out wD hD
          have hcM : c < M.length := by have := HML.out; omega
          obtain ⟨o0, o1⟩ := hD.cx c hcM
          have r0 := hD.fr (c * 2)
          have r1 := hD.fr (c * 2 + 1)
          have HP := Lib.hid (hD.put hcM (a1, b1))
          have HPL := Lib.hid (show c + 1 = (cmpV l (k + 2 + (t + 1))).length ∧ (M.set c (a1, b1)).take (c + 1) = cmpV l (k + 2 + (t + 1)) by
           rw [HN2.out, List.length_append, ← HCL.out.1, ← HCL.out.2]
           refine ⟨rfl, ?_⟩
           exact take_set hcM (a1, b1))
          have HPR := Lib.hid (show ∀ x, k + 1 + (t + 1) ≤ x → (M.set c (a1, b1))[x]? = l[x]? from fun x hx => by
           rw [List.getElem?_set_ne (by omega)]
           exact HMR.out x (by omega))
          have HPM := Lib.hid (show (M.set c (a1, b1)).length = m by rw [List.length_set]; exact HML.out)
          clear hD
          go_wp2_with fail
          go_roundw
          case rel => exact ⟨t + 1, c + 1, M.set c (a1, b1), by omega, by first | rfl | go_num, by go_num, HPL.out.1, by omega, HPM.out, HPL.out.2, HPR.out, HP.out⟩
          case measure => simp [intOf]; omega
        ·have HN2 := Lib.hid (HNE.out fun h => ha (congrArg Prod.fst h))
         have d1 : ¬ (a1 : Int) = (a2 : Int) := by omega
         clear HNE HEQ
         go_upto_region 11 with fail
         go_quiet (fail)
         have hD := HC3.out.drewN nq
         clear hc0 hc1 hd0 hd1
         revert hD
         generalize wr.drewN nq = wD
         intro hD
         obtain ⟨c0, c1⟩ := HCE.out wD hD
         have hcM : c < M.length := by have := HML.out; omega
         obtain ⟨o0, o1⟩ := hD.cx c hcM
         have r0 := hD.fr (c * 2)
         have r1 := hD.fr (c * 2 + 1)
         have HP := Lib.hid (hD.put hcM (a1, b1))
         have HPL := Lib.hid (show c + 1 = (cmpV l (k + 2 + (t + 1))).length ∧ (M.set c (a1, b1)).take (c + 1) = cmpV l (k + 2 + (t + 1)) by
          rw [HN2.out, List.length_append, ← HCL.out.1, ← HCL.out.2]
          refine ⟨rfl, ?_⟩
          exact take_set hcM (a1, b1))
         have HPR := Lib.hid (show ∀ x, k + 1 + (t + 1) ≤ x → (M.set c (a1, b1))[x]? = l[x]? from fun x hx => by
          rw [List.getElem?_set_ne (by omega)]
          exact HMR.out x (by omega))
         have HPM := Lib.hid (show (M.set c (a1, b1)).length = m by rw [List.length_set]; exact HML.out)
         clear hD
         go_wp2_with fail
         go_roundw
         case rel => exact ⟨t + 1, c + 1, M.set c (a1, b1), by omega, by first | rfl | go_num, by go_num, HPL.out.1, by omega, HPM.out, HPL.out.2, HPR.out, HP.out⟩
         case measure => simp [intOf]; omega
       ·have hjm : k + 2 + t = m := by omega
        rw [hjm] at HCL
        have HCC := Lib.hid (show cmpV l l.length = M.take c by rw [HM.out]; exact HCL.out.2.symm)
        have hTL : (M.take c).length = c := by rw [List.length_take]; have := HML.out; omega
        have HTL := Lib.hid hTL
        have g1 : ¬ ((t + 1 : Nat) : Int) < ((m - (k + 1) : Nat) : Int) := by omega
        obtain ⟨vs, hvs⟩ := clear_run wr g (c * 2) (m - c) (cap - c) (by omega) (fun j hj => by
         obtain ⟨q0, q1⟩ := HC3.out.cx (c + j / 2) (by have := HML.out; omega)
         rcases Nat.mod_two_eq_zero_or_one j with h5 | h5
         ·rw [show c * 2 + j = (c + j / 2) * 2 by omega, q0]; rfl
         ·rw [show c * 2 + j = (c + j / 2) * 2 + 1 by omega, q1]; rfl) HC3.out.fr
        have HCUT := Lib.hid (HC3.out.cut c vs)
        clear hTL hjm
        go_wp2_with fail
        go_ret
        refine ⟨M.take c, HCC.out, by rw [HTL.out]; rfl, HCUT.out.flt HG.out List.take_length, HCUT.out.gr⟩
     ·subst ha
      have HN := Lib.hid (HNO.out fun h => hb (congrArg Prod.snd h))
      have d1 : ¬ (b1 : Int) = (b2 : Int) := by omega
      clear HNO HEQ
      go_upto_region 6 with fail
      go_quiet (fail)
      go_wp2_with fail
      go_roundw
      case rel => exact ⟨k + 1, by omega, by go_num, HN.out, HCS.out.drewN _⟩
      case measure => simp [intOf]; omega
    ·have HN := Lib.hid (HNO.out fun h => ha (congrArg Prod.fst h))
     have d1 : ¬ (a1 : Int) = (a2 : Int) := by omega
     clear HNO HEQ
     go_upto_region 6 with fail
     go_quiet (fail)
     go_wp2_with fail
     go_roundw
     case rel => exact ⟨k + 1, by omega, by go_num, HN.out, HCS.out.drewN _⟩
     case measure => simp [intOf]; omega
   ·have hkm1 : k + 1 = m := by omega
    have HCL := Lib.hid (show cmpV l l.length = l by rw [HM.out, ← hkm1, HC.out]; exact List.take_of_length_le (by have := HM.out; omega))
    go_wp2_with fail
    go_ret
    exact ⟨l, HCL.out, by rw [HM.out]; rfl, HCS.out.flt HG.out (by simp), HCS.out.gr⟩
end Go.Proofs.YtmcnpaehmnadeaaGreatDoor
/-
  EpochNext: fault.normal, exactly.
-/
namespace Go.Proofs.YtmcnpaehmnadeaaGreatDoor
open Go Go.RowKit
theorem CSF.of_own {w : World} {base g n cap : Nat} {l : List (Nat × Nat)} (h : w.ownsRow base 69 2 (.slice (some ⟨g, 0, none⟩) n cap) n (ftV (zF l))) : CSF w w g l ∧ g < w.heap.size ∧ base ≤ g ∧ n ≤ cap := by
 have hl := h.1
 rw [ftV_len, zF_len] at hl
 rcases h.2 with ⟨h0, _⟩ | ⟨g', cap', cur, h1, hb, hc, hcap, _, hsz, hx⟩
 ·cases h0
 ·injection h1 with h1 _ h2
  injection h1 with h1
  injection h1 with h1
  subst h1
  subst h2
  refine ⟨⟨fun i hi => ?_, fun j => frozenOf hc, ⟨rfl, rfl, rfl, Nat.le_refl _, fun _ _ _ => rfl⟩⟩, (gLt hc), hb, hcap⟩
  obtain ⟨h3, h4⟩ := ftV_get (L := zF l) (i := i) (x := ((l[i].1 : Int), (l[i].2 : Int))) (by simp [zF, hi])
  rw [← hx, List.getElem?_take_of_lt (by omega), Array.getElem?_toList] at h3 h4
  exact ⟨cellOf hc h3, cellOf hc h4⟩
def keepL (C : List (Nat × Nat)) (k : Nat) : List (Nat × Nat) := (C.take k).filter fun a => !barF C a
theorem keepL_yes {C : List (Nat × Nat)} {k : Nat} (h : k < C.length) (hb : barF C C[k] = false) : keepL C (k + 1) = keepL C k ++ [C[k]] := by
 unfold keepL
 rw [take_snoc h, List.filter_append]
 simp [hb]
theorem keepL_no {C : List (Nat × Nat)} {k : Nat} (h : k < C.length) (hb : barF C C[k] = true) : keepL C (k + 1) = keepL C k := by
 unfold keepL
 rw [take_snoc h, List.filter_append]
 simp [hb]
theorem keepL_len (C : List (Nat × Nat)) (k : Nat) : (keepL C k).length ≤ k := by
 have h1 := List.length_filter_le (fun a => !barF C a) (C.take k)
 rw [List.length_take] at h1
 unfold keepL
 omega
theorem keepL_all {C L : List (Nat × Nat)} (ha : AscF C) (hm : ∀ y, y ∈ C ↔ y ∈ L) : keepL C C.length = norR L L.length := by
 have h1 : keepL C C.length = norI C := by unfold keepL; rw [List.take_length]; rfl
 rw [h1]
 exact ((norI_max ha).same hm).only (norR_max L)
def NR (L : List (Nat × Nat)) (w : World) (e : Ending) (w' : World) : Prop := MR (if 100 < (norR L L.length).length then 3 else 0) (if 100 < (norR L L.length).length then [] else norR L L.length) w e w'
theorem normal_ex (p : Option Addr) (n cap : Nat) (L : List (Nat × Nat)) (w : World) (hp : PlainP p) (hn0 : 0 < n) (hn : n ≤ 10000) (hm : L.length = n) (h4 : ∀ x ∈ L, x.1 < 4096 ∧ x.2 < 4096) (hF : FltL w p L) : Calls Tryz.prog 99 #[.slice p n cap] w (NR L w) := by
 obtain ⟨i0, hi, hz0, hz1, hz2⟩ := info_parts Tryz.info69
 have HC := Lib.hid (cloneF_own p n cap L w hp hm (by omega) hF)
 have HS := Lib.hid (fun (base g cap : Nat) (W : World) hown => sortFault_ex base g cap L W h4 (by omega) hown)
 rw [hm] at HS
 have HM := Lib.hid hm
 clear hF hm h4
 go_enter Tryz.func99, Tryz.ntmps99
 go_upto_region 2 with (go_at_call 27; (with_reducible refine HC.out.mono ?_); rintro e w1 ⟨v1, rfl, hown1, hb1⟩)
 rw [HM.out] at hown1
 have HB1 := Lib.hid hb1
 have hsz1 := hb1.size
 clear hb1
 obtain ⟨g, c1, rfl, HO⟩ : ∃ g c1, v1 = .slice (some ⟨g, 0, none⟩) n c1 ∧ Hid (w1.ownsRow w.heap.size 69 2 (.slice (some ⟨g, 0, none⟩) n c1) n (ftV (zF L))) := by
  rcases hown1.2 with ⟨_, h0⟩ | ⟨g, c1, cur, rfl, _⟩
  ·omega
  ·exact ⟨g, c1, rfl, Lib.hid hown1⟩
 clear hown1
 have HQ := Lib.hid (HS.out w.heap.size g c1 w1 HO.out)
 go_upto_region 3 with (go_at_call 138; (refine HQ.out.mono ?_); rintro e w2 ⟨rfl, l', hl1, hl2, hl3, hown2, hgr2⟩)
 rw [HM.out] at hl1 hown2
 obtain ⟨hcs2, hg2, hgb, hc1⟩ := CSF.of_own hown2
 have hb2 : Below w.heap.size w w2 := HB1.out.grown hgr2 hsz1 (fun k hk => by injection hk with hk; omega)
 have HK := Lib.hid (compactF_ex g c1 l' n w2 hl1 (by omega) hc1 hg2 hcs2)
 have HB2 := Lib.hid hb2
 have HL2 := Lib.hid (And.intro hl2 hl3)
 clear hcs2 hown2 hgr2 hl2 hl3 hb2 HQ HO
 go_upto_region 4 with (go_at_call 139; (refine HK.out.mono ?_); rintro e w3 ⟨C, hC, rfl, hfl, hgr3⟩)
 obtain ⟨hasc, hmem⟩ := cmpV_of (HL2.out.2.imp fun h => by omega) hC.symm
 have HKA := Lib.hid (keepL_all (L := L) hasc fun y => (hmem y).trans (HL2.out.1 y))
 have hCl : C.length ≤ n := by rw [← hC, ← hl1]; exact cmpV_len _ _
 have hb3 : Below w.heap.size w w3 := HB2.out.grown hgr3 HB2.out.size (fun k hk => by injection hk with hk; omega)
 have HB3 := Lib.hid hb3
 have HFL := Lib.hid hfl
 obtain ⟨m, hmm⟩ : ∃ m, C.length = m := ⟨_, rfl⟩
 rw [hmm] at hCl ⊢
 have HCM := Lib.hid hmm
 clear hasc hmem hb3 hfl hgr3 hC hmm HK HL2 HB2 HB1
 go_wp2_with fail
 go_loopw [4, 15] (fun v i wr => ∃ (k : Nat) (R : List (Nat × Nat)), k ≤ m ∧ i = .int .i64 k ∧ keepL C k = R ∧ wr.ownsRow w3.heap.size 69 2 v R.length (ftV (zF R)) ∧ Below w3.heap.size w3 wr) (fun _ i _ => m - (intOf i).toNat)
 case atStart => exact ⟨0, [], Nat.zero_le _, rfl, rfl, World.ownsRow_nil _ _ _ _, Below.refl _ _⟩
 case round =>
  obtain ⟨k, R, hk, rfl, hR, hown, hb⟩ := hrel
  have HR := Lib.hid hR
  have HW := Lib.hid hown
  have HB := Lib.hid hb
  have hRl : R.length ≤ k := by rw [← hR]; exact keepL_len C k
  clear hR hown hb
  by_cases hkm : k < m
  ·have hkl : k < C.length := by have := HCM.out; omega
   obtain ⟨b, off, hpe, hbb, hx, hy⟩ := HFL.out.at hkl
   obtain ⟨rfl, rfl⟩ : g = b ∧ 0 = off := by
    injection hpe with hpe
    injection hpe with h1 h2
    exact ⟨h1, h2⟩
   have HYES := Lib.hid (fun h => keepL_yes hkl h)
   have HNO := Lib.hid (fun h => keepL_no hkl h)
   obtain ⟨x, y, hg1⟩ : ∃ x y, C[k] = (x, y) := ⟨_, _, rfl⟩
   rw [hg1] at hx hy HYES HNO
   simp only [Nat.zero_add] at hx hy
   have hx1 := (HB.out.cell (p := ⟨g, k * 2, none⟩) hbb).trans hx
   have hy1 := (HB.out.cell (p := ⟨g, k * 2 + 1, none⟩) hbb).trans hy
   clear hg1 hpe hx hy
   have e1 : (k : Int) < (m : Int) := by omega
   have e2 : (0 : Int) ≤ (k : Int) := by omega
   generalize hgv : u4 = v4 at HW ⊢
   clear hgv
   go_upto_region 8 with fail
   have HFV := Lib.hid (show FV w3 wr.heap.size x y (wr.alloc (.cells #[.int .u16 (x : Int), .int .u16 (y : Int)] 69)) from ⟨heap_alloc_new wr _, HB.out.trans ((Below.refl _ _).alloc HB.out.size _)⟩)
   have HW' := Lib.hid (HW.out.alloc (.cells #[.int .u16 (x : Int), .int .u16 (y : Int)] 69))
   clear hx1 hy1 HW HB
   revert HFV HW'
   generalize wr.alloc (.cells #[.int .u16 (x : Int), .int .u16 (y : Int)] 69) = W2
   generalize wr.heap.size = A2
   intro HFV HW'
   have HBR := Lib.hid (barFn_ex (some ⟨g, 0, none⟩) m c1 C x y A2 W2 HCM.out (by omega) (HFL.out.below HFV.out.bl) (gLt HFV.out.ra) (cellOf HFV.out.ra rfl) (cellOf HFV.out.ra rfl))
   cases hbar : barF C (x, y)
   ·rw [hbar] at HBR
    have HN := Lib.hid (HYES.out hbar)
    clear hbar HYES HNO
    go_upto_region 9 with (go_at_call 140; (refine HBR.out.mono ?_); rintro e w4 ⟨rfl, hb4⟩)
    have HF4 := Lib.hid (HFV.out.below hb4)
    have HW4 := Lib.hid (own_below HW'.out hb4)
    have f0 := cellOf HF4.out.ra (j := 0) rfl
    have f1 := cellOf HF4.out.ra (j := 1) rfl
    have hsz4 := HF4.out.bl.size
    clear hb4
    go_wp2_with (at_builtin; refine wpList_append_own _ rfl _ _ 47 rfl w3.heap.size 69 i0 (.agg #[.int .u16 0, .int .u16 0]) 2 4 Tryz.underlying47 hi hz0 hz1 hz2 rfl (by decide) _ _ _ rfl (HW4.out.alloc _) ⟨w4.heap.size, 0, none⟩ 1 1 [.int .u16 (x : Int), .int .u16 (y : Int)] rfl rfl ?n1 ?n2 ?n3 ?n4 ?n5 ?_)
    try (case n1 => (intro j u hj; rcases j with _ | _ | j <;> simp at hj <;> (subst hj; simp [Addr.add])))
    try (case n2 => (first | exact ⟨rfl, rfl⟩ | (intro u hu; simp at hu; rcases hu with rfl | rfl <;> rfl)))
    try (case n3 => (unfold maxLen; omega))
    try (case n4 => omega)
    try (case n5 => (first | omega | (simp; omega)))
    intro v5 w5 hown5 hgrow _
    have hb5 : Below w3.heap.size w3 w5 := below_grown HF4.out.bl hsz4 HW4.out hgrow
    have HW5 := Lib.hid (show w5.ownsRow w3.heap.size 69 2 v5 (R ++ [(x, y)]).length (ftV (zF (R ++ [(x, y)]))) by
     rw [zF_app, ftV_app, List.length_append]
     exact hown5)
    have HB5 := Lib.hid hb5
    clear hown5 hgrow hb5 f0 f1
    go_wp2_with fail
    go_roundw
    case rel => exact ⟨k + 1, R ++ [(x, y)], by omega, by go_num, by rw [HN.out, HR.out], HW5.out, HB5.out⟩
    case measure => simp [intOf]; omega
   ·rw [hbar] at HBR
    have HN := Lib.hid (HNO.out hbar)
    clear hbar HYES HNO
    go_wp2_with (go_at_call 140; (refine HBR.out.mono ?_); rintro e w4 ⟨rfl, hb4⟩; have HF4 := Lib.hid (HFV.out.below hb4); have HW4 := Lib.hid (own_below HW'.out hb4))
    go_roundw
    case rel => exact ⟨k + 1, R, by omega, by go_num, by rw [HN.out, HR.out], HW4.out, HF4.out.bl⟩
    case measure => simp [intOf]; omega
  ·obtain rfl : k = m := by omega
   have HRR := Lib.hid (show norR L L.length = R by rw [← HKA.out, HCM.out]; exact HR.out)
   obtain ⟨p5, c5, hv5, hs5, hc5, _⟩ := fltL_of_own HW.out
   have HFR := Lib.hid (show FreshP w.heap.size p5 by have h := HW.out; rw [hv5] at h; exact (fresh_of_own h).mono HB3.out.size)
   subst hv5
   obtain ⟨r, hr⟩ : ∃ r, R.length = r := ⟨_, rfl⟩
   rw [hr] at hc5
   have HRL := Lib.hid hr
   have HS5 := Lib.hid hs5
   have HBE := Lib.hid (HB3.out.trans (HB.out.mono HB3.out.size))
   clear hs5 HW
   simp only [hr]
   clear hr
   by_cases h100 : 100 < r
   ·have e9 : (100 : Int) < (r : Int) := by omega
    have H1 := Lib.hid h100
    clear h100
    go_wp2_with fail
    go_ret2
    refine (show NR L w _ _ from ?_)
    unfold NR
    rw [HRR.out, HRL.out, if_pos H1.out, if_pos H1.out]
    exact ⟨none, 0, 0, rfl, rfl, Nat.le_refl _, .inl rfl, fresh_none _, HBE.out⟩
   ·have e9 : ¬ (100 : Int) < (r : Int) := by omega
    have H1 := Lib.hid h100
    clear h100
    go_wp2_with fail
    go_ret2
    refine (show NR L w _ _ from ?_)
    unfold NR
    rw [HRR.out, HRL.out, if_neg H1.out, if_neg H1.out]
    exact ⟨p5, r, c5, rfl, HRL.out.symm, hc5, HS5.out, HFR.out, HBE.out⟩
end Go.Proofs.YtmcnpaehmnadeaaGreatDoor
/-
  EpochNext: fault.Normalize, exactly; so joint.Faults.
-/
namespace Go.Proofs.YtmcnpaehmnadeaaGreatDoor
open Go Go.RowKit
theorem normOk : NormOk := by
 intro p n cap L w hpl hn hcap hm hr hp
 have HP := Lib.hid hp
 have HM := Lib.hid hm
 have HR := Lib.hid hr
 have HPL := Lib.hid hpl
 clear hp hr hpl
 by_cases h0 : n = 0
 ·have HE := Lib.hid (show nzE L = 9 by unfold nzE; rw [if_pos (by omega)])
  have HL := Lib.hid (show nzL L = [] by unfold nzL; rw [if_pos (by omega)])
  clear hm
  subst h0
  go_enter Tryz.func66, Tryz.ntmps66
  go_wp2_with fail
  go_ret2
  refine (show MR (nzE L) (nzL L) w _ _ from ?_)
  rw [HE.out, HL.out]
  exact ⟨none, 0, 0, rfl, rfl, Nat.le_refl _, .inl rfl, fresh_none _, Below.refl _ _⟩
 ·have e0 : ¬ (n : Int) = 0 := by omega
  have e00 : ((n : Int) == 0) = false := by simp; omega
  have HE := Lib.hid (show nzE L = if chkV L n ≠ 0 then chkV L n else if 100 < (norR L L.length).length then 3 else 0 by unfold nzE; rw [if_neg (by omega), hm])
  have HL := Lib.hid (show nzL L = if chkV L n ≠ 0 then [] else if 100 < (norR L L.length).length then [] else norR L L.length by unfold nzL; rw [if_neg (by omega), hm])
  clear hm
  go_enter Tryz.func66, Tryz.ntmps66
  go_wp2_with fail
  go_loopw [12] (fun i wr => ∃ k : Nat, k ≤ n ∧ i = .int .i64 k ∧ chkV L k = 0 ∧ Below w.heap.size w wr) (fun i _ => n - (intOf i).toNat)
  case atStart => exact ⟨0, Nat.zero_le _, rfl, rfl, Below.refl _ _⟩
  case round =>
   obtain ⟨k, hk, rfl, hz, hb⟩ := hrel
   have HZ := Lib.hid hz
   have HB := Lib.hid hb
   clear hz hb
   by_cases hkn : k < n
   ·have hkl : k < L.length := by have := HM.out; omega
    obtain ⟨b, off, rfl, hbb, hx, hy⟩ := HP.out.at hkl
    obtain ⟨a1, b1, hg1⟩ : ∃ a1 b1, L[k] = (a1, b1) := ⟨_, _, rfl⟩
    have HC1 := Lib.hid (show chkV L (k + 1) = chkE a1 b1 by rw [chkV, HZ.out, if_neg (by simp), show L.getD k (0, 0) = (a1, b1) by simp [hkl, hg1]])
    have HS := Lib.hid (fun W => check_ex a1 b1 W)
    rw [hg1] at hx hy
    have hcx := (HB.out.cell (p := ⟨b, off + k * 2, none⟩) hbb).trans hx
    have hcy := (HB.out.cell (p := ⟨b, off + k * 2 + 1, none⟩) hbb).trans hy
    simp only at hcx hcy
    clear hx hy hg1
    have e1 : (0 : Int) ≤ (k : Int) := by omega
    have e2 : (k : Int) < (n : Int) := by omega
    generalize chkE a1 b1 = E at HC1 HS
    go_upto_region 6 with fail
    have HFV := Lib.hid (show FV w wr.heap.size a1 b1 (wr.alloc (.cells #[.int .u16 (a1 : Int), .int .u16 (b1 : Int)] 69)) from ⟨heap_alloc_new wr _, HB.out.trans ((Below.refl _ _).alloc HB.out.size _)⟩)
    clear hcx hcy HB
    revert HFV
    generalize wr.alloc (.cells #[.int .u16 (a1 : Int), .int .u16 (b1 : Int)] 69) = W2
    generalize wr.heap.size = A2
    intro HFV
    have f0 := cellOf HFV.out.ra (j := 0) rfl
    have f1 := cellOf HFV.out.ra (j := 1) rfl
    by_cases hE : E = 0
    ·subst hE
     go_wp2_with (go_at_call 98; (with_reducible refine (HS.out _).mono ?_); rintro e w1 ⟨rfl, hb1⟩; have HB1 := Lib.hid (HFV.out.bl.trans (hb1.mono HFV.out.bl.size)); clear hb1)
     go_roundw
     case rel => exact ⟨k + 1, by omega, by go_num, HC1.out, HB1.out⟩
     case measure => simp [intOf]; omega
    ·have e3 : ¬ (E : Int) = 0 := by omega
     have HEE := Lib.hid (show chkV L n = E from chkV_mono HC1.out hE (by omega))
     have HE0 := Lib.hid hE
     clear hE
     go_wp2_with (go_at_call 98; (with_reducible refine (HS.out _).mono ?_); rintro e w1 ⟨rfl, hb1⟩; have HB1 := Lib.hid (HFV.out.bl.trans (hb1.mono HFV.out.bl.size)); clear hb1)
     go_ret2
     refine (show MR (nzE L) (nzL L) w _ _ from ?_)
     rw [HE.out, HL.out, HEE.out, if_pos HE0.out, if_pos HE0.out]
     exact ⟨none, 0, 0, rfl, rfl, Nat.le_refl _, .inl rfl, fresh_none _, HB1.out⟩
   ·obtain rfl : k = n := by omega
    have H4 : ∀ x ∈ L, x.1 < 4096 ∧ x.2 < 4096 := fun x hx => by
     obtain ⟨i, hi, rfl⟩ := List.getElem_of_mem hx
     have h1 := chkV_zero HZ.out i (by have := HM.out; omega)
     have h2 := HR.out _ hx
     simp [hi] at h1
     exact chk_zero h1 h2.1 h2.2
    have HN := Lib.hid (normal_ex p k cap L wr HPL.out (by omega) hn HM.out H4 (HP.out.below HB.out))
    have HE1 := Lib.hid (show nzE L = if 100 < (norR L L.length).length then 3 else 0 by rw [HE.out, HZ.out]; rfl)
    have HL1 := Lib.hid (show nzL L = if 100 < (norR L L.length).length then [] else norR L L.length by rw [HL.out, HZ.out]; rfl)
    unfold NR at HN
    rw [← HE1.out, ← HL1.out] at HN
    clear HE HL HE1 HL1
    obtain ⟨E, hE⟩ : ∃ E, nzE L = E := ⟨_, rfl⟩
    obtain ⟨Z, hZ⟩ : ∃ Z, nzL L = Z := ⟨_, rfl⟩
    rw [hE, hZ] at HN
    have HEQ := Lib.hid (And.intro hE hZ)
    clear hE hZ H4
    go_wp2_with (go_at_call 99; (refine HN.out.mono ?_); rintro e w2 ⟨p2, n2, c2, rfl, hn2, hc2, hs2, hf2, hb2⟩; have HP2 := Lib.hid (And.intro hn2 (And.intro hc2 (And.intro hs2 (And.intro (hf2.mono HB.out.size) (HB.out.trans (hb2.mono HB.out.size)))))); clear hn2 hc2 hs2 hf2 hb2)
    go_ret2
    refine (show MR (nzE L) (nzL L) w _ _ from ?_)
    rw [HEQ.out.1, HEQ.out.2]
    exact ⟨p2, n2, c2, rfl, HP2.out⟩
end Go.Proofs.YtmcnpaehmnadeaaGreatDoor
