/-
  LeaseTake: the reference's Take at a grant of the view that the leader knows.
-/
import Derived.Test.YtoigjpkdcadlnaaGreatDoorLzC
namespace Go.Proofs.YtoigjpkdcadlnaaGreatDoor
open Go Go.RowKit

theorem insG_len (s u : Int) : ∀ A : List (Int × Int), (insG s u A).length ≤ A.length + 1 ∧ 0 < (insG s u A).length
  | [] => ⟨Nat.le_refl _, Nat.zero_lt_one⟩
  | a :: A => by
    have := insG_len s u A
    rw [insG]
    split
    · exact ⟨Nat.succ_le_succ this.1, Nat.succ_pos _⟩
    · split
      · exact ⟨Nat.le_succ _, Nat.succ_pos _⟩
      · exact ⟨Nat.le_refl _, Nat.succ_pos _⟩
theorem outA_len (s u : Int) (A : List (Int × Int)) : (outA s u A).length ≤ A.length + 1 := by
  unfold outA
  split
  · exact (insG_len s u A).1
  · exact Nat.le_succ _
theorem row_set1 {W : World} {b : Nat} {a0 a1 : Value} {t : TypeId} (h : W.heap[b]? = some (.cells #[a0, a1] t (0, 0))) (v1 : Value) : (W.setCell ⟨b, 1, none⟩ v1).heap[b]? = some (.cells #[a0, v1] t (0, 0)) := by
  unfold World.setCell
  simp [Array.getElem?_modify, h]

set_option maxHeartbeats 6400000 in
set_option maxRecDepth 1000000 in
theorem takeRef_eq (m : Msg) (hv : Int) (p : Option Addr) (n cap : Nat) (L : List (Int × Int)) (w : World) (hm : m.Ok w) (hg : GrP w p n cap L) (hh : HOk hv L) (hacc : Acc m hv) (hve : m.view = hv) :
    Calls Tryz.prog 10 #[.agg #[.int .i64 hv, .slice p n cap], .agg #[.int .i64 m.kind, .int .i64 m.frm, .int .i64 m.dst, .int .i64 m.view, .int .i64 m.slot, .string m.value, .int .i64 m.untl, .int .i64 m.g0, .int .i64 m.g1, .int .i64 m.g2, .int .i64 m.g3, .string m.gd, .string m.gs, .slice m.stP m.stN m.stC, .slice m.enP m.enN m.enC, .int .i64 m.sl, .string m.rt, .slice m.ckP m.ckN m.ckC, .slice m.pfP m.pfN m.pfC, .slice m.hnP m.hnN m.hnC, .slice m.txP m.txN m.txC]] w (NewRet m.view (insG m.frm m.untl L) w) := by
  have hn : n ≤ 12 := by have := asc_len12 hh.2.2.2.1 hh.2.2.2.2; have := hg.1; omega
  have hnL : n = L.length := hg.1
  have HGP := Lib.hid hg
  have HAsc := Lib.hid hh.2.2.2.1
  have HNL := Lib.hid hnL
  have HVE := Lib.hid hve
  clear hg hh hnL hve
  have hT := TB.first m hv p n cap w
  have HT := Lib.hid hT
  have HM := Lib.hid (hm.below hT.bl)
  obtain ⟨hk, hok, hv1, hv2⟩ := hacc
  have HK := Lib.hid hk
  have HOK := Lib.hid hok
  have hf0 := hok.1
  have hf1 := hok.2.1
  have hu0 := hok.2.2.2.2.2.2.1
  have hu1 := hm.untlH.2
  obtain ⟨i0, hi, hz0, hz1, hz2⟩ := info_parts Tryz.info41b
  clear hm hT hk hok
  go_enter Tryz.func10, Tryz.ntmps10
  go_upto_region 1 with fail
  revert HT HM
  generalize ((w.alloc (.cells #[.int .i64 hv, .slice p n cap] 26)).alloc (.cells #[.int .i64 m.kind, .int .i64 m.frm, .int .i64 m.dst, .int .i64 m.view, .int .i64 m.slot, .string m.value, .int .i64 m.untl, .int .i64 m.g0, .int .i64 m.g1, .int .i64 m.g2, .int .i64 m.g3, .string m.gd, .string m.gs, .slice m.stP m.stN m.stC, .slice m.enP m.enN m.enC, .int .i64 m.sl, .string m.rt, .slice m.ckP m.ckN m.ckC, .slice m.pfP m.pfN m.pfC, .slice m.hnP m.hnN m.hnC, .slice m.txP m.txN m.txC] 37)).alloc (.cells #[.int .i64 0, .slice none 0 0] 26) = W3
  intro HT HM
  go_step
  refine wpList_load_row rfl 37 (.tmp 3) rfl (w.heap.size + 1) rfl 37 #[.int .i64 m.kind, .int .i64 m.frm, .int .i64 m.dst, .int .i64 m.view, .int .i64 m.slot, .string m.value, .int .i64 m.untl, .int .i64 m.g0, .int .i64 m.g1, .int .i64 m.g2, .int .i64 m.g3, .string m.gd, .string m.gs, .slice m.stP m.stN m.stC, .slice m.enP m.enN m.enC, .int .i64 m.sl, .string m.rt, .slice m.ckP m.ckN m.ckC, .slice m.pfP m.pfN m.pfC, .slice m.hnP m.hnN m.hnC, .slice m.txP m.txN m.txC] (0, 0) _ HT.out.b1 Tryz.underlying37 rfl Tryz.size37 ?_
  generalize hMV : Value.agg #[.int .i64 m.kind, .int .i64 m.frm, .int .i64 m.dst, .int .i64 m.view, .int .i64 m.slot, .string m.value, .int .i64 m.untl, .int .i64 m.g0, .int .i64 m.g1, .int .i64 m.g2, .int .i64 m.g3, .string m.gd, .string m.gs, .slice m.stP m.stN m.stC, .slice m.enP m.enN m.enC, .int .i64 m.sl, .string m.rt, .slice m.ckP m.ckN m.ckC, .slice m.pfP m.pfN m.pfC, .slice m.hnP m.hnN m.hnC, .slice m.txP m.txN m.txC] = MV
  have HMV := Lib.hid hMV
  clear hMV
  go_wp2_with fail
  go_at_call 27
  obtain rfl := HMV.out
  refine (validRef_grant m W3 HM.out HK.out).mono ?_
  rintro e w2 ⟨k, rfl, hk, hb2⟩
  obtain rfl : k = 0 := hk.mpr HOK.out
  have hT2 := HT.out.below hb2
  have HT2 := Lib.hid hT2
  have m0 : w2.cell? ⟨w.heap.size + 1, 0, none⟩ = some (.int .i64 9) := by rw [← HK.out]; exact cellOf hT2.b1 (j := 0) rfl
  have m3 : w2.cell? ⟨w.heap.size + 1, 3, none⟩ = some (.int .i64 m.view) := cellOf hT2.b1 (j := 3) rfl
  have c0 : w2.cell? ⟨w.heap.size, 0, none⟩ = some (.int .i64 hv) := cellOf hT2.b0 (j := 0) rfl
  have lt2 := hT2.lt
  clear hT2 hk HT HM hb2
  go_upto_region 4 with fail
  have hRO : RO m hv p n cap w w2.heap.size (.slice none 0 0) [] (w2.alloc (.cells #[.int .i64 m.view, .slice none 0 0] 26)) := ⟨HT2.out.below ((Below.refl _ _).alloc (Nat.le_refl _) _), heap_alloc_new w2 _, World.ownsRow_nil _ _ _ _, lt2⟩
  have HRO := Lib.hid hRO
  clear hRO m0 m3 c0
  generalize w2.alloc (.cells #[.int .i64 m.view, .slice none 0 0] 26) = W4 at HRO ⊢
  generalize w2.heap.size = S at HRO lt2 ⊢
  have d1 : (m.view == hv) = true := by simpa using HVE.out
  have d2 : decide (m.view = hv) = true := by simpa using HVE.out
  go_wp2_with fail
  go_loopw [6, 7] (fun d i wr => ∃ (k : Nat) (v : Value), k ≤ n ∧ i = .int .i64 k ∧ d = .bool (DoneB m.frm (L.take k)) ∧ RO m hv p n cap w S v (outA m.frm m.untl (L.take k)) wr) (fun _ i _ => n - (intOf i).toNat)
  case atStart => exact ⟨0, _, Nat.zero_le _, rfl, rfl, HRO.out⟩
  case round =>
    obtain ⟨k, v, hk, rfl, hd0, hR⟩ := hrel
    have HRe := Lib.hid hR
    have c0 : wr.cell? ⟨w.heap.size, 0, none⟩ = some (.int .i64 hv) := cellOf hR.tb.b0 (j := 0) rfl
    have n3 : wr.cell? ⟨w.heap.size + 1, 3, none⟩ = some (.int .i64 m.view) := cellOf hR.tb.b1 (j := 3) rfl
    have ge := hR.ge
    by_cases hkn : k < n
    · obtain ⟨x, hx⟩ : ∃ x, L[k]? = some x := ⟨_, List.getElem?_eq_getElem (by have := HNL.out; omega)⟩
      obtain ⟨b, off, hp, hb, hgr⟩ : ∃ b off, p = some ⟨b, off, none⟩ ∧ b < w.heap.size ∧ GrAt wr b off L := by
        obtain ⟨_, ⟨h0, _⟩ | ⟨_, b, off, hb, hl, h4⟩⟩ := HGP.out
        · rw [h0] at hx; simp at hx
        · exact ⟨b, off, hb, hl, h4.below hR.tb.bl hl⟩
      have c1 : wr.cell? ⟨w.heap.size, 1, none⟩ = some (.slice (some ⟨b, off, none⟩) n cap) := by rw [← hp]; exact cellOf hR.tb.b0 (j := 1) rfl
      have x1 := hgr.c1 hx
      have x2 := hgr.c2 hx
      have HXK := Lib.hid hx
      have hSX : S < wr.heap.size := hR.lt
      have hLN : (outA m.frm m.untl (L.take k)).length ≤ 13 := by
        have h1 := outA_len m.frm m.untl (L.take k)
        have h2 : (L.take k).length ≤ k := by rw [List.length_take]; omega
        omega
      have HLN := Lib.hid hLN
      have HMX : Hid ((outA m.frm m.untl (L.take k)).length ≤ 14) := Lib.hid (by omega)
      clear hR hgr hx hLN hp
      go_upto_region 9 with fail
      have hR1 := HRe.out.alloc (.cells #[.int .i64 x.1, .int .i64 x.2] 41)
      have hX := heap_alloc_new wr (.cells #[.int .i64 x.1, .int .i64 x.2] 41)
      have hNO := HRe.out.notOwn
      have lt1 : wr.heap.size < (wr.alloc (.cells #[.int .i64 x.1, .int .i64 x.2] 41)).heap.size := by rw [World.size_alloc]; omega
      clear c0 c1 n3 x1 x2
      revert hR1 hX lt1
      generalize wr.alloc (.cells #[.int .i64 x.1, .int .i64 x.2] 41) = w1
      generalize wr.heap.size = X at hSX hNO ⊢
      intro hR1 hX lt1
      have HR1 := Lib.hid hR1
      have HX := Lib.hid hX
      have HNO := Lib.hid hNO
      have q1 : w1.cell? ⟨w.heap.size + 1, 1, none⟩ = some (.int .i64 m.frm) := cellOf hR1.tb.b1 (j := 1) rfl
      have q6 : w1.cell? ⟨w.heap.size + 1, 6, none⟩ = some (.int .i64 m.untl) := cellOf hR1.tb.b1 (j := 6) rfl
      have y0 := cellOf hX (j := 0) rfl
      have y1 := cellOf hX (j := 1) rfl
      have fz := frozenOf hX (j := 1)
      clear hR1 hX hNO
      rcases Int.lt_trichotomy x.1 m.frm with hlt | heq | hgt
      · have hnlt : ¬ m.frm < x.1 := by omega
        have hneq : ¬ x.1 = m.frm := by omega
        have hd : DoneB m.frm (L.take k) = false := done_none HAsc.out HXK.out (by omega)
        rw [hd] at hd0
        subst hd0
        have heq2 : DoneB m.frm (L.take (k + 1)) = false ∧ outA m.frm m.untl (L.take (k + 1)) = (outA m.frm m.untl (L.take k)) ++ [(x.1, x.2)] := by rw [take_snoc HXK.out]; exact outA_A hd hlt
        have HEQ := Lib.hid heq2
        clear heq2 hd
        go_upto_region 16 with fail
        have hX2 := HX.out
        have hR2 := HR1.out
        clear q1 q6 y0 y1 fz
        generalize w1 = w2 at hX2 hR2 lt1 ⊢
        have HX2 := Lib.hid hX2
        have HR2 := Lib.hid hR2
        have y0 := cellOf hX2 (j := 0) rfl
        have y1 := cellOf hX2 (j := 1) rfl
        have o1 := cellOf hR2.out (j := 1) rfl
        have lt2 := hR2.lt
        clear hX2 hR2
        go_wp2_with (at_builtin; refine wpList_append_own _ rfl _ _ 24 rfl (S + 1) 41 i0 (.agg #[.int .i64 0, .int .i64 0]) 2 16 Tryz.underlying24 hi hz0 hz1 hz2 rfl (by decide) _ _ _ rfl (HR2.out.own.alloc _) ⟨w2.heap.size, 0, none⟩ 1 1 [.int .i64 x.1, .int .i64 x.2] rfl rfl (src2 (heap_alloc_new w2 _)) (one2 _ _) (by have := HMX.out; unfold maxLen; omega) (by have := HMX.out; omega) (by have := HR2.out.lt; have := World.size_alloc w2 (.cells #[.int .i64 x.1, .int .i64 x.2] 41); omega) ?_; intro v' w6 ho' hg' _ ; obtain ⟨pz, nz, cz, hvz⟩ := own_slice ho'; subst hvz; have HAo := Lib.hid ho'; have HAg := Lib.hid hg'; have hbA : Below (S + 1) w2 w6 := below_grown (Below.refl _ _) HR2.out.lt HR2.out.own hg'; have hoA := (hbA.block S (by omega)).trans HR2.out.out; have s1 := cellOf hoA (j := 1) rfl; have sf := frozenOf hoA (j := 1); clear ho' hg' hbA hoA)
        all_goals
          have hRf := HR2.out.app HAo.out HAg.out
          go_roundw
          case rel => exact ⟨k + 1, .slice pz nz cz, by omega, by go_num, by rw [HEQ.out.1], by rw [HEQ.out.2]; exact hRf⟩
          case measure => simp [intOf]; omega
      · have hnlt : ¬ m.frm < x.1 := by omega
        have hd : DoneB m.frm (L.take k) = false := done_none HAsc.out HXK.out (by omega)
        rw [hd] at hd0
        subst hd0
        have heq2 : DoneB m.frm (L.take (k + 1)) = true ∧ outA m.frm m.untl (L.take (k + 1)) = (outA m.frm m.untl (L.take k)) ++ [(x.1, max x.2 m.untl)] := by rw [take_snoc HXK.out]; exact outA_B hd heq
        have HEQ := Lib.hid heq2
        clear heq2 hd
        have d3 : (x.1 == m.frm) = true := by simpa using heq
        have d4 : decide (x.1 = m.frm) = true := by simpa using heq
        clear heq
        by_cases hz : x.2 < m.untl
        · have hmx : max x.2 m.untl = m.untl := by omega
          rw [hmx] at HEQ
          clear hmx
          go_upto_region 16 with fail
          have hX2 : (w1.setCell ⟨X, 1, none⟩ (.int .i64 m.untl)).heap[X]? = some (.cells #[.int .i64 x.1, .int .i64 m.untl] 41 (0, 0)) := row_set1 HX.out _
          have hR2 := HR1.out.setX (b := X) (j := 1) hSX HNO.out (.int .i64 m.untl)
          have lt1 : X < (w1.setCell ⟨X, 1, none⟩ (.int .i64 m.untl)).heap.size := (Array.getElem?_eq_some_iff.mp hX2).1
          clear q1 q6 y0 y1 fz
          revert hX2 hR2 lt1
          generalize w1.setCell ⟨X, 1, none⟩ (.int .i64 m.untl) = w2
          intro hX2 hR2 lt1
          have HX2 := Lib.hid hX2
          have HR2 := Lib.hid hR2
          have y0 := cellOf hX2 (j := 0) rfl
          have y1 := cellOf hX2 (j := 1) rfl
          have o1 := cellOf hR2.out (j := 1) rfl
          have lt2 := hR2.lt
          clear hX2 hR2
          go_wp2_with (at_builtin; refine wpList_append_own _ rfl _ _ 24 rfl (S + 1) 41 i0 (.agg #[.int .i64 0, .int .i64 0]) 2 16 Tryz.underlying24 hi hz0 hz1 hz2 rfl (by decide) _ _ _ rfl (HR2.out.own.alloc _) ⟨w2.heap.size, 0, none⟩ 1 1 [.int .i64 x.1, .int .i64 m.untl] rfl rfl (src2 (heap_alloc_new w2 _)) (one2 _ _) (by have := HMX.out; unfold maxLen; omega) (by have := HMX.out; omega) (by have := HR2.out.lt; have := World.size_alloc w2 (.cells #[.int .i64 x.1, .int .i64 m.untl] 41); omega) ?_; intro v' w6 ho' hg' _ ; obtain ⟨pz, nz, cz, hvz⟩ := own_slice ho'; subst hvz; have HAo := Lib.hid ho'; have HAg := Lib.hid hg'; have hbA : Below (S + 1) w2 w6 := below_grown (Below.refl _ _) HR2.out.lt HR2.out.own hg'; have hoA := (hbA.block S (by omega)).trans HR2.out.out; have s1 := cellOf hoA (j := 1) rfl; have sf := frozenOf hoA (j := 1); clear ho' hg' hbA hoA)
          all_goals
            have hRf := HR2.out.app HAo.out HAg.out
            go_roundw
            case rel => exact ⟨k + 1, .slice pz nz cz, by omega, by go_num, by rw [HEQ.out.1], by rw [HEQ.out.2]; exact hRf⟩
            case measure => simp [intOf]; omega
        · have hmx : max x.2 m.untl = x.2 := by omega
          rw [hmx] at HEQ
          clear hmx
          go_upto_region 16 with fail
          have hX2 := HX.out
          have hR2 := HR1.out
          clear q1 q6 y0 y1 fz
          generalize w1 = w2 at hX2 hR2 lt1 ⊢
          have HX2 := Lib.hid hX2
          have HR2 := Lib.hid hR2
          have y0 := cellOf hX2 (j := 0) rfl
          have y1 := cellOf hX2 (j := 1) rfl
          have o1 := cellOf hR2.out (j := 1) rfl
          have lt2 := hR2.lt
          clear hX2 hR2
          go_wp2_with (at_builtin; refine wpList_append_own _ rfl _ _ 24 rfl (S + 1) 41 i0 (.agg #[.int .i64 0, .int .i64 0]) 2 16 Tryz.underlying24 hi hz0 hz1 hz2 rfl (by decide) _ _ _ rfl (HR2.out.own.alloc _) ⟨w2.heap.size, 0, none⟩ 1 1 [.int .i64 x.1, .int .i64 x.2] rfl rfl (src2 (heap_alloc_new w2 _)) (one2 _ _) (by have := HMX.out; unfold maxLen; omega) (by have := HMX.out; omega) (by have := HR2.out.lt; have := World.size_alloc w2 (.cells #[.int .i64 x.1, .int .i64 x.2] 41); omega) ?_; intro v' w6 ho' hg' _ ; obtain ⟨pz, nz, cz, hvz⟩ := own_slice ho'; subst hvz; have HAo := Lib.hid ho'; have HAg := Lib.hid hg'; have hbA : Below (S + 1) w2 w6 := below_grown (Below.refl _ _) HR2.out.lt HR2.out.own hg'; have hoA := (hbA.block S (by omega)).trans HR2.out.out; have s1 := cellOf hoA (j := 1) rfl; have sf := frozenOf hoA (j := 1); clear ho' hg' hbA hoA)
          all_goals
            have hRf := HR2.out.app HAo.out HAg.out
            go_roundw
            case rel => exact ⟨k + 1, .slice pz nz cz, by omega, by go_num, by rw [HEQ.out.1], by rw [HEQ.out.2]; exact hRf⟩
            case measure => simp [intOf]; omega
      · have hneq : ¬ x.1 = m.frm := by omega
        cases hd : DoneB m.frm (L.take k) with
        | false =>
          rw [hd] at hd0
          subst hd0
          have heq2 : DoneB m.frm (L.take (k + 1)) = true ∧ outA m.frm m.untl (L.take (k + 1)) = (outA m.frm m.untl (L.take k)) ++ [(m.frm, m.untl)] ++ [(x.1, x.2)] := by rw [take_snoc HXK.out]; exact outA_C hd hgt
          have HEQ := Lib.hid heq2
          clear heq2 hd
          have o1 := cellOf HR1.out.out (j := 1) rfl
          have HMX : Hid ((outA m.frm m.untl (L.take k)).length ≤ 14) := Lib.hid (by have := HLN.out; omega)
          go_upto_region 16 with (at_builtin; refine wpList_append_own _ rfl _ _ 24 rfl (S + 1) 41 i0 (.agg #[.int .i64 0, .int .i64 0]) 2 16 Tryz.underlying24 hi hz0 hz1 hz2 rfl (by decide) _ _ _ rfl (HR1.out.own.alloc _) ⟨w1.heap.size, 0, none⟩ 1 1 [.int .i64 m.frm, .int .i64 m.untl] rfl rfl (src2 (heap_alloc_new w1 _)) (one2 _ _) (by have := HMX.out; unfold maxLen; omega) (by have := HMX.out; omega) (by have := HR1.out.lt; have := World.size_alloc w1 (.cells #[.int .i64 m.frm, .int .i64 m.untl] 41); omega) ?_; intro v' w6 ho' hg' _ ; obtain ⟨pz, nz, cz, hvz⟩ := own_slice ho'; subst hvz; have HAo := Lib.hid ho'; have HAg := Lib.hid hg'; have hbA : Below (S + 1) w1 w6 := below_grown (Below.refl _ _) HR1.out.lt HR1.out.own hg'; have hoA := (hbA.block S (by omega)).trans HR1.out.out; have s1 := cellOf hoA (j := 1) rfl; have sf := frozenOf hoA (j := 1); clear ho' hg' hbA hoA)
          have hR2 := HR1.out.app HAo.out HAg.out
          have hX2 : (w6.setCell ⟨S, 1, none⟩ (.slice pz nz cz)).heap[X]? = some (.cells #[.int .i64 x.1, .int .i64 x.2] 41 (0, 0)) := by
            rw [Below.heap_setCell w6 _ _ X (by show X ≠ S; omega)]
            refine ((HAg.out.block X (by have := World.size_alloc w1 (.cells #[.int .i64 m.frm, .int .i64 m.untl] 41); omega) (fun e => HNO.out e.symm)).trans ?_)
            rw [Below.heap_alloc _ _ _ lt1]
            exact HX.out
          have lt1 : X < (w6.setCell ⟨S, 1, none⟩ (.slice pz nz cz)).heap.size := (Array.getElem?_eq_some_iff.mp hX2).1
          clear q1 q6 y0 y1 fz o1 s1 sf HAo HAg
          revert hX2 hR2 lt1
          generalize w6.setCell ⟨S, 1, none⟩ (.slice pz nz cz) = w2
          intro hR2 hX2 lt1
          have HMX : Hid (((outA m.frm m.untl (L.take k)) ++ [(m.frm, m.untl)]).length ≤ 14) := Lib.hid (by have := HLN.out; simp only [List.length_append, List.length_singleton]; omega)
          have HX2 := Lib.hid hX2
          have HR2 := Lib.hid hR2
          have y0 := cellOf hX2 (j := 0) rfl
          have y1 := cellOf hX2 (j := 1) rfl
          have o1 := cellOf hR2.out (j := 1) rfl
          have lt2 := hR2.lt
          clear hX2 hR2
          go_wp2_with (at_builtin; refine wpList_append_own _ rfl _ _ 24 rfl (S + 1) 41 i0 (.agg #[.int .i64 0, .int .i64 0]) 2 16 Tryz.underlying24 hi hz0 hz1 hz2 rfl (by decide) _ _ _ rfl (HR2.out.own.alloc _) ⟨w2.heap.size, 0, none⟩ 1 1 [.int .i64 x.1, .int .i64 x.2] rfl rfl (src2 (heap_alloc_new w2 _)) (one2 _ _) (by have := HMX.out; unfold maxLen; omega) (by have := HMX.out; omega) (by have := HR2.out.lt; have := World.size_alloc w2 (.cells #[.int .i64 x.1, .int .i64 x.2] 41); omega) ?_; intro v' w6 ho' hg' _ ; obtain ⟨pz, nz, cz, hvz⟩ := own_slice ho'; subst hvz; have HAo := Lib.hid ho'; have HAg := Lib.hid hg'; have hbA : Below (S + 1) w2 w6 := below_grown (Below.refl _ _) HR2.out.lt HR2.out.own hg'; have hoA := (hbA.block S (by omega)).trans HR2.out.out; have s1 := cellOf hoA (j := 1) rfl; have sf := frozenOf hoA (j := 1); clear ho' hg' hbA hoA)
          all_goals
            have hRf := HR2.out.app HAo.out HAg.out
            go_roundw
            case rel => exact ⟨k + 1, .slice pz nz cz, by omega, by go_num, by rw [HEQ.out.1], by rw [HEQ.out.2]; exact hRf⟩
            case measure => simp [intOf]; omega

        | true =>
          rw [hd] at hd0
          subst hd0
          have heq2 : DoneB m.frm (L.take (k + 1)) = true ∧ outA m.frm m.untl (L.take (k + 1)) = (outA m.frm m.untl (L.take k)) ++ [(x.1, x.2)] := by rw [take_snoc HXK.out]; exact outA_D hd
          have HEQ := Lib.hid heq2
          clear heq2 hd
          go_upto_region 16 with fail
          have hX2 := HX.out
          have hR2 := HR1.out
          clear q1 q6 y0 y1 fz
          generalize w1 = w2 at hX2 hR2 lt1 ⊢
          have HX2 := Lib.hid hX2
          have HR2 := Lib.hid hR2
          have y0 := cellOf hX2 (j := 0) rfl
          have y1 := cellOf hX2 (j := 1) rfl
          have o1 := cellOf hR2.out (j := 1) rfl
          have lt2 := hR2.lt
          clear hX2 hR2
          go_wp2_with (at_builtin; refine wpList_append_own _ rfl _ _ 24 rfl (S + 1) 41 i0 (.agg #[.int .i64 0, .int .i64 0]) 2 16 Tryz.underlying24 hi hz0 hz1 hz2 rfl (by decide) _ _ _ rfl (HR2.out.own.alloc _) ⟨w2.heap.size, 0, none⟩ 1 1 [.int .i64 x.1, .int .i64 x.2] rfl rfl (src2 (heap_alloc_new w2 _)) (one2 _ _) (by have := HMX.out; unfold maxLen; omega) (by have := HMX.out; omega) (by have := HR2.out.lt; have := World.size_alloc w2 (.cells #[.int .i64 x.1, .int .i64 x.2] 41); omega) ?_; intro v' w6 ho' hg' _ ; obtain ⟨pz, nz, cz, hvz⟩ := own_slice ho'; subst hvz; have HAo := Lib.hid ho'; have HAg := Lib.hid hg'; have hbA : Below (S + 1) w2 w6 := below_grown (Below.refl _ _) HR2.out.lt HR2.out.own hg'; have hoA := (hbA.block S (by omega)).trans HR2.out.out; have s1 := cellOf hoA (j := 1) rfl; have sf := frozenOf hoA (j := 1); clear ho' hg' hbA hoA)
          all_goals
            have hRf := HR2.out.app HAo.out HAg.out
            go_roundw
            case rel => exact ⟨k + 1, .slice pz nz cz, by omega, by go_num, by rw [HEQ.out.1], by rw [HEQ.out.2]; exact hRf⟩
            case measure => simp [intOf]; omega

    · have hkn' : k = n := by omega
      subst hkn'
      have c1 : wr.cell? ⟨w.heap.size, 1, none⟩ = some (.slice p k cap) := cellOf hR.tb.b0 (j := 1) rfl
      have hT : L.take k = L := List.take_of_length_le (by have := HNL.out; omega)
      rw [hT] at hd0 hR
      have lt := hR.lt
      cases hd : DoneB m.frm L with
      | true =>
        have hO : outA m.frm m.untl L = insG m.frm m.untl L := by unfold outA; rw [hd]; rfl
        rw [hO] at hR
        rw [hd] at hd0
        subst hd0
        have HPOS : Hid (0 < (insG m.frm m.untl L).length) := Lib.hid (insG_len _ _ _).2
        have hRf := hR
        clear hR hd hT hO HRe
        go_upto_region 19 with fail
        clear c0 c1 n3
        generalize wr = wf at hRf lt ⊢
        obtain ⟨pz, nz, cz, hvz⟩ := own_slice hRf.own
        subst hvz
        have HRf := Lib.hid hRf
        have z0 := cellOf hRf.out (j := 0) rfl
        have z1 := cellOf hRf.out (j := 1) rfl
        have r0 := cellOf hRf.tb.b2 (j := 0) rfl
        have r1 := cellOf hRf.tb.b2 (j := 1) rfl
        have f0 := frozenOf hRf.tb.b2 (j := 0)
        have f1 := frozenOf hRf.tb.b2 (j := 1)
        clear hRf
        go_wp2_with fail
        have hr := row_set2 HRf.out.tb.b2 (.int .i64 m.view) (.slice pz nz cz)
        have hb := below_set (below_set HRf.out.tb.bl (p := ⟨w.heap.size + 2, 0, none⟩) (by show _ ≤ w.heap.size + 2; omega) (.int .i64 m.view)) (p := ⟨w.heap.size + 2, 1, none⟩) (by show _ ≤ w.heap.size + 2; omega) (.slice pz nz cz)
        have hown := own_set (own_set HRf.out.own (p := ⟨w.heap.size + 2, 0, none⟩) (by show w.heap.size + 2 < _; omega) (.int .i64 m.view)) (p := ⟨w.heap.size + 2, 1, none⟩) (by show w.heap.size + 2 < _; omega) (.slice pz nz cz)
        obtain ⟨p6, cap6, he6, hg6⟩ := grP_of_own hown HPOS.out
        injection he6 with e1 e2 e3
        subst e1
        subst e2
        subst e3
        (try simp only [Exit.inBlock, Exit.then])
        refine bodyPost_ret (results_cell_row rfl _ _ (w.heap.size + 2) 26 #[.int .i64 m.view, .slice pz _ cz] (0, 0) _ rfl hr Tryz.underlying26 rfl Tryz.size26) rfl ?_
        exact ⟨pz, _, cz, rfl, hg6, hb⟩
      | false =>
        have hO : outA m.frm m.untl L = L := by unfold outA; rw [hd]; rfl
        have hI : insG m.frm m.untl L = L ++ [(m.frm, m.untl)] := insG_all hd
        rw [hO] at hR
        rw [hd] at hd0
        subst hd0
        have HRe := Lib.hid hR
        have HI := Lib.hid hI
        have o1 := cellOf hR.out (j := 1) rfl
        have n1 : wr.cell? ⟨w.heap.size + 1, 1, none⟩ = some (.int .i64 m.frm) := cellOf hR.tb.b1 (j := 1) rfl
        have n6 : wr.cell? ⟨w.heap.size + 1, 6, none⟩ = some (.int .i64 m.untl) := cellOf hR.tb.b1 (j := 6) rfl
        have HMX : Hid (L.length ≤ 14) := Lib.hid (by have := HNL.out; omega)
        clear hR hd hT hO hI
        go_upto_region 19 with (at_builtin; refine wpList_append_own _ rfl _ _ 24 rfl (S + 1) 41 i0 (.agg #[.int .i64 0, .int .i64 0]) 2 16 Tryz.underlying24 hi hz0 hz1 hz2 rfl (by decide) _ _ _ rfl (HRe.out.own.alloc _) ⟨wr.heap.size, 0, none⟩ 1 1 [.int .i64 m.frm, .int .i64 m.untl] rfl rfl (src2 (heap_alloc_new wr _)) (one2 _ _) (by have := HMX.out; unfold maxLen; omega) (by have := HMX.out; omega) (by have := HRe.out.lt; have := World.size_alloc wr (.cells #[.int .i64 m.frm, .int .i64 m.untl] 41); omega) ?_; intro v' w6 ho' hg' _ ; obtain ⟨pz, nz, cz, hvz⟩ := own_slice ho'; subst hvz; have HAo := Lib.hid ho'; have HAg := Lib.hid hg'; have hbA : Below (S + 1) wr w6 := below_grown (Below.refl _ _) HRe.out.lt HRe.out.own hg'; have hoA := (hbA.block S (by omega)).trans HRe.out.out; have s1 := cellOf hoA (j := 1) rfl; have sf := frozenOf hoA (j := 1); clear ho' hg' hbA hoA)
        have hRf := HRe.out.app HAo.out HAg.out
        rw [← HI.out] at hRf
        have HPOS : Hid (0 < (insG m.frm m.untl L).length) := Lib.hid (insG_len _ _ _).2
        clear s1 sf o1 n1 n6 c0 c1 n3
        revert hRf
        generalize w6.setCell ⟨S, 1, none⟩ (.slice pz nz cz) = wf
        intro hRf
        have HRf := Lib.hid hRf
        have z0 := cellOf hRf.out (j := 0) rfl
        have z1 := cellOf hRf.out (j := 1) rfl
        have r0 := cellOf hRf.tb.b2 (j := 0) rfl
        have r1 := cellOf hRf.tb.b2 (j := 1) rfl
        have f0 := frozenOf hRf.tb.b2 (j := 0)
        have f1 := frozenOf hRf.tb.b2 (j := 1)
        clear hRf
        go_wp2_with fail
        have hr := row_set2 HRf.out.tb.b2 (.int .i64 m.view) (.slice pz nz cz)
        have hb := below_set (below_set HRf.out.tb.bl (p := ⟨w.heap.size + 2, 0, none⟩) (by show _ ≤ w.heap.size + 2; omega) (.int .i64 m.view)) (p := ⟨w.heap.size + 2, 1, none⟩) (by show _ ≤ w.heap.size + 2; omega) (.slice pz nz cz)
        have hown := own_set (own_set HRf.out.own (p := ⟨w.heap.size + 2, 0, none⟩) (by show w.heap.size + 2 < _; omega) (.int .i64 m.view)) (p := ⟨w.heap.size + 2, 1, none⟩) (by show w.heap.size + 2 < _; omega) (.slice pz nz cz)
        obtain ⟨p6, cap6, he6, hg6⟩ := grP_of_own hown HPOS.out
        injection he6 with e1 e2 e3
        subst e1
        subst e2
        subst e3
        (try simp only [Exit.inBlock, Exit.then])
        refine bodyPost_ret (results_cell_row rfl _ _ (w.heap.size + 2) 26 #[.int .i64 m.view, .slice pz _ cz] (0, 0) _ rfl hr Tryz.underlying26 rfl Tryz.size26) rfl ?_
        exact ⟨pz, _, cz, rfl, hg6, hb⟩
end Go.Proofs.YtoigjpkdcadlnaaGreatDoor
