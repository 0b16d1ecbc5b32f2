/-
  LeaseTake: what the reference's Take has put together.
-/
import Derived.Test.YtoigjpkdcadlnaaGreatDoorLzB
namespace Go.Proofs.YtoigjpkdcadlnaaGreatDoor
open Go Go.RowKit

def DoneB (s : Int) (A : List (Int × Int)) : Bool := A.any fun x => decide (s ≤ x.1)
def outA (s u : Int) (A : List (Int × Int)) : List (Int × Int) := if DoneB s A then insG s u A else A
theorem doneB_f {s : Int} {A : List (Int × Int)} (h : ∀ x ∈ A, x.1 < s) : DoneB s A = false := by
  unfold DoneB
  rw [List.any_eq_false]
  intro x hx
  have := h x hx
  simp; omega
theorem doneB_low {s : Int} {A : List (Int × Int)} (h : DoneB s A = false) : ∀ x ∈ A, x.1 < s := fun x hx => by
  unfold DoneB at h
  rw [List.any_eq_false] at h
  have := h x hx
  simp at this; omega
theorem doneB_ex {s : Int} {A : List (Int × Int)} (h : DoneB s A = true) : ∃ x ∈ A, s ≤ x.1 := by
  unfold DoneB at h
  obtain ⟨x, hx, h2⟩ := List.any_eq_true.mp h
  exact ⟨x, hx, by simpa using h2⟩
theorem doneB_snoc (s : Int) (A : List (Int × Int)) (x : Int × Int) : DoneB s (A ++ [x]) = (DoneB s A || decide (s ≤ x.1)) := by
  unfold DoneB
  simp
theorem insG_all {s u : Int} {A : List (Int × Int)} (h : DoneB s A = false) : insG s u A = A ++ [(s, u)] := by
  have := insG_low s u A [] (doneB_low h)
  simpa [insG] using this

theorem outA_A {s u : Int} {A : List (Int × Int)} {x : Int × Int} (hd : DoneB s A = false) (hx : x.1 < s) : DoneB s (A ++ [x]) = false ∧ outA s u (A ++ [x]) = outA s u A ++ [x] := by
  have h : DoneB s (A ++ [x]) = false := by rw [doneB_snoc, hd]; simp; omega
  exact ⟨h, by unfold outA; rw [h, hd]; rfl⟩
theorem outA_B {s u : Int} {A : List (Int × Int)} {x : Int × Int} (hd : DoneB s A = false) (hx : x.1 = s) : DoneB s (A ++ [x]) = true ∧ outA s u (A ++ [x]) = outA s u A ++ [(x.1, max x.2 u)] := by
  have h : DoneB s (A ++ [x]) = true := by rw [doneB_snoc, hd]; simp; omega
  refine ⟨h, ?_⟩
  unfold outA
  rw [h, hd]
  show insG s u (A ++ [x]) = A ++ _
  rw [insG_low s u A [x] (doneB_low hd), insG, if_neg (by omega), if_pos hx, hx]
theorem outA_C {s u : Int} {A : List (Int × Int)} {x : Int × Int} (hd : DoneB s A = false) (hx : s < x.1) : DoneB s (A ++ [x]) = true ∧ outA s u (A ++ [x]) = outA s u A ++ [(s, u)] ++ [x] := by
  have h : DoneB s (A ++ [x]) = true := by rw [doneB_snoc, hd]; simp; omega
  refine ⟨h, ?_⟩
  unfold outA
  rw [h, hd]
  show insG s u (A ++ [x]) = A ++ _ ++ _
  rw [insG_low s u A [x] (doneB_low hd), insG, if_neg (by omega), if_neg (by omega)]
  simp
theorem outA_D {s u : Int} {A : List (Int × Int)} {x : Int × Int} (hd : DoneB s A = true) : DoneB s (A ++ [x]) = true ∧ outA s u (A ++ [x]) = outA s u A ++ [x] := by
  have h : DoneB s (A ++ [x]) = true := by rw [doneB_snoc, hd]; rfl
  refine ⟨h, ?_⟩
  unfold outA
  rw [h, hd]
  show insG s u (A ++ [x]) = insG s u A ++ [x]
  rw [insG_done s u A [x] (doneB_ex hd)]
theorem take_snoc {L : List (Int × Int)} {k : Nat} {x : Int × Int} (h : L[k]? = some x) : L.take (k + 1) = L.take k ++ [x] := by
  have hk : k < L.length := (List.getElem?_eq_some_iff.mp h).1
  rw [List.take_add_one, h]
  rfl
theorem done_none {L : List (Int × Int)} {k : Nat} {x : Int × Int} {s : Int} (hA : Asc L) (h : L[k]? = some x) (hx : x.1 ≤ s) : DoneB s (L.take k) = false := by
  apply doneB_f
  intro y hy
  obtain ⟨j, hj⟩ := List.mem_iff_getElem?.mp hy
  rw [List.getElem?_take] at hj
  split at hj
  · have := asc_lt hA hj h (by assumption); omega
  · cases hj

/-- what the reference's Take has put together so far -/
structure RO (m : Msg) (hv : Int) (p : Option Addr) (n cap : Nat) (w : World) (S : Nat) (v : Value) (A : List (Int × Int)) (W : World) : Prop where
  tb : TB m hv p n cap w W
  out : W.heap[S]? = some (.cells #[.int .i64 m.view, v] 26 (0, 0))
  own : W.ownsRow (S + 1) 41 2 v A.length (grV A)
  ge : w.heap.size + 3 ≤ S
theorem RO.lt {m : Msg} {hv : Int} {p : Option Addr} {n cap : Nat} {w W : World} {S : Nat} {v : Value} {A : List (Int × Int)} (h : RO m hv p n cap w S v A W) : S < W.heap.size := (Array.getElem?_eq_some_iff.mp h.out).1
theorem RO.alloc {m : Msg} {hv : Int} {p : Option Addr} {n cap : Nat} {w W : World} {S : Nat} {v : Value} {A : List (Int × Int)} (h : RO m hv p n cap w S v A W) (o : Obj) : RO m hv p n cap w S v A (W.alloc o) :=
  ⟨h.tb.below ((Below.refl _ _).alloc (Nat.le_refl _) _), (Below.heap_alloc W o S h.lt).trans h.out, h.own.alloc o, h.ge⟩
theorem RO.put {m : Msg} {hv : Int} {p : Option Addr} {n cap : Nat} {w W W' : World} {S : Nat} {v v' : Value} {A A' : List (Int × Int)} (h : RO m hv p n cap w S v A W) (hb : Below (S + 1) W W') (ho : W'.ownsRow (S + 1) 41 2 v' A'.length (grV A')) :
    RO m hv p n cap w S v' A' (W'.setCell ⟨S, 1, none⟩ v') := by
  have hge := h.ge
  have hout : W'.heap[S]? = some (.cells #[.int .i64 m.view, v] 26 (0, 0)) := (hb.block S (by omega)).trans h.out
  refine ⟨h.tb.below3 ((hb.mono (by omega)).trans (below_set (Below.refl _ _) (p := ⟨S, 1, none⟩) hge v')), ?_, own_set ho (by show S < S + 1; omega) v', hge⟩
  unfold World.setCell
  simp [Array.getElem?_modify, hout]
theorem RO.setX {m : Msg} {hv : Int} {p : Option Addr} {n cap : Nat} {w W : World} {S : Nat} {v : Value} {A : List (Int × Int)} (h : RO m hv p n cap w S v A W) {b j : Nat} (hb : S < b) (hne : v.ownBlock ≠ some b) (u : Value) : RO m hv p n cap w S v A (W.setCell ⟨b, j, none⟩ u) := by
  have hge := h.ge
  refine ⟨h.tb.below3 (below_set (Below.refl _ _) (p := ⟨b, j, none⟩) (by show _ ≤ b; omega) u), (Below.heap_setCell W _ u S (by show S ≠ b; omega)).trans h.out, ?_, hge⟩
  refine ⟨h.own.1, ?_⟩
  rcases h.own.2 with h0 | ⟨g, cap, cur, h1, h2, h3, h4⟩
  · exact .inl h0
  · exact .inr ⟨g, cap, cur, h1, h2, (Below.heap_setCell W _ u g (fun e => hne (by rw [h1]; show some g = some b; rw [e]))).trans h3, h4⟩
theorem RO.notOwn {m : Msg} {hv : Int} {p : Option Addr} {n cap : Nat} {w W : World} {S : Nat} {v : Value} {A : List (Int × Int)} (h : RO m hv p n cap w S v A W) : v.ownBlock ≠ some W.heap.size := fun e => by
  have := (h.own.lt _ e).2
  omega

theorem own_slice {w : World} {base e sz n : Nat} {v : Value} {xs : List Value} (h : w.ownsRow base e sz v n xs) : ∃ p m cap, v = .slice p m cap := by
  rcases h.2 with ⟨h0, _⟩ | ⟨g, cap, cur, h1, _⟩
  · exact ⟨_, _, _, h0⟩
  · exact ⟨_, _, _, h1⟩
theorem src2 {W : World} {b : Nat} {s u : Int} (h : W.heap[b]? = some (.cells #[.int .i64 s, .int .i64 u] 41 (0, 0))) : ∀ j v, [Value.int .i64 s, Value.int .i64 u][j]? = some v → W.cell? ((⟨b, 0, none⟩ : Addr).add j) = some v := fun j v hj => by
  rw [Addr.add_lit]
  match j, hj with
  | 0, hj => simp at hj; subst hj; exact cellOf h rfl
  | 1, hj => simp at hj; subst hj; exact cellOf h rfl
  | j + 2, hj => simp at hj
theorem one2 (s u : Int) : ∀ v ∈ [Value.int .i64 s, Value.int .i64 u], v.oneCell' = true := fun v hv => by
  rcases List.mem_cons.mp hv with rfl | hv
  · rfl
  · rcases List.mem_cons.mp hv with rfl | hv
    · rfl
    · cases hv
theorem RO.app {m : Msg} {hv : Int} {p : Option Addr} {n cap : Nat} {w W w1 : World} {S : Nat} {v v' : Value} {A : List (Int × Int)} {o : Obj} {s u : Int} (h : RO m hv p n cap w S v A W) (ho : w1.ownsRow (S + 1) 41 2 v' (A.length + 1) (grV A ++ [.int .i64 s, .int .i64 u])) (hg : (W.alloc o).grownBy w1 v.ownBlock) :
    RO m hv p n cap w S v' (A ++ [(s, u)]) (w1.setCell ⟨S, 1, none⟩ v') := by
  have hb : Below (S + 1) W w1 := below_grown (Below.refl _ _) h.lt h.own hg
  refine h.put hb ?_
  rw [grV_append, List.length_append]
  exact ho
end Go.Proofs.YtoigjpkdcadlnaaGreatDoor

/-
  LeaseTake: the reference's Take at a grant of another view than what the leader knows.
-/
namespace Go.Proofs.YtoigjpkdcadlnaaGreatDoor
open Go Go.RowKit

set_option maxHeartbeats 6400000 in
set_option maxRecDepth 1000000 in
theorem takeRef_ne (m : Msg) (hv : Int) (p : Option Addr) (n cap : Nat) (w : World) (hm : m.Ok w) (_hn : n ≤ 20) (hacc : Acc m hv) (hne : m.view ≠ hv) :
    Calls Tryz.prog 10 #[.agg #[.int .i64 hv, .slice p n cap], .agg #[.int .i64 m.kind, .int .i64 m.frm, .int .i64 m.dst, .int .i64 m.view, .int .i64 m.slot, .string m.value, .int .i64 m.untl, .int .i64 m.g0, .int .i64 m.g1, .int .i64 m.g2, .int .i64 m.g3, .string m.gd, .string m.gs, .slice m.stP m.stN m.stC, .slice m.enP m.enN m.enC, .int .i64 m.sl, .string m.rt, .slice m.ckP m.ckN m.ckC, .slice m.pfP m.pfN m.pfC, .slice m.hnP m.hnN m.hnC, .slice m.txP m.txN m.txC]] w (NewRet m.view (insG m.frm m.untl []) w) := by
  have hT := TB.first m hv p n cap w
  have HT := Lib.hid hT
  have HM := Lib.hid (hm.below hT.bl)
  obtain ⟨hk, hok, hv1, hv2⟩ := hacc
  have HK := Lib.hid hk
  have HOK := Lib.hid hok
  have hf0 := hok.1
  have hf1 := hok.2.1
  have hu0 := hok.2.2.2.2.2.2.1
  have hu1 := hm.untlH.2
  obtain ⟨i0, hi, hz0, hz1, hz2⟩ := info_parts Tryz.info41b
  clear hm hT hk hok
  go_enter Tryz.func10, Tryz.ntmps10
  go_upto_region 1 with fail
  revert HT HM
  generalize ((w.alloc (.cells #[.int .i64 hv, .slice p n cap] 26)).alloc (.cells #[.int .i64 m.kind, .int .i64 m.frm, .int .i64 m.dst, .int .i64 m.view, .int .i64 m.slot, .string m.value, .int .i64 m.untl, .int .i64 m.g0, .int .i64 m.g1, .int .i64 m.g2, .int .i64 m.g3, .string m.gd, .string m.gs, .slice m.stP m.stN m.stC, .slice m.enP m.enN m.enC, .int .i64 m.sl, .string m.rt, .slice m.ckP m.ckN m.ckC, .slice m.pfP m.pfN m.pfC, .slice m.hnP m.hnN m.hnC, .slice m.txP m.txN m.txC] 37)).alloc (.cells #[.int .i64 0, .slice none 0 0] 26) = W3
  intro HT HM
  go_step
  refine wpList_load_row rfl 37 (.tmp 3) rfl (w.heap.size + 1) rfl 37 #[.int .i64 m.kind, .int .i64 m.frm, .int .i64 m.dst, .int .i64 m.view, .int .i64 m.slot, .string m.value, .int .i64 m.untl, .int .i64 m.g0, .int .i64 m.g1, .int .i64 m.g2, .int .i64 m.g3, .string m.gd, .string m.gs, .slice m.stP m.stN m.stC, .slice m.enP m.enN m.enC, .int .i64 m.sl, .string m.rt, .slice m.ckP m.ckN m.ckC, .slice m.pfP m.pfN m.pfC, .slice m.hnP m.hnN m.hnC, .slice m.txP m.txN m.txC] (0, 0) _ HT.out.b1 Tryz.underlying37 rfl Tryz.size37 ?_
  generalize hMV : Value.agg #[.int .i64 m.kind, .int .i64 m.frm, .int .i64 m.dst, .int .i64 m.view, .int .i64 m.slot, .string m.value, .int .i64 m.untl, .int .i64 m.g0, .int .i64 m.g1, .int .i64 m.g2, .int .i64 m.g3, .string m.gd, .string m.gs, .slice m.stP m.stN m.stC, .slice m.enP m.enN m.enC, .int .i64 m.sl, .string m.rt, .slice m.ckP m.ckN m.ckC, .slice m.pfP m.pfN m.pfC, .slice m.hnP m.hnN m.hnC, .slice m.txP m.txN m.txC] = MV
  have HMV := Lib.hid hMV
  clear hMV
  go_wp2_with fail
  go_at_call 27
  obtain rfl := HMV.out
  refine (validRef_grant m W3 HM.out HK.out).mono ?_
  rintro e w2 ⟨k, rfl, hk, hb2⟩
  obtain rfl : k = 0 := hk.mpr HOK.out
  have hT2 := HT.out.below hb2
  have HT2 := Lib.hid hT2
  have m0 : w2.cell? ⟨w.heap.size + 1, 0, none⟩ = some (.int .i64 9) := by rw [← HK.out]; exact cellOf hT2.b1 (j := 0) rfl
  have m3 : w2.cell? ⟨w.heap.size + 1, 3, none⟩ = some (.int .i64 m.view) := cellOf hT2.b1 (j := 3) rfl
  have c0 : w2.cell? ⟨w.heap.size, 0, none⟩ = some (.int .i64 hv) := cellOf hT2.b0 (j := 0) rfl
  have lt2 := hT2.lt
  clear hT2 hk HT HM hb2
  go_upto_region 4 with fail
  have hRO : RO m hv p n cap w w2.heap.size (.slice none 0 0) [] (w2.alloc (.cells #[.int .i64 m.view, .slice none 0 0] 26)) := ⟨HT2.out.below ((Below.refl _ _).alloc (Nat.le_refl _) _), heap_alloc_new w2 _, World.ownsRow_nil _ _ _ _, lt2⟩
  have HRO := Lib.hid hRO
  clear hRO m0 m3 c0
  generalize w2.alloc (.cells #[.int .i64 m.view, .slice none 0 0] 26) = W4 at HRO ⊢
  generalize w2.heap.size = S at HRO lt2 ⊢
  have d1 : (m.view == hv) = false := by simpa using hne
  have d2 : decide (m.view = hv) = false := by simpa using hne
  have HMX : Hid (([] : List (Int × Int)).length ≤ 14) := Lib.hid (by simp)
  clear hne
  go_wp2_with fail
  go_loopw [6, 7] (fun d i wr => d = .bool false ∧ i = .int .i64 0 ∧ RO m hv p n cap w S (.slice none 0 0) [] wr) (fun _ _ _ => 0)
  case atStart => exact ⟨rfl, rfl, HRO.out⟩
  case round =>
    obtain ⟨rfl, rfl, hR⟩ := hrel
    have HRe := Lib.hid hR
    have o1 := cellOf hR.out (j := 1) rfl
    have o0 := cellOf hR.out (j := 0) rfl
    have n1 : wr.cell? ⟨w.heap.size + 1, 1, none⟩ = some (.int .i64 m.frm) := cellOf hR.tb.b1 (j := 1) rfl
    have n6 : wr.cell? ⟨w.heap.size + 1, 6, none⟩ = some (.int .i64 m.untl) := cellOf hR.tb.b1 (j := 6) rfl
    have c0 : wr.cell? ⟨w.heap.size, 0, none⟩ = some (.int .i64 hv) := cellOf hR.tb.b0 (j := 0) rfl
    have c1 : wr.cell? ⟨w.heap.size, 1, none⟩ = some (.slice p n cap) := cellOf hR.tb.b0 (j := 1) rfl
    have n3 : wr.cell? ⟨w.heap.size + 1, 3, none⟩ = some (.int .i64 m.view) := cellOf hR.tb.b1 (j := 3) rfl
    clear hR
    go_upto_region 19 with (at_builtin; refine wpList_append_own _ rfl _ _ 24 rfl (S + 1) 41 i0 (.agg #[.int .i64 0, .int .i64 0]) 2 16 Tryz.underlying24 hi hz0 hz1 hz2 rfl (by decide) _ _ _ rfl (HRe.out.own.alloc _) ⟨wr.heap.size, 0, none⟩ 1 1 [.int .i64 m.frm, .int .i64 m.untl] rfl rfl (src2 (heap_alloc_new wr _)) (one2 _ _) (by have := HMX.out; unfold maxLen; omega) (by have := HMX.out; omega) (by have := HRe.out.lt; have := World.size_alloc wr (.cells #[.int .i64 m.frm, .int .i64 m.untl] 41); omega) ?_; intro v' w6 ho' hg' _ ; obtain ⟨pz, nz, cz, hvz⟩ := own_slice ho'; subst hvz; have HAo := Lib.hid ho'; have HAg := Lib.hid hg'; have hbA : Below (S + 1) wr w6 := below_grown (Below.refl _ _) HRe.out.lt HRe.out.own hg'; have hoA := (hbA.block S (by omega)).trans HRe.out.out; have s1 := cellOf hoA (j := 1) rfl; have sf := frozenOf hoA (j := 1); clear ho' hg' hbA hoA)
    all_goals
      have hRf := HRe.out.app HAo.out HAg.out
      have HPOS : Hid (0 < ([] ++ [(m.frm, m.untl)] : List (Int × Int)).length) := Lib.hid (by simp)
      clear s1 sf o1 o0 n1 n6 c0 c1 n3
      revert hRf
      generalize w6.setCell ⟨S, 1, none⟩ (.slice pz nz cz) = wf
      intro hRf
      have HRf := Lib.hid hRf
      have z0 := cellOf hRf.out (j := 0) rfl
      have z1 := cellOf hRf.out (j := 1) rfl
      have r0 := cellOf hRf.tb.b2 (j := 0) rfl
      have r1 := cellOf hRf.tb.b2 (j := 1) rfl
      have f0 := frozenOf hRf.tb.b2 (j := 0)
      have f1 := frozenOf hRf.tb.b2 (j := 1)
      clear hRf
      go_wp2_with fail
      have hr := row_set2 HRf.out.tb.b2 (.int .i64 m.view) (.slice pz nz cz)
      have hb := below_set (below_set HRf.out.tb.bl (p := ⟨w.heap.size + 2, 0, none⟩) (by show _ ≤ w.heap.size + 2; omega) (.int .i64 m.view)) (p := ⟨w.heap.size + 2, 1, none⟩) (by show _ ≤ w.heap.size + 2; omega) (.slice pz nz cz)
      have hown := own_set (own_set HRf.out.own (p := ⟨w.heap.size + 2, 0, none⟩) (by show w.heap.size + 2 < _; omega) (.int .i64 m.view)) (p := ⟨w.heap.size + 2, 1, none⟩) (by show w.heap.size + 2 < _; omega) (.slice pz nz cz)
      obtain ⟨p6, cap6, he6, hg6⟩ := grP_of_own hown HPOS.out
      injection he6 with e1 e2 e3
      subst e1
      subst e2
      subst e3
      (try simp only [Exit.inBlock, Exit.then])
      refine bodyPost_ret (results_cell_row rfl _ _ (w.heap.size + 2) 26 #[.int .i64 m.view, .slice pz _ cz] (0, 0) _ rfl hr Tryz.underlying26 rfl Tryz.size26) rfl ?_
      exact ⟨pz, _, cz, rfl, hg6, hb⟩
end Go.Proofs.YtoigjpkdcadlnaaGreatDoor
