/-
  One operation, one region in the order of the text.
-/
import Derived.Test.YtoigjpkdcadlnaaGreatDoorAmOps8
namespace Go.AM
open Go Go.RowKit Go.Lib

/-- what is asked of the calls -/
structure EnvOk (E : Env) (base : Nat) : Prop where
  same : ∀ f v w, E.same f = true → (callFunc f #[v]).run E.P w = .ok (.value v) w
  known : ∀ f args v, E.known f args = some v → plainV v = true ∧ (∀ vs w, (callFunc f vs).run E.P w = .ok (.enter f vs) w) ∧
    ∀ μ vs w, LR (VR μ) args vs → Calls E.P f vs.toArray w fun e w' => ∃ v', e = .returned v' ∧ VR μ v v' ∧ Below w.heap.size w w'
  call : ∀ f args s v s', E.call f args s = some (v, s') → (∀ vs w, (callFunc f vs).run E.P w = .ok (.enter f vs) w) ∧
    ∀ μ w vs, Inv base μ s w → LR (VR μ) args vs → Calls E.P f vs.toArray w fun e w' => ∃ v' μ', e = .returned v' ∧ VR μ' v v' ∧ Stp base μ μ' s s' w w'

section
variable {base : Nat} {μ : Mp} {w : World} {s s' : St} {a : Act} {E : Env} {o : Oper} {ρ : Operand → Option AV} {f f' : Fr}

theorem Stp.of_below (hi : Inv base μ s w) {w' : World} (h : Below w.heap.size w w') : Stp base μ μ s s w w' :=
  ⟨Ext.refl _, ⟨fun b g blk n hm => by
      obtain ⟨r, h1, h2⟩ := hi.rel.row b g blk n hm
      exact ⟨r, h1, h2.mono (Ext.refl _) (h.block _ (hi.rel.lt hm))⟩, hi.rel.sep⟩, hi.dom, fun _ _ _ _ h => .inl h, Nat.le_refl _, rfl, Nat.le_refl _, fun _ _ _ => rfl, fun blk hb => .inl (h.block blk hb), h.size, h.os, h.tape, h.output, hi.wf⟩

/-- an operation that is no call of a function -/
def RunOk (E : Env) (base : Nat) (μ : Mp) (s s' : St) (w : World) (a : Act) (o : Oper) (v : AV) : Prop :=
  ∃ v' w' μ', ((execOp a.eval o).run E.P w = .ok (.value v') w' ∨ ((execOp a.eval o).run E.P w = .ok .skip w' ∧ v' = undef)) ∧ VR μ' v v' ∧ Stp base μ μ' s s' w w'

theorem wp_of_run {v : AV} (h : RunOk E base μ s s' w a o v) {K : Act → World → Prop} {Q : Exit → Act → World → Prop}
    (hk : ∀ v' w' μ', VR μ' v v' → Stp base μ μ' s s' w w' → K (a.put o.dst v') w') : o.wp E.P a w K Q := by
  obtain ⟨v', w', μ', h1, h2, h3⟩ := h
  unfold Oper.wp
  rcases h1 with h1 | ⟨h1, rfl⟩
  · rw [h1]; exact hk _ _ _ h2 h3
  · rw [h1]; exact hk _ _ _ h2 h3

theorem pair_inv {x : Option AV} {v : AV} (h : pairO s x = some (v, s')) : x = some v ∧ s' = s := by
  cases x with
  | none => simp [pairO] at h
  | some u => simp [pairO] at h; exact ⟨by rw [h.1], h.2.symm⟩

/-- all operations but calls -/
theorem op_run (hi : Inv base μ s w) (hr : RhoOk μ ρ a) {v : AV} (h : opO E ρ s o.op = some (v, s')) (hc : ∀ c f, o.op = .call c → c.callee ≠ .value f) :
    RunOk E base μ s s' w a o v ∧ s'.gl = s.gl ∧ s'.gl = s.gl := by
  obtain ⟨dst, op, type, pos, after, guard⟩ := o
  simp only at h hc
  cases op <;> simp only [opO] at h
  case move x =>
    obtain ⟨h1, rfl⟩ := pair_inv h
    exact ⟨⟨_, w, μ, .inl rfl, hr _ _ h1, Stp.refl hi⟩, rfl, rfl⟩
  case assign x =>
    obtain ⟨h1, rfl⟩ := pair_inv h
    exact ⟨⟨_, w, μ, .inl rfl, hr _ _ h1, Stp.refl hi⟩, rfl, rfl⟩
  case pick c x y =>
    split at h
    · rename_i hb
      obtain ⟨h1, rfl⟩ := pair_inv h
      have hb' := bool_inv (hr _ _ hb)
      exact ⟨⟨_, w, μ, .inl (by simp [execOp, hb', asBool]), hr _ _ h1, Stp.refl hi⟩, rfl, rfl⟩
    · rename_i hb
      obtain ⟨h1, rfl⟩ := pair_inv h
      have hb' := bool_inv (hr _ _ hb)
      exact ⟨⟨_, w, μ, .inl (by simp [execOp, hb', asBool]), hr _ _ h1, Stp.refl hi⟩, rfl, rfl⟩
    · cases h
  case alloc e =>
    split at h
    · rename_i z hz
      split at h
      · rename_i cs hcs
        simp only [Option.some.injEq, Prod.mk.injEq] at h
        obtain ⟨rfl, rfl⟩ := h
        obtain ⟨i, z', h1, h2, h3⟩ := zero_sound (μ := μ) hz
        obtain ⟨vs, h4, h5⟩ := cells_sound hcs h3.vr
        obtain ⟨h6, h7⟩ := new_sound hi e cs vs h4
        refine ⟨⟨_, _, _, .inl ?_, h6, h7⟩, rfl, rfl⟩
        simp [execOp, Instr.alloc, zeroValue, typeInfo, h1, h2, newVar, Go.newRow, h5]
      · cases h
    · cases h
  case box e x =>
    split at h
    · rename_i u hu
      split at h
      · rename_i cs hcs
        simp only [Option.some.injEq, Prod.mk.injEq] at h
        obtain ⟨rfl, rfl⟩ := h
        obtain ⟨vs, h4, h5⟩ := cells_sound hcs (hr _ _ hu)
        obtain ⟨h6, h7⟩ := new_sound hi e cs vs h4
        refine ⟨⟨_, _, _, .inl ?_, h6, h7⟩, rfl, rfl⟩
        simp [execOp, Instr.box, newVar, Go.newRow, h5]
      · cases h
    · cases h
  case build t ps =>
    split at h
    · rename_i l hl
      obtain ⟨h1, rfl⟩ := pair_inv h
      obtain ⟨v', h2, h3⟩ := build_sound h1 (evParts_sound hr hl)
      refine ⟨⟨v', w, μ, .inl ?_, h2, Stp.refl hi⟩, rfl, rfl⟩
      have he : (ps.map fun p => (p.1, a.eval p.2)) = (ps.toList.map fun p => (p.1, a.eval p.2)).toArray := by
        apply Array.ext'; simp
      simp only [execOp, Sem.run_bind]
      rw [he, h3]
      rfl
    · cases h
  case buildSlice t n ps =>
    split at h
    · rename_i l e hl hu
      split at h
      · rename_i size hs
        split at h
        · rename_i zs hn hz
          split at h
          · rename_i cs hf
            simp only [Option.some.injEq, Prod.mk.injEq] at h
            obtain ⟨rfl, rfl⟩ := h
            obtain ⟨v', w', μ', h2, h3, h4⟩ := buildSlice_sound hi hu hs (ble_iff.1 hn) hz hf (evParts_sound hr hl)
            refine ⟨⟨v', w', μ', .inl ?_, h3, h4⟩, rfl, rfl⟩
            have he : (ps.map fun p => (p.1, a.eval p.2)) = (ps.toList.map fun p => (p.1, a.eval p.2)).toArray := by
              apply Array.ext'; simp
            simp only [execOp, Sem.run_bind]
            rw [he, h2]
            rfl
          · cases h
        · cases h
      · cases h
    · cases h
  case load t x =>
    split at h
    · rename_i q hq
      obtain ⟨h1, rfl⟩ := pair_inv h
      obtain ⟨c, hc', he⟩ := hr _ _ hq
      obtain ⟨v', h2, h3⟩ := load_sound hi.rel h1 hc'
      refine ⟨⟨v', w, μ, .inl ?_, h2.vr, Stp.refl hi⟩, rfl, rfl⟩
      simp [execOp, Instr.loadAt, he, Instr.sureAddr, h3]
    · cases h
  case store t x y =>
    split at h
    · rename_i q u hq hu
      split at h
      · rename_i s1 hs
        simp only [Option.some.injEq, Prod.mk.injEq] at h
        obtain ⟨rfl, rfl⟩ := h
        obtain ⟨c, hc', he⟩ := hr _ _ hq
        obtain ⟨w', h2, h3, h4, h5⟩ := store_sound hi hs hc' (hr _ _ hu)
        refine ⟨⟨undef, w', μ, .inr ⟨?_, rfl⟩, VR.und, h3⟩, h4, h5⟩
        simp [execOp, Instr.storeAt, he, Instr.sureAddr, h2]
      · cases h
    · cases h
  case nilCheck x =>
    split at h
    · rename_i q hq
      simp only [Option.some.injEq, Prod.mk.injEq] at h
      obtain ⟨rfl, rfl⟩ := h
      obtain ⟨c, hc', he⟩ := hr _ _ hq
      exact ⟨⟨_, w, μ, .inl (by simp [execOp, he]), ⟨c, hc', rfl⟩, Stp.refl hi⟩, rfl, rfl⟩
    · rename_i f caps hq
      simp only [Option.some.injEq, Prod.mk.injEq] at h
      obtain ⟨rfl, rfl⟩ := h
      obtain ⟨cs, hc', he⟩ := hr _ _ hq
      exact ⟨⟨_, w, μ, .inl (by simp [execOp, he]), ⟨cs, hc', rfl⟩, Stp.refl hi⟩, rfl, rfl⟩
    · cases h
  case binOp op t x y yt =>
    split at h
    · rename_i u1 u2 h1 h2
      obtain ⟨h3, rfl⟩ := pair_inv h
      obtain ⟨v', h4, h5⟩ := bin_sound h3 (hr _ _ h1) (hr _ _ h2)
      refine ⟨⟨v', w, μ, .inl ?_, h4, Stp.refl hi⟩, rfl, rfl⟩
      have := h5 w
      simp only [execOp]
      rw [Sem.run_bind, this]
      rfl
    · cases h
  case unOp op t x =>
    split at h
    · rename_i u1 h1
      obtain ⟨h3, rfl⟩ := pair_inv h
      obtain ⟨v', h4, h5⟩ := un_sound (P := E.P) h3 (hr _ _ h1)
      exact ⟨⟨v', w, μ, .inl (by simp [execOp, h5]), h4, Stp.refl hi⟩, rfl, rfl⟩
    · cases h
  case convert src dst x =>
    split at h
    · rename_i u1 h1
      obtain ⟨⟨v', w', μ', h4, h5, h6⟩, h7⟩ := conv_sound hi h (hr _ _ h1)
      exact ⟨⟨v', w', μ', .inl (by simp [execOp, h4]), h5, h6⟩, h7⟩
    · cases h
  case makeInterface t x =>
    split at h
    · rename_i u1 d h1 hu
      split at h
      · cases h
      · rename_i hs
        simp only [Option.some.injEq, Prod.mk.injEq] at h
        obtain ⟨rfl, rfl⟩ := h
        refine ⟨⟨_, w, μ, .inl ?_, ⟨_, scalar_sound hs (hr _ _ h1), rfl⟩, Stp.refl hi⟩, rfl, rfl⟩
        simp only [execOp, Instr.makeInterface, Sem.run_bind, run_underlying hu, Result.andThen_ok]
        rfl
      · cases h
    · cases h
  case makeFunc fn first caps =>
    cases fn <;> simp only at h
    case func f =>
      split at h
      · rename_i vs hf hv
        split at h
        · rename_i l hl
          simp only [Option.some.injEq, Prod.mk.injEq] at h
          obtain ⟨rfl, rfl⟩ := h
          obtain ⟨cs, h2, h3⟩ := addrs_sound hl (evs_sound hr hv)
          refine ⟨⟨_, w, μ, .inl ?_, ⟨cs, h2, rfl⟩, Stp.refl hi⟩, rfl, rfl⟩
          have hfe : first = #[] := Array.size_eq_zero_iff.1 hf
          have he : caps.map a.eval = (cs.map fun c => Value.pointer (some c)).toArray := by
            apply Array.ext'
            rw [← h3]
            simp
          simp [execOp, Instr.makeFunc, hfe, he]
        · cases h
      · cases h
    all_goals cases h
  case makeSlice t l c =>
    split at h
    · rename_i l1 c1 e hl hcv hu
      split at h
      · rename_i l2 c2 i hl2 hc2 hinf
        split at h
        · rename_i zs hcond hz
          simp only [Bool.and_eq_true, ble_iff] at hcond
          obtain ⟨k1, he1⟩ := nat_sound hl2 (hr _ _ hl)
          obtain ⟨k2, he2⟩ := nat_sound hc2 (hr _ _ hcv)
          obtain ⟨i', z, vs, g1, g2, g3, g4, g5⟩ := zeros_sound (μ := μ) hz
          rw [hinf] at g1
          injection g1 with g1
          subst g1
          have hrun := makeSlice_run (P := E.P) (w := w) (k1 := k1) (k2 := k2) hu hinf g2 hcond.1 hcond.2.1 hcond.2.2
          have hsz : (madeCells z.cells (c2 * i.size)).size = c2 * i.size := size_madeCells _ _
          split at h
          · rename_i heq
            have heq := Nat.eq_of_beq_eq_true heq
            subst heq
            simp only [Option.some.injEq, Prod.mk.injEq] at h
            obtain ⟨rfl, rfl⟩ := h
            have hzl := g5.length
            simp at hzl
            have hstp := Stp.alloc hi e zs false (madeCells z.cells (l2 * i.size)) (0, 0) (by omega) (by rw [List.take_of_length_le (by simp; omega)]; exact g5) (by simp) (by simp)
            refine ⟨⟨.slice (some ⟨w.heap.size, 0, none⟩) l2 l2, _, _, .inl ?_, ?_, hstp⟩, rfl, rfl⟩
            · simp [execOp, he1, he2, hrun]
            · exact ⟨w.heap.size, _, l2, Mp.put_same _ _ _ _, rfl, Nat.le_refl _, by rw [hsz]; show 0 + _ ≤ _; omega⟩
          · split at h
            · simp only [Option.some.injEq, Prod.mk.injEq] at h
              obtain ⟨rfl, rfl⟩ := h
              have hstp := Stp.alloc hi e [] false (madeCells z.cells (c2 * i.size)) (0, 0) (by simp) (by simp [LR]) (by simp) (by simp)
              refine ⟨⟨.slice (some ⟨w.heap.size, 0, none⟩) 0 c2, _, _, .inl ?_, ?_, hstp⟩, rfl, rfl⟩
              · simp only [execOp, he1, he2, Sem.run_bind, hrun]
                rfl
              · exact ⟨w.heap.size, _, c2, Mp.put_same _ _ _ _, rfl, Nat.zero_le _, by rw [hsz]; show 0 + _ ≤ _; omega⟩
            · cases h
        · cases h
      · cases h
    · cases h
  case slice t x lo hi' mx =>
    cases mx with
    | some _ => cases h
    | none =>
      simp only at h
      split at h
      · rename_i u1 l1 h1 hx hl hh
        obtain ⟨h3, rfl⟩ := pair_inv h
        obtain ⟨v', h4, h5⟩ := slice_sound (P := E.P) h3 (hr _ _ hx) (evO_sound hr hl) (evO_sound hr hh)
        refine ⟨⟨v', w, μ, .inl ?_, h4, Stp.refl hi⟩, rfl, rfl⟩
        have := h5 w
        simp only [execOp, Sem.run_bind, Option.map_none]
        rw [this]
        rfl
      · cases h
  case fieldAddr t x f =>
    split at h
    · rename_i u1 h1
      obtain ⟨h3, rfl⟩ := pair_inv h
      obtain ⟨v', h4, h5⟩ := fieldAddr_sound (P := E.P) h3 (hr _ _ h1)
      exact ⟨⟨v', w, μ, .inl (by simp only [execOp, Sem.run_bind, h5]; rfl), h4, Stp.refl hi⟩, rfl, rfl⟩
    · cases h
  case field t x f =>
    split at h
    · rename_i u1 h1
      obtain ⟨h3, rfl⟩ := pair_inv h
      obtain ⟨v', h4, h5⟩ := field_sound (P := E.P) h3 (hr _ _ h1)
      exact ⟨⟨v', w, μ, .inl (by simp only [execOp, Sem.run_bind, h5]; rfl), h4, Stp.refl hi⟩, rfl, rfl⟩
    · cases h
  case indexAddr t x i =>
    split at h
    · rename_i u1 u2 h1 h2
      obtain ⟨h3, rfl⟩ := pair_inv h
      obtain ⟨v', h4, h5⟩ := indexAddr_sound (P := E.P) h3 (hr _ _ h1) (hr _ _ h2)
      exact ⟨⟨v', w, μ, .inl (by simp only [execOp, Sem.run_bind, h5]; rfl), h4, Stp.refl hi⟩, rfl, rfl⟩
    · cases h
  case index t x i =>
    split at h
    · rename_i u1 u2 h1 h2
      obtain ⟨h3, rfl⟩ := pair_inv h
      obtain ⟨v', h4, h5⟩ := index_sound (P := E.P) h3 (hr _ _ h1) (hr _ _ h2)
      exact ⟨⟨v', w, μ, .inl (by simp only [execOp, Sem.run_bind, h5]; rfl), h4, Stp.refl hi⟩, rfl, rfl⟩
    · cases h
  case extract x i =>
    split at h
    · rename_i vs h1
      obtain ⟨h3, rfl⟩ := pair_inv h
      obtain ⟨us, hu, he⟩ := hr _ _ h1
      obtain ⟨u, h4, h5⟩ := hu.get _ _ h3
      exact ⟨⟨u, w, μ, .inl (by simp [execOp, Instr.extract, he, h4]), h5.vr, Stp.refl hi⟩, rfl, rfl⟩
    · cases h
  case call c =>
    split at h
    · cases h
    · rename_i args ha
      split at h
      · rename_i f hf
        exact absurd hf (hc c f rfl)
      · rename_i b hb
        obtain ⟨⟨v', w', μ', h4, h5⟩, h6⟩ := builtin_sound (ty := type) (consts := c.args.map fun | .const _ => true | _ => false) hi h (evs_sound hr ha)
        refine ⟨⟨v', w', μ', .inl ?_, h5⟩, h6⟩
        have he : c.args.map a.eval = (c.args.toList.map a.eval).toArray := by apply Array.ext'; simp
        simp only [execOp, resolve, hb, Sem.run_bind, Sem.run_pure, Result.andThen_ok, invoke]
        rw [he]
        exact h4
      · cases h
  all_goals cases h

/-- every operation -/
theorem op_sound (hE : EnvOk E base) (hi : Inv base μ s w) (hr : RhoOk μ ρ a) {v : AV} (h : opO E ρ s o.op = some (v, s')) :
    ∀ (K : Act → World → Prop) (Q : Exit → Act → World → Prop), (∀ v' w' μ', VR μ' v v' → Stp base μ μ' s s' w w' → K (a.put o.dst v') w') → o.wp E.P a w K Q := by
  by_cases hc : ∃ c f, o.op = .call c ∧ c.callee = .value f
  · obtain ⟨c, f, ho, hf⟩ := hc
    rw [ho] at h
    simp only [opO] at h
    split at h
    · cases h
    · rename_i args ha
      rw [hf] at h
      simp only at h
      split at h
      · rename_i F hF
        have hargs := evs_sound hr ha
        have hFv := hr _ _ hF
        have he : c.args.map a.eval = (c.args.toList.map a.eval).toArray := by apply Array.ext'; simp
        generalize c.args.toList.map a.eval = us at *
        unfold callO at h
        split at h
        · rename_i fn cap
          obtain ⟨cs, hcap, hfe⟩ := hFv
          have hall : LR (VR μ) (args ++ cap.map AV.ptr) (us ++ cs.map fun c => Value.pointer (some c)) := by
            refine hargs.append ?_
            clear hfe h hF
            induction cap generalizing cs with
            | nil => rw [hcap.nil_left]; trivial
            | cons q r ih =>
              obtain ⟨c', cs', rfl, h1, h2⟩ := hcap.cons_left
              exact ⟨⟨c', h1, rfl⟩, ih _ h2⟩
          have hres : ∀ w, (execOp a.eval o).run E.P w = (callFunc fn (us ++ cs.map fun c => Value.pointer (some c)).toArray).run E.P w := fun w => by
            simp only [execOp, ho, resolve, hf, hfe, he, Deferred.ofValue, Sem.run_bind, Sem.run_pure, Result.andThen_ok, invoke]
            congr 2
            apply Array.ext'
            simp
          split at h
          · -- handed back
            rename_i x hs
            simp only [Option.some.injEq, Prod.mk.injEq] at h
            obtain ⟨rfl, rfl⟩ := h
            obtain ⟨x', us', rfl, hx, hu'⟩ := hargs.cons_left
            have := hu'.nil_left
            subst this
            have := hcap.nil_left
            subst this
            intro K Q hk
            have hrr := hE.same fn x' w hs
            unfold Oper.wp
            rw [hres]
            simp only [List.map_nil, List.append_nil]
            rw [hrr]
            exact hk _ _ μ hx (Stp.refl hi)
          · cases h
          · split at h
            · -- known
              rename_i v0 hkn
              simp only [Option.some.injEq, Prod.mk.injEq] at h
              obtain ⟨rfl, rfl⟩ := h
              obtain ⟨_, h2, h3⟩ := hE.known _ _ _ hkn
              intro K Q hk
              unfold Oper.wp
              rw [hres, h2]
              refine (h3 μ _ w hall).mono ?_
              rintro e w' ⟨v', rfl, hv, hb⟩
              exact hk _ _ μ hv (Stp.of_below hi hb)
            · -- a call
              obtain ⟨h2, h3⟩ := hE.call _ _ _ _ _ h
              intro K Q hk
              unfold Oper.wp
              rw [hres, h2]
              refine (h3 μ w _ hi hall).mono ?_
              rintro e w' ⟨v', μ', rfl, hv, hst⟩
              exact hk _ _ μ' hv hst
        · cases h
      · cases h
  · obtain ⟨h1, h2⟩ := op_run hi hr h (fun c f h1 h2 => hc ⟨c, f, h1, h2⟩)
    exact fun K Q hk => wp_of_run h1 hk

theorem want_sound (ht : TmRel μ f a) (ops : Array Oper) (o : Oper) : wantO f ops o = Region.wanted o (yielded ops a.tmps) := by
  unfold wantO Region.wanted
  cases o.guard with
  | none => rfl
  | some p =>
    obtain ⟨j, want⟩ := p
    simp only
    have hy : yieldO f ops j = yielded ops a.tmps j := by
      unfold yieldO yielded
      cases hd : (ops[j]?).bind (·.dst) with
      | none => rfl
      | some t =>
        have := ht.tmp t
        simp only [Option.bind_some]
        cases hg : f.tm.get t with
        | none =>
          rw [hg] at this
          have hu : a.tmps.getD t undef = undef := by
            obtain ⟨vs, h1, h2⟩ := this
            rw [h1.nil_left] at h2
            exact h2
          cases hq : a.tmps[t]? with
          | none => rfl
          | some q =>
            have : q = undef := by simpa [hq] using hu
            subst this
            rfl
        | some x =>
          rw [hg] at this
          have hv : VR μ x (a.tmps.getD t undef) := this
          cases hq : a.tmps[t]? with
          | none =>
            have hu : a.tmps.getD t undef = undef := by simp [hq]
            rw [hu] at hv
            cases x <;> first | rfl | (cases (show undef = Value.bool _ from hv))
          | some q =>
            have hu : a.tmps.getD t undef = q := by simp [hq]
            rw [hu] at hv
            cases x
            case bool b => rw [bool_inv hv]
            all_goals
              cases q <;> first | rfl | (simp [VR, V1, CR, SR] at hv)
    rw [hy]
    cases yielded ops a.tmps j <;> rfl

/-- one operation of a region -/
theorem one_sound (hE : EnvOk E base) (hi : Inv base μ s w) (ht : TmRel μ f a) {ops : Array Oper} (h : oneO E ops o f s = some (f', s')) {i : Nat} (ho : ops[i]? = some o) (K : Act → World → Prop) (Q : Exit → Act → World → Prop)
    (hk : ∀ μ' w' v', Stp base μ μ' s s' w w' → TmRel μ' f' (a.put o.dst v') → K (a.put o.dst v') w') : wpOp E.P ops Q i K a w := by
  unfold oneO at h
  unfold wpOp
  simp only [ho]
  rw [← want_sound ht]
  split at h
  · rename_i hw
    rw [if_pos hw]
    split at h
    · rename_i v s1 h1
      split at h
      · rename_i f1 hp
        simp only [Option.some.injEq, Prod.mk.injEq] at h
        obtain ⟨rfl, rfl⟩ := h
        have h4 := op_sound hE hi (ev_sound hi ht) h1
        refine .inl (h4 K Q fun v' w' μ' hv hst => ?_)
        exact hk μ' w' v' hst ((ht.mono hst.ext).put hp hv)
      · cases h
    · cases h
  · rename_i hw
    rw [if_neg (by simp [hw])]
    split at h
    · rename_i f1 hp
      simp only [Option.some.injEq, Prod.mk.injEq] at h
      obtain ⟨rfl, rfl⟩ := h
      exact hk μ w undef (Stp.refl hi) (ht.put hp VR.und)
    · cases h

/-- a region in the order of the text -/
theorem ops_sound (hE : EnvOk E base) {ops : Array Oper} (Q : Exit → Act → World → Prop) : ∀ (l : List Oper) (k : Nat) (f f' : Fr) (s s' : St) (μ : Mp) (w : World) (a : Act), ops.toList.drop k = l → opsO E ops l f s = some (f', s') → Inv base μ s w → TmRel μ f a → a.defers = [] →
    (∀ μ' w' a', Stp base μ μ' s s' w w' → TmRel μ' f' a' → a'.defers = [] → Q .normal a' w') → wpOps E.P ops Q (List.range' k l.length) a w
  | [], k, f, f', s, s', μ, w, a, _, h, hi, ht, hd, hq => by
    simp [opsO] at h
    obtain ⟨rfl, rfl⟩ := h
    exact hq μ w a (Stp.refl hi) ht hd
  | o :: l, k, f, f', s, s', μ, w, a, hl, h, hi, ht, hd, hq => by
    simp only [opsO] at h
    split at h
    · rename_i f1 s1 h1
      have ho : ops[k]? = some o := by
        have : (ops.toList.drop k)[0]? = some o := by rw [hl]; rfl
        rw [List.getElem?_drop] at this
        simpa using this
      rw [List.length_cons, List.range'_succ, wpOps_cons]
      refine one_sound hE hi ht h1 ho _ _ fun μ1 w1 v1 hst ht1 => ?_
      refine ops_sound hE Q l (k + 1) f1 f' s1 s' μ1 w1 _ ?_ h (hi.after hst) ht1 ?_ ?_
      · rw [← List.drop_drop, hl]; rfl
      · cases o.dst <;> exact hd
      · intro μ' w' a' h2 h3 h4
        exact hq μ' w' a' (hst.trans hi h2) h3 h4
    · cases h
end
end Go.AM
