/-
  Regions that draw their order: one operation, in any order.
-/
import Derived.Test.YtoigjpkdcadlnaaGreatDoorAmDraw5
namespace Go.AM
open Go Go.RowKit Go.Lib

section
variable {E : Env} {base : Nat} {ops : Array Oper} {F : Nat → Fr} {S Y : Nat → St} {μ0 : Mp} {w0 : World} {l : Array Bool} {μ μ' : Mp} {f f' : Fr} {t t' : T Row} {a : Act} {w w' : World} {s s' : St} {ρ : Operand → Option AV} {o : Oper}

theorem store_run (hi : Inv base μ s w) (hr : RhoOk μ ρ a) (hp : isStore o.op = true) {v : AV} (h : opO E ρ s o.op = some (v, s')) :
    ∃ w', (execOp a.eval o).run E.P w = .ok .skip w' ∧ Stp base μ μ s s' w w' := by
  obtain ⟨dst, op, type, pos, after, guard⟩ := o
  simp only at h hp
  cases op <;> first | (exfalso; revert hp; simp [isStore]; done) | skip
  case store t x y =>
    simp only [opO] at h
    split at h
    · rename_i q u hq hu
      split at h
      · rename_i s1 hs
        simp only [Option.some.injEq, Prod.mk.injEq] at h
        obtain ⟨rfl, rfl⟩ := h
        obtain ⟨c, hc', he⟩ := hr _ _ hq
        obtain ⟨w', h2, h3, h4, h5⟩ := store_sound hi hs hc' (hr _ _ hu)
        refine ⟨w', ?_, h3⟩
        simp [execOp, Instr.storeAt, he, Instr.sureAddr, h2]
      · cases h
    · cases h

theorem Txt.find (hT : Txt E base ops F S Y) {b : Nat} : ∀ {i : Nat}, i ≤ ops.size → b < (S i).nx → b < (S 0).nx ∨ ∃ j, j < i ∧ (S j).nx ≤ b ∧ b < (S (j + 1)).nx
  | 0, _, h => .inl h
  | i + 1, hi, h => by
    rcases Nat.lt_or_ge b (S i).nx with hb | hb
    · rcases hT.find (i := i) (by omega) hb with h1 | ⟨j, h1, h2⟩
      · exact .inl h1
      · exact .inr ⟨j, by omega, h2⟩
    · exact .inr ⟨i, by omega, hb, h⟩

/-- an operation that is not wanted -/
theorem DI.skip (hT : Txt E base ops F S Y) (h0 : Inv base μ0 (S 0) w0) (h : DI base ops F S μ0 w0 (In l) μ f t a w) {i : Nat} (ho : ops[i]? = some o) (hi : i ∈ Region.ready .any ops l) (hc : Closed ops l)
    {v : AV} {v' : Value} (hpF : put (F i) o.dst v = some (F (i + 1))) (hpf : put f o.dst v = some f') (hS : S (i + 1) = S i)
    (hst : Stp base μ μ' (sD ops S t) (sD ops S t) w w') (hd : ∀ b g x, μ' b g = some x → μ b g = some x) (hv : VR μ' v v') : DI base ops F S μ0 w0 (In' l i) μ' f' t (a.put o.dst v') w' := by
  have hno : ∀ b, ¬ Chg ops S i b := fun b hb => by
    obtain ⟨_, hb⟩ := hb
    rw [hS] at hb
    rcases hb with ⟨h1, h2⟩ | ⟨_, h2⟩
    · omega
    · exact h2 rfl
  refine h.next hT h0 ho hi hc hpF hpf hst hv (fun b g x hm => .inr ⟨⟨g, x, hd b g x hm⟩, hno b, rfl⟩) (fun b g x hm => ?_) fun _ b hb => absurd hb (hno b)
  rcases h.dom b g x (hd b g x hm) with h1 | ⟨j, h1, h2⟩
  · exact .inl h1
  · exact .inr ⟨j, .inl h1, h2⟩

theorem sD_low (hin : Inv base μ (sD ops S t) w) : Inv base μ { sD ops S t with low := (sD ops S t).nx } w :=
  ⟨hin.rel, hin.dom, Nat.le_refl _, hin.size, hin.glob, hin.wf⟩

/-- from a step that writes nothing -/
theorem quiet_step (hT : Txt E base ops F S Y) (hst : Stp base μ μ' { sD ops S t with low := (sD ops S t).nx } { sD ops S t with low := (sD ops S t).nx } w w') :
    Stp base μ μ' (sD ops S t) (sD ops S t) w w' ∧ ∀ b g x, μ' b g = some x → μ b g = some x := by
  have hl : (sD ops S t).low ≤ (sD ops S t).nx := by
    show (S ops.size).low ≤ (S ops.size).nx
    have := hT.low_nx
    have := hT.nx_le (i := 0) (Nat.zero_le _) (Nat.le_refl _)
    omega
  refine ⟨hst.raise (low := (sD ops S t).low) (low' := (sD ops S t).low) (Nat.le_refl _) hl, fun b g x hm => ?_⟩
  obtain ⟨blk, n⟩ := x
  have hd := hst.dom b g _ hm
  rcases hst.new b g blk n hm with h | ⟨h, _⟩ | ⟨h1, h2, _⟩
  · exact h
  · omega
  · have h1 : (sD ops S t).nx ≤ b := h1
    have h2 : b < (sD ops S t).nx := h2
    omega

/-- an operation whose memory stands as in the order of the text -/
theorem DI.whole (hT : Txt E base ops F S Y) (h0 : Inv base μ0 (S 0) w0) (h : DI base ops F S μ0 w0 (In l) μ f t a w) {i : Nat} (ho : ops[i]? = some o) (hi : i ∈ Region.ready .any ops l) (hc : Closed ops l)
    (hs : StepT E ops (kindOf ops) F S Y i o) (hpu : isPure o.op = false) (hk : kindOf ops i = 0 ∨ kindOf ops i = 1) {v : AV} (hpF : put (F i) o.dst v = some (F (i + 1))) (hpf : put f o.dst v = some f')
    (hop : opO E (Go.AM.ev (F i) (S i).gl) (preOf (kindOf ops) S i) o.op = some (v, Y i)) {Q : Exit → Act → World → Prop} {K : Act → World → Prop} (hK : ∀ μ' f' t' a' w', DI base ops F S μ0 w0 (In' l i) μ' f' t' a' w' → K a' w') : o.wp E.P a w K Q := by
  have his : i < ops.size := (Array.getElem?_eq_some_iff.1 ho).1
  have hin := h.inv hT h0
  have hnot := ready_not hi
  have hgl := hT.gl_eq (k := i) (by omega)
  generalize hsi : preOf (kindOf ops) S i = si at *
  have e1 : si.nx = (S i).nx := by rw [← hsi]; unfold preOf; split <;> rfl
  have e2 : si.hp = (S i).hp := by rw [← hsi]; unfold preOf; split <;> rfl
  have e3 : si.gl = (S 0).gl := by rw [← hgl, ← hsi]; unfold preOf; split <;> rfl
  have e4 : (Y i).nx = (S (i + 1)).nx := by rw [hs.next]; split <;> rfl
  have e5 : (Y i).hp = (S (i + 1)).hp := by rw [hs.next]; split <;> rfl
  have n1 := hT.nx_le (i := 0) (k := i) (by omega) (by omega)
  have n2 := (hT.tf his).nx
  have n3 := hT.nx_le (i := i + 1) (k := ops.size) (by omega) (by omega)
  have n4 := hT.low_nx
  obtain ⟨μ1, w1, a1, hin1, htm1⟩ := hT.chain i (by omega)
  have hsmall : Small μ1 (S i).nx := hin1.dom
  have hgood : ∀ b g x, μ b g = some x → b < (S i).nx → Good ops S (In l) i b := fun b g x hm hb =>
    h.good hT ho hi hc hpu (hk.imp id fun hk => .inl ⟨⟨g, x, hm⟩, hb, .inl hk⟩)
  have hrow : ∀ b g x, μ b g = some x → b < (S i).nx → t.get b = (S i).hp.get b := fun b g x hm hb => h.cons b g x hm i (by omega) (hgood b g x hm hb) hb
  have hinv : Inv base (μ.lt si.nx) si w := by
    refine ⟨⟨fun b g blk n hm => ?_, fun b g blk n b' g' n' r hm hm' hg hown => ?_⟩, fun b g x hm => (Mp.lt_some.1 hm).1, ?_, hin.size, fun g hg => ?_, ?_⟩
    · obtain ⟨hb, hm⟩ := Mp.lt_some.1 hm
      rw [e1] at hb
      obtain ⟨r, h1, h2⟩ := hin.rel.row b g blk n hm
      have h1 : t.get b = some r := h1
      rw [hrow b g _ hm hb] at h1
      refine ⟨r, by rw [e2]; exact h1, h2.lt ?_⟩
      rw [e1]
      exact hin1.wf b r h1
    · obtain ⟨hb, hm⟩ := Mp.lt_some.1 hm
      rw [e1] at hb
      rw [e2, ← hrow b g _ hm hb] at hg
      exact hin.rel.sep _ _ _ _ _ _ _ _ hm (Mp.lt_some.1 hm').2 hg hown
    · rw [← hsi]
      unfold preOf
      split
      · exact Nat.le_refl _
      · exact hin1.low
    · rw [e3] at hg
      obtain ⟨n, hn⟩ := hin.glob g hg
      obtain ⟨n0, hn0⟩ := h0.glob g hg
      have := h0.dom _ _ _ hn0
      exact ⟨n, Mp.lt_some.2 ⟨by rw [e1]; omega, hn⟩⟩
    · rw [e1, e2]; exact hin1.wf
  have hev := h.ev hT ho hi hc (S 0).gl
  let ρ' : Operand → Option AV := fun x => open Classical in if x ∈ o.op.operands then Go.AM.ev f (S 0).gl x else none
  have hrho : RhoOk (μ.lt si.nx) ρ' a := by
    intro x u hx
    by_cases hmem : x ∈ o.op.operands
    · have hx : Go.AM.ev f (S 0).gl x = some u := by simpa [ρ', hmem] using hx
      rw [e1]
      refine VR.lt hsmall (ev_sound hin1 htm1 x u ?_) (ev_sound hin h.tm x u hx)
      rw [hgl, ← hev x hmem]
      exact hx
    · simp [ρ', hmem] at hx
  have hop' : opO E ρ' si o.op = some (v, Y i) := by
    rw [op_congr (ρ' := Go.AM.ev (F i) (S i).gl) o.op fun x hx => by simp only [ρ', hx, if_true]; rw [hev x hx, hgl]]
    exact hop
  refine op_sound hT.env hinv hrho hop' K Q fun v' w' μ2 hv hst => ?_
  have heq : ∀ q : T Row, ({ si with hp := q, nx := (S ops.size).nx, low := (S ops.size).low } : St) = sD ops S q := fun q => by
    unfold sD
    rw [e3]
  obtain ⟨t', t1, t2, t3⟩ := join_tree (Y i).hp t (Y i).nx (S ops.size).nx (by omega)
  have hx : ∀ b g x, μ b g = some x → b < si.nx ∨ (Y i).nx ≤ b := fun b g x hm => by
    rw [e1, e4]
    rcases h.dom b g x hm with hb | ⟨j, hj, hjs, c1, c2⟩
    · exact .inl (by omega)
    · rcases Nat.lt_trichotomy j i with hji | hji | hji
      · have := hT.nx_le (i := j + 1) (k := i) (by omega) (by omega)
        exact .inl (by omega)
      · subst hji; exact absurd hj hnot
      · have := hT.nx_le (i := i + 1) (k := j) (by omega) (by omega)
        exact .inr (by omega)
  have hlowY : (S ops.size).low ≤ (Y i).low := by
    rcases hk with hk | hk
    · have : S (i + 1) = Y i := by rw [hs.next]; simp [hk]
      rw [← this]
      exact hT.low_le (by omega) (Nat.le_refl _)
    · have := hs.low hk; omega
  have hsame : ∀ b, b < (S ops.size).low → (Y i).hp.get b = t.get b := fun b hb => by
    rw [e5, hT.same_low hb (k := i + 1) (by omega)]
    exact (h.stp.same b (by show b < (S ops.size).nx; omega) hb).symm
  have hwide := Stp.widen (t := t) (t' := t') (N := (S ops.size).nx) (low := (S ops.size).low) (by rw [heq]; exact hin) hx hst (by omega) hlowY (by omega) hsame t1 t2 t3
  rw [heq, heq] at hwide
  obtain ⟨hext, hst', hdom'⟩ := hwide
  refine hK _ f' t' _ _ (h.next hT h0 ho hi hc hpF hpf hst' (hv.mono hext) ?_ ?_ ?_)
  · intro b g x hm
    by_cases hb : b < (Y i).nx
    · refine .inl ⟨?_, by omega, by rw [t1 b hb, e5]⟩
      rcases hdom' b g x hm with ⟨x', hm'⟩ | ⟨c1, c2⟩ | ⟨c1, c2⟩
      · refine hgood b g x' hm' ?_
        rcases hx b g x' hm' with c | c <;> omega
      · exact h.good hT ho hi hc hpu (hk.imp id fun hk => .inr ⟨by omega, by omega, .inl hk⟩)
      · rcases hk with hk | hk
        · exact h.good hT ho hi hc hpu (.inl hk)
        · have := hs.low hk; omega
    · have hbN : b < (S ops.size).nx := hst'.dom b g x hm
      refine .inr ⟨?_, ?_, t2 b (by omega) hbN⟩
      · rcases hdom' b g x hm with ⟨x', hm'⟩ | ⟨c1, c2⟩ | ⟨c1, c2⟩
        · exact ⟨g, x', hm'⟩
        · omega
        · omega
      · rintro ⟨_, ⟨_, c⟩ | ⟨c, _⟩⟩ <;> omega
  · intro b g x hm
    rcases hdom' b g x hm with ⟨x', hm'⟩ | ⟨c1, c2⟩ | ⟨c1, c2⟩
    · rcases h.dom b g x' hm' with h1 | ⟨j, h1, h2⟩
      · exact .inl h1
      · exact .inr ⟨j, .inl h1, h2⟩
    · exact .inr ⟨i, .inr rfl, his, by omega, by omega⟩
    · rcases hk with hk | hk
      · rcases hT.find (i := i) (by omega) (show b < (S i).nx by omega) with h1 | ⟨j, hji, c3, c4⟩
        · exact .inl h1
        · refine .inr ⟨j, .inl ?_, by omega, c3, c4⟩
          obtain ⟨oj, hoj⟩ : ∃ oj, ops[j]? = some oj := ⟨ops[j], Array.getElem?_eq_getElem (by omega)⟩
          obtain ⟨hjp, _⟩ := hT.chg hoj ⟨by omega, .inl ⟨c3, c4⟩⟩
          have hord := (kind_spec ho).1 hk hpu j oj (by omega) hoj hjp
          exact (ready_order hT.ok hc hi hoj (by omega) hord).1 hji
      · have := hs.low hk; omega
  · intro hk3
    rcases hk with hk | hk <;> rw [hk] at hk3 <;> cases hk3
end
end Go.AM
