/-
  Regions that draw their order: every order comes to what the order of the text comes to.
-/
import Derived.Test.YtoigjpkdcadlnaaGreatDoorAmDraw4
namespace Go.AM
open Go Go.RowKit Go.Lib

section
variable {E : Env} {base : Nat} {ops : Array Oper} {F : Nat → Fr} {S Y : Nat → St} {μ0 : Mp} {w0 : World} {l : Array Bool} {μ μ' : Mp} {f f' : Fr} {t t' : T Row} {a : Act} {w w' : World}

def In' (l : Array Bool) (i j : Nat) : Prop := In l j ∨ j = i

/-- memory as it stands when some operations are done -/
def sD (ops : Array Oper) (S : Nat → St) (t : T Row) : St := { S 0 with hp := t, nx := (S ops.size).nx, low := (S ops.size).low }

structure DI (base : Nat) (ops : Array Oper) (F : Nat → Fr) (S : Nat → St) (μ0 : Mp) (w0 : World) (D : Nat → Prop) (μ : Mp) (f : Fr) (t : T Row) (a : Act) (w : World) : Prop where
  stp : Stp base μ0 μ { S 0 with nx := (S ops.size).nx } (sD ops S t) w0 w
  tm : TmRel μ f a
  nt : f.nt = (F 0).nt
  cons : ∀ b g x, μ b g = some x → ∀ k, k ≤ ops.size → (∀ j, Chg ops S j b → (j < k ↔ D j)) → b < (S k).nx → t.get b = (S k).hp.get b
  tcons : ∀ d k, k ≤ ops.size → (∀ j o, ops[j]? = some o → o.dst = some d → (j < k ↔ D j)) → f.tm.get d = (F k).tm.get d
  dom : ∀ b g x, μ b g = some x → b < (S 0).nx ∨ ∃ j, D j ∧ j < ops.size ∧ (S j).nx ≤ b ∧ b < (S (j + 1)).nx
  sdom : ∀ j, D j → kindOf ops j = 3 → ∀ b, Chg ops S j b → ∃ g x, μ b g = some x
  defers : a.defers = []

def Good (ops : Array Oper) (S : Nat → St) (D : Nat → Prop) (i b : Nat) : Prop := ∀ j, Chg ops S j b → (j < i ↔ D j)

theorem DI.inv (hT : Txt E base ops F S Y) (h0 : Inv base μ0 (S 0) w0) {D : Nat → Prop} (h : DI base ops F S μ0 w0 D μ f t a w) : Inv base μ (sD ops S t) w := by
  have h1 : Inv base μ0 { S 0 with nx := (S ops.size).nx } w0 := by
    have := hT.nx_le (i := 0) (Nat.zero_le _) (Nat.le_refl _)
    exact ⟨h0.rel, fun b g x hm => Nat.lt_of_lt_of_le (h0.dom b g x hm) this, Nat.le_trans h0.low this, h0.size, h0.glob, h0.wf.mono this⟩
  exact h1.after h.stp

/-- one more operation is done -/
theorem DI.next (hT : Txt E base ops F S Y) (h0 : Inv base μ0 (S 0) w0) (h : DI base ops F S μ0 w0 (In l) μ f t a w) {i : Nat} {o : Oper} (ho : ops[i]? = some o) (hi : i ∈ Region.ready .any ops l) (hc : Closed ops l)
    {v : AV} {v' : Value} (hpF : put (F i) o.dst v = some (F (i + 1))) (hpf : put f o.dst v = some f')
    (hst : Stp base μ μ' (sD ops S t) (sD ops S t') w w') (hv : VR μ' v v')
    (hb : ∀ b g x, μ' b g = some x → (Good ops S (In l) i b ∧ b < (S (i + 1)).nx ∧ t'.get b = (S (i + 1)).hp.get b) ∨ ((∃ g' x', μ b g' = some x') ∧ ¬ Chg ops S i b ∧ t'.get b = t.get b))
    (hdom : ∀ b g x, μ' b g = some x → b < (S 0).nx ∨ ∃ j, In' l i j ∧ j < ops.size ∧ (S j).nx ≤ b ∧ b < (S (j + 1)).nx)
    (hsd : kindOf ops i = 3 → ∀ b, Chg ops S i b → ∃ g x, μ b g = some x) :
    DI base ops F S μ0 w0 (In' l i) μ' f' t' (a.put o.dst v') w' := by
  have hin := h.inv hT h0
  have h1 : Inv base μ0 { S 0 with nx := (S ops.size).nx } w0 := by
    have := hT.nx_le (i := 0) (Nat.zero_le _) (Nat.le_refl _)
    exact ⟨h0.rel, fun b g x hm => Nat.lt_of_lt_of_le (h0.dom b g x hm) this, Nat.le_trans h0.low this, h0.size, h0.glob, h0.wf.mono this⟩
  have his : i < ops.size := (Array.getElem?_eq_some_iff.1 ho).1
  have hnot := ready_not hi
  refine ⟨h.stp.trans h1 hst, (h.tm.mono hst.ext).put hpf hv, (put_get hpf).1.trans h.nt, ?_, ?_, hdom, ?_, ?_⟩
  · intro b g x hm k hk hp hbk
    rcases hb b g x hm with ⟨hg, hbn, ht⟩ | ⟨⟨g', x', hm'⟩, hnc, ht⟩
    · rw [ht]
      have hiff : ∀ j, Chg ops S j b → (j < k ↔ j < i + 1) := fun j hj => by
        have e1 := hp j hj
        have e2 := hg j hj
        by_cases hji : j = i
        · subst hji
          have : j < k := e1.2 (.inr rfl)
          constructor <;> intro <;> omega
        · constructor
          · intro h'
            rcases e1.1 h' with h'' | h''
            · have := e2.2 h''; omega
            · exact absurd h'' hji
          · intro h'
            exact e1.2 (.inl (e2.1 (by omega)))
      rcases Nat.le_total (i + 1) k with hik | hik
      · exact (hT.stay hbn hik hk fun j hj1 hj2 hj => by have := (hiff j hj).1 hj2; omega).symm
      · exact hT.stay hbk hik (by omega) fun j hj1 hj2 hj => by have := (hiff j hj).2 hj2; omega
    · rw [ht]
      refine h.cons b g' x' hm' k hk (fun j hj => ?_) hbk
      have hji : j ≠ i := fun e => by subst e; exact hnc hj
      rw [hp j hj]
      unfold In'
      simp [hji]
  · intro d k hk hp
    rw [(put_get hpf).2.2 d]
    by_cases hd : o.dst = some d
    · rw [if_pos hd]
      have hik : i < k := (hp i o ho hd).2 (.inr rfl)
      have : (F k).tm.get d = (F (i + 1)).tm.get d := hT.tstay (by omega) hk fun j oj hj1 hj2 hoj hjd => by
        rcases (hp j oj hoj hjd).1 hj2 with hj | hj
        · have hord : ordered ops i j = true := by
            cases hord : ordered ops i j with
            | true => rfl
            | false =>
              have := ((ok_at hT.ok hoj).2 i o (by omega) ho).2 hord
              exact absurd hjd ((Oper.apart_spec this).2.1 d hd)
          have := (ready_order hT.ok hc hi hoj (by omega) hord).2 hj
          omega
        · omega
      rw [this, (put_get hpF).2.2 d, if_pos hd]
    · rw [if_neg hd]
      refine h.tcons d k hk fun j oj hoj hjd => ?_
      have hji : j ≠ i := fun e => by subst e; rw [ho] at hoj; injection hoj with hoj; subst hoj; exact hd hjd
      rw [hp j oj hoj hjd]
      unfold In'
      simp [hji]
  · intro j hj hk b hcb
    rcases hj with hj | rfl
    · obtain ⟨g, x, hm⟩ := h.sdom j hj hk b hcb
      exact ⟨g, x, hst.ext _ _ _ hm⟩
    · obtain ⟨g, x, hm⟩ := hsd hk b hcb
      exact ⟨g, x, hst.ext _ _ _ hm⟩
  · cases o.dst <;> exact h.defers

/-- rows that stand as the order of the text has them -/
theorem DI.good (hT : Txt E base ops F S Y) (h : DI base ops F S μ0 w0 (In l) μ f t a w) {i : Nat} {o : Oper} (ho : ops[i]? = some o) (hi : i ∈ Region.ready .any ops l) (hc : Closed ops l) (hp : isPure o.op = false) {b : Nat}
    (hk : kindOf ops i = 0 ∨ ((∃ g x, μ b g = some x) ∧ b < (S i).nx ∧ (kindOf ops i = 1 ∨ ((kindOf ops i = 2 ∨ kindOf ops i = 3) ∧ rowOf ops F S i = some b))) ∨
      ((S i).nx ≤ b ∧ b < (S (i + 1)).nx ∧ (kindOf ops i = 1 ∨ kindOf ops i = 5))) : Good ops S (In l) i b := by
  intro j hj
  have hnot := ready_not hi
  have his : i < ops.size := (Array.getElem?_eq_some_iff.1 ho).1
  have hjs := hj.1
  by_cases hji : j = i
  · subst hji
    exact ⟨fun h => by omega, fun h => absurd h hnot⟩
  obtain ⟨oj, hoj⟩ : ∃ oj, ops[j]? = some oj := ⟨ops[j], Array.getElem?_eq_getElem hjs⟩
  obtain ⟨hjp, hjk⟩ := hT.chg hoj hj
  cases hord : ordered ops i j with
  | true => exact ready_order hT.ok hc hi hoj hji hord
  | false =>
    have hk0 : kindOf ops i ≠ 0 := fun e => by
      have := (kind_spec ho).1 e hp j oj hji hoj hjp
      rw [hord] at this; cases this
    have hk1 : kindOf ops i = 1 → isStore oj.op = true → False := fun e hs => by
      have := ((kind_spec ho).2.1 e).2 j oj hji hoj hs
      rw [hord] at this; cases this
    have hj0 : kindOf ops j ≠ 0 := fun e => by
      have := (kind_spec hoj).1 e hjp i o (fun e => hji e.symm) ho hp
      rw [ordered_comm, hord] at this; cases this
    have hstore : kindOf ops j = 3 → isStore oj.op = true := (kind_spec hoj).2.2.2.1
    rcases hjk with hjk | ⟨c1, c2, _⟩ | ⟨c1, c2, c3⟩
    · exact absurd hjk hj0
    · -- made by j
      rcases hk with hk | ⟨⟨g, x, hm⟩, hbn, _⟩ | ⟨d1, d2, _⟩
      · exact absurd hk hk0
      · have hjD : In l j := by
          rcases h.dom b g x hm with hb | ⟨j', hj', hjs', e1, e2⟩
          · have := hT.nx_le (i := 0) (k := j) (by omega) (by omega); omega
          · have := hT.new_one hjs hjs' c1 c2 e1 e2
            subst this; exact hj'
        refine ⟨fun _ => hjD, fun _ => ?_⟩
        rcases Nat.lt_or_ge j i with hlt | hge
        · exact hlt
        · have := hT.nx_le (i := i) (k := j) hge (by omega); omega
      · exact absurd (hT.new_one hjs his c1 c2 d1 d2) hji
    · -- a store of j
      rcases hk with hk | ⟨hm, hbn, hk | ⟨hk, hrow⟩⟩ | ⟨d1, d2, hk | hk⟩
      · exact absurd hk hk0
      · exact (hk1 hk (hstore c1)).elim
      · exfalso
        rcases Nat.lt_or_ge j i with hlt | hge
        · exact hT.tr.pair j i (Nat.zero_le _) hlt his (.inl ⟨c1, hk⟩) b c2 hrow
        · refine hT.tr.pair i j (Nat.zero_le _) (by omega) hjs ?_ b hrow c2
          rcases hk with hk | hk
          · exact .inr ⟨hk, c1⟩
          · exact .inl ⟨hk, .inr c1⟩
      · exact (hk1 hk (hstore c1)).elim
      · constructor
        · intro hlt
          have := hT.nx_le (i := j) (k := i) (by omega) (by omega); omega
        · intro hjD
          obtain ⟨g, x, hm⟩ := h.sdom j hjD c1 b hj
          rcases h.dom b g x hm with hb | ⟨j', hj', hjs', e1, e2⟩
          · have := hT.nx_le (i := 0) (k := i) (by omega) (by omega); omega
          · have := hT.new_one his hjs' d1 d2 e1 e2
            subst this; exact absurd hj' hnot

/-- what an operation looks at stands as the order of the text has it -/
theorem DI.looks (hT : Txt E base ops F S Y) (h : DI base ops F S μ0 w0 (In l) μ f t a w) {i : Nat} {o : Oper} (ho : ops[i]? = some o) (hi : i ∈ Region.ready .any ops l) (hc : Closed ops l) {d : Tmp} (hd : d ∈ o.looksAt ops) : f.tm.get d = (F i).tm.get d := by
  have his : i < ops.size := (Array.getElem?_eq_some_iff.1 ho).1
  refine h.tcons d i (by omega) fun j oj hoj hjd => ?_
  by_cases hji : j = i
  · subst hji
    exact ⟨fun h => by omega, fun h => absurd h (ready_not hi)⟩
  · cases hord : ordered ops i j with
    | true => exact ready_order hT.ok hc hi hoj hji hord
    | false =>
      exfalso
      rcases Nat.lt_or_ge j i with hlt | hge
      · have := ((ok_at hT.ok ho).2 j oj hlt hoj).2 (by rw [ordered_comm]; exact hord)
        exact (Oper.apart_spec this).1 d hjd hd
      · have := ((ok_at hT.ok hoj).2 i o (by omega) ho).2 hord
        exact (Oper.apart_spec this).2.2 d hjd hd

theorem DI.ev (hT : Txt E base ops F S Y) (h : DI base ops F S μ0 w0 (In l) μ f t a w) {i : Nat} {o : Oper} (ho : ops[i]? = some o) (hi : i ∈ Region.ready .any ops l) (hc : Closed ops l) (gl : Nat) : ∀ x ∈ o.op.operands, ev f gl x = ev (F i) gl x := by
  intro x hx
  cases x with
  | tmp d =>
    simp only [Go.AM.ev]
    rw [h.looks hT ho hi hc (d := d) (by
      unfold Oper.looksAt
      simp only [List.mem_append, List.mem_filterMap]
      exact .inl ⟨.tmp d, by simpa using hx, rfl⟩)]
  | _ => rfl

theorem DI.want (hT : Txt E base ops F S Y) (h : DI base ops F S μ0 w0 (In l) μ f t a w) {i : Nat} {o : Oper} (ho : ops[i]? = some o) (hi : i ∈ Region.ready .any ops l) (hc : Closed ops l) : wantO f ops o = wantO (F i) ops o := by
  unfold wantO
  cases hg : o.guard with
  | none => rfl
  | some p =>
    obtain ⟨j, want⟩ := p
    simp only
    have : yieldO f ops j = yieldO (F i) ops j := by
      unfold yieldO
      cases hd : (ops[j]?).bind (·.dst) with
      | none => rfl
      | some d =>
        simp only
        rw [h.looks hT ho hi hc (d := d) (by
          unfold Oper.looksAt
          simp [hg, hd])]
    rw [this]

theorem join_tree (t1 t2 : T Row) (N M : Nat) (h2 : N ≤ M) : ∃ t' : T Row, (∀ b, b < N → t'.get b = t1.get b) ∧ (∀ b, N ≤ b → b < M → t'.get b = t2.get b) ∧ ∀ b, M ≤ b → t'.get b = none := by
  obtain ⟨t', h1, h3⟩ := tree_of (fun b => if b < N then t1.get b else t2.get b) M
  refine ⟨t', fun b hb => ?_, fun b hb hb' => ?_, h3⟩
  · rw [h1 b (by omega)]; simp [hb]
  · rw [h1 b hb']
    have : ¬ b < N := by omega
    simp [this]
end
end Go.AM
