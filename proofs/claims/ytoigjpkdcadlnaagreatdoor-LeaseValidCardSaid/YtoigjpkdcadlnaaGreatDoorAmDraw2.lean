/-
  For regions that draw their order: what the run in the order of the text leaves behind, and steps of memory in a wider memory.
-/
import Derived.Test.YtoigjpkdcadlnaaGreatDoorAmDraw1
namespace Go.AM
open Go Go.RowKit Go.Lib

section
variable {E : Env} {ops : Array Oper} {kind : Nat → Nat}

noncomputable def rowOf (ops : Array Oper) (F : Nat → Fr) (S : Nat → St) (j : Nat) : Option Nat :=
  match ops[j]? with
  | some o => match wantO (F j) ops o with
    | true => rowAt (ev (F j) (S j).gl) o.op
    | false => none
  | none => none

def preOf (kind : Nat → Nat) (S : Nat → St) (j : Nat) : St := if kind j = 1 then { S j with low := (S j).nx } else S j

structure StepT (E : Env) (ops : Array Oper) (kind : Nat → Nat) (F : Nat → Fr) (S Y : Nat → St) (j : Nat) (o : Oper) : Prop where
  kd : kind j = 0 ∨ kind j = 1 ∨ kind j = 2 ∨ kind j = 3 ∨ kind j = 5
  one : oneO E ops o (F j) (preOf kind S j) = some (F (j + 1), Y j)
  next : S (j + 1) = if kind j = 1 then { Y j with low := (S j).low } else Y j
  low : kind j = 1 → (S j).nx ≤ (Y j).low

def soft (a b : Nat) : Prop := (a = 3 ∧ (b = 2 ∨ b = 3)) ∨ (a = 2 ∧ b = 3)

theorem memb_mem {n : Nat} : ∀ {l : List Nat}, memb n l = false → n ∉ l
  | [], _ => by simp
  | m :: l, h => by
    simp only [memb] at h
    split at h
    · cases h
    · rename_i hb
      have hne : n ≠ m := fun he => by subst he; simp at hb
      simp only [List.mem_cons, not_or]
      exact ⟨hne, memb_mem h⟩

structure Trace (E : Env) (ops : Array Oper) (kind : Nat → Nat) (i n : Nat) (rd wr : List Nat) (F : Nat → Fr) (S Y : Nat → St) : Prop where
  step : ∀ j, i ≤ j → j < n → ∃ o, ops[j]? = some o ∧ StepT E ops kind F S Y j o
  store : ∀ j, i ≤ j → j < n → kind j = 3 → ∀ c, rowOf ops F S j = some c → c ∉ rd ++ wr
  load : ∀ j, i ≤ j → j < n → kind j = 2 → ∀ c, rowOf ops F S j = some c → c ∉ wr
  pair : ∀ j k, i ≤ j → j < k → k < n → soft (kind j) (kind k) → ∀ c, rowOf ops F S j = some c → rowOf ops F S k ≠ some c

theorem Trace.cons {i n : Nat} {rd wr rd' wr' : List Nat} {F : Nat → Fr} {S Y : Nat → St} (hn : i < n) {f : Fr} {s y : St} {o : Oper} (ho : ops[i]? = some o)
    (ht : Trace E ops kind (i + 1) n rd' wr' F S Y) (hrd : ∀ c ∈ rd, c ∈ rd') (hwr : ∀ c ∈ wr, c ∈ wr')
    (hk : kind i = 0 ∨ kind i = 1 ∨ kind i = 2 ∨ kind i = 3 ∨ kind i = 5)
    (h1 : oneO E ops o f (if kind i = 1 then { s with low := s.nx } else s) = some (F (i + 1), y))
    (h2 : S (i + 1) = if kind i = 1 then { y with low := s.low } else y) (h3 : kind i = 1 → s.nx ≤ y.low)
    (h4 : ∀ c, wantO f ops o = true → rowAt (ev f s.gl) o.op = some c → (kind i = 3 → c ∉ rd ++ wr ∧ c ∈ wr') ∧ (kind i = 2 → c ∉ wr ∧ c ∈ rd')) :
    ∃ (F' : Nat → Fr) (S' Y' : Nat → St), F' i = f ∧ S' i = s ∧ (∀ j, j ≠ i → F' j = F j ∧ S' j = S j) ∧ Trace E ops kind i n rd wr F' S' Y' := by
  refine ⟨fun j => if j = i then f else F j, fun j => if j = i then s else S j, fun j => if j = i then y else Y j, by simp, by simp, fun j hj => by simp [hj], ?_⟩
  have hne : ∀ j, i + 1 ≤ j → (if j = i then f else F j) = F j ∧ (if j = i then s else S j) = S j ∧ (if j = i then y else Y j) = Y j := fun j hj => by
    have : j ≠ i := by omega
    simp [this]
  have hrow : ∀ j, i + 1 ≤ j → rowOf ops (fun j => if j = i then f else F j) (fun j => if j = i then s else S j) j = rowOf ops F S j := fun j hj => by
    unfold rowOf
    simp only [(hne j hj).1, (hne j hj).2.1]
  have hrow0 : ∀ c, rowOf ops (fun j => if j = i then f else F j) (fun j => if j = i then s else S j) i = some c → wantO f ops o = true ∧ rowAt (ev f s.gl) o.op = some c := fun c hc => by
    unfold rowOf at hc
    simp only [ho, if_true] at hc
    split at hc
    · exact ⟨by assumption, hc⟩
    · cases hc
  refine ⟨fun j hj hjn => ?_, fun j hj hjn hk3 c hc => ?_, fun j hj hjn hk2 c hc => ?_, fun j k hj hjk hkn hs c hc => ?_⟩
  · by_cases hji : j = i
    · subst hji
      refine ⟨o, ho, hk, ?_, ?_, ?_⟩
      · simpa [preOf] using h1
      · simpa using h2
      · simpa using h3
    · obtain ⟨o', h5, h6⟩ := ht.step j (by omega) hjn
      have e1 := hne j (by omega)
      have e2 := hne (j + 1) (by omega)
      refine ⟨o', h5, h6.kd, ?_, ?_, ?_⟩
      · have := h6.one
        simp only [preOf, e1.1, e1.2.1, e1.2.2, e2.1] at this ⊢
        exact this
      · simp only [e1.2.1, e1.2.2, e2.2.1]; exact h6.next
      · simp only [e1.2.1, e1.2.2]; exact h6.low
  · by_cases hji : j = i
    · subst hji
      obtain ⟨hw, hr⟩ := hrow0 c hc
      exact ((h4 c hw hr).1 hk3).1
    · rw [hrow j (by omega)] at hc
      have := ht.store j (by omega) hjn hk3 c hc
      simp only [List.mem_append, not_or] at this ⊢
      exact ⟨fun h => this.1 (hrd c h), fun h => this.2 (hwr c h)⟩
  · by_cases hji : j = i
    · subst hji
      obtain ⟨hw, hr⟩ := hrow0 c hc
      exact ((h4 c hw hr).2 hk2).1
    · rw [hrow j (by omega)] at hc
      exact fun h => ht.load j (by omega) hjn hk2 c hc (hwr c h)
  · have hck : rowOf ops (fun j => if j = i then f else F j) (fun j => if j = i then s else S j) k = rowOf ops F S k := hrow k (by omega)
    rw [hck]
    by_cases hji : j = i
    · subst hji
      obtain ⟨hw, hr⟩ := hrow0 c hc
      intro hck'
      rcases hs with ⟨h5, h6⟩ | ⟨h5, h6⟩
      · have hm := ((h4 c hw hr).1 h5).2
        rcases h6 with h6 | h6
        · exact ht.load k (by omega) hkn h6 c hck' hm
        · exact ht.store k (by omega) hkn h6 c hck' (by simp [hm])
      · have hm := ((h4 c hw hr).2 h5).2
        exact ht.store k (by omega) hkn h6 c hck' (by simp [hm])
    · rw [hrow j (by omega)] at hc
      exact ht.pair j k (by omega) hjk hkn hs c hc

theorem softO_inv {o : Oper} {f f' : Fr} {s s' : St} {bad : List Nat} {c : Option Nat} (h : softO E ops o f s bad = some (c, f', s')) :
    oneO E ops o f s = some (f', s') ∧ ∀ c', wantO f ops o = true → rowAt (ev f s.gl) o.op = some c' → c = some c' ∧ c' ∉ bad := by
  unfold softO at h
  cases hw : wantO f ops o with
  | false =>
    simp only [hw] at h
    split at h
    · rename_i f1 hp
      simp only [Option.some.injEq, Prod.mk.injEq] at h
      obtain ⟨_, rfl, rfl⟩ := h
      refine ⟨by simp [oneO, hw, hp], fun c' h0 => by cases h0⟩
    · cases h
  | true =>
    simp only [hw] at h
    cases hr : rowAt (ev f s.gl) o.op with
    | none => simp [hr] at h
    | some c0 =>
      simp only [hr] at h
      cases hm : memb c0 bad with
      | true => simp [hm] at h
      | false =>
        simp only [hm] at h
        split at h
        · rename_i f1 s1 h1
          simp only [Option.some.injEq, Prod.mk.injEq] at h
          obtain ⟨rfl, rfl, rfl⟩ := h
          refine ⟨h1, fun c' _ hc => ?_⟩
          injection hc with hc
          subst hc
          exact ⟨rfl, memb_mem hm⟩
        · cases h

theorem draw_trace : ∀ (l : List Oper) (i : Nat) (rd wr : List Nat) (f f' : Fr) (s s' : St), ops.toList.drop i = l → drawO E ops kind i l rd wr f s = some (f', s') →
    ∃ (F : Nat → Fr) (S Y : Nat → St), F i = f ∧ S i = s ∧ F (i + l.length) = f' ∧ S (i + l.length) = s' ∧ Trace E ops kind i (i + l.length) rd wr F S Y
  | [], i, rd, wr, f, f', s, s', hl, h => by
    simp only [drawO, Option.some.injEq, Prod.mk.injEq] at h
    obtain ⟨rfl, rfl⟩ := h
    exact ⟨fun _ => f, fun _ => s, fun _ => s, rfl, rfl, rfl, rfl, ⟨fun j h1 h2 => by simp at h2; omega, fun j h1 h2 => by simp at h2; omega, fun j h1 h2 => by simp at h2; omega, fun j k h1 h2 h3 => by simp at h3; omega⟩⟩
  | o :: l, i, rd, wr, f, f', s, s', hl, h => by
    have ho : ops[i]? = some o := by
      have : (ops.toList.drop i)[0]? = some o := by rw [hl]; rfl
      rw [List.getElem?_drop] at this
      simpa using this
    have hl' : ops.toList.drop (i + 1) = l := by rw [← List.drop_drop, hl]; rfl
    have hlen : i + (o :: l).length = i + 1 + l.length := by simp; omega
    have key : ∀ (rd' wr' : List Nat) (f1 : Fr) (s1 y : St), drawO E ops kind (i + 1) l rd' wr' f1 s1 = some (f', s') → (∀ c ∈ rd, c ∈ rd') → (∀ c ∈ wr, c ∈ wr') →
        (kind i = 0 ∨ kind i = 1 ∨ kind i = 2 ∨ kind i = 3 ∨ kind i = 5) → oneO E ops o f (if kind i = 1 then { s with low := s.nx } else s) = some (f1, y) →
        s1 = (if kind i = 1 then { y with low := s.low } else y) → (kind i = 1 → s.nx ≤ y.low) →
        (∀ c, wantO f ops o = true → rowAt (ev f s.gl) o.op = some c → (kind i = 3 → c ∉ rd ++ wr ∧ c ∈ wr') ∧ (kind i = 2 → c ∉ wr ∧ c ∈ rd')) →
        ∃ (F : Nat → Fr) (S Y : Nat → St), F i = f ∧ S i = s ∧ F (i + (o :: l).length) = f' ∧ S (i + (o :: l).length) = s' ∧ Trace E ops kind i (i + (o :: l).length) rd wr F S Y := by
      intro rd' wr' f1 s1 y h1 hrd hwr hk h2 h3 h4 h5
      obtain ⟨F, S, Y, e1, e2, e3, e4, ht⟩ := draw_trace l (i + 1) rd' wr' f1 f' s1 s' hl' h1
      rw [hlen]
      obtain ⟨F', S', Y', g1, g2, g3, g4⟩ := Trace.cons (i := i) (n := i + 1 + l.length) (f := f) (s := s) (y := y) (by omega) ho ht hrd hwr hk (by rw [e1]; exact h2) (by rw [e2]; exact h3) h4 h5
      have := g3 (i + 1 + l.length) (by omega)
      exact ⟨F', S', Y', g1, g2, this.1.trans e3, this.2.trans e4, g4⟩
    simp only [drawO] at h
    split at h
    · rename_i hk
      split at h
      · rename_i f1 s1 h1
        exact key rd wr f1 s1 s1 h (fun _ h => h) (fun _ h => h) (.inl hk) (by simpa [hk] using h1) (by simp [hk]) (by simp [hk]) (by simp [hk])
      · cases h
    · rename_i hk
      split at h
      · rename_i f1 s1 h1
        split at h
        · rename_i hb
          exact key rd wr f1 _ s1 h (fun _ h => h) (fun _ h => h) (.inr (.inl hk)) (by simpa [hk] using h1) (by simp [hk]) (fun _ => ble_iff.1 hb) (by simp [hk])
        · cases h
      · cases h
    · rename_i hk
      split at h
      · rename_i c f1 s1 h1
        obtain ⟨h2, h3⟩ := softO_inv h1
        refine key _ _ f1 s1 s1 h ?_ (fun _ h => h) (.inr (.inr (.inl hk))) (by simpa [hk] using h2) (by simp [hk]) (by simp [hk]) ?_
        · intro c' hc'; cases c <;> simp [consO, hc']
        · intro c' hw hr
          obtain ⟨rfl, h4⟩ := h3 c' hw hr
          exact ⟨by simp [hk], fun _ => ⟨h4, by simp [consO]⟩⟩
      · cases h
    · rename_i hk
      split at h
      · rename_i c f1 s1 h1
        obtain ⟨h2, h3⟩ := softO_inv h1
        refine key _ _ f1 s1 s1 h (fun _ h => h) ?_ (.inr (.inr (.inr (.inl hk)))) (by simpa [hk] using h2) (by simp [hk]) (by simp [hk]) ?_
        · intro c' hc'; cases c <;> simp [consO, hc']
        · intro c' hw hr
          obtain ⟨rfl, h4⟩ := h3 c' hw hr
          exact ⟨fun _ => ⟨h4, by simp [consO]⟩, by simp [hk]⟩
      · cases h
    · rename_i hk
      split at h
      · rename_i f1 s1 h1
        exact key rd wr f1 s1 s1 h (fun _ h => h) (fun _ h => h) (.inr (.inr (.inr (.inr hk)))) (by simpa [hk] using h1) (by simp [hk]) (by simp [hk]) (by simp [hk])
      · cases h
    · cases h
end

/-! the run in the order of the text, as the model has it -/
section
variable {base : Nat} {μ : Mp} {w : World} {s s' : St} {a : Act} {E : Env} {o : Oper} {f f' : Fr} {ops : Array Oper}

theorem wp_some {P : Program} {K : Act → World → Prop} (h : o.wp P a w K (fun _ _ _ => False)) : ∃ a' w', K a' w' := by
  unfold Oper.wp at h
  generalize (execOp a.eval o).run P w = r at h
  cases r with
  | ok n w' =>
    cases n <;> simp only [Oper.upon] at h
    case value => exact ⟨_, _, h⟩
    case skip => exact ⟨_, _, h⟩
    case defer => exact ⟨_, _, h⟩
    case enter f args =>
      obtain ⟨e, w2, _, hr, _⟩ := h []
      cases e with
      | returned v => exact ⟨_, _, hr⟩
      | panicked _ => exact hr.elim
      | outgrown => obtain ⟨_, _, hr⟩ := hr; exact hr.elim
    case row row args =>
      obtain ⟨v, w2, hr, _⟩ := h (Frame.enter P 0 #[] .normal) []
      exact ⟨_, _, hr⟩
    all_goals exact h.elim
  | halt x w' => cases x <;> simp only [Oper.upon] at h

theorem wpOp_some {P : Program} {i : Nat} {K : Act → World → Prop} (h : wpOp P ops (fun _ _ _ => False) i K a w) : ∃ a' w', K a' w' := by
  unfold wpOp at h
  split at h
  · exact ⟨_, _, h⟩
  · split at h
    · rcases h with h | ⟨_, h⟩
      · exact wp_some h
      · obtain ⟨_, _, hr⟩ := h; exact hr.elim
    · exact ⟨_, _, h⟩

theorem op_step (hE : EnvOk E base) (hi : Inv base μ s w) {ρ : Operand → Option AV} (hr : RhoOk μ ρ a) {op : Op} {v : AV} (h : opO E ρ s op = some (v, s')) :
    ∃ μ' w' v', Stp base μ μ' s s' w w' ∧ VR μ' v v' := by
  obtain ⟨a', w', μ', v', h1, h2⟩ := wp_some (o := { (default : Oper) with op := op }) (K := fun a' w' => ∃ μ' v', Stp base μ μ' s s' w w' ∧ VR μ' v v') (op_sound hE hi hr (o := { (default : Oper) with op := op }) h _ _ fun v' w' μ' h1 h2 => ⟨μ', v', h2, h1⟩)
  exact ⟨μ', w', v', h1, h2⟩

theorem one_step (hE : EnvOk E base) (hi : Inv base μ s w) (ht : TmRel μ f a) {i : Nat} (ho : ops[i]? = some o) (h : oneO E ops o f s = some (f', s')) :
    ∃ μ' w' a', Stp base μ μ' s s' w w' ∧ TmRel μ' f' a' := by
  obtain ⟨a', w', μ', h1, h2⟩ := wpOp_some (K := fun a' w' => ∃ μ', Stp base μ μ' s s' w w' ∧ TmRel μ' f' a') (one_sound hE hi ht h ho _ _ fun μ' w' v' h1 h2 => ⟨μ', h1, h2⟩)
  exact ⟨μ', w', a', h1, h2⟩
end
end Go.AM
