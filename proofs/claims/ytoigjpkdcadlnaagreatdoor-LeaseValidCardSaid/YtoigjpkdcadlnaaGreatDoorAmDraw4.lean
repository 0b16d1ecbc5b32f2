/-
  Regions that draw their order: what is ordered, what changes, and what every order keeps.
-/
import Derived.Test.YtoigjpkdcadlnaaGreatDoorAmDraw3
namespace Go.AM
open Go Go.RowKit Go.Lib

section
variable {ops : Array Oper} {E : Env}

theorem ordered_comm (i j : Nat) : ordered ops i j = ordered ops j i := by
  unfold ordered
  rw [Nat.max_comm, Nat.min_comm]

theorem ok_at (hok : okRegion ops = true) {j : Nat} {oj : Oper} (hj : ops[j]? = some oj) :
    (∀ e ∈ oj.after, Region.binds .any e = true → e.on < j) ∧
    ∀ i oi, i < j → ops[i]? = some oi → (ordered ops i j = true → ∃ e ∈ oj.after, Region.binds .any e = true ∧ (e.on = i ∨ (i < e.on ∧ ordered ops i e.on = true))) ∧ (ordered ops i j = false → oi.apart ops oj = true) := by
  unfold okRegion at hok
  have hlt : j < ops.size := (Array.getElem?_eq_some_iff.1 hj).1
  have h := (List.all_eq_true.1 hok) j (List.mem_range.2 hlt)
  simp only [hj, Bool.and_eq_true] at h
  obtain ⟨h1, _, h2⟩ := h
  refine ⟨fun e he hb => ?_, fun i oi hij hi => ?_⟩
  · have := (Array.all_eq_true_iff_forall_mem.1 h1) e he
    simpa [hb] using this
  · have := (List.all_eq_true.1 h2) i (List.mem_range.2 hij)
    simp only [hi] at this
    refine ⟨fun ho => ?_, fun ho => ?_⟩
    · rw [ho] at this
      simp only [Array.any_eq_true'] at this
      obtain ⟨e, he, hp⟩ := this
      refine ⟨e, he, ?_⟩
      simp only [Bool.and_eq_true, Bool.or_eq_true] at hp
      refine ⟨hp.1, ?_⟩
      rcases hp.2 with h | ⟨h, h'⟩
      · exact .inl (Nat.eq_of_beq_eq_true h)
      · exact .inr ⟨by simpa using h, h'⟩
    · rw [ho] at this
      exact this

def In (l : Array Bool) (j : Nat) : Prop := l.getD j false = true

def Closed (ops : Array Oper) (l : Array Bool) : Prop := ∀ (j : Nat) (o : Oper), In l j → ops[j]? = some o → ∀ e ∈ o.after, Region.binds .any e = true → In l e.on

theorem ord_closed (hok : okRegion ops = true) {l : Array Bool} (hc : Closed ops l) : ∀ (n j : Nat) (o : Oper), j < n → ops[j]? = some o → In l j → ∀ i, i < j → ordered ops i j = true → In l i
  | 0, _, _, h, _, _, _, _, _ => by omega
  | n + 1, j, o, hjn, ho, hj, i, hij, hord => by
    have hjs : j < ops.size := (Array.getElem?_eq_some_iff.1 ho).1
    obtain ⟨oi, hoi⟩ : ∃ oi, ops[i]? = some oi := ⟨ops[i], Array.getElem?_eq_getElem (by omega)⟩
    obtain ⟨e, he, hb, h⟩ := ((ok_at hok ho).2 i oi hij hoi).1 hord
    have hlt := (ok_at hok ho).1 e he hb
    have hin := hc j o hj ho e he hb
    rcases h with h | ⟨h1, h2⟩
    · rw [← h]; exact hin
    · obtain ⟨oe, hoe⟩ : ∃ oe, ops[e.on]? = some oe := ⟨ops[e.on], Array.getElem?_eq_getElem (by omega)⟩
      exact ord_closed hok hc n e.on oe (by omega) hoe hin i h1 h2

/-- an operation that may go next: what is ordered before it is done, what is ordered behind it is not -/
theorem ready_order (hok : okRegion ops = true) {l : Array Bool} (hc : Closed ops l) {i : Nat} (hi : i ∈ Region.ready .any ops l) {j : Nat} {oj : Oper} (hoj : ops[j]? = some oj) (hne : j ≠ i) (hord : ordered ops i j = true) : j < i ↔ In l j := by
  obtain ⟨h0, o, ho, hall⟩ := mem_ready.1 hi
  have hnot : ¬ In l i := by
    intro h
    unfold In at h
    cases hg : l[i]? with
    | none => simp [hg] at h
    | some b => simp [hg] at h h0; rw [h] at h0; cases h0
  have hi' : i < ops.size := (Array.getElem?_eq_some_iff.1 ho).1
  constructor
  · intro hji
    rw [ordered_comm] at hord
    obtain ⟨e, he, hb, h⟩ := ((ok_at hok ho).2 j oj hji hoj).1 hord
    have hin : In l e.on := hall e he hb
    have hlt := (ok_at hok ho).1 e he hb
    rcases h with h | ⟨h1, h2⟩
    · rw [← h]; exact hin
    · obtain ⟨oe, hoe⟩ : ∃ oe, ops[e.on]? = some oe := ⟨ops[e.on], Array.getElem?_eq_getElem (by omega)⟩
      exact ord_closed hok hc _ e.on oe (Nat.lt_succ_self _) hoe hin j h1 h2
  · intro hin
    rcases Nat.lt_or_ge j i with h | h
    · exact h
    · exact absurd (ord_closed hok hc _ j oj (Nat.lt_succ_self _) hoj hin i (by omega) hord) hnot

theorem ready_not {l : Array Bool} {i : Nat} (hi : i ∈ Region.ready .any ops l) : ¬ In l i := by
  obtain ⟨h0, o, ho, hall⟩ := mem_ready.1 hi
  intro h
  unfold In at h
  cases hg : l[i]? with
  | none => simp [hg] at h
  | some b => simp [hg] at h h0; rw [h] at h0; cases h0

theorem in_set {l : Array Bool} {i j : Nat} (hi : i < l.size) : In (l.setIfInBounds i true) j ↔ In l j ∨ j = i := by
  unfold In
  by_cases hji : j = i
  · subst hji; simp [hi]
  · rw [getD_set_ne false (fun h => hji h.symm)]
    simp [hji]

theorem closed_set {l : Array Bool} (hc : Closed ops l) {i : Nat} (hi : i ∈ Region.ready .any ops l) (hs : i < l.size) : Closed ops (l.setIfInBounds i true) := by
  intro j o hj ho e he hb
  rw [in_set hs] at hj ⊢
  rcases hj with hj | rfl
  · exact .inl (hc j o hj ho e he hb)
  · obtain ⟨_, o', ho', hall⟩ := mem_ready.1 hi
    rw [ho] at ho'
    injection ho' with ho'
    subst ho'
    exact .inl (hall e he hb)

theorem all_listed (hok : okRegion ops = true) {l : Array Bool} (hs : l.size = ops.size) (h : Region.ready .any ops l = []) : ∀ n i, i < n → i < ops.size → In l i
  | 0, _, h, _ => by omega
  | n + 1, i, hin, hi => by
    have ih : ∀ j, j < i → In l j := fun j hj => all_listed hok hs h n j (by omega) (by omega)
    refine Classical.byContradiction fun hn => ?_
    have ho : ops[i]? = some ops[i] := Array.getElem?_eq_getElem hi
    have : i ∈ Region.ready .any ops l := mem_ready.2 ⟨by
        have hl : i < l.size := by omega
        unfold In at hn
        simp [hl] at hn ⊢
        exact hn, _, ho, fun e he hb => ih e.on ((ok_at hok ho).1 e he hb)⟩
    rw [h] at this
    cases this

/-! kinds -/
theorem meets_false {i : Nat} {p : Op → Bool} (h : meets ops i p = false) {j : Nat} {oj : Oper} (hj : ops[j]? = some oj) (hne : j ≠ i) (hp : isPure oj.op = false) (hpp : p oj.op = true) : ordered ops i j = true := by
  unfold meets at h
  have hlt : j < ops.size := (Array.getElem?_eq_some_iff.1 hj).1
  have := (List.any_eq_false.1 h) j (List.mem_range.2 hlt)
  simpa [hj, hne, hp, hpp] using this

theorem kind_spec {i : Nat} {o : Oper} (ho : ops[i]? = some o) :
    (kindOf ops i = 0 → isPure o.op = false → ∀ j oj, j ≠ i → ops[j]? = some oj → isPure oj.op = false → ordered ops i j = true) ∧
    (kindOf ops i = 1 → isPure o.op = false ∧ ∀ j oj, j ≠ i → ops[j]? = some oj → isStore oj.op = true → ordered ops i j = true) ∧
    (kindOf ops i = 2 → isLoad o.op = true) ∧ (kindOf ops i = 3 → isStore o.op = true) ∧ (kindOf ops i = 5 → isAlloc o.op = true) := by
  have hst : ∀ op : Op, isStore op = true → isPure op = false := fun op h => by cases op <;> first | rfl | (simp [isStore] at h; done)
  unfold kindOf
  simp only [ho]
  cases h1 : isPure o.op with
  | true => simp
  | false =>
    cases h2 : meets ops i (fun _ => true) with
    | false =>
      refine ⟨fun _ _ j oj hj hoj hp => meets_false h2 hoj hj hp rfl, ?_⟩
      simp
    | true =>
      cases h3 : isAlloc o.op with
      | true => simp
      | false =>
        cases h4 : isStore o.op with
        | true => cases h5 : meets ops i (fun x => !isLoad x && !isStore x && !isAlloc x) <;> simp
        | false =>
          cases h5 : meets ops i isStore with
          | true => cases h6 : isLoad o.op <;> simp
          | false =>
            simp
            intro j oj hj hoj hs
            exact meets_false h5 hoj hj (hst _ hs) hs

theorem not_pure_load {op : Op} (h : isLoad op = true) : isPure op = false := by cases op <;> first | rfl | (simp [isLoad] at h; done)
theorem not_pure_store {op : Op} (h : isStore op = true) : isPure op = false := by cases op <;> first | rfl | (simp [isStore] at h; done)
theorem not_pure_alloc {op : Op} (h : isAlloc op = true) : isPure op = false := by cases op <;> first | rfl | (simp [isAlloc] at h; done)

/-! temporaries -/
theorem put_get {f f' : Fr} {dst : Option Tmp} {v : AV} (h : put f dst v = some f') : f'.nt = f.nt ∧ (∀ d, dst = some d → d < f.nt) ∧ ∀ t, f'.tm.get t = if dst = some t then some v else f.tm.get t := by
  cases dst with
  | none => simp [put] at h; subst h; simp
  | some d =>
    simp only [put] at h
    split at h
    · rename_i hd
      have hd : d < f.nt := by simpa using Nat.blt_eq.mp hd
      simp at h; subst h
      refine ⟨rfl, fun d' h => by injection h with h; subst h; exact hd, fun t => ?_⟩
      show (T.set v f.tm d).get t = _
      rw [T.get_set]
      by_cases ht : t = d
      · subst ht; simp
      · have : ¬ d = t := fun h => ht h.symm
        simp [ht, this]
    · cases h
theorem put_of (f : Fr) {dst : Option Tmp} (v : AV) (h : ∀ d, dst = some d → d < f.nt) : ∃ f', put f dst v = some f' := by
  cases dst with
  | none => exact ⟨f, rfl⟩
  | some d =>
    have : Nat.blt d f.nt = true := by simpa [Nat.blt_eq] using h d rfl
    exact ⟨_, by simp only [put, this]; rfl⟩

theorem one_inv {o : Oper} {f f' : Fr} {s s' : St} (h : oneO E ops o f s = some (f', s')) :
    ∃ v, put f o.dst v = some f' ∧ ((wantO f ops o = true ∧ opO E (ev f s.gl) s o.op = some (v, s')) ∨ (wantO f ops o = false ∧ v = und ∧ s' = s)) := by
  unfold oneO at h
  cases hw : wantO f ops o with
  | true =>
    simp only [hw] at h
    split at h
    · rename_i v s1 h1
      split at h
      · rename_i f1 h2
        simp only [Option.some.injEq, Prod.mk.injEq] at h
        obtain ⟨rfl, rfl⟩ := h
        exact ⟨v, h2, .inl ⟨rfl, h1⟩⟩
      · cases h
    · cases h
  | false =>
    simp only [hw] at h
    split at h
    · rename_i f1 h2
      simp only [Option.some.injEq, Prod.mk.injEq] at h
      obtain ⟨rfl, rfl⟩ := h
      exact ⟨und, h2, .inr ⟨rfl, rfl, rfl⟩⟩
    · cases h
end

/-! the run in the order of the text -/
structure Txt (E : Env) (base : Nat) (ops : Array Oper) (F : Nat → Fr) (S Y : Nat → St) : Prop where
  env : EnvOk E base
  ok : okRegion ops = true
  tr : Trace E ops (kindOf ops) 0 ops.size [] [] F S Y
  start : ∃ μ w a, Inv base μ (S 0) w ∧ TmRel μ (F 0) a

section
variable {E : Env} {base : Nat} {ops : Array Oper} {F : Nat → Fr} {S Y : Nat → St}

def Chg (ops : Array Oper) (S : Nat → St) (j b : Nat) : Prop :=
  j < ops.size ∧ (((S j).nx ≤ b ∧ b < (S (j + 1)).nx) ∨ (b < (S j).nx ∧ (S (j + 1)).hp.get b ≠ (S j).hp.get b))

theorem Txt.chain (h : Txt E base ops F S Y) : ∀ i, i ≤ ops.size → ∃ μ w a, Inv base μ (S i) w ∧ TmRel μ (F i) a
  | 0, _ => h.start
  | i + 1, hi => by
    obtain ⟨μ, w, a, h1, h2⟩ := h.chain i (by omega)
    obtain ⟨o, ho, hs⟩ := h.tr.step i (by omega) (by omega)
    have hpre : Inv base μ (preOf (kindOf ops) S i) w := by
      unfold preOf
      split
      · exact ⟨h1.rel, h1.dom, Nat.le_refl _, h1.size, h1.glob, h1.wf⟩
      · exact h1
    obtain ⟨μ', w', a', h3, h4⟩ := one_step h.env hpre h2 ho hs.one
    refine ⟨μ', w', a', ?_, h4⟩
    have h5 := hpre.after h3
    rw [hs.next]
    split
    · rename_i hk
      refine ⟨h5.rel, h5.dom, ?_, h5.size, h5.glob, h5.wf⟩
      show (S i).low ≤ (Y i).nx
      have := h3.nx
      simp [preOf, hk] at this
      exact Nat.le_trans h1.low this
    · exact h5

structure TF (ops : Array Oper) (F : Nat → Fr) (S : Nat → St) (i : Nat) : Prop where
  nx : (S i).nx ≤ (S (i + 1)).nx
  gl : (S (i + 1)).gl = (S i).gl
  low : (S (i + 1)).low ≤ (S i).low
  lowx : (S i).low ≤ (S i).nx
  same : ∀ b, b < (S i).nx → b < (S (i + 1)).low → (S (i + 1)).hp.get b = (S i).hp.get b
  same1 : kindOf ops i = 1 → ∀ b, b < (S i).nx → (S (i + 1)).hp.get b = (S i).hp.get b
  nt : (F (i + 1)).nt = (F i).nt

theorem Txt.tf (h : Txt E base ops F S Y) {i : Nat} (hi : i < ops.size) : TF ops F S i := by
  obtain ⟨μ, w, a, h1, h2⟩ := h.chain i (by omega)
  obtain ⟨o, ho, hs⟩ := h.tr.step i (by omega) hi
  have hpre : Inv base μ (preOf (kindOf ops) S i) w := by
    unfold preOf
    split
    · exact ⟨h1.rel, h1.dom, Nat.le_refl _, h1.size, h1.glob, h1.wf⟩
    · exact h1
  obtain ⟨μ', w', a', h3, h4⟩ := one_step h.env hpre h2 ho hs.one
  obtain ⟨v, hp, _⟩ := one_inv hs.one
  have hnt := (put_get hp).1
  by_cases hk : kindOf ops i = 1
  · have hn := hs.next
    have hpr : preOf (kindOf ops) S i = { S i with low := (S i).nx } := by simp [preOf, hk]
    rw [hpr] at h3
    simp only [hk, if_true] at hn
    have hsame : ∀ b, b < (S i).nx → (S (i + 1)).hp.get b = (S i).hp.get b := fun b hb => by
      rw [hn]
      exact h3.same b hb (Nat.lt_of_lt_of_le hb (hs.low hk))
    refine ⟨?_, ?_, ?_, h1.low, fun b hb _ => hsame b hb, fun _ => hsame, hnt⟩
    · rw [hn]; exact h3.nx
    · rw [hn]; exact h3.gl
    · rw [hn]; exact Nat.le_refl _
  · have hn := hs.next
    have hpr : preOf (kindOf ops) S i = S i := by simp [preOf, hk]
    rw [hpr] at h3
    simp only [hk, if_false] at hn
    refine ⟨?_, ?_, ?_, h1.low, ?_, fun h => absurd h hk, hnt⟩
    · rw [hn]; exact h3.nx
    · rw [hn]; exact h3.gl
    · rw [hn]; exact h3.low
    · rw [hn]; exact h3.same

theorem Txt.nx_le (h : Txt E base ops F S Y) {i : Nat} : ∀ {k : Nat}, i ≤ k → k ≤ ops.size → (S i).nx ≤ (S k).nx
  | 0, h1, _ => by have : i = 0 := by omega
                   subst this; exact Nat.le_refl _
  | k + 1, h1, h2 => by
    by_cases hik : i = k + 1
    · subst hik; exact Nat.le_refl _
    · exact Nat.le_trans (h.nx_le (k := k) (by omega) (by omega)) (h.tf (i := k) (by omega)).nx
theorem Txt.low_le (h : Txt E base ops F S Y) {i : Nat} : ∀ {k : Nat}, i ≤ k → k ≤ ops.size → (S k).low ≤ (S i).low
  | 0, h1, _ => by have : i = 0 := by omega
                   subst this; exact Nat.le_refl _
  | k + 1, h1, h2 => by
    by_cases hik : i = k + 1
    · subst hik; exact Nat.le_refl _
    · exact Nat.le_trans (h.tf (i := k) (by omega)).low (h.low_le (k := k) (by omega) (by omega))
theorem Txt.gl_eq (h : Txt E base ops F S Y) : ∀ {k : Nat}, k ≤ ops.size → (S k).gl = (S 0).gl
  | 0, _ => rfl
  | k + 1, h2 => (h.tf (i := k) (by omega)).gl.trans (h.gl_eq (k := k) (by omega))
theorem Txt.nt_eq (h : Txt E base ops F S Y) : ∀ {k : Nat}, k ≤ ops.size → (F k).nt = (F 0).nt
  | 0, _ => rfl
  | k + 1, h2 => (h.tf (i := k) (by omega)).nt.trans (h.nt_eq (k := k) (by omega))
theorem Txt.low_nx (h : Txt E base ops F S Y) : (S ops.size).low ≤ (S 0).nx := by
  obtain ⟨μ, w, a, h1, _⟩ := h.start
  exact Nat.le_trans (h.low_le (Nat.zero_le _) (Nat.le_refl _)) h1.low
theorem Txt.same_low (h : Txt E base ops F S Y) {b : Nat} (hb : b < (S ops.size).low) : ∀ {k : Nat}, k ≤ ops.size → (S k).hp.get b = (S 0).hp.get b
  | 0, _ => rfl
  | k + 1, h2 => by
    rw [← h.same_low hb (k := k) (by omega)]
    refine (h.tf (i := k) (by omega)).same b ?_ (Nat.lt_of_lt_of_le hb (h.low_le h2 (Nat.le_refl _)))
    have := h.low_nx
    have := h.nx_le (i := 0) (k := k) (by omega) (by omega)
    omega

/-- a row that no operation in between changes -/
theorem Txt.stay (h : Txt E base ops F S Y) {b i : Nat} (hb : b < (S i).nx) : ∀ {k : Nat}, i ≤ k → k ≤ ops.size → (∀ j, i ≤ j → j < k → ¬ Chg ops S j b) → (S k).hp.get b = (S i).hp.get b
  | 0, h1, _, _ => by have : i = 0 := by omega
                      subst this; rfl
  | k + 1, h1, h2, hn => by
    by_cases hik : i = k + 1
    · subst hik; rfl
    · rw [← h.stay hb (k := k) (by omega) (by omega) fun j h3 h4 => hn j h3 (by omega)]
      refine Classical.byContradiction fun hc => hn k (by omega) (by omega) ⟨by omega, .inr ⟨?_, hc⟩⟩
      exact Nat.lt_of_lt_of_le hb (h.nx_le (by omega) (by omega))

/-- a temporary that no operation in between writes -/
theorem Txt.tstay (h : Txt E base ops F S Y) {d i : Nat} : ∀ {k : Nat}, i ≤ k → k ≤ ops.size → (∀ j o, i ≤ j → j < k → ops[j]? = some o → o.dst ≠ some d) → (F k).tm.get d = (F i).tm.get d
  | 0, h1, _, _ => by have : i = 0 := by omega
                      subst this; rfl
  | k + 1, h1, h2, hn => by
    by_cases hik : i = k + 1
    · subst hik; rfl
    · rw [← h.tstay (k := k) (by omega) (by omega) fun j o h3 h4 => hn j o h3 (by omega)]
      obtain ⟨o, ho, hs⟩ := h.tr.step k (by omega) (by omega)
      obtain ⟨v, hp, _⟩ := one_inv hs.one
      rw [(put_get hp).2.2 d, if_neg (hn k o (by omega) (by omega) ho)]

theorem Txt.skip (_h : Txt E base ops F S Y) {i : Nat} {o : Oper} (hs : StepT E ops (kindOf ops) F S Y i o) (hw : wantO (F i) ops o = false) : S (i + 1) = S i := by
  obtain ⟨v, _, ⟨h1, _⟩ | ⟨_, _, h2⟩⟩ := one_inv hs.one
  · rw [hw] at h1; cases h1
  · rw [hs.next, h2]
    unfold preOf
    split <;> rfl

/-- the value that an operation gives, and the memory behind it -/
theorem Txt.op (_h : Txt E base ops F S Y) {i : Nat} {o : Oper} (hs : StepT E ops (kindOf ops) F S Y i o) (hw : wantO (F i) ops o = true) :
    ∃ v, put (F i) o.dst v = some (F (i + 1)) ∧ opO E (ev (F i) (S i).gl) (preOf (kindOf ops) S i) o.op = some (v, Y i) := by
  obtain ⟨v, hp, ⟨_, h1⟩ | ⟨h1, _⟩⟩ := one_inv hs.one
  · refine ⟨v, hp, ?_⟩
    have : (preOf (kindOf ops) S i).gl = (S i).gl := by unfold preOf; split <;> rfl
    rw [this] at h1
    exact h1
  · rw [hw] at h1; cases h1

theorem Txt.chg (h : Txt E base ops F S Y) {j b : Nat} {o : Oper} (ho : ops[j]? = some o) (hc : Chg ops S j b) :
    isPure o.op = false ∧ (kindOf ops j = 0 ∨ ((S j).nx ≤ b ∧ b < (S (j + 1)).nx ∧ (kindOf ops j = 1 ∨ kindOf ops j = 5)) ∨ (kindOf ops j = 3 ∧ rowOf ops F S j = some b ∧ b < (S j).nx)) := by
  obtain ⟨hj, hc⟩ := hc
  obtain ⟨o', ho', hs⟩ := h.tr.step j (Nat.zero_le _) hj
  rw [ho] at ho'
  injection ho' with ho'
  subst ho'
  have hno : S (j + 1) ≠ S j := fun he => by
    rw [he] at hc
    rcases hc with ⟨h1, h2⟩ | ⟨_, h2⟩
    · omega
    · exact h2 rfl
  have hw : wantO (F j) ops o = true := by
    cases hw : wantO (F j) ops o with
    | true => rfl
    | false => exact absurd (h.skip hs hw) hno
  obtain ⟨v, hp, hop⟩ := h.op hs hw
  obtain ⟨k0, k1, k2, k3, k5⟩ := kind_spec ho
  have hn := hs.next
  rcases hs.kd with hk | hk | hk | hk | hk
  · simp only [preOf, hk] at hop hn
    cases hpu : isPure o.op with
    | true => exact absurd (hn.trans (pure_simple hpu hop).1) hno
    | false => exact ⟨rfl, .inl hk⟩
  · refine ⟨(k1 hk).1, .inr (.inl ?_)⟩
    rcases hc with ⟨h1, h2⟩ | ⟨h1, h2⟩
    · exact ⟨h1, h2, .inl hk⟩
    · exact absurd ((h.tf hj).same1 hk b h1) h2
  · simp only [preOf, hk] at hop hn
    exact absurd (hn.trans (load_simple (k2 hk) hop).1) hno
  · simp only [preOf, hk] at hop hn
    refine ⟨not_pure_store (k3 hk), .inr (.inr ⟨hk, ?_⟩)⟩
    obtain ⟨_, c, g, hr, _, ⟨h1, _⟩ | ⟨r, h1, _⟩⟩ := store_simple (k3 hk) hop
    · exact absurd (hn.trans h1) hno
    · have hn := hn.trans h1
      rw [hn] at hc
      rcases hc with ⟨h2, h3⟩ | ⟨h2, h3⟩
      · have h3 : b < (S j).nx := h3
        omega
      · have h3 : (T.set r (S j).hp c).get b ≠ _ := h3
        rw [T.get_set] at h3
        by_cases hbc : b = c
        · subst hbc
          refine ⟨?_, h2⟩
          unfold rowOf
          simp only [ho, hw]
          exact hr
        · simp [hbc] at h3
  · simp only [preOf, hk] at hop hn
    refine ⟨not_pure_alloc (k5 hk), .inr (.inl ?_)⟩
    obtain ⟨r, mk, _, _, _, h1, _⟩ := alloc_simple (k5 hk) hop
    have hn := hn.trans h1
    rcases hc with ⟨h2, h3⟩ | ⟨h2, h3⟩
    · exact ⟨h2, h3, .inr hk⟩
    · rw [hn] at h3
      have h3 : (T.set r (S j).hp (S j).nx).get b ≠ _ := h3
      rw [T.get_set_ne _ _ (by omega)] at h3
      exact absurd rfl h3

theorem Txt.new_one (h : Txt E base ops F S Y) {i j b : Nat} (hi : i < ops.size) (hj : j < ops.size) (h1 : (S i).nx ≤ b) (h2 : b < (S (i + 1)).nx) (h3 : (S j).nx ≤ b) (h4 : b < (S (j + 1)).nx) : i = j := by
  rcases Nat.lt_trichotomy i j with hij | hij | hij
  · have := h.nx_le (i := i + 1) (k := j) (by omega) (by omega); omega
  · exact hij
  · have := h.nx_le (i := j + 1) (k := i) (by omega) (by omega); omega
end
end Go.AM
