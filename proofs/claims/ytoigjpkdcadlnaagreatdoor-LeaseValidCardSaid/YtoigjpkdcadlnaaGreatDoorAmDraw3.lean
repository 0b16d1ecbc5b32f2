/-
  For regions that draw their order: steps of memory seen from a wider memory.
-/
import Derived.Test.YtoigjpkdcadlnaaGreatDoorAmDraw2
namespace Go.AM
open Go Go.RowKit Go.Lib

section
variable {base : Nat} {μ μ' μ2 : Mp} {w w' : World} {s s' si si' : St}

theorem Stp.lower (h : Stp base μ μ' s s' w w') {low : Nat} (hl : low ≤ s'.low) : Stp base μ μ' s { s' with low := low } w w' :=
  ⟨h.ext, h.rel, h.dom, fun b g blk n hm => by
      rcases h.new b g blk n hm with h1 | h1 | ⟨h1, h2⟩
      · exact .inl h1
      · exact .inr (.inl h1)
      · exact .inr (.inr ⟨Nat.le_trans hl h1, h2⟩), h.nx, h.gl, Nat.le_trans hl h.low, fun b hb hb' => h.same b hb (Nat.lt_of_lt_of_le hb' hl), fun blk hb => by
      rcases h.fr blk hb with h1 | ⟨b, g, n, h1, h2, h3⟩
      · exact .inl h1
      · exact .inr ⟨b, g, n, h1, Nat.le_trans hl h2, h3⟩, h.size, h.os, h.tape, h.output, h.wf⟩

/-- a step from where low stood lower -/
theorem Stp.raise (h : Stp base μ μ' s s' w w') {low low' : Nat} (hl : low' ≤ low) (hl' : low' ≤ s'.low) : Stp base μ μ' { s with low := low } { s' with low := low' } w w' :=
  let k := h.lower hl'
  ⟨k.ext, k.rel, k.dom, k.new, k.nx, k.gl, hl, k.same, k.fr, k.size, k.os, k.tape, k.output, k.wf⟩

theorem Rel.own_of_base {h : T Row} (hr : Rel base μ h w) {b g blk n : Nat} (hm : μ b g = some (blk, n)) (hb : base ≤ blk) : ∃ r, h.get b = some r ∧ r.own = true := by
  obtain ⟨r, h1, h2⟩ := hr.row b g blk n hm
  refine ⟨r, h1, ?_⟩
  have := h2.own
  cases ho : r.own with
  | true => rfl
  | false => simp [ho] at this; omega

theorem Rel.base_of_own {h : T Row} (hr : Rel base μ h w) {b g blk n : Nat} {r : Row} (hm : μ b g = some (blk, n)) (hg : h.get b = some r) (ho : r.own = true) : base ≤ blk := by
  obtain ⟨r', h1, h2⟩ := hr.row b g blk n hm
  rw [hg] at h1
  injection h1 with h1
  subst h1
  simpa [ho] using h2.own

/-- two rows in one block that was not there at the base are one row -/
theorem Rel.sep' {h : T Row} (hr : Rel base μ h w) {b g blk n b' g' n' : Nat} (hm : μ b g = some (blk, n)) (hm' : μ b' g' = some (blk, n')) (hb : base ≤ blk) : b = b' := by
  obtain ⟨r, h1, h2⟩ := hr.own_of_base hm hb
  exact hr.sep _ _ _ _ _ _ _ _ hm hm' h1 h2

def Mp.join (μ2 μ : Mp) (N : Nat) : Mp := fun b g => if b < N then μ2 b g else μ b g

theorem Stp.widen {t t' : T Row} {N low : Nat} (hi : Inv base μ { si with hp := t, nx := N, low := low } w)
    (hx : ∀ b g x, μ b g = some x → b < si.nx ∨ si'.nx ≤ b) (hst : Stp base (μ.lt si.nx) μ2 si si' w w') (hN : si'.nx ≤ N) (hlow : low ≤ si'.low) (hlx : low ≤ si.nx)
    (hsame : ∀ b, b < low → si'.hp.get b = t.get b) (ht1 : ∀ b, b < si'.nx → t'.get b = si'.hp.get b) (ht2 : ∀ b, si'.nx ≤ b → b < N → t'.get b = t.get b) (ht3 : ∀ b, N ≤ b → t'.get b = none) :
    Ext μ2 (μ2.join μ si'.nx) ∧ Stp base μ (μ2.join μ si'.nx) { si with hp := t, nx := N, low := low } { si with hp := t', nx := N, low := low } w w' ∧
      ∀ b g x, μ2.join μ si'.nx b g = some x → (∃ x', μ b g = some x') ∨ (si.nx ≤ b ∧ b < si'.nx) ∨ (si'.low ≤ b ∧ b < si.nx) := by
  have hnx := hst.nx
  have hlt : ∀ b g x, b < si'.nx → (μ2.join μ si'.nx b g = some x ↔ μ2 b g = some x) := fun b g x hb => by simp [Mp.join, hb]
  have hge : ∀ b g x, si'.nx ≤ b → (μ2.join μ si'.nx b g = some x ↔ μ b g = some x) := fun b g x hb => by
    have : ¬ b < si'.nx := by omega
    simp [Mp.join, this]
  have he2 : Ext μ2 (μ2.join μ si'.nx) := fun b g x hm => (hlt b g x (hst.dom b g x hm)).2 hm
  have he : Ext μ (μ2.join μ si'.nx) := fun b g x hm => by
    rcases hx b g x hm with hb | hb
    · exact (hlt b g x (by omega)).2 (hst.ext _ _ _ (Mp.lt_some.2 ⟨hb, hm⟩))
    · exact (hge b g x hb).2 hm
  -- blocks that the wide memory alone knows are not touched
  have hfar : ∀ b g blk n, si'.nx ≤ b → μ b g = some (blk, n) → w'.heap[blk]? = w.heap[blk]? := fun b g blk n hb hm => by
    rcases hst.fr blk (hi.rel.lt hm) with h | ⟨b0, g0, n0, h1, h2, h3⟩
    · exact h
    · obtain ⟨h4, h5⟩ := Mp.lt_some.1 h1
      have := hi.rel.sep' hm h5 h3
      omega
  have hapart : ∀ b g blk n b' g' n', μ2 b g = some (blk, n) → si'.nx ≤ b' → μ b' g' = some (blk, n') → base ≤ blk → b = b' := fun b g blk n b' g' n' hm hb' hm' hb => by
    have hs := hi.rel.lt hm'
    rcases hst.new b g blk n hm with h | ⟨_, h⟩ | ⟨_, h, h0 | ⟨g0, h0⟩⟩
    · exact hi.rel.sep' (Mp.lt_some.1 h).2 hm' hb
    · omega
    · omega
    · exact hi.rel.sep' (Mp.lt_some.1 h0).2 hm' hb
  have hwf : WF t' N := fun b r hg x hx => by
    by_cases hb : b < si'.nx
    · exact okC.mono hN (hst.wf b r ((ht1 b hb).symm.trans hg) x hx)
    · by_cases hbN : b < N
      · exact hi.wf b r ((ht2 b (by omega) hbN).symm.trans hg) x hx
      · rw [ht3 b (by omega)] at hg; cases hg
  refine ⟨he2, ⟨he, ⟨?_, ?_⟩, ?_, ?_, Nat.le_refl _, rfl, Nat.le_refl _, ?_, ?_, hst.size, hst.os, hst.tape, hst.output, hwf⟩, ?_⟩
  · intro b g blk n hm
    by_cases hb : b < si'.nx
    · have hm := (hlt b g _ hb).1 hm
      obtain ⟨r, h1, h2⟩ := hst.rel.row b g blk n hm
      exact ⟨r, (ht1 b hb).trans h1, h2.mono he2 rfl⟩
    · have hb : si'.nx ≤ b := by omega
      have hm := (hge b g _ hb).1 hm
      obtain ⟨r, h1, h2⟩ := hi.rel.row b g blk n hm
      exact ⟨r, (ht2 b hb (hi.dom b g _ hm)).trans h1, h2.mono he (hfar b g blk n hb hm)⟩
  · intro b g blk n b' g' n' r hm hm' hg ho
    by_cases hb : b < si'.nx
    · have hm := (hlt b g _ hb).1 hm
      have hg : si'.hp.get b = some r := (ht1 b hb).symm.trans hg
      have hbase := hst.rel.base_of_own hm hg ho
      by_cases hb' : b' < si'.nx
      · exact hst.rel.sep _ _ _ _ _ _ _ _ hm ((hlt b' g' _ hb').1 hm') hg ho
      · exact hapart _ _ _ _ _ _ _ hm (by omega) ((hge b' g' _ (by omega)).1 hm') hbase
    · have hm := (hge b g _ (by omega)).1 hm
      have hg : t.get b = some r := (ht2 b (by omega) (hi.dom b g _ hm)).symm.trans hg
      have hbase := hi.rel.base_of_own hm hg ho
      by_cases hb' : b' < si'.nx
      · exact (hapart _ _ _ _ _ _ _ ((hlt b' g' _ hb').1 hm') (by omega) hm hbase).symm
      · exact hi.rel.sep _ _ _ _ _ _ _ _ hm ((hge b' g' _ (by omega)).1 hm') hg ho
  · intro b g x hm
    show b < N
    by_cases hb : b < si'.nx
    · omega
    · exact hi.dom b g x ((hge b g _ (by omega)).1 hm)
  · intro b g blk n hm
    by_cases hb : b < si'.nx
    · have hm := (hlt b g _ hb).1 hm
      rcases hst.new b g blk n hm with h | ⟨h1, h2⟩ | ⟨h1, h2, h3⟩
      · exact .inl (Mp.lt_some.1 h).2
      · exact .inr (.inr ⟨show low ≤ b by omega, show b < N by omega, .inl h2⟩)
      · refine .inr (.inr ⟨show low ≤ b by omega, show b < N by omega, ?_⟩)
        rcases h3 with h3 | ⟨g0, h3⟩
        · exact .inl h3
        · exact .inr ⟨g0, (Mp.lt_some.1 h3).2⟩
    · exact .inl ((hge b g _ (by omega)).1 hm)
  · intro b hb hbl
    show t'.get b = t.get b
    have hbl : b < low := hbl
    rw [ht1 b (by omega)]
    exact hsame b hbl
  · intro blk hb
    rcases hst.fr blk hb with h | ⟨b, g, n, h1, h2, h3⟩
    · exact .inl h
    · exact .inr ⟨b, g, n, (Mp.lt_some.1 h1).2, show low ≤ b by omega, h3⟩
  · intro b g x hm
    obtain ⟨blk, n⟩ := x
    by_cases hb : b < si'.nx
    · have hm := (hlt b g _ hb).1 hm
      rcases hst.new b g blk n hm with h | ⟨h1, h2⟩ | ⟨h1, h2, h3⟩
      · exact .inl ⟨_, (Mp.lt_some.1 h).2⟩
      · exact .inr (.inl ⟨h1, hb⟩)
      · exact .inr (.inr ⟨h1, h2⟩)
    · exact .inl ⟨_, (hge b g _ (by omega)).1 hm⟩

/-- new memory under another name -/
theorem Stp.rename {r : Row} {m : Nat} {low : Nat} (hi : Inv base μ { s with low := low } w)
    (hst : Stp base μ μ2 { s with low := s.nx } { s with hp := T.set r s.hp s.nx, nx := s.nx + 1, low := s.nx } w w')
    (hm : m < s.nx) (hfree : ∀ g, μ m g = none) (hlow : low ≤ m) {μ1 : Mp} (hs : Small μ1 s.nx) {vs : List Value} (hcells : LR (CR μ1) r.cells vs) :
    ∃ μn : Mp, (∀ g, μn m g = μ2 s.nx g) ∧ (∀ b g x, b ≠ m → μn b g = some x → μ b g = some x) ∧ Stp base μ μn { s with low := low } { s with hp := T.set r s.hp m, low := low } w w' := by
  have hnew : ∀ b g blk n, μ2 b g = some (blk, n) → μ b g = some (blk, n) ∨ (b = s.nx ∧ w.heap.size ≤ blk) := fun b g blk n h => by
    have hd : b < s.nx + 1 := hst.dom _ _ _ h
    rcases hst.new b g blk n h with h | ⟨h1, h2⟩ | ⟨h1, h2, _⟩
    · exact .inl h
    · have h1 : s.nx ≤ b := h1
      exact .inr ⟨by omega, h2⟩
    · have h1 : s.nx ≤ b := h1
      have h2 : b < s.nx := h2
      omega
  have hdom : ∀ b g x, μ b g = some x → b < s.nx ∧ b ≠ m := fun b g x h => ⟨hi.dom b g x h, fun e => by subst e; rw [hfree] at h; cases h⟩
  generalize hμ : (fun b g => if b = m then μ2 s.nx g else if b = s.nx then none else μ2 b g : Mp) = μn
  have e1 : ∀ g, μn m g = μ2 s.nx g := fun g => by rw [← hμ]; simp
  have e2 : ∀ b g x, b ≠ m → μn b g = some x → μ b g = some x := fun b g x hb h => by
    rw [← hμ] at h
    simp only [hb, if_false] at h
    by_cases hbn : b = s.nx
    · simp [hbn] at h
    · simp only [hbn, if_false] at h
      rcases hnew b g x.1 x.2 h with h | ⟨h, _⟩
      · exact h
      · exact absurd h hbn
  have he : Ext μ μn := fun b g x h => by
    obtain ⟨h1, h2⟩ := hdom b g x h
    rw [← hμ]
    have : b ≠ s.nx := by omega
    simp only [h2, this, if_false]
    exact hst.ext _ _ _ h
  have heq : Ext (μ2.lt s.nx) μn := fun b g x h => by
    obtain ⟨h1, h2⟩ := Mp.lt_some.1 h
    rcases hnew b g x.1 x.2 h2 with h | ⟨h, _⟩
    · exact he _ _ _ h
    · omega
  have hblk : ∀ blk, blk < w.heap.size → w'.heap[blk]? = w.heap[blk]? := fun blk hb => by
    rcases hst.fr blk hb with h | ⟨b, g, n, h1, h2, _⟩
    · exact h
    · have := (hdom _ _ _ h1).1
      have h2 : s.nx ≤ b := h2
      omega
  have hrow : ∀ g blk n, μ2 s.nx g = some (blk, n) → RowOk base μn w' r g blk n ∧ w.heap.size ≤ blk := fun g blk n h => by
    obtain ⟨r', h1, h2⟩ := hst.rel.row _ _ _ _ h
    have h1 : (T.set r s.hp s.nx).get s.nx = some r' := h1
    rw [T.get_set_same] at h1
    injection h1 with h1
    subst h1
    refine ⟨?_, ?_⟩
    · obtain ⟨k1, k2, ⟨cs, fz, k3, k4, k5, k6⟩, k7, k8, k9⟩ := h2
      refine ⟨k1, k2, ⟨cs, fz, k3, k4, fun q hq => ⟨(k5 q hq).1, (k5 q hq).2.1, ?_⟩, k6⟩, k7, k8, k9⟩
      exact (LR.lt (R1 := CR μ1) (R := CR μ2) (R' := CR (μ2.lt s.nx)) (fun _ _ _ q1 q2 => CR.lt hs q1 q2) (hcells.take q) (k5 q hq).2.2).mono fun _ _ => CR.mono heq
    · rcases hnew _ _ _ _ h with h | ⟨_, h⟩
      · have := (hdom _ _ _ h).1; omega
      · exact h
  refine ⟨μn, e1, e2, he, ⟨?_, ?_⟩, ?_, ?_, Nat.le_refl _, rfl, Nat.le_refl _, ?_, fun blk hb => .inl (hblk blk hb), hst.size, hst.os, hst.tape, hst.output, hi.wf.set (r := r) (fun x hx => hcells.ok hs x hx) m⟩
  · intro b g blk n h
    by_cases hb : b = m
    · subst hb
      rw [e1] at h
      exact ⟨r, T.get_set_same _ _ _, (hrow g blk n h).1⟩
    · have h := e2 b g _ hb h
      obtain ⟨r', h1, h2⟩ := hi.rel.row b g blk n h
      refine ⟨r', ?_, h2.mono he (hblk _ (hi.rel.lt h))⟩
      show (T.set r s.hp m).get b = _
      rw [T.get_set_ne _ _ hb]
      exact h1
  · intro b g blk n b' g' n' r' h h' hg ho
    by_cases hb : b = m
    · by_cases hb' : b' = m
      · rw [hb, hb']
      · subst hb
        rw [e1] at h
        have := (hrow g blk n h).2
        have := hi.rel.lt (e2 b' g' _ hb' h')
        omega
    · have h := e2 b g _ hb h
      by_cases hb' : b' = m
      · subst hb'
        rw [e1] at h'
        have := (hrow g' blk n' h').2
        have := hi.rel.lt h
        omega
      · have h' := e2 b' g' _ hb' h'
        have hg : (T.set r s.hp m).get b = some r' := hg
        rw [T.get_set_ne _ _ hb] at hg
        exact hi.rel.sep _ _ _ _ _ _ _ _ h h' hg ho
  · intro b g x h
    show b < s.nx
    by_cases hb : b = m
    · omega
    · exact (hdom _ _ _ (e2 b g x hb h)).1
  · intro b g blk n h
    by_cases hb : b = m
    · subst hb
      rw [e1] at h
      exact .inr (.inr ⟨hlow, hm, .inl (hrow g blk n h).2⟩)
    · exact .inl (e2 b g _ hb h)
  · intro b _ hb
    show (T.set r s.hp m).get b = s.hp.get b
    have hb : b < low := hb
    rw [T.get_set_ne _ _ (by omega)]
end
end Go.AM
