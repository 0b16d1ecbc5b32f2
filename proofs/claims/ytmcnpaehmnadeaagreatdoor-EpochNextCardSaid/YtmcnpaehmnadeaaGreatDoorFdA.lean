/-
  EpochNext, plain law: the maximal faults of a list, in order: one list alone.
-/
import Derived.Test.YtmcnpaehmnadeaaGreatDoorFcEL
set_option maxHeartbeats 6400000
set_option maxRecDepth 1000000
namespace Go.Proofs.YtmcnpaehmnadeaaGreatDoor
open Go Go.RowKit
theorem pw_eq {α : Type} {R : α → α → Prop} (ha : ∀ a b, R a b → R b a → False) : ∀ {l m : List α}, l.Pairwise R → m.Pairwise R → (∀ x, x ∈ l ↔ x ∈ m) → l = m
 | [], [], _, _, _ => rfl
 | [], b :: m, _, _, h => absurd ((h b).mpr (List.mem_cons_self ..)) (by simp)
 | a :: l, [], _, _, h => absurd ((h a).mp (List.mem_cons_self ..)) (by simp)
 | a :: l, b :: m, hl, hm, h => by
  rw [List.pairwise_cons] at hl hm
  have hab : a = b := by
   have h1 := (h a).mp (List.mem_cons_self ..)
   have h2 := (h b).mpr (List.mem_cons_self ..)
   rw [List.mem_cons] at h1 h2
   rcases h1 with h1 | h1
   ·exact h1
   ·rcases h2 with h2 | h2
    ·exact h2.symm
    ·exact (ha _ _ (hl.1 b h2) (hm.1 a h1)).elim
  subst hab
  rw [pw_eq ha hl.2 hm.2 fun x => ?_]
  constructor
  ·intro hx
   have h1 := (h x).mp (List.mem_cons_of_mem _ hx)
   rw [List.mem_cons] at h1
   rcases h1 with rfl | h1
   ·exact (ha _ _ (hl.1 x hx) (hl.1 x hx)).elim
   ·exact h1
  ·intro hx
   have h1 := (h x).mpr (List.mem_cons_of_mem _ hx)
   rw [List.mem_cons] at h1
   rcases h1 with rfl | h1
   ·exact (ha _ _ (hm.1 x hx) (hm.1 x hx)).elim
   ·exact h1
theorem cmpS_zero {a b : Nat} : cmpS a b = 0 ↔ a = b := by
 unfold cmpS cmpI
 constructor
 ·intro h
  by_cases h1 : szS a < szS b
  ·rw [if_pos (by simp [h1])] at h; simp [h1] at h
  ·by_cases h2 : szS b < szS a
   ·rw [if_pos (by simp [h1, h2])] at h; simp [h1, h2] at h
   ·rw [if_neg (by simp [h1, h2])] at h
    by_cases h3 : a < b
    ·simp [h3] at h
    ·by_cases h4 : b < a
     ·simp [h3, h4] at h
     ·omega
 ·rintro rfl
  simp
def cF (a b : Nat × Nat) : Int := cmpF a.1 a.2 b.1 b.2
def covF (a b : Nat × Nat) : Bool := cB a.1 a.2 b.1 b.2
theorem cF_lt {a b : Nat × Nat} : cF a b < 0 ↔ cmpS a.1 b.1 < 0 ∨ (a.1 = b.1 ∧ cmpS a.2 b.2 < 0) := by
 unfold cF cmpF orI
 by_cases h : cmpS a.1 b.1 = 0
 ·rw [if_neg (by simpa using h)]
  have := cmpS_zero.mp h
  constructor
  ·intro h1; exact .inr ⟨this, h1⟩
  ·rintro (h1 | h1)
   ·omega
   ·exact h1.2
 ·rw [if_pos h]
  constructor
  ·intro h1; exact .inl h1
  ·rintro (h1 | h1)
   ·exact h1
   ·exact absurd (cmpS_zero.mpr h1.1) h
theorem cF_trans {a b c : Nat × Nat} (h1 : cF a b < 0) (h2 : cF b c < 0) : cF a c < 0 := by
 rw [cF_lt] at *
 rcases h1 with h1 | ⟨h1, h3⟩
 ·rcases h2 with h2 | ⟨h2, h4⟩
  ·exact .inl (cmpS_trans h1 h2)
  ·exact .inl (h2 ▸ h1)
 ·rcases h2 with h2 | ⟨h2, h4⟩
  ·exact .inl (h1 ▸ h2)
  ·exact .inr ⟨h1.trans h2, cmpS_trans h3 h4⟩
theorem cF_irrefl (a : Nat × Nat) : ¬ cF a a < 0 := by
 rw [cF_lt]
 rintro (h | ⟨_, h⟩)
 ·exact cmp_irrefl _ h
 ·exact cmp_irrefl _ h
theorem cF_anti (a b : Nat × Nat) (h1 : cF a b < 0) (h2 : cF b a < 0) : False := cF_irrefl a (cF_trans h1 h2)
theorem cF_three {a b : Nat × Nat} (h1 : ¬ cF a b < 0) (h2 : a ≠ b) : cF b a < 0 := by
 rw [cF_lt] at *
 by_cases h3 : a.1 = b.1
 ·refine .inr ⟨h3.symm, cmp_three (fun h => h1 (.inr ⟨h3, h⟩)) fun h => h2 (Prod.ext h3 h)⟩
 ·exact .inl (cmp_three (fun h => h1 (.inl h)) h3)
def AscF (l : List (Nat × Nat)) : Prop := l.Pairwise fun a b => cF a b < 0
def MaxOf (L r : List (Nat × Nat)) : Prop := AscF r ∧ ∀ y, y ∈ r ↔ y ∈ L ∧ ∀ z ∈ L, covF z y = true → z = y
theorem MaxOf.only {L r r' : List (Nat × Nat)} (h : MaxOf L r) (h' : MaxOf L r') : r = r' := pw_eq cF_anti h.1 h'.1 fun x => (h.2 x).trans (h'.2 x).symm
theorem MaxOf.same {L M r : List (Nat × Nat)} (h : MaxOf M r) (hm : ∀ y, y ∈ M ↔ y ∈ L) : MaxOf L r :=
 ⟨h.1, fun y => by rw [h.2, hm]; simp only [hm]⟩
def norI (s : List (Nat × Nat)) : List (Nat × Nat) := s.filter fun a => !(s.any fun b => decide (a ≠ b) && covF b a)
theorem norI_max {s : List (Nat × Nat)} (h : AscF s) : MaxOf s (norI s) := by
 refine ⟨List.Pairwise.sublist List.filter_sublist h, fun y => ?_⟩
 unfold norI
 rw [List.mem_filter]
 refine and_congr_right fun _ => ?_
 simp only [Bool.not_eq_true', List.any_eq_false, Bool.and_eq_true, decide_eq_true_eq, not_and]
 constructor
 ·intro h1 z hz hc
  by_cases he : y = z
  ·exact he.symm
  ·exact absurd hc (h1 z hz he)
 ·intro h1 z hz he hc
  exact he (h1 z hz hc).symm
def insF : List (Nat × Nat) → (Nat × Nat) → List (Nat × Nat)
 | [], x => [x]
 | a :: t, x => if cF a x < 0 then a :: insF t x else x :: a :: t
theorem insF_mem : ∀ {l : List (Nat × Nat)} {x y : Nat × Nat}, y ∈ insF l x ↔ y = x ∨ y ∈ l
 | [], x, y => by simp [insF]
 | a :: t, x, y => by
  rw [insF]
  split
  ·rw [List.mem_cons, insF_mem, List.mem_cons]
   constructor
   ·rintro (h | h | h)
    ·exact .inr (.inl h)
    ·exact .inl h
    ·exact .inr (.inr h)
   ·rintro (h | h | h)
    ·exact .inr (.inl h)
    ·exact .inl h
    ·exact .inr (.inr h)
  ·rw [List.mem_cons]
theorem insF_asc : ∀ {l : List (Nat × Nat)} {x : Nat × Nat}, AscF l → x ∉ l → AscF (insF l x)
 | [], x, _, _ => by simp [insF, AscF]
 | a :: t, x, h, hx => by
  unfold AscF at h ⊢
  rw [List.pairwise_cons] at h
  rw [insF]
  split
  ·next hc =>
   rw [List.pairwise_cons]
   refine ⟨fun y hy => ?_, insF_asc h.2 fun h1 => hx (List.mem_cons_of_mem _ h1)⟩
   rcases insF_mem.mp hy with rfl | hy
   ·exact hc
   ·exact h.1 y hy
  ·next hc =>
   have h2 : cF x a < 0 := cF_three hc fun he => hx (he ▸ List.mem_cons_self ..)
   rw [List.pairwise_cons, List.pairwise_cons]
   refine ⟨fun y hy => ?_, h⟩
   rw [List.mem_cons] at hy
   rcases hy with rfl | hy
   ·exact h2
   ·exact cF_trans h2 (h.1 y hy)
theorem insF_len : ∀ (l : List (Nat × Nat)) (x : Nat × Nat), (insF l x).length = l.length + 1
 | [], x => rfl
 | a :: t, x => by
  rw [insF]
  split
  ·simp [insF_len t x]
  ·simp
theorem insF_at : ∀ {l : List (Nat × Nat)} {x : Nat × Nat} (j : Nat), j ≤ l.length → (∀ i (h : i < l.length), i < j → cF l[i] x < 0) → (∀ h : j < l.length, ¬ cF l[j] x < 0) → insF l x = l.take j ++ x :: l.drop j
 | [], x, j, hj, _, _ => by simp at hj; subst hj; simp [insF]
 | a :: t, x, 0, _, _, h => by
  have := h (by simp)
  simp only [List.getElem_cons_zero] at this
  rw [insF, if_neg this]; simp
 | a :: t, x, j + 1, hj, h1, h2 => by
  have h3 := h1 0 (by simp) (by omega)
  simp only [List.getElem_cons_zero] at h3
  rw [insF, if_pos h3, insF_at j (by simpa using hj) (fun i hi hij => by have := h1 (i + 1) (by simp; omega) (by omega); simpa using this) (fun hi => by have := h2 (by simp; omega); simpa using this)]
  simp
def keepV (L : List (Nat × Nat)) (i : Nat) : Nat → Bool
 | 0 => true
 | j + 1 => keepV L i j && !(covF (L.getD j (0, 0)) (L.getD i (0, 0)) && (decide (L.getD j (0, 0) ≠ L.getD i (0, 0)) || decide (j < i)))
theorem keep_iff {L : List (Nat × Nat)} {i : Nat} : ∀ {n : Nat}, keepV L i n = true ↔ ∀ j, j < n → covF (L.getD j (0, 0)) (L.getD i (0, 0)) = true → L.getD j (0, 0) = L.getD i (0, 0) ∧ i ≤ j
 | 0 => by simp [keepV]
 | n + 1 => by
  rw [keepV, Bool.and_eq_true, keep_iff]
  constructor
  ·rintro ⟨h1, h2⟩ j hj hc
   by_cases hjn : j < n
   ·exact h1 j hjn hc
   ·have : j = n := by omega
    subst this
    rw [hc] at h2
    simp at h2
    exact h2
  ·intro h
   refine ⟨fun j hj hc => h j (by omega) hc, ?_⟩
   cases hc : covF (L.getD n (0, 0)) (L.getD i (0, 0))
   ·simp
   ·have := h n (by omega) hc
    simp
    exact this
def norR (L : List (Nat × Nat)) : Nat → List (Nat × Nat)
 | 0 => []
 | k + 1 => if keepV L k L.length then insF (norR L k) (L.getD k (0, 0)) else norR L k
theorem norR_len (L : List (Nat × Nat)) : ∀ k, (norR L k).length ≤ k
 | 0 => Nat.le_refl _
 | k + 1 => by
  have := norR_len L k
  rw [norR]
  split
  ·rw [insF_len]; omega
  ·omega
theorem norR_mem {L : List (Nat × Nat)} {y : Nat × Nat} : ∀ {k : Nat}, y ∈ norR L k ↔ ∃ i, i < k ∧ keepV L i L.length = true ∧ L.getD i (0, 0) = y
 | 0 => by simp [norR]
 | k + 1 => by
  rw [norR]
  split
  ·next h =>
   rw [insF_mem, norR_mem]
   constructor
   ·rintro (rfl | ⟨i, h1, h2, h3⟩)
    ·exact ⟨k, by omega, h, rfl⟩
    ·exact ⟨i, by omega, h2, h3⟩
   ·rintro ⟨i, h1, h2, h3⟩
    by_cases hik : i = k
    ·subst hik; exact .inl h3.symm
    ·exact .inr ⟨i, by omega, h2, h3⟩
  ·next h =>
   rw [norR_mem]
   constructor
   ·rintro ⟨i, h1, h2, h3⟩
    exact ⟨i, by omega, h2, h3⟩
   ·rintro ⟨i, h1, h2, h3⟩
    by_cases hik : i = k
    ·subst hik; exact absurd h2 h
    ·exact ⟨i, by omega, h2, h3⟩
theorem cov_refl (a : Nat × Nat) : covF a a = true := by
 unfold covF cB wB orS
 simp only [bv_andNot, bv_or, bv_nat, BitVec.and_not_self]
 rfl
theorem norR_asc (L : List (Nat × Nat)) : ∀ k, k ≤ L.length → AscF (norR L k)
 | 0, _ => List.Pairwise.nil
 | k + 1, hk => by
  rw [norR]
  split
  ·next h =>
   refine insF_asc (norR_asc L k (by omega)) fun hm => ?_
   obtain ⟨i, h1, h2, h3⟩ := norR_mem.mp hm
   have := (keep_iff.mp h) i (by omega) (by rw [h3]; exact cov_refl _)
   omega
  ·exact norR_asc L k (by omega)
theorem least_one {P : Nat → Prop} : ∀ i, P i → ∃ k, P k ∧ ∀ j, j < k → ¬ P j := by
 intro i
 induction i using Nat.strongRecOn with
 | ind i ih =>
  intro h
  by_cases hj : ∃ j, j < i ∧ P j
  ·obtain ⟨j, h1, h2⟩ := hj
   exact ih j h1 h2
  ·exact ⟨i, h, fun j h1 h2 => hj ⟨j, h1, h2⟩⟩
theorem norR_max (L : List (Nat × Nat)) : MaxOf L (norR L L.length) := by
 refine ⟨norR_asc L _ (Nat.le_refl _), fun y => ?_⟩
 rw [norR_mem]
 constructor
 ·rintro ⟨i, h1, h2, rfl⟩
  refine ⟨by simp [h1], fun z hz hc => ?_⟩
  obtain ⟨j, hj, rfl⟩ := List.getElem_of_mem hz
  have := (keep_iff.mp h2) j hj (by simpa [hj] using hc)
  simpa [hj] using this.1
 ·rintro ⟨h1, h2⟩
  obtain ⟨i, hi, he, hmin⟩ : ∃ i, i < L.length ∧ L.getD i (0, 0) = y ∧ ∀ j, j < i → L.getD j (0, 0) ≠ y := by
   have hex : ∃ i, i < L.length ∧ L.getD i (0, 0) = y := by
    obtain ⟨i, hi, rfl⟩ := List.getElem_of_mem h1
    exact ⟨i, hi, by simp [hi]⟩
   obtain ⟨i, hi⟩ := hex
   obtain ⟨k, hk, hmin⟩ := least_one (P := fun i => i < L.length ∧ L.getD i (0, 0) = y) i hi
   exact ⟨k, hk.1, hk.2, fun j hj he => hmin j hj ⟨by have := hk.1; omega, he⟩⟩
  refine ⟨i, hi, keep_iff.mpr fun j hj hc => ?_, he⟩
  rw [he] at hc ⊢
  have h3 := h2 (L.getD j (0, 0)) (by simp [hj]) hc
  refine ⟨h3, ?_⟩
  by_cases hji : j < i
  ·exact absurd h3 (hmin j hji)
  ·omega
end Go.Proofs.YtmcnpaehmnadeaaGreatDoor
