/-
  Operations on values, continued: comparisons, conversions of numbers, places, parts.
-/
import Derived.Test.YtoigjpkdcadlnaaGreatDoorAmOps1
namespace Go.AM
open Go Go.RowKit

section
variable {μ : Mp} {P : Program} {w : World}

theorem eqGuard_run {op : BinOp} {t : TypeId} {X Y : Operand} {x y : AV} {x' y' : Value} (h : eqOk P (isConst X || isConst Y) t x y = true) (hx : VR μ x x') (hy : VR μ y y') :
    ∀ w, (eqGuard op t X Y x' y').run P w = .ok () w := by
  intro w
  have hc : ∀ Z : Operand, isConst Z = true → (match Z with | .const _ => true | _ => false) = true := fun Z hz => by cases Z <;> simp_all [isConst]
  cases x
  case nilIface =>
    have hx : x' = _ := hx
    subst hx
    cases y
    case nilIface =>
      have hy : y' = _ := hy
      subst hy
      simp only [eqOk, Bool.or_eq_true] at h
      cases op <;> simp [eqGuard] <;> (rcases h with h | h <;> (first | (cases X <;> simp_all [isConst]; done) | (cases Y <;> simp_all [isConst]; done) | (cases X <;> cases Y <;> simp_all [isConst])))
    case iface t' v =>
      obtain ⟨u, _, rfl⟩ := hy
      cases op <;> simp [eqGuard]
    case ptr a => obtain ⟨_, _, rfl⟩ := hy; cases op <;> simp [eqGuard]
    case empty => obtain ⟨_, _, rfl⟩ := hy; cases op <;> simp [eqGuard]
    case slice a n e => obtain ⟨_, _, _, _, rfl, _⟩ := hy; cases op <;> simp [eqGuard]
    case func f c => obtain ⟨_, _, rfl⟩ := hy; cases op <;> simp [eqGuard]
    case agg c => obtain ⟨_, _, rfl⟩ := hy; cases op <;> simp [eqGuard]
    case tuple c => obtain ⟨_, _, rfl⟩ := hy; cases op <;> simp [eqGuard]
    all_goals (have hy : y' = _ := hy; subst hy; cases op <;> simp [eqGuard])
  case agg cs =>
    obtain ⟨us, _, rfl⟩ := hx
    by_cases hya : ∃ cs', y = .agg cs'
    · obtain ⟨cs', rfl⟩ := hya
      obtain ⟨vs, _, rfl⟩ := hy
      simp only [eqOk, Bool.not_eq_true'] at h
      exact run_eqGuard_agg w op t X Y _ _ h
    · have : ∀ ws, y' ≠ .agg ws := by
        intro ws he
        subst he
        cases y <;> simp [VR, V1, CR, SR] at hy
        exact hya ⟨_, rfl⟩
      cases op <;> simp [eqGuard] <;> (split <;> simp_all)
  case iface t' v => obtain ⟨u, _, rfl⟩ := hx; cases op <;> simp [eqGuard]
  case ptr a => obtain ⟨_, _, rfl⟩ := hx; cases op <;> simp [eqGuard]
  case empty => obtain ⟨_, _, rfl⟩ := hx; cases op <;> simp [eqGuard]
  case slice a n e => obtain ⟨_, _, _, _, rfl, _⟩ := hx; cases op <;> simp [eqGuard]
  case func f c => obtain ⟨_, _, rfl⟩ := hx; cases op <;> simp [eqGuard]
  case tuple c => obtain ⟨_, _, rfl⟩ := hx; cases op <;> simp [eqGuard]
  all_goals (have hx : x' = _ := hx; subst hx; cases op <;> simp [eqGuard])

theorem equal_run {t : TypeId} {x y : AV} {b : Bool} {x' y' : Value} (h : aeq P 12 t x y = some b) (hx : VR μ x x') (hy : VR μ y y') : ∀ w, (Op.equal t x' y').run P w = .ok b w :=
  fun w => aeq_sound 12 t x y b x' y' h hx hy 9988 w

/-- '==' and '!=' on what is neither two numbers nor two strings -/
theorem binOp_eq {t : TypeId} {x y : AV} {b : Bool} {x' y' : Value} (h : aeq P 12 t x y = some b) (hx : VR μ x x') (hy : VR μ y y')
    (hi : ∀ k a k' b, ¬ (x = .int k a ∧ y = .int k' b)) (hs : ∀ a b, ¬ (x = .str a ∧ y = .str b)) (w : World) :
    (binOp .eql t x' y').run P w = .ok (.bool b) w ∧ (binOp .neq t x' y').run P w = .ok (.bool !b) w := by
  have he := equal_run h hx hy
  have key : (∀ k a k' b', ¬ (x' = .int k a ∧ y' = .int k' b')) ∧ (∀ a b', ¬ (x' = .string a ∧ y' = .string b')) ∧ (∀ k a k' b', ¬ (x' = .float k a ∧ y' = .float k' b')) ∧ (∀ k a b k' c d, ¬ (x' = .complex k a b ∧ y' = .complex k' c d)) := by
    refine ⟨?_, ?_, ?_, ?_⟩
    · rintro k a k' b' ⟨rfl, rfl⟩
      cases x <;> simp [VR, V1, CR, SR] at hx
      cases y <;> simp [VR, V1, CR, SR] at hy
      exact hi _ _ _ _ ⟨rfl, rfl⟩
    · rintro a b' ⟨rfl, rfl⟩
      cases x <;> simp [VR, V1, CR, SR] at hx
      cases y <;> simp [VR, V1, CR, SR] at hy
      exact hs _ _ ⟨rfl, rfl⟩
    · rintro k a k' b' ⟨rfl, rfl⟩
      cases x <;> simp [VR, V1, CR, SR] at hx
    · rintro k a b k' c d ⟨rfl, rfl⟩
      cases x <;> simp [VR, V1, CR, SR] at hx
  obtain ⟨k1, k2, k3, k4⟩ := key
  constructor
  · unfold binOp
    split <;> first | (exfalso; first | exact k1 _ _ _ _ ⟨rfl, rfl⟩ | exact k2 _ _ ⟨rfl, rfl⟩ | exact k3 _ _ _ _ ⟨rfl, rfl⟩ | exact k4 _ _ _ _ _ _ ⟨rfl, rfl⟩) | simp_all
  · unfold binOp
    split <;> first | (exfalso; first | exact k1 _ _ _ _ ⟨rfl, rfl⟩ | exact k2 _ _ ⟨rfl, rfl⟩ | exact k3 _ _ _ _ ⟨rfl, rfl⟩ | exact k4 _ _ _ _ _ _ ⟨rfl, rfl⟩) | simp_all

theorem bin_sound {op : BinOp} {t : TypeId} {X Y : Operand} {x y v : AV} {x' y' : Value} (h : binO P (isConst X || isConst Y) op t x y = some v) (hx : VR μ x x') (hy : VR μ y y') :
    ∃ v', VR μ v v' ∧ ∀ w, (do eqGuard op t X Y x' y'; binOp op t x' y' : Sem Value).run P w = .ok v' w := by
  unfold binO at h
  split at h
  case h_1 k a k' b =>
    split at h
    · cases h
    · rename_i hb
      have hb : ¬ b < 0 := by simpa using hb
      simp at h; subst h
      rw [int_inv hx, int_inv hy]
      exact ⟨_, rfl, fun w => by simp [eqGuard, binOp, Op.shift, hb]⟩
  case h_2 k a k' b =>
    split at h
    · cases h
    · rename_i hb
      have hb : ¬ b < 0 := by simpa using hb
      simp at h; subst h
      rw [int_inv hx, int_inv hy]
      exact ⟨_, rfl, fun w => by simp [eqGuard, binOp, Op.shift, hb]⟩
  case h_3 k a k' b _ _ =>
    split at h
    · rename_i hk
      have hk : k = k' := by simpa using hk
      subst hk
      rw [int_inv hx, int_inv hy]
      obtain ⟨v', h1, h2⟩ := intBin_sound (P := P) (μ := μ) h
      exact ⟨v', h1, fun w => h2 t X Y w⟩
    · cases h
  case h_4 a b _ _ _ =>
    rw [str_inv hx, str_inv hy]
    obtain ⟨v', h1, h2⟩ := strBin_sound (P := P) (μ := μ) h
    exact ⟨v', h1, fun w => h2 t X Y w⟩
  case h_5 hn1 hn2 =>
    split at h
    · rename_i hok
      split at h
      · rename_i b hb
        simp at h; subst h
        refine ⟨.bool b, rfl, fun w => ?_⟩
        simp only [Sem.run_bind, eqGuard_run hok hx hy, Result.andThen_ok]
        exact (binOp_eq hb hx hy (fun k a k' b' ⟨e1, e2⟩ => hn1 _ _ _ _ e1 e2) (fun a b' ⟨e1, e2⟩ => hn2 _ _ e1 e2) w).1
      · cases h
    · cases h
  case h_6 hn1 hn2 =>
    split at h
    · rename_i hok
      split at h
      · rename_i b hb
        simp at h; subst h
        refine ⟨.bool !b, rfl, fun w => ?_⟩
        simp only [Sem.run_bind, eqGuard_run hok hx hy, Result.andThen_ok]
        exact (binOp_eq hb hx hy (fun k a k' b' ⟨e1, e2⟩ => hn1 _ _ _ _ e1 e2) (fun a b' ⟨e1, e2⟩ => hn2 _ _ e1 e2) w).2
      · cases h
    · cases h
  case h_7 => cases h

theorem un_sound {op : UnOp} {x v : AV} {x' : Value} (h : unO op x = some v) (hx : VR μ x x') : ∃ v', VR μ v v' ∧ ∀ w, (Op.unary op x').run P w = .ok v' w := by
  unfold unO at h
  split at h
  · simp at h; subst h; rw [int_inv hx]; exact ⟨_, rfl, fun w => by simp [Op.unary, Op.intArith]⟩
  · simp at h; subst h; rw [int_inv hx]; exact ⟨_, rfl, fun w => by simp [Op.unary, Op.intBits]⟩
  · simp at h; subst h; rw [bool_inv hx]; exact ⟨_, rfl, fun w => by simp [Op.unary]⟩
  · cases h
end
end Go.AM
