/-
  A closed call that the abstract machine runs to a plain value: the model's call returns it, and leaves what was there.
-/
import Derived.Test.YtoigjpkdcadlnaaGreatDoorAmDraw7
namespace Go.AM
open Go Go.RowKit Go.Lib

def μ0 : Mp := fun _ _ => none
def s00 : St := { hp := .nil, nx := 0, low := 0, gl := 0 }

theorem inv00 (w : World) : Inv w.heap.size μ0 s00 w :=
  ⟨⟨fun _ _ _ _ h => (by cases h), fun _ _ _ _ _ _ _ _ h => (by cases h)⟩, fun _ _ _ h => (by cases h), Nat.le_refl _, Nat.le_refl _, fun _ h => absurd h (Nat.not_lt_zero _), fun _ _ h => (by cases h)⟩

theorem args_plain {μ : Mp} : ∀ {as : List AV} {vs : List Value}, allB plainV as = true → LR (VR μ) as vs → LR (VR μ0) as vs
  | [], [], _, _ => trivial
  | a :: as, v :: vs, h, ⟨h1, h2⟩ => by
    simp only [allB] at h
    split at h
    · rename_i ha
      exact ⟨plain_rel ha h1, args_plain h h2⟩
    · cases h
  | [], _ :: _, _, h => h.elim
  | _ :: _, [], _, h => h.elim

section
variable {P : Program} {same : FuncId → Bool} {known : FuncId → List AV → Option AV}

/-- a call at plain arguments -/
theorem plain_call (hP : ProgOk P same known) {n : Nat} {f : FuncId} {args : List AV} {v : AV} {s' : St} (ha : allB plainV args = true) (hv : plainV v = true)
    (h : (run P same known kindOf n).call f args s00 = some (v, s')) :
    (∀ vs w, (callFunc f vs).run P w = .ok (.enter f vs) w) ∧
    ∀ μ vs w, LR (VR μ) args vs → Calls P f vs.toArray w fun e w' => ∃ v', e = .returned v' ∧ VR μ v v' ∧ Below w.heap.size w w' := by
  refine ⟨((run_sound hP draw_ok 0 n).2.2 f args s00 v s' h).1, fun μ vs w hvs => ?_⟩
  refine (((run_sound hP draw_ok w.heap.size n).2.2 f args s00 v s' h).2 μ0 w vs (inv00 w) (args_plain ha hvs)).mono ?_
  rintro e w' ⟨v', μ', rfl, h1, h2⟩
  exact ⟨v', rfl, plain_rel hv h1, h2.below (Nat.le_refl _)⟩

/-- a closed call that comes to a truth value -/
theorem closed_bool (hP : ProgOk P same known) {n : Nat} {f : FuncId} {b : Bool} {s' : St} (h : (run P same known kindOf n).call f [] s00 = some (.bool b, s')) (w : World) :
    Calls P f #[] w fun e w' => e = .returned (.bool b) ∧ Below w.heap.size w w' := by
  refine ((plain_call hP (args := []) rfl rfl h).2 μ0 [] w trivial).mono ?_
  rintro e w' ⟨v', rfl, h1, h2⟩
  have : v' = .bool b := h1
  subst this
  exact ⟨rfl, h2⟩

/-- more is known -/
theorem ProgOk.learn (hP : ProgOk P same known) {g : FuncId} {args : List AV} {v : AV} (hv : plainV v = true)
    (h : (∀ vs w, (callFunc g vs).run P w = .ok (.enter g vs) w) ∧ ∀ μ vs w, LR (VR μ) args vs → Calls P g vs.toArray w fun e w' => ∃ v', e = .returned v' ∧ VR μ v v' ∧ Below w.heap.size w w')
    {known' : FuncId → List AV → Option AV} (hk : ∀ f as u, known' f as = some u → known f as = some u ∨ (f = g ∧ as = args ∧ u = v)) : ProgOk P same known' :=
  ⟨hP.mixed, hP.name, hP.same, fun f as u hu => by
    rcases hk f as u hu with h1 | ⟨rfl, rfl, rfl⟩
    · exact hP.known f as u h1
    · exact ⟨hv, h.1, h.2⟩⟩
end
end Go.AM
