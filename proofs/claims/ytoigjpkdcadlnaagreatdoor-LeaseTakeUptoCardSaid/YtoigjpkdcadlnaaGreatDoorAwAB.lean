/-
  The program as the abstract machine asks it.
-/
import Derived.Test.YtoigjpkdcadlnaaGreatDoorAmF
import Derived.KernelRfl
import Derived.Test.YtoigjpkdcadlnaaGreatDoorProg
namespace Go.Proofs.YtoigjpkdcadlnaaGreatDoor
open Go Go.AM

def same0 (f : FuncId) : Bool := Nat.beq f 279
def known0 (_ : FuncId) (_ : List AV) : Option AV := none

theorem names0 : (Tryz.prog.funcs.toList.all fun fn => !(fn.name == "runtime.NumGoroutine")) = true := by kernel_rfl

theorem noEscape (v : Value) (w : World) : (callFunc 279 #[v]).run Tryz.prog w = .ok (.value v) w := by kernel_rfl

theorem progOk0 : ProgOk Tryz.prog same0 known0 where
  mixed := by kernel_rfl
  name := fun f fn h => by
    have hm : fn ∈ Tryz.prog.funcs.toList := by
      rw [← Array.getElem?_toList] at h
      exact List.mem_of_getElem? h
    have := List.all_eq_true.mp names0 fn hm
    simpa using this
  same := fun f v w h => by
    obtain rfl : f = 279 := Nat.eq_of_beq_eq_true h
    exact noEscape v w
  known := fun _ _ _ h => by cases h
end Go.Proofs.YtoigjpkdcadlnaaGreatDoor

/-
  The five strings whose sums awake asks for, and their sums.
-/
namespace Go.Proofs.YtoigjpkdcadlnaaGreatDoor
open Go Go.AM
noncomputable section
def hi0 : List UInt8 := []
def ho0 : List UInt8 := [101, 51, 98, 48, 99, 52, 52, 50, 57, 56, 102, 99, 49, 99, 49, 52, 57, 97, 102, 98, 102, 52, 99, 56, 57, 57, 54, 102, 98, 57, 50, 52, 50, 55, 97, 101, 52, 49, 101, 52, 54, 52, 57, 98, 57, 51, 52, 99, 97, 52, 57, 53, 57, 57, 49, 98, 55, 56, 53, 50, 98, 56, 53, 53]
def hi1 : List UInt8 := [2, 1, 48, 64, 101, 51, 98, 48, 99, 52, 52, 50, 57, 56, 102, 99, 49, 99, 49, 52, 57, 97, 102, 98, 102, 52, 99, 56, 57, 57, 54, 102, 98, 57, 50, 52, 50, 55, 97, 101, 52, 49, 101, 52, 54, 52, 57, 98, 57, 51, 52, 99, 97, 52, 57, 53, 57, 57, 49, 98, 55, 56, 53, 50, 98, 56, 53, 53]
def ho1 : List UInt8 := [56, 97, 48, 57, 100, 48, 99, 98, 48, 52, 102, 48, 50, 100, 51, 54, 49, 55, 48, 56, 49, 50, 48, 100, 101, 97, 55, 97, 48, 100, 55, 97, 100, 97, 51, 49, 57, 54, 101, 48, 49, 54, 57, 55, 102, 100, 57, 98, 102, 55, 51, 50, 97, 55, 51, 97, 100, 98, 49, 51, 54, 48, 99, 52]
def hi2 : List UInt8 := [12, 115, 101, 100, 101, 114, 117, 110, 116, 32, 107, 101, 121, 4, 0, 8, 2, 0, 64, 56, 97, 48, 57, 100, 48, 99, 98, 48, 52, 102, 48, 50, 100, 51, 54, 49, 55, 48, 56, 49, 50, 48, 100, 101, 97, 55, 97, 48, 100, 55, 97, 100, 97, 51, 49, 57, 54, 101, 48, 49, 54, 57, 55, 102, 100, 57, 98, 102, 55, 51, 50, 97, 55, 51, 97, 100, 98, 49, 51, 54, 48, 99, 52]
def ho2 : List UInt8 := [102, 55, 51, 57, 57, 55, 52, 99, 100, 99, 54, 100, 50, 48, 49, 49, 53, 54, 55, 98, 56, 51, 57, 50, 52, 52, 56, 101, 55, 55, 57, 53, 100, 54, 97, 100, 56, 97, 55, 102, 49, 51, 49, 101, 49, 52, 55, 100, 56, 49, 53, 100, 99, 99, 54, 98, 53, 52, 55, 98, 102, 54, 54, 101]
def hi3 : List UInt8 := [12, 115, 101, 100, 101, 114, 117, 110, 116, 32, 107, 101, 121, 4, 4, 8, 2, 0, 64, 56, 97, 48, 57, 100, 48, 99, 98, 48, 52, 102, 48, 50, 100, 51, 54, 49, 55, 48, 56, 49, 50, 48, 100, 101, 97, 55, 97, 48, 100, 55, 97, 100, 97, 51, 49, 57, 54, 101, 48, 49, 54, 57, 55, 102, 100, 57, 98, 102, 55, 51, 50, 97, 55, 51, 97, 100, 98, 49, 51, 54, 48, 99, 52]
def ho3 : List UInt8 := [56, 99, 98, 49, 100, 50, 57, 56, 53, 99, 98, 54, 56, 57, 52, 57, 50, 54, 49, 53, 54, 52, 97, 56, 102, 101, 100, 100, 52, 98, 102, 100, 102, 55, 53, 51, 97, 49, 57, 50, 99, 99, 97, 99, 50, 102, 52, 102, 54, 54, 55, 56, 50, 48, 98, 55, 100, 57, 50, 51, 102, 50, 48, 101]
def hi4 : List UInt8 := [12, 115, 101, 100, 101, 114, 117, 110, 116, 32, 107, 101, 121, 4, 2, 8, 2, 0, 64, 56, 97, 48, 57, 100, 48, 99, 98, 48, 52, 102, 48, 50, 100, 51, 54, 49, 55, 48, 56, 49, 50, 48, 100, 101, 97, 55, 97, 48, 100, 55, 97, 100, 97, 51, 49, 57, 54, 101, 48, 49, 54, 57, 55, 102, 100, 57, 98, 102, 55, 51, 50, 97, 55, 51, 97, 100, 98, 49, 51, 54, 48, 99, 52]
def ho4 : List UInt8 := [54, 97, 55, 97, 49, 98, 100, 49, 53, 49, 99, 52, 98, 55, 97, 55, 98, 50, 99, 53, 49, 53, 56, 48, 55, 97, 102, 48, 50, 53, 102, 49, 56, 48, 55, 51, 50, 50, 53, 102, 53, 98, 53, 49, 48, 57, 48, 57, 48, 54, 57, 100, 50, 49, 51, 101, 102, 53, 57, 100, 56, 55, 99, 98]
def lk (s : List UInt8) : Option AV :=
  bif beqB hi0 s then some (.str ho0) else
  bif beqB hi1 s then some (.str ho1) else
  bif beqB hi2 s then some (.str ho2) else
  bif beqB hi3 s then some (.str ho3) else
  bif beqB hi4 s then some (.str ho4) else
  none
def k1 (a : AV) (r : List AV) : Option AV := match a, r with
  | .str s, [] => lk s
  | _, _ => none
def kn (f : FuncId) (l : List AV) : Option AV := Bool.rec (motive := fun _ => Option AV) none (List.rec (motive := fun _ => Option AV) none (fun a r _ => k1 a r) l) (Nat.beq f 79)

theorem beqB_true {a b : List UInt8} (h : beqB a b = true) : a = b := by
  rw [beqB_eq] at h
  simpa using h
theorem lk_some {s : List UInt8} {v : AV} (h : lk s = some v) : (s = hi0 ∧ v = .str ho0) ∨ (s = hi1 ∧ v = .str ho1) ∨ (s = hi2 ∧ v = .str ho2) ∨ (s = hi3 ∧ v = .str ho3) ∨ (s = hi4 ∧ v = .str ho4) := by
  unfold lk at h
  cases hb : beqB hi0 s with
  | true =>
    rw [hb] at h
    exact .inl ⟨(beqB_true hb).symm, (Option.some.inj h).symm⟩
  | false =>
  rw [hb] at h
  simp only [cond_false] at h
  cases hb : beqB hi1 s with
  | true =>
    rw [hb] at h
    exact .inr (.inl ⟨(beqB_true hb).symm, (Option.some.inj h).symm⟩)
  | false =>
  rw [hb] at h
  simp only [cond_false] at h
  cases hb : beqB hi2 s with
  | true =>
    rw [hb] at h
    exact .inr (.inr (.inl ⟨(beqB_true hb).symm, (Option.some.inj h).symm⟩))
  | false =>
  rw [hb] at h
  simp only [cond_false] at h
  cases hb : beqB hi3 s with
  | true =>
    rw [hb] at h
    exact .inr (.inr (.inr (.inl ⟨(beqB_true hb).symm, (Option.some.inj h).symm⟩)))
  | false =>
  rw [hb] at h
  simp only [cond_false] at h
  cases hb : beqB hi4 s with
  | true =>
    rw [hb] at h
    exact .inr (.inr (.inr (.inr (⟨(beqB_true hb).symm, (Option.some.inj h).symm⟩))))
  | false =>
  rw [hb] at h
  simp only [cond_false] at h
  cases h
theorem kn_some {f : FuncId} {l : List AV} {v : AV} (h : kn f l = some v) : f = 79 ∧ ((l = [.str hi0] ∧ v = .str ho0) ∨ (l = [.str hi1] ∧ v = .str ho1) ∨ (l = [.str hi2] ∧ v = .str ho2) ∨ (l = [.str hi3] ∧ v = .str ho3) ∨ (l = [.str hi4] ∧ v = .str ho4)) := by
  unfold kn at h
  cases hb : Nat.beq f 79 with
  | false => rw [hb] at h; cases h
  | true =>
    rw [hb] at h
    refine ⟨Nat.eq_of_beq_eq_true hb, ?_⟩
    cases l with
    | nil => cases h
    | cons a r =>
      have h : k1 a r = some v := h
      unfold k1 at h
      split at h
      · rename_i s
        rcases lk_some h with ⟨rfl, rfl⟩ | ⟨rfl, rfl⟩ | ⟨rfl, rfl⟩ | ⟨rfl, rfl⟩ | ⟨rfl, rfl⟩
        · exact .inl ⟨rfl, rfl⟩
        · exact .inr (.inl ⟨rfl, rfl⟩)
        · exact .inr (.inr (.inl ⟨rfl, rfl⟩))
        · exact .inr (.inr (.inr (.inl ⟨rfl, rfl⟩)))
        · exact .inr (.inr (.inr (.inr ⟨rfl, rfl⟩)))
      · cases h
end
end Go.Proofs.YtoigjpkdcadlnaaGreatDoor
