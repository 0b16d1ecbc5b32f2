/-
  LeaseTake: message.Valid: what is present.
-/
import Derived.Test.YtoigjpkdcadlnaaGreatDoorLuE
import Derived.Test.YtoigjpkdcadlnaaGreatDoorAwAB
namespace Go.Proofs.YtoigjpkdcadlnaaGreatDoor
open Go Go.RowKit

set_option maxHeartbeats 800000 in
theorem chkE_any (C : Nat) (p q : Bool) (w : World) (hC : Chk C p q w) : Calls Tryz.prog 58 #[.pointer (some ⟨C, 0, none⟩)] w fun e w' => e = .returned (.int .i64 (if p then 7 else if q then 3 else 0)) ∧ w = w' := by
  have k0 := hC.c0
  have k1 := hC.c1
  clear hC
  cases p <;> cases q
  all_goals
    go_enter Tryz.func58, Tryz.ntmps58
    go_wp2
    go_ret
    exact ⟨rfl, rfl⟩

theorem ba_ne {s : ByteArray} (h : s.size ≠ 0) : s.toList ≠ [] := fun e => h (by
  have h2 : s.data.toList = [] := by rw [← e]; exact (ByteArray.toList_eq s).symm
  have : s.data.size = 0 := by rw [← Array.length_toList, h2]; rfl
  exact this)

def emptyB (s : Int) (r : ByteArray) (n : Nat) : Bool := decide (s = 0 ∧ r.size = 0 ∧ n = 0)
theorem emptyB_t {s : Int} {r : ByteArray} {n : Nat} (h : s = 0 ∧ r.size = 0 ∧ n = 0) : true = emptyB s r n := by unfold emptyB; simp [h]
theorem emptyB_f {s : Int} {r : ByteArray} {n : Nat} (h : ¬ (s = 0 ∧ r.size = 0 ∧ n = 0)) : false = emptyB s r n := by unfold emptyB; simp only [h, decide_false]

def BRet (b : Bool) (w : World) (e : Ending) (w' : World) : Prop := e = .returned (.bool b) ∧ Below w.heap.size w w'

set_option maxHeartbeats 1600000 in
theorem empty_any (s : Int) (r : ByteArray) (pc pp ph : Option Addr) (nc cc np cp nh ch : Nat) (h1 : nc ≤ 1048576) (h2 : np ≤ 1048576) (h3 : nh ≤ 1048576) (w : World) :
    Calls Tryz.prog 96 #[.agg #[.int .i64 s, .string r, .slice pc nc cc, .slice pp np cp, .slice ph nh ch]] w (BRet (emptyB s r (nc + np + nh)) w) := by
  by_cases hs : s = 0
  · by_cases hr : r.size = 0
    · obtain rfl : r = ⟨#[]⟩ := by
        have : r.data = #[] := Array.eq_empty_of_size_eq_zero hr
        cases r; simp_all
      go_enter Tryz.func96, Tryz.ntmps96
      go_wp2
      go_ret
      refine ⟨congrArg (fun b => Ending.returned (.bool b)) ?_, (Below.refl _ _).alloc (Nat.le_refl _) _⟩
      by_cases hz : nc + np + nh = 0
      · rw [← emptyB_t ⟨hs, hr, hz⟩]; simp; omega
      · rw [← emptyB_f (fun h => hz h.2.2)]; simp; omega
    · have r1 := ba_ne hr
      go_enter Tryz.func96, Tryz.ntmps96
      go_wp2
      go_ret
      exact ⟨congrArg (fun b => Ending.returned (.bool b)) (emptyB_f (fun h => hr h.2.1)), (Below.refl _ _).alloc (Nat.le_refl _) _⟩
  · go_enter Tryz.func96, Tryz.ntmps96
    go_wp2
    go_ret
    exact ⟨congrArg (fun b => Ending.returned (.bool b)) (emptyB_f (fun h => hs h.1)), (Below.refl _ _).alloc (Nat.le_refl _) _⟩
end Go.Proofs.YtoigjpkdcadlnaaGreatDoor

/-
  LeaseTake: a signature held against the zero one.
-/
namespace Go.Proofs.YtoigjpkdcadlnaaGreatDoor
open Go Go.RowKit Go.AM

theorem agg3 : aggT Tryz.prog 3 = some false := by kernel_rfl
theorem agg9 : aggT Tryz.prog 9 = some false := by kernel_rfl
theorem held28 : Tryz.prog.stoodInHeld 28 = false := by kernel_rfl

def sgZ (a b c d : Int) (x y : List UInt8) : Bool := a == 0 && (b == 0 && (c == 0 && (d == 0 && (x == [] && y == []))))

theorem aeq28 (a b c d : Int) (x y : List UInt8) : aeq Tryz.prog 12 28 (.agg [.int .i64 a, .int .i64 b, .int .i64 c, .int .i64 d, .str x, .str y]) (.agg [.int .i64 0, .int .i64 0, .int .i64 0, .int .i64 0, .str [], .str []]) = some (sgZ a b c d x y) := by
  unfold sgZ
  have e3 : ∀ u v : Int, aeq Tryz.prog 11 3 (.int .i64 u) (.int .i64 v) = some (u == v) := fun u v => by unfold aeq; rw [Tryz.underlying3]; rfl
  have e9 : ∀ u v : List UInt8, aeq Tryz.prog 11 9 (.str u) (.str v) = some (u == v) := fun u v => by unfold aeq; rw [Tryz.underlying9]
  unfold aeq
  rw [Tryz.underlying28]
  simp only [held28]
  simp only [eqFields, partOf, agg3, agg9]
  simp only [e3, e9, List.getElem?_cons_zero, List.getElem?_cons_succ]
  cases a == 0 <;> cases b == 0 <;> cases c == 0 <;> cases d == 0 <;> cases x == [] <;> cases y == [] <;> rfl

theorem neq28 (a b c d : Int) (x y : ByteArray) (w : World) : (binOp .neq 28 (.agg #[.int .i64 a, .int .i64 b, .int .i64 c, .int .i64 d, .string x, .string y]) (.agg #[.int .i64 0, .int .i64 0, .int .i64 0, .int .i64 0, .string ⟨#[]⟩, .string ⟨#[]⟩])).run Tryz.prog w = .ok (.bool (!sgZ a b c d x.data.toList y.data.toList)) w := by
  rw [run_neq_struct]
  have h := aeq_sound (P := Tryz.prog) (μ := μ0) 12 28 _ _ _ (.agg #[.int .i64 a, .int .i64 b, .int .i64 c, .int .i64 d, .string x, .string y]) (.agg #[.int .i64 0, .int .i64 0, .int .i64 0, .int .i64 0, .string ⟨#[]⟩, .string ⟨#[]⟩]) (aeq28 a b c d x.data.toList y.data.toList)
    ⟨[.int .i64 a, .int .i64 b, .int .i64 c, .int .i64 d, .string x, .string y], ⟨rfl, rfl, rfl, rfl, rfl, rfl, trivial⟩, rfl⟩ ⟨[.int .i64 0, .int .i64 0, .int .i64 0, .int .i64 0, .string ⟨#[]⟩, .string ⟨#[]⟩], ⟨rfl, rfl, rfl, rfl, rfl, rfl, trivial⟩, rfl⟩ 9988 w
  rw [h]
  rfl
end Go.Proofs.YtoigjpkdcadlnaaGreatDoor
