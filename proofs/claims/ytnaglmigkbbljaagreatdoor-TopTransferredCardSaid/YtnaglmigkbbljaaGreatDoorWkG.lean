/-
  awake47 returns true in every world, and leaves what was there.
-/
import Derived.Test.YtnaglmigkbbljaaGreatDoorWkF
set_option maxHeartbeats 6400000
set_option maxRecDepth 1000000
set_option linter.unusedVariables false
set_option linter.unusedSimpArgs false
namespace Go.Proofs.YtnaglmigkbbljaaGreatDoor
open Go Go.AM Go.RowKit
theorem s1_some {l : List AV} {s s' : St} {v : AV} (h : s1 l s = some (v, s')) : l = [.int .u16 7, .int .i64 2] ∧ v = .slice ⟨s.nx, 0, 0⟩ 3 1 ∧ s' = (AM.newRow s 61 [.int .u16 3, .int .u16 5, .int .u16 6]).2 := by
 unfold s1 at h
 split at h
 ·rename_i n k
  cases hb : ((n == 7) && (k == 2)) with
  | true =>
   rw [hb] at h
   simp only [Bool.and_eq_true, beq_iff_eq] at hb
   obtain ⟨rfl, rfl⟩ := hb
   have h2 := Option.some.inj h
   injection h2 with h3 h4
   exact ⟨rfl, h3.symm, h4.symm⟩
  | false =>
   rw [hb] at h
   cases h
 ·cases h
theorem sp_some {f : FuncId} {l : List AV} {s s' : St} {v : AV} (h : sp f l s = some (v, s')) : f = 155 ∧ l = [.int .u16 7, .int .i64 2] ∧ v = .slice ⟨s.nx, 0, 0⟩ 3 1 ∧ s' = (AM.newRow s 61 [.int .u16 3, .int .u16 5, .int .u16 6]).2 := by
 unfold sp at h
 cases hb : Nat.beq f 155 with
 | true =>
  rw [hb] at h
  exact ⟨Nat.eq_of_beq_eq_true hb, s1_some (show s1 l s = some (v, s') from h)⟩
 | false =>
  rw [hb] at h
  cases h
theorem enter155 (vs : Array Value) (w : World) : (callFunc 155 vs).run Tryz.prog w = .ok (.enter 155 vs) w := by
 have hn : ¬ (Tryz.f155).name = "runtime.NumGoroutine" := by
  have := List.all_eq_true.mp names0 Tryz.f155 (by
   have h := Tryz.func155
   rw [← Array.getElem?_toList] at h
   exact List.mem_of_getElem? h)
  simpa using this
 obtain ⟨c, hb⟩ : ∃ c, Tryz.f155.body = some c := ⟨_, rfl⟩
 simp [callFunc, Tryz.func155, hn, hb]
theorem ch_rel {μ : Mp} {vs : List Value} (h : LR (VR μ) [.int .u16 7, .int .i64 2] vs) : vs = [.int .u16 7, .int .i64 2] := by
 match vs, h with
 | [a, b], ⟨h1, h2, _⟩ =>
  have e1 : a = .int .u16 7 := h1
  have e2 : b = .int .i64 2 := h2
  rw [e1, e2]
theorem spOk (base : Nat) : CallOk Tryz.prog base sp := fun f args s v s' h => by
 obtain ⟨rfl, rfl, rfl, rfl⟩ := sp_some h
 refine ⟨enter155, fun μ w vs hi hvs => ?_⟩
 obtain rfl := ch_rel hvs
 refine (choose_ex w).mono ?_
 rintro e w' ⟨v', rfl, ho, hb⟩
 rcases ho.2 with ⟨_, h0⟩ | ⟨g, cap, cur, rfl, hg, hc, hn, _, hsz, hx⟩
 ·exact absurd h0 (by decide)
 refine ⟨_, μ.put s.nx 0 (g, cur.size), rfl, ⟨g, cur.size, cap, Mp.put_same _ _ _ _, rfl, hn, by show 0 + cap * 1 ≤ _; omega⟩, ?_⟩
 refine Stp.fresh hi hg hb 61 _ false cur (0, 0) hc (by show 3 ≤ _; omega) ?_ (fun i _ h => absurd h.2 (Nat.not_lt_zero _)) (fun _ => Nat.le_refl _)
 have e : cur.toList.take 3 = [.int .u16 3, .int .u16 5, .int .u16 6] := hx
 show LR (CR μ) [.int .u16 3, .int .u16 5, .int .u16 6] (cur.toList.take 3)
 rw [e]
 exact ⟨rfl, rfl, rfl, trivial⟩
theorem awake_ex (w : World) : Calls Tryz.prog 4 #[] w (IsB true w) := by
 obtain ⟨s, hs⟩ := outB_some awakeRun
 rw [runFS_eq] at hs
 exact closed_boolS progOk1 spOk hs w
end Go.Proofs.YtnaglmigkbbljaaGreatDoor
