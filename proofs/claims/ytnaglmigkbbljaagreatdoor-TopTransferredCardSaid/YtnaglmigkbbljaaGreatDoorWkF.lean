/-
  awake47: store.Chunks of no pairs; awake47 returns true in every world, and leaves what was there.
-/
import Derived.Test.YtnaglmigkbbljaaGreatDoorWkB
import Derived.Test.YtnaglmigkbbljaaGreatDoorWkC
import Derived.Test.YtnaglmigkbbljaaGreatDoorWkD
import Derived.Test.YtnaglmigkbbljaaGreatDoorWkE
import Derived.Test.YtnaglmigkbbljaaGreatDoorSgISfF
set_option maxHeartbeats 6400000
set_option maxRecDepth 1000000
set_option linter.unusedVariables false
set_option linter.unusedSimpArgs false
namespace Go.Proofs.YtnaglmigkbbljaaGreatDoor
open Go Go.AM Go.RowKit Go.Shelf
def NilI (w : World) (N B : Nat) (_ : Nat) (W : World) : Prop := Boxed W B 35 (.slice none 0 0) ∧ Below w.heap.size w W ∧ N ≤ W.heap.size
theorem nil_own {w : World} {N B : Nat} {Bs : Nat → Prop} (hBs : ∀ b, Bs b → b < N ∧ b ≠ B ∧ w.heap.size ≤ b) (hB : B < N) (hN : w.heap.size ≤ N) : OwnX N Bs (NilI w N B) := fun i W W' row ⟨hv, hb, hn⟩ hg hr => by
 have hw : ∀ r, row = some r → w.heap.size ≤ r := fun r e => by
  rcases hr r e with h | ⟨h, _⟩
  ·exact (hBs r h).2.2
  ·omega
 refine ⟨hv.kept hg (fun e => ?_), hb.grown hg hb.size hw, Nat.le_trans hn hg.size⟩
 rcases hr B e.symm with h | ⟨h, _⟩
 ·exact (hBs B h).2.1 rfl
 ·omega
attribute [local go_sem] Oper.semAt_some
def NilRet (w : World) (e : Ending) (w' : World) : Prop := e = .returned (.tuple #[.slice none 0 0, .int .i64 0]) ∧ Below w.heap.size w w'
theorem storeNil_ex (w : World) : Calls Tryz.prog 35 #[.slice none 0 0, .int .i64 8] w (NilRet w) := by
 have hV : VP [] := ⟨List.Pairwise.nil, fun x hx => by cases hx⟩
 have hF : FL encP w none [] := .inl rfl
 have HVA := Lib.hid (validP_ex none 0 0 [] w rfl (by omega) hV hF)
 clear hV hF
 refine (callsIn_wide (n := 9)).1 ?_
 refine callsIn_of_wp_marks Tryz.func35 rfl trivial ?_ rfl
 simp only [Tryz.ntmps35, List.size_toArray, List.length_cons, List.length_nil, Nat.reduceAdd, Nat.reduceSub, Array.replicate_succ, Array.replicate_zero, List.push_toArray, List.append_toArray, List.nil_append, List.cons_append]
 have hmx : Tryz.prog.follows .mixedOrders = true := by kernel_rfl
 gi_wp2_with (first
  | (refine ⟨trivial, ?_⟩; gi_at_call 87; refine (callsIn_wide.2 HVA.out).mono ?_; rintro e w1 ⟨rfl, hb1⟩; have HB1 := Lib.hid hb1; clear hb1)
  | (refine ⟨trivial, ?_⟩; gi_at_call 88; refine (callsIn_wide.2 (chunkM_ex none 0 0 _)).mono ?_; rintro e w2 ⟨rfl, hw2⟩; have HW2e := Lib.hid hw2; clear hw2))
 have hw2 := HW2e.out
 have hbB : Boxed w2 w1.heap.size 35 (.slice none 0 0) := by rw [hw2]; exact ((Boxed.new w1 35 (.slice none 0 0)).alloc _).alloc _
 have hb1 : Blk w2 (w1.heap.size + 1) 26 [.slice none 0 0] := by
  rw [hw2]
  have := heap_alloc_new (w1.alloc (.cells #[.slice none 0 0] 35)) (.cells #[.slice none 0 0] 26)
  rw [World.size_alloc] at this
  exact (show Blk ((w1.alloc (.cells #[.slice none 0 0] 35)).alloc (.cells #[.slice none 0 0] 26)) (w1.heap.size + 1) 26 [.slice none 0 0] from this).below ((Below.refl _ _).alloc (Nat.le_refl _) _)
 have hb2 : Blk w2 (w1.heap.size + 1 + 1) 3 [.int .i64 8] := by
  rw [hw2]
  have := heap_alloc_new ((w1.alloc (.cells #[.slice none 0 0] 35)).alloc (.cells #[.slice none 0 0] 26)) (.cells #[.int .i64 8] 3)
  rwa [World.size_alloc, World.size_alloc] at this
 have hsz2 : w2.heap.size = w1.heap.size + 3 := by rw [hw2]; simp
 have HB2 := Lib.hid (show Below w.heap.size w w2 by
  rw [hw2]
  exact ((HB1.out.alloc HB1.out.size _).alloc (by have := HB1.out.size; simp; omega) _).alloc (by have := HB1.out.size; simp; omega) _)
 have hsw := HB1.out.size
 clear hw2 HW2e
 obtain ⟨Bs, hBse⟩ : ∃ Bs : Nat → Prop, Bs = fun r => r = w1.heap.size + 1 ∨ r = w1.heap.size + 1 + 1 := ⟨_, rfl⟩
 have hseq := chunkP_seq 8 (by decide) _ _ 0 0 0 0 none (fun h => absurd h (by omega)) (Nat.le_refl _) (by omega) w2 hb1 hb2
 rw [← hBse] at hseq
 have HBS := Lib.hid (show ∀ b, Bs b → b < w2.heap.size ∧ b ≠ w1.heap.size ∧ w.heap.size ≤ b from fun b hb => by rw [hBse] at hb; omega)
 have hsz3 : w1.heap.size < w2.heap.size := by omega
 clear hBse hb1 hb2 hsz2
 refine wpIn_rangeY (n := 9) rfl (by decide) rfl trivial (enters_of Tryz.func142 (by kernel_rfl) rfl) hseq (fun b hb => (HBS.out b hb).1) (fun _ => rfl)
  (NilI w w2.heap.size w1.heap.size) (nil_own HBS.out (by omega) (by omega)) ⟨hbB, HB2.out, Nat.le_refl _⟩
  ?A ?assign ?body ?done
 case assign =>
  intro l i W K hK
  gi_wp2
  exact hK
 case body =>
  rintro l i W hl hI hi
  exact absurd hi (by omega)
 case done =>
  rintro D W hD ⟨hv, hb, hnW⟩ hK
  have c5 := hv.cell
  have HB5 := Lib.hid hb
  have HKK := Lib.hid hK
  clear hv hb
  gi_wp2
  refine ⟨by simp, .inl ⟨_, _, rfl, run_takeDeferred hK, ?_⟩⟩
  exact ⟨_, results_tmp2 rfl _ _ _, rfl, HB5.out.trans (belowK_b (w := w2) (n₀ := w.heap.size) (by omega) W D _ _ hD hK rfl rfl)⟩
theorem beqB_true {a b : List UInt8} (h : AM.beqB a b = true) : a = b := by
 rw [AM.beqB_eq] at h
 simpa using h
theorem lk_some {s : List UInt8} {v : AV} (h : lk s = some v) : (s = hi0 ∧ v = .str ho0) ∨ (s = hi1 ∧ v = .str ho1) := by
 unfold lk at h
 cases hb : AM.beqB hi0 s with
 | true =>
  rw [hb] at h
  exact .inl ⟨(beqB_true hb).symm, (Option.some.inj h).symm⟩
 | false =>
 rw [hb] at h
 cases hb1 : AM.beqB hi1 s with
 | true =>
  rw [hb1] at h
  exact .inr ⟨(beqB_true hb1).symm, (Option.some.inj h).symm⟩
 | false =>
 rw [hb1] at h
 cases h
theorem k1_some {a : AV} {r : List AV} {v : AV} (h : k1 a r = some v) : ∃ s, a = .str s ∧ r = [] ∧ lk s = some v := by
 unfold k1 at h
 split at h
 ·exact ⟨_, rfl, rfl, h⟩
 ·cases h
theorem k2_some {l : List AV} {v : AV} (h : k2 l = some v) : l = [.nilSlice, .int .i64 8] ∧ v = .tuple [.nilSlice, .int .i64 0] := by
 unfold k2 at h
 split at h
 ·rename_i n
  cases hb : (n == 8) with
  | true =>
   rw [hb] at h
   have := eq_of_beq hb
   subst this
   exact ⟨rfl, (Option.some.inj h).symm⟩
  | false =>
   rw [hb] at h
   cases h
 ·cases h
theorem kn_some {f : FuncId} {l : List AV} {v : AV} (h : kn f l = some v) : (f = 15 ∧ ((l = [.str hi0] ∧ v = .str ho0) ∨ (l = [.str hi1] ∧ v = .str ho1))) ∨ (f = 35 ∧ l = [.nilSlice, .int .i64 8] ∧ v = .tuple [.nilSlice, .int .i64 0]) := by
 unfold kn at h
 cases hb : Nat.beq f 15 with
 | true =>
  rw [hb] at h
  obtain rfl := Nat.eq_of_beq_eq_true hb
  cases l with
  | nil => cases h
  | cons a r =>
   obtain ⟨s, rfl, rfl, h1⟩ := k1_some (show k1 a r = some v from h)
   rcases lk_some h1 with ⟨rfl, rfl⟩ | ⟨rfl, rfl⟩
   ·exact .inl ⟨rfl, .inl ⟨rfl, rfl⟩⟩
   ·exact .inl ⟨rfl, .inr ⟨rfl, rfl⟩⟩
 | false =>
  rw [hb] at h
  cases hb2 : Nat.beq f 35 with
  | true =>
   rw [hb2] at h
   obtain rfl := Nat.eq_of_beq_eq_true hb2
   exact .inr ⟨rfl, k2_some (show k2 l = some v from h)⟩
  | false =>
   rw [hb2] at h
   cases h
theorem hex_call {i o : List UInt8} (h : outS o ((runF Tryz.prog same0 known0 kindOf 3000).call 15 [.str i] s00) = true) :
  (∀ vs w, (callFunc 15 vs).run Tryz.prog w = .ok (.enter 15 vs) w) ∧ ∀ μ vs w, LR (VR μ) [.str i] vs → Calls Tryz.prog 15 vs.toArray w fun e w' => ∃ v', e = .returned v' ∧ VR μ (.str o) v' ∧ Below w.heap.size w w' := by
 obtain ⟨s, hs⟩ := outS_some h
 rw [runF_eq] at hs
 exact plain_call progOk0 (args := [.str i]) rfl rfl hs
theorem enter35 (vs : Array Value) (w : World) : (callFunc 35 vs).run Tryz.prog w = .ok (.enter 35 vs) w := by
 have hn : ¬ (Tryz.f35).name = "runtime.NumGoroutine" := by
  have := List.all_eq_true.mp names0 Tryz.f35 (by
   have h := Tryz.func35
   rw [← Array.getElem?_toList] at h
   exact List.mem_of_getElem? h)
  simpa using this
 obtain ⟨c, hb⟩ : ∃ c, Tryz.f35.body = some c := ⟨_, rfl⟩
 simp [callFunc, Tryz.func35, hn, hb]
theorem nil_rel {μ : Mp} {vs : List Value} (h : LR (VR μ) [.nilSlice, .int .i64 8] vs) : vs = [.slice none 0 0, .int .i64 8] := by
 match vs, h with
 | [a, b], ⟨h1, h2, _⟩ =>
  have e1 : a = .slice none 0 0 := h1
  have e2 : b = .int .i64 8 := h2
  rw [e1, e2]
theorem progOk1 : ProgOk Tryz.prog same0 kn where
 mixed := progOk0.mixed
 name := progOk0.name
 same := progOk0.same
 known := fun f l v h => by
  rcases kn_some h with ⟨rfl, ⟨rfl, rfl⟩ | ⟨rfl, rfl⟩⟩ | ⟨rfl, rfl, rfl⟩
  ·exact ⟨rfl, hex_call hex0⟩
  ·exact ⟨rfl, hex_call hex1⟩
  ·refine ⟨rfl, enter35, fun μ vs w hvs => ?_⟩
   obtain rfl := nil_rel hvs
   refine (storeNil_ex w).mono ?_
   rintro e w' ⟨rfl, hb⟩
   exact ⟨_, rfl, ⟨[.slice none 0 0, .int .i64 0], ⟨rfl, rfl, trivial⟩, rfl⟩, hb⟩
end Go.Proofs.YtnaglmigkbbljaaGreatDoor
