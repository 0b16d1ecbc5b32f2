/-
  Code and calls: what the abstract machine runs, the model runs.
-/
import Derived.Test.YtnaglmigkbbljaaGreatDoorAmOps5AmStep
import Derived.LoopN
set_option maxHeartbeats 6400000
set_option maxRecDepth 1000000
namespace Go.AM
open Go Go.RowKit Go.Lib
def exOf : Ex → Exit
 | .normal => .normal
 | .exit id => .exit id
 | .ret => .ret
def CodeOk (P : Program) (base : Nat) (c : Code) (f : Fr) (s : St) (ex : Ex) (f' : Fr) (s' : St) : Prop :=
 ∀ μ w a, Inv base μ s w → TmRel μ f a → a.defers = [] → ∀ Q : Exit → Act → World → Prop,
  (∀ μ' w' a', Stp base μ μ' s s' w w' → TmRel μ' f' a' → a'.defers = [] → Q (exOf ex) a' w') → c.wp P Q a w
def CallOk (P : Program) (base : Nat) (call : FuncId → List AV → St → Option (AV × St)) : Prop :=
 ∀ f args s v s', call f args s = some (v, s') → (∀ vs w, (callFunc f vs).run P w = .ok (.enter f vs) w) ∧
  ∀ μ w vs, Inv base μ s w → LR (VR μ) args vs → Calls P f vs.toArray w fun e w' => ∃ v' μ', e = .returned v' ∧ VR μ' v v' ∧ Stp base μ μ' s s' w w'
section
variable {base : Nat} {μ μ' : Mp} {P : Program} {w w' : World} {s s' : St} {f : Fr} {a : Act}
theorem argsT_get : ∀ (args : List AV) (i : Nat) (t : T AV) (k : Nat), (argsT args i t).get k = if i ≤ k ∧ k < i + args.length then args[k - i]? else t.get k
 | [], i, t, k => by
  have hn : ¬ (i ≤ k ∧ k < i + ([] : List AV).length) := by simp only [List.length_nil]; omega
  rw [if_neg hn]
  rfl
 | v :: r, i, t, k => by
  simp only [argsT]
  rw [argsT_get r (i + 1) (T.set v t i) k, T.get_set]
  by_cases h1 : k = i
  ·subst h1
   rw [if_neg (by omega), if_pos rfl, if_pos (by simp)]
   simp
  ·rw [if_neg h1]
   by_cases h2 : i + 1 ≤ k ∧ k < i + 1 + r.length
   ·rw [if_pos h2, if_pos (by simp; omega), show k - i = (k - (i + 1)) + 1 by omega]
    simp
   ·rw [if_neg h2, if_neg (by simp; omega)]
theorem enter_rel {args : List AV} {vs : List Value} (h : LR (VR μ) args vs) {n : Nat} (hn : args.length ≤ n) :
  TmRel μ { tm := argsT args 0 .nil, nt := n } { tmps := vs.toArray ++ Array.replicate (n - vs.toArray.size) undef, defers := [] } := by
 have hl := h.length
 refine ⟨by simp; omega, fun t => ?_⟩
 show VR μ (((argsT args 0 .nil).get t).getD und) _
 rw [argsT_get]
 by_cases ht : t < args.length
 ·rw [if_pos (by omega)]
  obtain ⟨x, hx⟩ : ∃ x, args[t]? = some x := ⟨args[t], List.getElem?_eq_getElem ht⟩
  obtain ⟨v, hv, hr⟩ := h.get _ _ hx
  have : (vs.toArray ++ Array.replicate (n - vs.toArray.size) undef).getD t undef = v := by
   have hlt : t < vs.length := by omega
   simp [Array.getElem?_append, hlt]
   rw [List.getElem?_eq_getElem hlt] at hv
   injection hv
  rw [this]
  simp [hx]
  exact hr
 ·rw [if_neg (by omega)]
  have : (vs.toArray ++ Array.replicate (n - vs.toArray.size) undef).getD t undef = undef := by
   have hlt : ¬ t < vs.length := by omega
   simp [Array.getElem?_append, hlt, Array.getElem?_replicate]
   split <;> rfl
  rw [this]
  exact VR.und
theorem noTup_v1 {x : AV} {v : Value} (h : isTup x = false) (hv : VR μ x v) : V1 μ x v := by
 cases x <;> first | exact hv | simp [isTup] at h
theorem res_sound (hr : Rel base μ s.hp w) (ht : TmRel μ f a) : ∀ (rs : List ResultVar) (l : List AV), resO P f s rs = some l →
  ∃ us, LR (V1 μ) l us ∧ (rs.mapM (fun
   | .tmp t => pure (a.tmps.getD t undef)
   | .cell c t => do loadVar t (← asAddr (a.tmps.getD c undef))) : Sem (List Value)).run P w = .ok us w
 | [], l, h => by
  simp [resO] at h; subst h
  exact ⟨[], trivial, rfl⟩
 | .tmp t :: rs, l, h => by
  simp only [resO] at h
  split at h
  ·rename_i v hv
   split at h
   ·rename_i l' hnt hl'
    simp at h; subst h
    obtain ⟨us, h1, h2⟩ := res_sound hr ht rs l' hl'
    have := ht.tmp t
    rw [hv] at this
    refine ⟨a.tmps.getD t undef :: us, ⟨noTup_v1 hnt this, h1⟩, ?_⟩
    rw [List.mapM_cons]
    simp only [Sem.run_bind, Sem.run_pure, Result.andThen_ok, h2]
   ·cases h
  ·cases h
 | .cell c t :: rs, l, h => by
  simp only [resO] at h
  split at h
  ·rename_i q hq
   split at h
   ·rename_i v l' hv hl'
    simp at h; subst h
    obtain ⟨us, h1, h2⟩ := res_sound hr ht rs l' hl'
    have := ht.tmp c
    rw [hq] at this
    obtain ⟨c', hc', he⟩ := this
    obtain ⟨u, h3, h4⟩ := load_sound hr hv hc'
    refine ⟨u :: us, ⟨h3, h1⟩, ?_⟩
    have ha : (asAddr (a.tmps.getD c undef)).run P w = .ok c' w := by rw [he]; rfl
    rw [List.mapM_cons]
    simp only [Sem.run_bind, ha, Sem.run_pure, Result.andThen_ok, h4, h2]
   ·cases h
  ·cases h
theorem results_run {fn : Func} (hr : Rel base μ s.hp w) (ht : TmRel μ f a) {l : List AV} (h : resO P f s fn.results.toList = some l) :
  ∃ v', VR μ (oneOf l) v' ∧ (results fn a.tmps).run P w = .ok v' w := by
 obtain ⟨us, h1, h2⟩ := res_sound hr ht _ _ h
 have hl := h1.length
 have hrun : (results fn a.tmps).run P w = .ok (if h : us.toArray.size = 1 then us.toArray[0] else .tuple us.toArray) w := by
  unfold results
  rw [Array.mapM_eq_mapM_toList]
  simp only [Sem.run_bind, Sem.run_map]
  have h2' := h2
  first
   | (rw [h2']; rfl)
   | (erw [h2']; rfl)
 refine ⟨_, ?_, hrun⟩
 unfold oneOf
 split
 ·rename_i v
  obtain ⟨u, us', rfl, h3, h4⟩ := h1.cons_left
  have := h4.nil_left
  subst this
  simp
  exact h3.vr
 ·rename_i hne
  have : ¬ us.toArray.size = 1 := by
   intro h0
   have : l.length = 1 := by simp at h0; omega
   obtain ⟨v, rfl⟩ := List.length_eq_one_iff.1 this
   exact hne v rfl
  rw [dif_neg this]
  exact ⟨us, h1, rfl⟩
theorem plainC_rel {x : AV} {v : Value} (h : plainC x = true) (hv : CR μ x v) : CR μ' x v := by
 cases x <;> first | exact hv | simp [plainC] at h
theorem allB_mem {α : Type} {p : α → Bool} : ∀ {l : List α}, allB p l = true → ∀ x ∈ l, p x = true
 | [], _, _, h => by simp at h
 | y :: l, h, x, hx => by
  simp only [allB] at h
  split at h
  ·rename_i hy
   rcases List.mem_cons.1 hx with rfl | hx
   ·exact hy
   ·exact allB_mem h x hx
  ·cases h
theorem LR.mono_mem {α β : Type} {R R' : α → β → Prop} : ∀ {as : List α} {bs : List β}, (∀ a ∈ as, ∀ b, R a b → R' a b) → LR R as bs → LR R' as bs
 | [], [], _, _ => trivial
 | a :: as, b :: bs, h, ⟨h1, h2⟩ => ⟨h a (by simp) b h1, LR.mono_mem (fun x hx => h x (by simp [hx])) h2⟩
 | [], _ :: _, _, h => h.elim
 | _ :: _, [], _, h => h.elim
theorem plain1_rel {x : AV} {v : Value} (h : plain1 x = true) (hv : V1 μ x v) : V1 μ' x v := by
 cases x
 case agg cs => obtain ⟨vs, h1, rfl⟩ := hv; exact ⟨vs, h1.mono_mem fun y hy b hb => plainC_rel (allB_mem h y hy) hb, rfl⟩
 all_goals (simp only [plain1] at h; simp only [V1] at hv ⊢; exact plainC_rel (μ := μ) (μ' := μ') h hv)
theorem plain_rel {x : AV} {v : Value} (h : plainV x = true) (hv : VR μ x v) : VR μ' x v := by
 cases x
 case tuple cs => obtain ⟨vs, h1, rfl⟩ := hv; exact ⟨vs, h1.mono_mem fun y hy b hb => plain1_rel (allB_mem h y hy) hb, rfl⟩
 all_goals (simp only [plainV] at h; simp only [VR] at hv ⊢; exact plain1_rel (μ := μ) (μ' := μ') h hv)
theorem tidy_sound (hi : Inv base μ s w) {v : AV} {v' : Value} (hst : Stp base μ μ' { s with low := s.nx } s' w w') (hv : VR μ' v v') :
  ∃ μ'', VR μ'' v v' ∧ Stp base μ μ'' s (tidy s s' v) w w' := by
 have hi' : Inv base μ { s with low := s.nx } w := ⟨hi.rel, hi.dom, Nat.le_refl _, hi.size, hi.glob, hi.wf⟩
 unfold tidy
 split
 ·rename_i hc
  simp only [Bool.and_eq_true, ble_iff] at hc
  refine ⟨μ, plain_rel hc.1 hv, Stp.of_below hi ⟨hst.os, hst.tape, hst.output, hst.size, fun k hk => ?_⟩⟩
  exact hst.still hi' hc.2 k hk
 ·refine ⟨μ', hv, ⟨hst.ext, hst.rel, hst.dom, ?_, hst.nx, hst.gl, Nat.min_le_left _ _, ?_, ?_, hst.size, hst.os, hst.tape, hst.output, hst.wf⟩⟩
  ·intro b g blk n hm
   rcases hst.new b g blk n hm with h | h | ⟨h1, h2⟩
   ·exact .inl h
   ·exact .inr (.inl h)
   ·exact .inr (.inr ⟨Nat.le_trans (Nat.min_le_right _ _) h1, h2⟩)
  ·intro b hb hl
   exact hst.same b hb (Nat.lt_of_lt_of_le hl (Nat.min_le_right _ _))
  ·intro blk hb
   rcases hst.fr blk hb with h | ⟨b, g, n, h1, h2, h3⟩
   ·exact .inl h
   ·exact .inr ⟨b, g, n, h1, Nat.le_trans (Nat.min_le_right _ _) h2, h3⟩
structure ProgOk (P : Program) (same : FuncId → Bool) (known : FuncId → List AV → Option AV) : Prop where
 mixed : P.follows .mixedOrders = true
 name : ∀ (f : FuncId) (fn : Func), P.funcs[f]? = some fn → (fn.name == "runtime.NumGoroutine") = false
 same : ∀ f v w, same f = true → (callFunc f #[v]).run P w = .ok (.value v) w
 known : ∀ f args v, known f args = some v → plainV v = true ∧ (∀ vs w, (callFunc f vs).run P w = .ok (.enter f vs) w) ∧
  ∀ μ vs w, LR (VR μ) args vs → Calls P f vs.toArray w fun e w' => ∃ v', e = .returned v' ∧ VR μ v v' ∧ Below w.heap.size w w'
def DrawOk : Prop := ∀ (E : Env) (base : Nat) (ops : Array Oper) (id : Nat) (f f' : Fr) (s s' : St), EnvOk E base → E.P.follows .mixedOrders = true → okRegion ops = true →
 drawO E ops (kindOf ops) 0 ops.toList [] [] f s = some (f', s') → CodeOk E.P base (.region id ops true) f s .normal f' s'
theorem run_sound {same : FuncId → Bool} {known : FuncId → List AV → Option AV} (hP : ProgOk P same known) (hD : DrawOk) (base : Nat) :
  ∀ n, (∀ c f s ex f' s', (run P same known kindOf n).code c f s = some (ex, f', s') → CodeOk P base c f s ex f' s') ∧
   (∀ b f s ex f' s', (run P same known kindOf n).code (.loop b) f s = some (ex, f', s') → ∀ μ w a, Inv base μ s w → TmRel μ f a → a.defers = [] → ∀ Q : Exit → Act → World → Prop,
    (∀ μ' w' a', Stp base μ μ' s s' w w' → TmRel μ' f' a' → a'.defers = [] → Q (exOf ex) a' w') → Code.rounds P b Q n a w) ∧
   CallOk P base (run P same known kindOf n).call := by
 intro n
 induction n with
 | zero =>
  refine ⟨fun c f s ex f' s' h => ?_, fun b f s ex f' s' h => ?_, fun f args s v s' h => ?_⟩ <;> simp [run] at h
 | succ n ih =>
  obtain ⟨ihc, ihl, ihf⟩ := ih
  have hE : EnvOk (envOf P same known (run P same known kindOf n)) base := ⟨hP.same, hP.known, fun f args s v s' h => ihf f args s v s' h⟩
  have hloop : ∀ b f s ex f' s', (run P same known kindOf (n + 1)).code (.loop b) f s = some (ex, f', s') → ∀ μ w a, Inv base μ s w → TmRel μ f a → a.defers = [] → ∀ Q : Exit → Act → World → Prop,
    (∀ μ' w' a', Stp base μ μ' s s' w w' → TmRel μ' f' a' → a'.defers = [] → Q (exOf ex) a' w') → Code.rounds P b Q (n + 1) a w := by
   intro b f s ex f' s' h μ w a hi ht hd Q hq
   rw [rounds_succ]
   simp only [run, stepC] at h
   split at h
   ·rename_i f1 s1 h1
    refine ihc b f s .normal f1 s1 h1 μ w a hi ht hd _ fun μ1 w1 a1 hst ht1 hd1 => ?_
    exact ihl b f1 s1 ex f' s' h μ1 w1 a1 (hi.after hst) ht1 hd1 Q fun μ2 w2 a2 hst2 ht2 hd2 => hq μ2 w2 a2 (hst.trans hi hst2) ht2 hd2
   ·rename_i hne
    refine ihc b f s ex f' s' h μ w a hi ht hd _ fun μ1 w1 a1 hst ht1 hd1 => ?_
    cases ex with
    | normal => exact absurd h (hne _ _)
    | exit id => exact hq μ1 w1 a1 hst ht1 hd1
    | ret => exact hq μ1 w1 a1 hst ht1 hd1
  refine ⟨?_, hloop, ?_⟩
  ·intro c f s ex f' s' h μ w a hi ht hd Q hq
   cases c
   case loop b => exact wp_loop_rounds (n + 1) (hloop b f s ex f' s' h μ w a hi ht hd Q hq)
   case skip =>
    simp only [run, stepC, Option.some.injEq, Prod.mk.injEq] at h
    obtain ⟨rfl, rfl, rfl⟩ := h
    exact wp_skip (hq μ w a (Stp.refl hi) ht hd)
   case exit id =>
    simp only [run, stepC, Option.some.injEq, Prod.mk.injEq] at h
    obtain ⟨rfl, rfl, rfl⟩ := h
    exact wp_exit (hq μ w a (Stp.refl hi) ht hd)
   case ret =>
    simp only [run, stepC, Option.some.injEq, Prod.mk.injEq] at h
    obtain ⟨rfl, rfl, rfl⟩ := h
    exact wp_ret (hq μ w a (Stp.refl hi) ht hd)
   case region id ops draw =>
    cases draw with
    | false =>
     simp only [run, stepC] at h
     split at h
     ·rename_i f1 s1 h1
      simp only [Option.some.injEq, Prod.mk.injEq] at h
      obtain ⟨rfl, rfl, rfl⟩ := h
      refine wp_region ?_
      have := ops_sound hE Q ops.toList 0 f f1 s s1 μ w a rfl h1 hi ht hd hq
      rw [List.range_eq_range']
      have hlen : ops.toList.length = ops.size := by simp
      rw [hlen] at this
      exact this
     ·cases h
    | true =>
     simp only [run, stepC] at h
     split at h
     ·rename_i hok
      split at h
      ·rename_i f1 s1 h1
       simp only [Option.some.injEq, Prod.mk.injEq] at h
       obtain ⟨rfl, rfl, rfl⟩ := h
       exact hD _ base ops id f f1 s s1 hE hP.mixed hok h1 μ w a hi ht hd Q hq
      ·cases h
     ·cases h
   case seq x y =>
    refine wp_seq ?_
    simp only [run, stepC] at h
    split at h
    ·rename_i f1 s1 h1
     refine ihc x f s .normal f1 s1 h1 μ w a hi ht hd _ fun μ1 w1 a1 hst ht1 hd1 => ?_
     exact ihc y f1 s1 ex f' s' h μ1 w1 a1 (hi.after hst) ht1 hd1 Q fun μ2 w2 a2 hst2 ht2 hd2 => hq μ2 w2 a2 (hst.trans hi hst2) ht2 hd2
    ·rename_i hne
     refine ihc x f s ex f' s' h μ w a hi ht hd _ fun μ1 w1 a1 hst ht1 hd1 => ?_
     cases ex with
     | normal => exact absurd h (hne _ _)
     | exit id => exact hq μ1 w1 a1 hst ht1 hd1
     | ret => exact hq μ1 w1 a1 hst ht1 hd1
   case cond c x y =>
    simp only [run, stepC] at h
    split at h
    ·rename_i hb
     exact wp_cond_true (bool_inv (ev_sound hi ht _ _ hb)) (ihc x f s ex f' s' h μ w a hi ht hd Q hq)
    ·rename_i hb
     exact wp_cond_false (bool_inv (ev_sound hi ht _ _ hb)) (ihc y f s ex f' s' h μ w a hi ht hd Q hq)
    ·cases h
   case block id b =>
    refine wp_block ?_
    simp only [run, stepC] at h
    split at h
    ·rename_i i f1 s1 h1
     refine ihc b f s (.exit i) f1 s1 h1 μ w a hi ht hd _ fun μ1 w1 a1 hst ht1 hd1 => ?_
     show Exit.inBlock id Q (.exit i) a1 w1
     unfold Exit.inBlock
     split at h
     ·rename_i he
      have he := Nat.eq_of_beq_eq_true he
      subst he
      simp only [Option.some.injEq, Prod.mk.injEq] at h
      obtain ⟨rfl, rfl, rfl⟩ := h
      simp only [if_true]
      exact hq μ1 w1 a1 hst ht1 hd1
     ·rename_i he
      rw [beq0] at he
      have he : ¬ i = id := by simpa using he
      simp only [Option.some.injEq, Prod.mk.injEq] at h
      obtain ⟨rfl, rfl, rfl⟩ := h
      simp only [he, if_false]
      exact hq μ1 w1 a1 hst ht1 hd1
    ·rename_i hne
     refine ihc b f s ex f' s' h μ w a hi ht hd _ fun μ1 w1 a1 hst ht1 hd1 => ?_
     cases ex with
     | normal => exact hq μ1 w1 a1 hst ht1 hd1
     | exit id => exact absurd h (hne _ _ _)
     | ret => exact hq μ1 w1 a1 hst ht1 hd1
   all_goals (simp [run, stepC] at h)
  ·intro g args s v s' h
   simp only [run, stepF] at h
   split at h
   ·cases h
   ·rename_i fn hfn
    split at h
    ·cases h
    ·rename_i c hbody
     split at h
     ·cases h
     ·rename_i hlen
      have hlen := ble_iff.1 hlen
      refine ⟨fun vs w => ?_, fun μ w vs hi hvs => ?_⟩
      ·have hn : ¬ fn.name = "runtime.NumGoroutine" := by simpa using hP.name g fn hfn
       simp [callFunc, hfn, hn, hbody]
      ·have hi' : Inv base μ { s with low := s.nx } w := ⟨hi.rel, hi.dom, Nat.le_refl _, hi.size, hi.glob, hi.wf⟩
       have key : ∀ ex f1 s1, (run P same known kindOf n).code c { tm := argsT args 0 .nil, nt := fn.ntmps } { s with low := s.nx } = some (ex, f1, s1) → leaveO P fn s f1 s1 = some (v, s') → (exOf ex = .normal ∨ exOf ex = .ret) →
         Calls P g vs.toArray w fun e w' => ∃ v' μ', e = .returned v' ∧ VR μ' v v' ∧ Stp base μ μ' s s' w w' := by
        intro ex f1 s1 h1 h2 h3
        unfold leaveO at h2
        split at h2
        ·rename_i l hl
         simp only [Option.some.injEq, Prod.mk.injEq] at h2
         obtain ⟨rfl, rfl⟩ := h2
         refine calls_of_wp hfn hbody ?_
         refine ihc c _ _ ex f1 s1 h1 μ w _ hi' (enter_rel hvs hlen) rfl _ fun μ1 w1 a1 hst ht1 hd1 => ?_
         obtain ⟨v', hv', hrun⟩ := results_run hst.rel ht1 hl
         obtain ⟨μ2, h4, h5⟩ := tidy_sound hi hst hv'
         have : a1.defers = [] ∧ ∃ v, (results fn a1.tmps).run P w1 = .ok v w1 ∧ ∃ v' μ', Ending.returned v = .returned v' ∧ VR μ' (oneOf l) v' ∧ Stp base μ μ' s (tidy s s1 (oneOf l)) w w1 :=
          ⟨hd1, v', hrun, v', μ2, rfl, h4, h5⟩
         rcases h3 with h3 | h3 <;> rw [h3] <;> exact this
        ·cases h2
       split at h
       ·rename_i f1 s1 h1
        exact key .normal f1 s1 h1 h (.inl rfl)
       ·rename_i f1 s1 h1
        exact key .ret f1 s1 h1 h (.inr rfl)
       ·cases h
end
end Go.AM
/-
  For regions that draw their order: operations that touch little, and values that name few rows.
-/
namespace Go.AM
open Go Go.RowKit Go.Lib
section
variable {base : Nat} {μ μ1 : Mp} {s s' : St} {E : Env} {ρ ρ' : Operand → Option AV}
/-! an operation looks at its operands alone -/
theorem evs_congr : ∀ {xs : List Operand}, (∀ x ∈ xs, ρ x = ρ' x) → evs ρ xs = evs ρ' xs
 | [], _ => rfl
 | x :: xs, h => by
  simp only [evs]
  rw [h x (by simp), evs_congr fun y hy => h y (by simp [hy])]
theorem evParts_congr : ∀ {xs : List (Nat × Operand)}, (∀ x ∈ xs, ρ x.2 = ρ' x.2) → evParts ρ xs = evParts ρ' xs
 | [], _ => rfl
 | (i, x) :: xs, h => by
  simp only [evParts]
  rw [h (i, x) (by simp), evParts_congr fun y hy => h y (by simp [hy])]
theorem evO_congr {x : Option Operand} (h : ∀ y, x = some y → ρ y = ρ' y) : evO ρ x = evO ρ' x := by
 cases x with
 | none => rfl
 | some y => simp only [evO]; rw [h y rfl]
theorem op_congr (op : Op) (h : ∀ x ∈ op.operands, ρ x = ρ' x) : opO E ρ s op = opO E ρ' s op := by
 cases op <;> simp only [opO]
 case build t ps =>
  rw [evParts_congr fun x hx => h x.2 (by simp [Op.operands]; exact ⟨x.1, by simpa using hx⟩)]
 case buildSlice t n ps =>
  rw [evParts_congr fun x hx => h x.2 (by simp [Op.operands]; exact ⟨x.1, by simpa using hx⟩)]
 case makeFunc fn first cap =>
  cases fn <;> simp only
  rw [evs_congr fun x hx => h x (by simp [Op.operands]; exact .inr (by simpa using hx))]
 case slice t x lo hi mx =>
  cases mx <;> simp only
  rw [h x (by simp [Op.operands]), evO_congr (x := lo) fun y hy => h y (by simp [Op.operands, hy]), evO_congr (x := hi) fun y hy => h y (by simp [Op.operands, hy])]
 case call c =>
  rw [evs_congr fun x hx => h x (by simp [Op.operands, Call.operands]; exact .inr (by simpa using hx))]
  cases hc : c.callee <;> simp only
  rename_i f
  rw [h f (by simp [Op.operands, Call.operands, hc])]
 case pick c x y => rw [h c (by simp [Op.operands]), h x (by simp [Op.operands]), h y (by simp [Op.operands])]
 case store t x y => rw [h x (by simp [Op.operands]), h y (by simp [Op.operands])]
 case binOp op t x y yt => rw [h x (by simp [Op.operands]), h y (by simp [Op.operands])]
 case makeSlice t x y => rw [h x (by simp [Op.operands]), h y (by simp [Op.operands])]
 case indexAddr t x y => rw [h x (by simp [Op.operands]), h y (by simp [Op.operands])]
 case index t x y => rw [h x (by simp [Op.operands]), h y (by simp [Op.operands])]
 all_goals first
  | rfl
  | (rename_i x; rw [h x (by simp [Op.operands])])
  | (rename_i x y; rw [h x (by simp [Op.operands])])
  | (rename_i x y; rw [h y (by simp [Op.operands])])
  | (rename_i x y z; rw [h x (by simp [Op.operands])])
  | (rename_i x y z; rw [h y (by simp [Op.operands])])
  | (rename_i x y z; rw [h z (by simp [Op.operands])])
/-! values that were known when fewer rows were there -/
def Mp.lt (μ : Mp) (N : Nat) : Mp := fun b g => if b < N then μ b g else none
theorem Mp.lt_some {N b g : Nat} {x : Nat × Nat} : μ.lt N b g = some x ↔ b < N ∧ μ b g = some x := by
 unfold Mp.lt
 by_cases h : b < N <;> simp [h]
def Small (μ1 : Mp) (N : Nat) : Prop := ∀ b g x, μ1 b g = some x → b < N
variable {N : Nat}
theorem AR.lt (hs : Small μ1 N) {a : AA} {c c1 : Addr} (h1 : AR μ1 a c1) (h : AR μ a c) : AR (μ.lt N) a c := by
 obtain ⟨_, _, e1, _⟩ := h1
 obtain ⟨blk, n, e2, e3⟩ := h
 exact ⟨blk, n, Mp.lt_some.2 ⟨hs _ _ _ e1, e2⟩, e3⟩
theorem SR.lt (hs : Small μ1 N) {x : AV} {v v1 : Value} (h1 : SR μ1 x v1) (h : SR μ x v) : SR (μ.lt N) x v := by
 cases x <;> first | exact h | skip
 obtain ⟨c1, e1, _⟩ := h1
 obtain ⟨c, e2, e3⟩ := h
 exact ⟨c, AR.lt hs e1 e2, e3⟩
theorem LR.lt {α β γ : Type} {R1 : α → γ → Prop} {R R' : α → β → Prop} (hR : ∀ a c b, R1 a c → R a b → R' a b) : ∀ {as : List α} {cs : List γ} {bs : List β}, LR R1 as cs → LR R as bs → LR R' as bs
 | [], [], [], _, _ => trivial
 | _ :: _, _ :: _, _ :: _, ⟨a1, a2⟩, ⟨b1, b2⟩ => ⟨hR _ _ _ a1 b1, LR.lt hR a2 b2⟩
 | [], [], _ :: _, _, h => h.elim
 | [], _ :: _, _, h, _ => h.elim
 | _ :: _, [], _, h, _ => h.elim
 | _ :: _, _ :: _, [], _, h => h.elim
theorem CR.lt (hs : Small μ1 N) {x : AV} {v v1 : Value} (h1 : CR μ1 x v1) (h : CR μ x v) : CR (μ.lt N) x v := by
 cases x
 case slice a n e =>
  obtain ⟨_, _, _, e1, _⟩ := h1
  obtain ⟨blk, m, cap, e2, e3⟩ := h
  exact ⟨blk, m, cap, Mp.lt_some.2 ⟨hs _ _ _ e1, e2⟩, e3⟩
 case func f caps =>
  obtain ⟨cs1, e1, _⟩ := h1
  obtain ⟨cs, e2, e3⟩ := h
  exact ⟨cs, LR.lt (R1 := AR μ1) (R := AR μ) (R' := AR (μ.lt N)) (fun _ _ _ q1 q2 => AR.lt hs q1 q2) e1 e2, e3⟩
 case iface t y =>
  obtain ⟨_, e1, _⟩ := h1
  obtain ⟨u, e2, e3⟩ := h
  exact ⟨u, SR.lt hs e1 e2, e3⟩
 case ptr a => exact SR.lt (x := .ptr a) hs h1 h
 all_goals exact h
theorem V1.lt (hs : Small μ1 N) {x : AV} {v v1 : Value} (h1 : V1 μ1 x v1) (h : V1 μ x v) : V1 (μ.lt N) x v := by
 cases x
 case agg cs =>
  obtain ⟨_, e1, _⟩ := h1
  obtain ⟨vs, e2, e3⟩ := h
  exact ⟨vs, LR.lt (R1 := CR μ1) (R := CR μ) (R' := CR (μ.lt N)) (fun _ _ _ q1 q2 => CR.lt hs q1 q2) e1 e2, e3⟩
 all_goals (simp only [V1] at h1 h ⊢; exact CR.lt hs h1 h)
theorem VR.lt (hs : Small μ1 N) {x : AV} {v v1 : Value} (h1 : VR μ1 x v1) (h : VR μ x v) : VR (μ.lt N) x v := by
 cases x
 case tuple cs =>
  obtain ⟨_, e1, _⟩ := h1
  obtain ⟨vs, e2, e3⟩ := h
  exact ⟨vs, LR.lt (R1 := V1 μ1) (R := V1 μ) (R' := V1 (μ.lt N)) (fun _ _ _ q1 q2 => V1.lt hs q1 q2) e1 e2, e3⟩
 all_goals (simp only [VR] at h1 h ⊢; exact V1.lt hs h1 h)
theorem SR.ltc {x : AV} (hx : okS N x) {v : Value} (h : SR μ x v) : SR (μ.lt N) x v := by
 cases x <;> first | exact h | skip
 obtain ⟨c, ⟨blk, n, e2, e3⟩, e4⟩ := h
 exact ⟨c, ⟨blk, n, Mp.lt_some.2 ⟨hx, e2⟩, e3⟩, e4⟩
theorem CR.ltc {x : AV} (hx : okC N x) {v : Value} (h : CR μ x v) : CR (μ.lt N) x v := by
 cases x
 case slice a n e =>
  obtain ⟨blk, m, cap, e2, e3⟩ := h
  exact ⟨blk, m, cap, Mp.lt_some.2 ⟨hx, e2⟩, e3⟩
 case func f caps =>
  obtain ⟨cs, e2, e3⟩ := h
  refine ⟨cs, ?_, e3⟩
  exact e2.mono_mem fun q hq c ⟨blk, n, g1, g2⟩ => ⟨blk, n, Mp.lt_some.2 ⟨hx q hq, g1⟩, g2⟩
 case iface t y =>
  obtain ⟨u, e2, e3⟩ := h
  exact ⟨u, SR.ltc (x := y) hx e2, e3⟩
 case ptr a => exact SR.ltc (x := .ptr a) hx h
 all_goals exact h
theorem RowOk.lt {base : Nat} {w : World} {r : Row} (hx : ∀ x ∈ r.cells, okC N x) {g blk n : Nat} (h : RowOk base μ w r g blk n) : RowOk base (μ.lt N) w r g blk n := by
 obtain ⟨h1, h2, ⟨cs, fz, h3, h4, h5, h6⟩, h7, h8, h9⟩ := h
 exact ⟨h1, h2, ⟨cs, fz, h3, h4, fun m hm => ⟨(h5 m hm).1, (h5 m hm).2.1, (h5 m hm).2.2.mono_mem fun x hx' _ => CR.ltc (hx x (List.mem_of_mem_take hx'))⟩, h6⟩, h7, h8, h9⟩
theorem tree_of {α : Type} (h : Nat → Option α) : ∀ N, ∃ t : T α, (∀ b, b < N → t.get b = h b) ∧ (∀ b, N ≤ b → t.get b = none)
 | 0 => ⟨.nil, fun _ hb => by omega, fun _ _ => rfl⟩
 | N + 1 => by
  obtain ⟨t, h1, h2⟩ := tree_of h N
  cases hN : h N with
  | none =>
   refine ⟨t, fun b hb => ?_, fun b hb => h2 b (by omega)⟩
   by_cases hbN : b = N
   ·subst hbN; rw [hN]; exact h2 b (Nat.le_refl _)
   ·exact h1 b (by omega)
  | some x =>
   refine ⟨T.set x t N, fun b hb => ?_, fun b hb => ?_⟩
   ·rw [T.get_set]
    by_cases hbN : b = N
    ·subst hbN; rw [if_pos rfl, hN]
    ·rw [if_neg hbN]; exact h1 b (by omega)
   ·rw [T.get_set, if_neg (by omega)]; exact h2 b (by omega)
/-! what little an operation touches -/
theorem pair_map (s : St) (x : Option AV) : (pairO s x).map Prod.fst = x := by cases x <;> rfl
theorem builtin_pure {P : Program} {ts : Array TypeId} {b : Builtin} (hb : b = .len ∨ b = .min ∨ b = .max) (vs : List AV) (s s2 : St) :
  builtinO P s2 b ts vs = pairO s2 ((builtinO P s b ts vs).map Prod.fst) := by
 rcases hb with rfl | rfl | rfl
 ·match vs with
  | [] => rfl
  | _ :: _ :: _ => rfl
  | [x] =>
   simp only [builtinO]
   cases ts[0]? with
   | none => rfl
   | some t =>
    simp only
    cases P.underlying t with
    | none => rfl
    | some u =>
     cases u <;> try rfl
     case pointer arr =>
      simp only
      cases P.underlying arr with
      | none => rfl
      | some u => cases u <;> rfl
     case slice e =>
      simp only
      cases x <;> rfl
     case string =>
      simp only
      cases x <;> rfl
 ·match vs with
  | [] => rfl
  | x :: r =>
   simp only [builtinO]
   cases foldMin x r <;> rfl
 ·match vs with
  | [] => rfl
  | x :: r =>
   simp only [builtinO]
   cases foldMax x r <;> rfl
theorem pure_eq {op : Op} (hp : isPure op = true) (s s2 : St) : opO E ρ s2 op = pairO s2 ((opO E ρ s op).map Prod.fst) := by
 cases op <;> first | (exfalso; revert hp; simp [isPure]; done) | skip
 case move x => simp only [opO, pair_map]
 case assign x => simp only [opO, pair_map]
 case pick c x y =>
  simp only [opO]
  cases ρ c with
  | none => rfl
  | some u =>
   cases u <;> try rfl
   rename_i b
   cases b <;> simp only [pair_map]
 case build t' ps =>
  simp only [opO]
  cases evParts ρ ps.toList <;> simp only [pair_map] <;> rfl
 case nilCheck x =>
  simp only [opO]
  cases ρ x with
  | none => rfl
  | some u => cases u <;> rfl
 case binOp op t' x y yt =>
  simp only [opO]
  cases ρ x <;> cases ρ y <;> simp only [pair_map] <;> rfl
 case unOp op t' x =>
  simp only [opO]
  cases ρ x <;> simp only [pair_map] <;> rfl
 case makeInterface t' x =>
  simp only [opO]
  cases ρ x with
  | none => rfl
  | some u =>
   cases E.P.underlying t' with
   | none => rfl
   | some d =>
    simp only
    cases d <;> cases scalar u <;> rfl
 case makeFunc fn first cap =>
  cases fn <;> try rfl
  simp only [opO]
  cases first.size with
  | succ n => cases evs ρ cap.toList <;> rfl
  | zero =>
   cases evs ρ cap.toList with
   | none => rfl
   | some vs =>
    simp only
    cases addrs vs <;> rfl
 case slice t' x lo hi mx =>
  cases mx <;> try rfl
  simp only [opO]
  cases ρ x with
  | none => rfl
  | some u =>
   cases evO ρ lo with
   | none => rfl
   | some l => cases evO ρ hi <;> simp only [pair_map] <;> rfl
 case fieldAddr t' x f =>
  simp only [opO]
  cases ρ x <;> simp only [pair_map] <;> rfl
 case field t' x f =>
  simp only [opO]
  cases ρ x <;> simp only [pair_map] <;> rfl
 case indexAddr t' x y =>
  simp only [opO]
  cases ρ x <;> cases ρ y <;> simp only [pair_map] <;> rfl
 case index t' x y =>
  simp only [opO]
  cases ρ x <;> cases ρ y <;> simp only [pair_map] <;> rfl
 case extract x i =>
  simp only [opO]
  cases ρ x with
  | none => rfl
  | some u => cases u <;> simp only [pair_map] <;> rfl
 case call c =>
  obtain ⟨callee, args, ts⟩ := c
  cases callee with
  | value f => exfalso; revert hp; simp [isPure]
  | invoke r m => exfalso; revert hp; simp [isPure]
  | builtin b =>
   simp only [opO]
   cases evs ρ args.toList with
   | none => rfl
   | some vs =>
    refine builtin_pure ?_ vs s s2
    cases b <;> first | (exfalso; revert hp; simp [isPure]; done) | simp
theorem pure_simple {op : Op} (hp : isPure op = true) {v : AV} (h : opO E ρ s op = some (v, s')) : s' = s ∧ ∀ s2, opO E ρ s2 op = some (v, s2) := by
 have h1 := pure_eq (E := E) (ρ := ρ) hp s s
 rw [h] at h1
 simp [pairO] at h1
 refine ⟨h1, fun s2 => ?_⟩
 rw [pure_eq hp s s2, h]
 rfl
theorem read_same {s2 : St} {a : AA} (n : Nat) (h : s2.hp.get a.b = s.hp.get a.b) : readCells s2 a n = readCells s a n := by
 unfold readCells
 rw [h]
theorem load_simple {op : Op} (hp : isLoad op = true) {v : AV} (h : opO E ρ s op = some (v, s')) :
  s' = s ∧ ∃ c g, rowAt ρ op = some c ∧ (∃ x off, x ∈ op.operands ∧ ρ x = some (.ptr ⟨c, g, off⟩)) ∧ ∀ s2, s2.hp.get c = s.hp.get c → opO E ρ s2 op = some (v, s2) := by
 cases op <;> first | (exfalso; revert hp; simp [isLoad]; done) | skip
 case load t x =>
  simp only [opO] at h
  cases hx : ρ x with
  | none => simp [hx] at h
  | some u =>
   rw [hx] at h
   cases u <;> first | (cases h; done) | skip
   rename_i a
   obtain ⟨h1, h2⟩ := pair_inv h
   refine ⟨h2, a.b, a.g, by simp [rowAt, hx], ⟨x, a.off, by simp [Op.operands], hx⟩, fun s2 hs => ?_⟩
   simp only [opO, hx]
   have : loadT E.P s2 t a = loadT E.P s t a := by
    unfold loadT
    simp only [read_same _ hs]
   rw [this, h1]
   rfl
theorem store_simple {op : Op} (hp : isStore op = true) {v : AV} (h : opO E ρ s op = some (v, s')) :
  v = und ∧ ∃ c g, rowAt ρ op = some c ∧ (∃ x off, x ∈ op.operands ∧ ρ x = some (.ptr ⟨c, g, off⟩)) ∧
   ((s' = s ∧ ∀ s2, opO E ρ s2 op = some (v, s2)) ∨
    ∃ r, s' = { s with hp := T.set r s.hp c, low := Nat.min s.low c } ∧ ∀ s2, s2.hp.get c = s.hp.get c → opO E ρ s2 op = some (v, { s2 with hp := T.set r s2.hp c, low := Nat.min s2.low c })) := by
 cases op <;> first | (exfalso; revert hp; simp [isStore]; done) | skip
 case store t x y =>
  simp only [opO] at h
  cases hx : ρ x with
  | none => simp [hx] at h
  | some u =>
   rw [hx] at h
   cases hy : ρ y with
   | none => cases u <;> simp [hy] at h
   | some z =>
    rw [hy] at h
    cases u <;> first | (cases h; done) | skip
    rename_i a
    simp only at h
    cases hst : storeT E.P s t a z with
    | none => simp [hst] at h
    | some s1 =>
     rw [hst] at h
     simp only [Option.some.injEq, Prod.mk.injEq] at h
     obtain ⟨rfl, rfl⟩ := h
     refine ⟨rfl, a.b, a.g, by simp [rowAt, hx], ⟨x, a.off, by simp [Op.operands], hx⟩, ?_⟩
     simp only [opO, hx, hy]
     unfold storeT at hst ⊢
     cases hc : cellsOf z with
     | none => simp [hc] at hst
     | some l =>
      cases hz : sizeT E.P t with
      | none => simp [hc, hz] at hst
      | some n =>
       simp only [hc, hz] at hst ⊢
       cases hb : Nat.beq l.length n with
       | false => simp [hb] at hst
       | true =>
        simp only [hb] at hst ⊢
        unfold writeCells at hst ⊢
        cases l with
        | nil =>
         simp only [Option.some.injEq] at hst
         exact .inl ⟨hst.symm, fun s2 => rfl⟩
        | cons q l =>
         simp only at hst ⊢
         cases hg : s.hp.get a.b with
         | none => simp [hg] at hst
         | some r =>
          simp only [hg] at hst ⊢
          split at hst
          ·rename_i hcond
           simp only [Option.some.injEq] at hst
           refine .inr ⟨_, hst.symm, fun s2 hs2 => ?_⟩
           rw [hs2]
           simp only [hcond]
           rfl
          ·cases hst
theorem alloc_simple {op : Op} (hp : isAlloc op = true) {v : AV} (h : opO E ρ s op = some (v, s')) :
  ∃ (r : Row) (mk : AA → AV), (mk = AV.ptr ∨ ∃ l e, mk = fun q => AV.slice q l e) ∧ extent r 0 = some r.cells.length ∧ v = mk ⟨s.nx, 0, 0⟩ ∧ s' = { s with hp := T.set r s.hp s.nx, nx := s.nx + 1 } ∧
   ∀ s2, opO E ρ s2 op = some (mk ⟨s2.nx, 0, 0⟩, { s2 with hp := T.set r s2.hp s2.nx, nx := s2.nx + 1 }) := by
 cases op <;> first | (exfalso; revert hp; simp [isAlloc]; done) | skip
 case alloc e =>
  simp only [opO] at h ⊢
  cases h1 : zeroOf E.P e with
  | none => simp [h1] at h
  | some z =>
   simp only [h1] at h ⊢
   cases h2 : cellsOf z with
   | none => simp [h2] at h
   | some cs =>
    simp only [h2, newRow, Option.some.injEq, Prod.mk.injEq] at h ⊢
    exact ⟨_, .ptr, .inl rfl, by simp [extent], h.1.symm, h.2.symm, fun s2 => ⟨rfl, rfl⟩⟩
 case box e x =>
  simp only [opO] at h ⊢
  cases h1 : ρ x with
  | none => simp [h1] at h
  | some z =>
   simp only [h1] at h ⊢
   cases h2 : cellsOf z with
   | none => simp [h2] at h
   | some cs =>
    simp only [h2, newRow, Option.some.injEq, Prod.mk.injEq] at h ⊢
    exact ⟨_, .ptr, .inl rfl, by simp [extent], h.1.symm, h.2.symm, fun s2 => ⟨rfl, rfl⟩⟩
 case buildSlice t n ps =>
  simp only [opO] at h ⊢
  cases h1 : evParts ρ ps.toList with
  | none => simp [h1] at h
  | some l =>
   cases h2 : E.P.underlying t with
   | none => simp [h1, h2] at h
   | some u =>
    cases u <;> first | (simp [h1, h2] at h; done) | skip
    rename_i e
    simp only [h1, h2] at h ⊢
    cases h3 : sizeT E.P e with
    | none => simp [h3] at h
    | some size =>
     simp only [h3] at h ⊢
     cases h4 : Nat.ble (n * size) 16777216 with
     | false => simp [h4] at h
     | true =>
      cases h5 : zerosOf E.P e size n with
      | none => simp [h4, h5] at h
      | some zs =>
       simp only [h4, h5] at h ⊢
       cases h6 : fillO (fun i => some (i * size, size)) zs l with
       | none => simp [h6] at h
       | some cs =>
        simp only [h6, newRow, Option.some.injEq, Prod.mk.injEq] at h ⊢
        exact ⟨_, fun q => .slice q n size, .inr ⟨n, size, rfl⟩, by simp [extent], h.1.symm, h.2.symm, fun s2 => ⟨rfl, rfl⟩⟩
 case makeSlice t x y =>
  simp only [opO] at h ⊢
  cases h1 : ρ x with
  | none => simp [h1] at h
  | some l =>
   cases h2 : ρ y with
   | none => simp [h1, h2] at h
   | some c =>
    cases h3 : E.P.underlying t with
    | none => simp [h1, h2, h3] at h
    | some u =>
     cases u <;> first | (simp [h1, h2, h3] at h; done) | skip
     rename_i e
     simp only [h1, h2, h3] at h ⊢
     cases h4 : natO l with
     | none => simp [h4] at h
     | some l =>
      cases h5 : natO c with
      | none => simp [h4, h5] at h
      | some c =>
       cases h6 : E.P.info? e with
       | none => simp [h4, h5, h6] at h
       | some i =>
        simp only [h4, h5, h6] at h ⊢
        cases h7 : (Nat.ble l c && (Nat.ble (c * i.bytes) 1000000000 && Nat.ble c 1000000000)) with
        | false => simp [h7] at h
        | true =>
         cases h8 : zerosOf E.P e i.size c with
         | none => simp [h7, h8] at h
         | some zs =>
          simp only [h7, h8] at h ⊢
          cases h9 : Nat.beq l c with
          | true =>
           simp only [h9, newRow, Option.some.injEq, Prod.mk.injEq] at h ⊢
           exact ⟨_, fun q => .slice q l i.size, .inr ⟨l, i.size, rfl⟩, by simp [extent], h.1.symm, h.2.symm, fun s2 => ⟨rfl, rfl⟩⟩
          | false =>
           cases l with
           | succ l => simp [h9] at h
           | zero =>
            simp only [h9, newRow, Option.some.injEq, Prod.mk.injEq] at h ⊢
            exact ⟨_, fun q => .slice q 0 i.size, .inr ⟨0, i.size, rfl⟩, by simp [extent], h.1.symm, h.2.symm, fun s2 => ⟨rfl, rfl⟩⟩
end
end Go.AM
/-
  For regions that draw their order: what the run in the order of the text leaves behind, and steps of memory in a wider memory.
-/
namespace Go.AM
open Go Go.RowKit Go.Lib
section
variable {E : Env} {ops : Array Oper} {kind : Nat → Nat}
noncomputable def rowOf (ops : Array Oper) (F : Nat → Fr) (S : Nat → St) (j : Nat) : Option Nat :=
 match ops[j]? with
 | some o => match wantO (F j) ops o with
  | true => rowAt (ev (F j) (S j).gl) o.op
  | false => none
 | none => none
def preOf (kind : Nat → Nat) (S : Nat → St) (j : Nat) : St := if kind j = 1 then { S j with low := (S j).nx } else S j
structure StepT (E : Env) (ops : Array Oper) (kind : Nat → Nat) (F : Nat → Fr) (S Y : Nat → St) (j : Nat) (o : Oper) : Prop where
 kd : kind j = 0 ∨ kind j = 1 ∨ kind j = 2 ∨ kind j = 3 ∨ kind j = 5
 one : oneO E ops o (F j) (preOf kind S j) = some (F (j + 1), Y j)
 next : S (j + 1) = if kind j = 1 then { Y j with low := (S j).low } else Y j
 low : kind j = 1 → (S j).nx ≤ (Y j).low
def soft (a b : Nat) : Prop := (a = 3 ∧ (b = 2 ∨ b = 3)) ∨ (a = 2 ∧ b = 3)
theorem memb_mem {n : Nat} : ∀ {l : List Nat}, memb n l = false → n ∉ l
 | [], _ => by simp
 | m :: l, h => by
  simp only [memb] at h
  split at h
  ·cases h
  ·rename_i hb
   have hne : n ≠ m := fun he => by subst he; simp at hb
   simp only [List.mem_cons, not_or]
   exact ⟨hne, memb_mem h⟩
structure Trace (E : Env) (ops : Array Oper) (kind : Nat → Nat) (i n : Nat) (rd wr : List Nat) (F : Nat → Fr) (S Y : Nat → St) : Prop where
 step : ∀ j, i ≤ j → j < n → ∃ o, ops[j]? = some o ∧ StepT E ops kind F S Y j o
 store : ∀ j, i ≤ j → j < n → kind j = 3 → ∀ c, rowOf ops F S j = some c → c ∉ rd ++ wr
 load : ∀ j, i ≤ j → j < n → kind j = 2 → ∀ c, rowOf ops F S j = some c → c ∉ wr
 pair : ∀ j k, i ≤ j → j < k → k < n → soft (kind j) (kind k) → ∀ c, rowOf ops F S j = some c → rowOf ops F S k ≠ some c
theorem Trace.cons {i n : Nat} {rd wr rd' wr' : List Nat} {F : Nat → Fr} {S Y : Nat → St} (hn : i < n) {f : Fr} {s y : St} {o : Oper} (ho : ops[i]? = some o)
  (ht : Trace E ops kind (i + 1) n rd' wr' F S Y) (hrd : ∀ c ∈ rd, c ∈ rd') (hwr : ∀ c ∈ wr, c ∈ wr')
  (hk : kind i = 0 ∨ kind i = 1 ∨ kind i = 2 ∨ kind i = 3 ∨ kind i = 5)
  (h1 : oneO E ops o f (if kind i = 1 then { s with low := s.nx } else s) = some (F (i + 1), y))
  (h2 : S (i + 1) = if kind i = 1 then { y with low := s.low } else y) (h3 : kind i = 1 → s.nx ≤ y.low)
  (h4 : ∀ c, wantO f ops o = true → rowAt (ev f s.gl) o.op = some c → (kind i = 3 → c ∉ rd ++ wr ∧ c ∈ wr') ∧ (kind i = 2 → c ∉ wr ∧ c ∈ rd')) :
  ∃ (F' : Nat → Fr) (S' Y' : Nat → St), F' i = f ∧ S' i = s ∧ (∀ j, j ≠ i → F' j = F j ∧ S' j = S j) ∧ Trace E ops kind i n rd wr F' S' Y' := by
 refine ⟨fun j => if j = i then f else F j, fun j => if j = i then s else S j, fun j => if j = i then y else Y j, by simp, by simp, fun j hj => by simp [hj], ?_⟩
 have hne : ∀ j, i + 1 ≤ j → (if j = i then f else F j) = F j ∧ (if j = i then s else S j) = S j ∧ (if j = i then y else Y j) = Y j := fun j hj => by
  have : j ≠ i := by omega
  simp [this]
 have hrow : ∀ j, i + 1 ≤ j → rowOf ops (fun j => if j = i then f else F j) (fun j => if j = i then s else S j) j = rowOf ops F S j := fun j hj => by
  unfold rowOf
  simp only [(hne j hj).1, (hne j hj).2.1]
 have hrow0 : ∀ c, rowOf ops (fun j => if j = i then f else F j) (fun j => if j = i then s else S j) i = some c → wantO f ops o = true ∧ rowAt (ev f s.gl) o.op = some c := fun c hc => by
  unfold rowOf at hc
  simp only [ho, if_true] at hc
  split at hc
  ·exact ⟨by assumption, hc⟩
  ·cases hc
 refine ⟨fun j hj hjn => ?_, fun j hj hjn hk3 c hc => ?_, fun j hj hjn hk2 c hc => ?_, fun j k hj hjk hkn hs c hc => ?_⟩
 ·by_cases hji : j = i
  ·subst hji
   refine ⟨o, ho, hk, ?_, ?_, ?_⟩
   ·simpa [preOf] using h1
   ·simpa using h2
   ·simpa using h3
  ·obtain ⟨o', h5, h6⟩ := ht.step j (by omega) hjn
   have e1 := hne j (by omega)
   have e2 := hne (j + 1) (by omega)
   refine ⟨o', h5, h6.kd, ?_, ?_, ?_⟩
   ·have := h6.one
    simp only [preOf, e1.1, e1.2.1, e1.2.2, e2.1] at this ⊢
    exact this
   ·simp only [e1.2.1, e1.2.2, e2.2.1]; exact h6.next
   ·simp only [e1.2.1, e1.2.2]; exact h6.low
 ·by_cases hji : j = i
  ·subst hji
   obtain ⟨hw, hr⟩ := hrow0 c hc
   exact ((h4 c hw hr).1 hk3).1
  ·rw [hrow j (by omega)] at hc
   have := ht.store j (by omega) hjn hk3 c hc
   simp only [List.mem_append, not_or] at this ⊢
   exact ⟨fun h => this.1 (hrd c h), fun h => this.2 (hwr c h)⟩
 ·by_cases hji : j = i
  ·subst hji
   obtain ⟨hw, hr⟩ := hrow0 c hc
   exact ((h4 c hw hr).2 hk2).1
  ·rw [hrow j (by omega)] at hc
   exact fun h => ht.load j (by omega) hjn hk2 c hc (hwr c h)
 ·have hck : rowOf ops (fun j => if j = i then f else F j) (fun j => if j = i then s else S j) k = rowOf ops F S k := hrow k (by omega)
  rw [hck]
  by_cases hji : j = i
  ·subst hji
   obtain ⟨hw, hr⟩ := hrow0 c hc
   intro hck'
   rcases hs with ⟨h5, h6⟩ | ⟨h5, h6⟩
   ·have hm := ((h4 c hw hr).1 h5).2
    rcases h6 with h6 | h6
    ·exact ht.load k (by omega) hkn h6 c hck' hm
    ·exact ht.store k (by omega) hkn h6 c hck' (by simp [hm])
   ·have hm := ((h4 c hw hr).2 h5).2
    exact ht.store k (by omega) hkn h6 c hck' (by simp [hm])
  ·rw [hrow j (by omega)] at hc
   exact ht.pair j k (by omega) hjk hkn hs c hc
theorem softO_inv {o : Oper} {f f' : Fr} {s s' : St} {bad : List Nat} {c : Option Nat} (h : softO E ops o f s bad = some (c, f', s')) :
  oneO E ops o f s = some (f', s') ∧ ∀ c', wantO f ops o = true → rowAt (ev f s.gl) o.op = some c' → c = some c' ∧ c' ∉ bad := by
 unfold softO at h
 cases hw : wantO f ops o with
 | false =>
  simp only [hw] at h
  split at h
  ·rename_i f1 hp
   simp only [Option.some.injEq, Prod.mk.injEq] at h
   obtain ⟨_, rfl, rfl⟩ := h
   refine ⟨by simp [oneO, hw, hp], fun c' h0 => by cases h0⟩
  ·cases h
 | true =>
  simp only [hw] at h
  cases hr : rowAt (ev f s.gl) o.op with
  | none => simp [hr] at h
  | some c0 =>
   simp only [hr] at h
   cases hm : memb c0 bad with
   | true => simp [hm] at h
   | false =>
    simp only [hm] at h
    split at h
    ·rename_i f1 s1 h1
     simp only [Option.some.injEq, Prod.mk.injEq] at h
     obtain ⟨rfl, rfl, rfl⟩ := h
     refine ⟨h1, fun c' _ hc => ?_⟩
     injection hc with hc
     subst hc
     exact ⟨rfl, memb_mem hm⟩
    ·cases h
theorem draw_trace : ∀ (l : List Oper) (i : Nat) (rd wr : List Nat) (f f' : Fr) (s s' : St), ops.toList.drop i = l → drawO E ops kind i l rd wr f s = some (f', s') →
  ∃ (F : Nat → Fr) (S Y : Nat → St), F i = f ∧ S i = s ∧ F (i + l.length) = f' ∧ S (i + l.length) = s' ∧ Trace E ops kind i (i + l.length) rd wr F S Y
 | [], i, rd, wr, f, f', s, s', hl, h => by
  simp only [drawO, Option.some.injEq, Prod.mk.injEq] at h
  obtain ⟨rfl, rfl⟩ := h
  exact ⟨fun _ => f, fun _ => s, fun _ => s, rfl, rfl, rfl, rfl, ⟨fun j h1 h2 => by simp at h2; omega, fun j h1 h2 => by simp at h2; omega, fun j h1 h2 => by simp at h2; omega, fun j k h1 h2 h3 => by simp at h3; omega⟩⟩
 | o :: l, i, rd, wr, f, f', s, s', hl, h => by
  have ho : ops[i]? = some o := by
   have : (ops.toList.drop i)[0]? = some o := by rw [hl]; rfl
   rw [List.getElem?_drop] at this
   simpa using this
  have hl' : ops.toList.drop (i + 1) = l := by rw [← List.drop_drop, hl]; rfl
  have hlen : i + (o :: l).length = i + 1 + l.length := by simp; omega
  have key : ∀ (rd' wr' : List Nat) (f1 : Fr) (s1 y : St), drawO E ops kind (i + 1) l rd' wr' f1 s1 = some (f', s') → (∀ c ∈ rd, c ∈ rd') → (∀ c ∈ wr, c ∈ wr') →
    (kind i = 0 ∨ kind i = 1 ∨ kind i = 2 ∨ kind i = 3 ∨ kind i = 5) → oneO E ops o f (if kind i = 1 then { s with low := s.nx } else s) = some (f1, y) →
    s1 = (if kind i = 1 then { y with low := s.low } else y) → (kind i = 1 → s.nx ≤ y.low) →
    (∀ c, wantO f ops o = true → rowAt (ev f s.gl) o.op = some c → (kind i = 3 → c ∉ rd ++ wr ∧ c ∈ wr') ∧ (kind i = 2 → c ∉ wr ∧ c ∈ rd')) →
    ∃ (F : Nat → Fr) (S Y : Nat → St), F i = f ∧ S i = s ∧ F (i + (o :: l).length) = f' ∧ S (i + (o :: l).length) = s' ∧ Trace E ops kind i (i + (o :: l).length) rd wr F S Y := by
   intro rd' wr' f1 s1 y h1 hrd hwr hk h2 h3 h4 h5
   obtain ⟨F, S, Y, e1, e2, e3, e4, ht⟩ := draw_trace l (i + 1) rd' wr' f1 f' s1 s' hl' h1
   rw [hlen]
   obtain ⟨F', S', Y', g1, g2, g3, g4⟩ := Trace.cons (i := i) (n := i + 1 + l.length) (f := f) (s := s) (y := y) (by omega) ho ht hrd hwr hk (by rw [e1]; exact h2) (by rw [e2]; exact h3) h4 h5
   have := g3 (i + 1 + l.length) (by omega)
   exact ⟨F', S', Y', g1, g2, this.1.trans e3, this.2.trans e4, g4⟩
  simp only [drawO] at h
  split at h
  ·rename_i hk
   split at h
   ·rename_i f1 s1 h1
    exact key rd wr f1 s1 s1 h (fun _ h => h) (fun _ h => h) (.inl hk) (by simpa [hk] using h1) (by simp [hk]) (by simp [hk]) (by simp [hk])
   ·cases h
  ·rename_i hk
   split at h
   ·rename_i f1 s1 h1
    split at h
    ·rename_i hb
     exact key rd wr f1 _ s1 h (fun _ h => h) (fun _ h => h) (.inr (.inl hk)) (by simpa [hk] using h1) (by simp [hk]) (fun _ => ble_iff.1 hb) (by simp [hk])
    ·cases h
   ·cases h
  ·rename_i hk
   split at h
   ·rename_i c f1 s1 h1
    obtain ⟨h2, h3⟩ := softO_inv h1
    refine key _ _ f1 s1 s1 h ?_ (fun _ h => h) (.inr (.inr (.inl hk))) (by simpa [hk] using h2) (by simp [hk]) (by simp [hk]) ?_
    ·intro c' hc'; cases c <;> simp [consO, hc']
    ·intro c' hw hr
     obtain ⟨rfl, h4⟩ := h3 c' hw hr
     exact ⟨by simp [hk], fun _ => ⟨h4, by simp [consO]⟩⟩
   ·cases h
  ·rename_i hk
   split at h
   ·rename_i c f1 s1 h1
    obtain ⟨h2, h3⟩ := softO_inv h1
    refine key _ _ f1 s1 s1 h (fun _ h => h) ?_ (.inr (.inr (.inr (.inl hk)))) (by simpa [hk] using h2) (by simp [hk]) (by simp [hk]) ?_
    ·intro c' hc'; cases c <;> simp [consO, hc']
    ·intro c' hw hr
     obtain ⟨rfl, h4⟩ := h3 c' hw hr
     exact ⟨fun _ => ⟨h4, by simp [consO]⟩, by simp [hk]⟩
   ·cases h
  ·rename_i hk
   split at h
   ·rename_i f1 s1 h1
    exact key rd wr f1 s1 s1 h (fun _ h => h) (fun _ h => h) (.inr (.inr (.inr (.inr hk)))) (by simpa [hk] using h1) (by simp [hk]) (by simp [hk]) (by simp [hk])
   ·cases h
  ·cases h
end
/-! the run in the order of the text, as the model has it -/
section
variable {base : Nat} {μ : Mp} {w : World} {s s' : St} {a : Act} {E : Env} {o : Oper} {f f' : Fr} {ops : Array Oper}
theorem wp_some {P : Program} {K : Act → World → Prop} (h : o.wp P a w K (fun _ _ _ => False)) : ∃ a' w', K a' w' := by
 unfold Oper.wp at h
 generalize (execOp a.eval o).run P w = r at h
 cases r with
 | ok n w' =>
  cases n <;> simp only [Oper.upon] at h
  case value => exact ⟨_, _, h⟩
  case skip => exact ⟨_, _, h⟩
  case defer => exact ⟨_, _, h⟩
  case enter f args =>
   obtain ⟨e, w2, _, hr, _⟩ := h []
   cases e with
   | returned v => exact ⟨_, _, hr⟩
   | panicked _ => exact hr.elim
   | outgrown => obtain ⟨_, _, hr⟩ := hr; exact hr.elim
  case row row args =>
   obtain ⟨v, w2, hr, _⟩ := h (Frame.enter P 0 #[] .normal) []
   exact ⟨_, _, hr⟩
  all_goals exact h.elim
 | halt x w' => cases x <;> simp only [Oper.upon] at h
theorem wpOp_some {P : Program} {i : Nat} {K : Act → World → Prop} (h : wpOp P ops (fun _ _ _ => False) i K a w) : ∃ a' w', K a' w' := by
 unfold wpOp at h
 split at h
 ·exact ⟨_, _, h⟩
 ·split at h
  ·rcases h with h | ⟨_, h⟩
   ·exact wp_some h
   ·obtain ⟨_, _, hr⟩ := h; exact hr.elim
  ·exact ⟨_, _, h⟩
theorem op_step (hE : EnvOk E base) (hi : Inv base μ s w) {ρ : Operand → Option AV} (hr : RhoOk μ ρ a) {op : Op} {v : AV} (h : opO E ρ s op = some (v, s')) :
  ∃ μ' w' v', Stp base μ μ' s s' w w' ∧ VR μ' v v' := by
 obtain ⟨a', w', μ', v', h1, h2⟩ := wp_some (o := { (default : Oper) with op := op }) (K := fun a' w' => ∃ μ' v', Stp base μ μ' s s' w w' ∧ VR μ' v v') (op_sound hE hi hr (o := { (default : Oper) with op := op }) h _ _ fun v' w' μ' h1 h2 => ⟨μ', v', h2, h1⟩)
 exact ⟨μ', w', v', h1, h2⟩
theorem one_step (hE : EnvOk E base) (hi : Inv base μ s w) (ht : TmRel μ f a) {i : Nat} (ho : ops[i]? = some o) (h : oneO E ops o f s = some (f', s')) :
  ∃ μ' w' a', Stp base μ μ' s s' w w' ∧ TmRel μ' f' a' := by
 obtain ⟨a', w', μ', h1, h2⟩ := wpOp_some (K := fun a' w' => ∃ μ', Stp base μ μ' s s' w w' ∧ TmRel μ' f' a') (one_sound hE hi ht h ho _ _ fun μ' w' v' h1 h2 => ⟨μ', h1, h2⟩)
 exact ⟨μ', w', a', h1, h2⟩
end
end Go.AM
/-
  For regions that draw their order: steps of memory seen from a wider memory.
-/
namespace Go.AM
open Go Go.RowKit Go.Lib
section
variable {base : Nat} {μ μ' μ2 : Mp} {w w' : World} {s s' si si' : St}
theorem Stp.lower (h : Stp base μ μ' s s' w w') {low : Nat} (hl : low ≤ s'.low) : Stp base μ μ' s { s' with low := low } w w' :=
 ⟨h.ext, h.rel, h.dom, fun b g blk n hm => by
   rcases h.new b g blk n hm with h1 | h1 | ⟨h1, h2⟩
   ·exact .inl h1
   ·exact .inr (.inl h1)
   ·exact .inr (.inr ⟨Nat.le_trans hl h1, h2⟩), h.nx, h.gl, Nat.le_trans hl h.low, fun b hb hb' => h.same b hb (Nat.lt_of_lt_of_le hb' hl), fun blk hb => by
   rcases h.fr blk hb with h1 | ⟨b, g, n, h1, h2, h3⟩
   ·exact .inl h1
   ·exact .inr ⟨b, g, n, h1, Nat.le_trans hl h2, h3⟩, h.size, h.os, h.tape, h.output, h.wf⟩
theorem Stp.raise (h : Stp base μ μ' s s' w w') {low low' : Nat} (hl : low' ≤ low) (hl' : low' ≤ s'.low) : Stp base μ μ' { s with low := low } { s' with low := low' } w w' :=
 let k := h.lower hl'
 ⟨k.ext, k.rel, k.dom, k.new, k.nx, k.gl, hl, k.same, k.fr, k.size, k.os, k.tape, k.output, k.wf⟩
theorem Rel.own_of_base {h : T Row} (hr : Rel base μ h w) {b g blk n : Nat} (hm : μ b g = some (blk, n)) (hb : base ≤ blk) : ∃ r, h.get b = some r ∧ r.own = true := by
 obtain ⟨r, h1, h2⟩ := hr.row b g blk n hm
 refine ⟨r, h1, ?_⟩
 have := h2.own
 cases ho : r.own with
 | true => rfl
 | false => simp [ho] at this; omega
theorem Rel.base_of_own {h : T Row} (hr : Rel base μ h w) {b g blk n : Nat} {r : Row} (hm : μ b g = some (blk, n)) (hg : h.get b = some r) (ho : r.own = true) : base ≤ blk := by
 obtain ⟨r', h1, h2⟩ := hr.row b g blk n hm
 rw [hg] at h1
 injection h1 with h1
 subst h1
 simpa [ho] using h2.own
theorem Rel.sep' {h : T Row} (hr : Rel base μ h w) {b g blk n b' g' n' : Nat} (hm : μ b g = some (blk, n)) (hm' : μ b' g' = some (blk, n')) (hb : base ≤ blk) : b = b' := by
 obtain ⟨r, h1, h2⟩ := hr.own_of_base hm hb
 exact hr.sep _ _ _ _ _ _ _ _ hm hm' h1 h2
def Mp.join (μ2 μ : Mp) (N : Nat) : Mp := fun b g => if b < N then μ2 b g else μ b g
theorem Stp.widen {t t' : T Row} {N low : Nat} (hi : Inv base μ { si with hp := t, nx := N, low := low } w)
  (hx : ∀ b g x, μ b g = some x → b < si.nx ∨ si'.nx ≤ b) (hst : Stp base (μ.lt si.nx) μ2 si si' w w') (hN : si'.nx ≤ N) (hlow : low ≤ si'.low) (hlx : low ≤ si.nx)
  (hsame : ∀ b, b < low → si'.hp.get b = t.get b) (ht1 : ∀ b, b < si'.nx → t'.get b = si'.hp.get b) (ht2 : ∀ b, si'.nx ≤ b → b < N → t'.get b = t.get b) (ht3 : ∀ b, N ≤ b → t'.get b = none) :
  Ext μ2 (μ2.join μ si'.nx) ∧ Stp base μ (μ2.join μ si'.nx) { si with hp := t, nx := N, low := low } { si with hp := t', nx := N, low := low } w w' ∧
   ∀ b g x, μ2.join μ si'.nx b g = some x → (∃ x', μ b g = some x') ∨ (si.nx ≤ b ∧ b < si'.nx) ∨ (si'.low ≤ b ∧ b < si.nx) := by
 have hnx := hst.nx
 have hlt : ∀ b g x, b < si'.nx → (μ2.join μ si'.nx b g = some x ↔ μ2 b g = some x) := fun b g x hb => by simp [Mp.join, hb]
 have hge : ∀ b g x, si'.nx ≤ b → (μ2.join μ si'.nx b g = some x ↔ μ b g = some x) := fun b g x hb => by
  have : ¬ b < si'.nx := by omega
  simp [Mp.join, this]
 have he2 : Ext μ2 (μ2.join μ si'.nx) := fun b g x hm => (hlt b g x (hst.dom b g x hm)).2 hm
 have he : Ext μ (μ2.join μ si'.nx) := fun b g x hm => by
  rcases hx b g x hm with hb | hb
  ·exact (hlt b g x (by omega)).2 (hst.ext _ _ _ (Mp.lt_some.2 ⟨hb, hm⟩))
  ·exact (hge b g x hb).2 hm
 -- blocks that the wide memory alone knows are not touched
 have hfar : ∀ b g blk n, si'.nx ≤ b → μ b g = some (blk, n) → w'.heap[blk]? = w.heap[blk]? := fun b g blk n hb hm => by
  rcases hst.fr blk (hi.rel.lt hm) with h | ⟨b0, g0, n0, h1, h2, h3⟩
  ·exact h
  ·obtain ⟨h4, h5⟩ := Mp.lt_some.1 h1
   have := hi.rel.sep' hm h5 h3
   omega
 have hapart : ∀ b g blk n b' g' n', μ2 b g = some (blk, n) → si'.nx ≤ b' → μ b' g' = some (blk, n') → base ≤ blk → b = b' := fun b g blk n b' g' n' hm hb' hm' hb => by
  have hs := hi.rel.lt hm'
  rcases hst.new b g blk n hm with h | ⟨_, h⟩ | ⟨_, h, h0 | ⟨g0, h0⟩⟩
  ·exact hi.rel.sep' (Mp.lt_some.1 h).2 hm' hb
  ·omega
  ·omega
  ·exact hi.rel.sep' (Mp.lt_some.1 h0).2 hm' hb
 have hwf : WF t' N := fun b r hg x hx => by
  by_cases hb : b < si'.nx
  ·exact okC.mono hN (hst.wf b r ((ht1 b hb).symm.trans hg) x hx)
  ·by_cases hbN : b < N
   ·exact hi.wf b r ((ht2 b (by omega) hbN).symm.trans hg) x hx
   ·rw [ht3 b (by omega)] at hg; cases hg
 refine ⟨he2, ⟨he, ⟨?_, ?_⟩, ?_, ?_, Nat.le_refl _, rfl, Nat.le_refl _, ?_, ?_, hst.size, hst.os, hst.tape, hst.output, hwf⟩, ?_⟩
 ·intro b g blk n hm
  by_cases hb : b < si'.nx
  ·have hm := (hlt b g _ hb).1 hm
   obtain ⟨r, h1, h2⟩ := hst.rel.row b g blk n hm
   exact ⟨r, (ht1 b hb).trans h1, h2.mono he2 rfl⟩
  ·have hb : si'.nx ≤ b := by omega
   have hm := (hge b g _ hb).1 hm
   obtain ⟨r, h1, h2⟩ := hi.rel.row b g blk n hm
   exact ⟨r, (ht2 b hb (hi.dom b g _ hm)).trans h1, h2.mono he (hfar b g blk n hb hm)⟩
 ·intro b g blk n b' g' n' r hm hm' hg ho
  by_cases hb : b < si'.nx
  ·have hm := (hlt b g _ hb).1 hm
   have hg : si'.hp.get b = some r := (ht1 b hb).symm.trans hg
   have hbase := hst.rel.base_of_own hm hg ho
   by_cases hb' : b' < si'.nx
   ·exact hst.rel.sep _ _ _ _ _ _ _ _ hm ((hlt b' g' _ hb').1 hm') hg ho
   ·exact hapart _ _ _ _ _ _ _ hm (by omega) ((hge b' g' _ (by omega)).1 hm') hbase
  ·have hm := (hge b g _ (by omega)).1 hm
   have hg : t.get b = some r := (ht2 b (by omega) (hi.dom b g _ hm)).symm.trans hg
   have hbase := hi.rel.base_of_own hm hg ho
   by_cases hb' : b' < si'.nx
   ·exact (hapart _ _ _ _ _ _ _ ((hlt b' g' _ hb').1 hm') (by omega) hm hbase).symm
   ·exact hi.rel.sep _ _ _ _ _ _ _ _ hm ((hge b' g' _ (by omega)).1 hm') hg ho
 ·intro b g x hm
  show b < N
  by_cases hb : b < si'.nx
  ·omega
  ·exact hi.dom b g x ((hge b g _ (by omega)).1 hm)
 ·intro b g blk n hm
  by_cases hb : b < si'.nx
  ·have hm := (hlt b g _ hb).1 hm
   rcases hst.new b g blk n hm with h | ⟨h1, h2⟩ | ⟨h1, h2, h3⟩
   ·exact .inl (Mp.lt_some.1 h).2
   ·exact .inr (.inr ⟨show low ≤ b by omega, show b < N by omega, .inl h2⟩)
   ·refine .inr (.inr ⟨show low ≤ b by omega, show b < N by omega, ?_⟩)
    rcases h3 with h3 | ⟨g0, h3⟩
    ·exact .inl h3
    ·exact .inr ⟨g0, (Mp.lt_some.1 h3).2⟩
  ·exact .inl ((hge b g _ (by omega)).1 hm)
 ·intro b hb hbl
  show t'.get b = t.get b
  have hbl : b < low := hbl
  rw [ht1 b (by omega)]
  exact hsame b hbl
 ·intro blk hb
  rcases hst.fr blk hb with h | ⟨b, g, n, h1, h2, h3⟩
  ·exact .inl h
  ·exact .inr ⟨b, g, n, (Mp.lt_some.1 h1).2, show low ≤ b by omega, h3⟩
 ·intro b g x hm
  obtain ⟨blk, n⟩ := x
  by_cases hb : b < si'.nx
  ·have hm := (hlt b g _ hb).1 hm
   rcases hst.new b g blk n hm with h | ⟨h1, h2⟩ | ⟨h1, h2, h3⟩
   ·exact .inl ⟨_, (Mp.lt_some.1 h).2⟩
   ·exact .inr (.inl ⟨h1, hb⟩)
   ·exact .inr (.inr ⟨h1, h2⟩)
  ·exact .inl ⟨_, (hge b g _ (by omega)).1 hm⟩
theorem Stp.rename {r : Row} {m : Nat} {low : Nat} (hi : Inv base μ { s with low := low } w)
  (hst : Stp base μ μ2 { s with low := s.nx } { s with hp := T.set r s.hp s.nx, nx := s.nx + 1, low := s.nx } w w')
  (hm : m < s.nx) (hfree : ∀ g, μ m g = none) (hlow : low ≤ m) {μ1 : Mp} (hs : Small μ1 s.nx) {vs : List Value} (hcells : LR (CR μ1) r.cells vs) :
  ∃ μn : Mp, (∀ g, μn m g = μ2 s.nx g) ∧ (∀ b g x, b ≠ m → μn b g = some x → μ b g = some x) ∧ Stp base μ μn { s with low := low } { s with hp := T.set r s.hp m, low := low } w w' := by
 have hnew : ∀ b g blk n, μ2 b g = some (blk, n) → μ b g = some (blk, n) ∨ (b = s.nx ∧ w.heap.size ≤ blk) := fun b g blk n h => by
  have hd : b < s.nx + 1 := hst.dom _ _ _ h
  rcases hst.new b g blk n h with h | ⟨h1, h2⟩ | ⟨h1, h2, _⟩
  ·exact .inl h
  ·have h1 : s.nx ≤ b := h1
   exact .inr ⟨by omega, h2⟩
  ·have h1 : s.nx ≤ b := h1
   have h2 : b < s.nx := h2
   omega
 have hdom : ∀ b g x, μ b g = some x → b < s.nx ∧ b ≠ m := fun b g x h => ⟨hi.dom b g x h, fun e => by subst e; rw [hfree] at h; cases h⟩
 generalize hμ : (fun b g => if b = m then μ2 s.nx g else if b = s.nx then none else μ2 b g : Mp) = μn
 have e1 : ∀ g, μn m g = μ2 s.nx g := fun g => by rw [← hμ]; simp
 have e2 : ∀ b g x, b ≠ m → μn b g = some x → μ b g = some x := fun b g x hb h => by
  rw [← hμ] at h
  simp only [hb, if_false] at h
  by_cases hbn : b = s.nx
  ·simp [hbn] at h
  ·simp only [hbn, if_false] at h
   rcases hnew b g x.1 x.2 h with h | ⟨h, _⟩
   ·exact h
   ·exact absurd h hbn
 have he : Ext μ μn := fun b g x h => by
  obtain ⟨h1, h2⟩ := hdom b g x h
  rw [← hμ]
  have : b ≠ s.nx := by omega
  simp only [h2, this, if_false]
  exact hst.ext _ _ _ h
 have heq : Ext (μ2.lt s.nx) μn := fun b g x h => by
  obtain ⟨h1, h2⟩ := Mp.lt_some.1 h
  rcases hnew b g x.1 x.2 h2 with h | ⟨h, _⟩
  ·exact he _ _ _ h
  ·omega
 have hblk : ∀ blk, blk < w.heap.size → w'.heap[blk]? = w.heap[blk]? := fun blk hb => by
  rcases hst.fr blk hb with h | ⟨b, g, n, h1, h2, _⟩
  ·exact h
  ·have := (hdom _ _ _ h1).1
   have h2 : s.nx ≤ b := h2
   omega
 have hrow : ∀ g blk n, μ2 s.nx g = some (blk, n) → RowOk base μn w' r g blk n ∧ w.heap.size ≤ blk := fun g blk n h => by
  obtain ⟨r', h1, h2⟩ := hst.rel.row _ _ _ _ h
  have h1 : (T.set r s.hp s.nx).get s.nx = some r' := h1
  rw [T.get_set_same] at h1
  injection h1 with h1
  subst h1
  refine ⟨?_, ?_⟩
  ·obtain ⟨k1, k2, ⟨cs, fz, k3, k4, k5, k6⟩, k7, k8, k9⟩ := h2
   refine ⟨k1, k2, ⟨cs, fz, k3, k4, fun q hq => ⟨(k5 q hq).1, (k5 q hq).2.1, ?_⟩, k6⟩, k7, k8, k9⟩
   exact (LR.lt (R1 := CR μ1) (R := CR μ2) (R' := CR (μ2.lt s.nx)) (fun _ _ _ q1 q2 => CR.lt hs q1 q2) (hcells.take q) (k5 q hq).2.2).mono fun _ _ => CR.mono heq
  ·rcases hnew _ _ _ _ h with h | ⟨_, h⟩
   ·have := (hdom _ _ _ h).1; omega
   ·exact h
 refine ⟨μn, e1, e2, he, ⟨?_, ?_⟩, ?_, ?_, Nat.le_refl _, rfl, Nat.le_refl _, ?_, fun blk hb => .inl (hblk blk hb), hst.size, hst.os, hst.tape, hst.output, hi.wf.set (r := r) (fun x hx => hcells.ok hs x hx) m⟩
 ·intro b g blk n h
  by_cases hb : b = m
  ·subst hb
   rw [e1] at h
   exact ⟨r, T.get_set_same _ _ _, (hrow g blk n h).1⟩
  ·have h := e2 b g _ hb h
   obtain ⟨r', h1, h2⟩ := hi.rel.row b g blk n h
   refine ⟨r', ?_, h2.mono he (hblk _ (hi.rel.lt h))⟩
   show (T.set r s.hp m).get b = _
   rw [T.get_set_ne _ _ hb]
   exact h1
 ·intro b g blk n b' g' n' r' h h' hg ho
  by_cases hb : b = m
  ·by_cases hb' : b' = m
   ·rw [hb, hb']
   ·subst hb
    rw [e1] at h
    have := (hrow g blk n h).2
    have := hi.rel.lt (e2 b' g' _ hb' h')
    omega
  ·have h := e2 b g _ hb h
   by_cases hb' : b' = m
   ·subst hb'
    rw [e1] at h'
    have := (hrow g' blk n' h').2
    have := hi.rel.lt h
    omega
   ·have h' := e2 b' g' _ hb' h'
    have hg : (T.set r s.hp m).get b = some r' := hg
    rw [T.get_set_ne _ _ hb] at hg
    exact hi.rel.sep _ _ _ _ _ _ _ _ h h' hg ho
 ·intro b g x h
  show b < s.nx
  by_cases hb : b = m
  ·omega
  ·exact (hdom _ _ _ (e2 b g x hb h)).1
 ·intro b g blk n h
  by_cases hb : b = m
  ·subst hb
   rw [e1] at h
   exact .inr (.inr ⟨hlow, hm, .inl (hrow g blk n h).2⟩)
  ·exact .inl (e2 b g _ hb h)
 ·intro b _ hb
  show (T.set r s.hp m).get b = s.hp.get b
  have hb : b < low := hb
  rw [T.get_set_ne _ _ (by omega)]
end
end Go.AM
