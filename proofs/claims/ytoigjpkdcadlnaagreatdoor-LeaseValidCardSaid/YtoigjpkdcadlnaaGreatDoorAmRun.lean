/-
  Code and calls: what the abstract machine runs, the model runs.
-/
import Derived.Test.YtoigjpkdcadlnaaGreatDoorAmStep
import Derived.LoopN
namespace Go.AM
open Go Go.RowKit Go.Lib

def exOf : Ex → Exit
  | .normal => .normal
  | .exit id => .exit id
  | .ret => .ret

def CodeOk (P : Program) (base : Nat) (c : Code) (f : Fr) (s : St) (ex : Ex) (f' : Fr) (s' : St) : Prop :=
  ∀ μ w a, Inv base μ s w → TmRel μ f a → a.defers = [] → ∀ Q : Exit → Act → World → Prop,
    (∀ μ' w' a', Stp base μ μ' s s' w w' → TmRel μ' f' a' → a'.defers = [] → Q (exOf ex) a' w') → c.wp P Q a w

def CallOk (P : Program) (base : Nat) (call : FuncId → List AV → St → Option (AV × St)) : Prop :=
  ∀ f args s v s', call f args s = some (v, s') → (∀ vs w, (callFunc f vs).run P w = .ok (.enter f vs) w) ∧
    ∀ μ w vs, Inv base μ s w → LR (VR μ) args vs → Calls P f vs.toArray w fun e w' => ∃ v' μ', e = .returned v' ∧ VR μ' v v' ∧ Stp base μ μ' s s' w w'

section
variable {base : Nat} {μ μ' : Mp} {P : Program} {w w' : World} {s s' : St} {f : Fr} {a : Act}

theorem argsT_get : ∀ (args : List AV) (i : Nat) (t : T AV) (k : Nat), (argsT args i t).get k = if i ≤ k ∧ k < i + args.length then args[k - i]? else t.get k
  | [], i, t, k => by
    have hn : ¬ (i ≤ k ∧ k < i + ([] : List AV).length) := by simp only [List.length_nil]; omega
    rw [if_neg hn]
    rfl
  | v :: r, i, t, k => by
    simp only [argsT]
    rw [argsT_get r (i + 1) (T.set v t i) k, T.get_set]
    by_cases h1 : k = i
    · subst h1
      rw [if_neg (by omega), if_pos rfl, if_pos (by simp)]
      simp
    · rw [if_neg h1]
      by_cases h2 : i + 1 ≤ k ∧ k < i + 1 + r.length
      · rw [if_pos h2, if_pos (by simp; omega), show k - i = (k - (i + 1)) + 1 by omega]
        simp
      · rw [if_neg h2, if_neg (by simp; omega)]

theorem enter_rel {args : List AV} {vs : List Value} (h : LR (VR μ) args vs) {n : Nat} (hn : args.length ≤ n) :
    TmRel μ { tm := argsT args 0 .nil, nt := n } { tmps := vs.toArray ++ Array.replicate (n - vs.toArray.size) undef, defers := [] } := by
  have hl := h.length
  refine ⟨by simp; omega, fun t => ?_⟩
  show VR μ (((argsT args 0 .nil).get t).getD und) _
  rw [argsT_get]
  by_cases ht : t < args.length
  · rw [if_pos (by omega)]
    obtain ⟨x, hx⟩ : ∃ x, args[t]? = some x := ⟨args[t], List.getElem?_eq_getElem ht⟩
    obtain ⟨v, hv, hr⟩ := h.get _ _ hx
    have : (vs.toArray ++ Array.replicate (n - vs.toArray.size) undef).getD t undef = v := by
      have hlt : t < vs.length := by omega
      simp [Array.getElem?_append, hlt]
      rw [List.getElem?_eq_getElem hlt] at hv
      injection hv
    rw [this]
    simp [hx]
    exact hr
  · rw [if_neg (by omega)]
    have : (vs.toArray ++ Array.replicate (n - vs.toArray.size) undef).getD t undef = undef := by
      have hlt : ¬ t < vs.length := by omega
      simp [Array.getElem?_append, hlt, Array.getElem?_replicate]
      split <;> rfl
    rw [this]
    exact VR.und

theorem noTup_v1 {x : AV} {v : Value} (h : isTup x = false) (hv : VR μ x v) : V1 μ x v := by
  cases x <;> first | exact hv | simp [isTup] at h

theorem res_sound (hr : Rel base μ s.hp w) (ht : TmRel μ f a) : ∀ (rs : List ResultVar) (l : List AV), resO P f s rs = some l →
    ∃ us, LR (V1 μ) l us ∧ (rs.mapM (fun
      | .tmp t => pure (a.tmps.getD t undef)
      | .cell c t => do loadVar t (← asAddr (a.tmps.getD c undef))) : Sem (List Value)).run P w = .ok us w
  | [], l, h => by
    simp [resO] at h; subst h
    exact ⟨[], trivial, rfl⟩
  | .tmp t :: rs, l, h => by
    simp only [resO] at h
    split at h
    · rename_i v hv
      split at h
      · rename_i l' hnt hl'
        simp at h; subst h
        obtain ⟨us, h1, h2⟩ := res_sound hr ht rs l' hl'
        have := ht.tmp t
        rw [hv] at this
        refine ⟨a.tmps.getD t undef :: us, ⟨noTup_v1 hnt this, h1⟩, ?_⟩
        rw [List.mapM_cons]
        simp only [Sem.run_bind, Sem.run_pure, Result.andThen_ok, h2]
      · cases h
    · cases h
  | .cell c t :: rs, l, h => by
    simp only [resO] at h
    split at h
    · rename_i q hq
      split at h
      · rename_i v l' hv hl'
        simp at h; subst h
        obtain ⟨us, h1, h2⟩ := res_sound hr ht rs l' hl'
        have := ht.tmp c
        rw [hq] at this
        obtain ⟨c', hc', he⟩ := this
        obtain ⟨u, h3, h4⟩ := load_sound hr hv hc'
        refine ⟨u :: us, ⟨h3, h1⟩, ?_⟩
        have ha : (asAddr (a.tmps.getD c undef)).run P w = .ok c' w := by rw [he]; rfl
        rw [List.mapM_cons]
        simp only [Sem.run_bind, ha, Sem.run_pure, Result.andThen_ok, h4, h2]
      · cases h
    · cases h

theorem results_run {fn : Func} (hr : Rel base μ s.hp w) (ht : TmRel μ f a) {l : List AV} (h : resO P f s fn.results.toList = some l) :
    ∃ v', VR μ (oneOf l) v' ∧ (results fn a.tmps).run P w = .ok v' w := by
  obtain ⟨us, h1, h2⟩ := res_sound hr ht _ _ h
  have hl := h1.length
  have hrun : (results fn a.tmps).run P w = .ok (if h : us.toArray.size = 1 then us.toArray[0] else .tuple us.toArray) w := by
    unfold results
    rw [Array.mapM_eq_mapM_toList]
    simp only [Sem.run_bind, Sem.run_map]
    have h2' := h2
    first
      | (rw [h2']; rfl)
      | (erw [h2']; rfl)
  refine ⟨_, ?_, hrun⟩
  unfold oneOf
  split
  · rename_i v
    obtain ⟨u, us', rfl, h3, h4⟩ := h1.cons_left
    have := h4.nil_left
    subst this
    simp
    exact h3.vr
  · rename_i hne
    have : ¬ us.toArray.size = 1 := by
      intro h0
      have : l.length = 1 := by simp at h0; omega
      obtain ⟨v, rfl⟩ := List.length_eq_one_iff.1 this
      exact hne v rfl
    rw [dif_neg this]
    exact ⟨us, h1, rfl⟩

theorem plainC_rel {x : AV} {v : Value} (h : plainC x = true) (hv : CR μ x v) : CR μ' x v := by
  cases x <;> first | exact hv | simp [plainC] at h
theorem allB_mem {α : Type} {p : α → Bool} : ∀ {l : List α}, allB p l = true → ∀ x ∈ l, p x = true
  | [], _, _, h => by simp at h
  | y :: l, h, x, hx => by
    simp only [allB] at h
    split at h
    · rename_i hy
      rcases List.mem_cons.1 hx with rfl | hx
      · exact hy
      · exact allB_mem h x hx
    · cases h
theorem LR.mono_mem {α β : Type} {R R' : α → β → Prop} : ∀ {as : List α} {bs : List β}, (∀ a ∈ as, ∀ b, R a b → R' a b) → LR R as bs → LR R' as bs
  | [], [], _, _ => trivial
  | a :: as, b :: bs, h, ⟨h1, h2⟩ => ⟨h a (by simp) b h1, LR.mono_mem (fun x hx => h x (by simp [hx])) h2⟩
  | [], _ :: _, _, h => h.elim
  | _ :: _, [], _, h => h.elim
theorem plain1_rel {x : AV} {v : Value} (h : plain1 x = true) (hv : V1 μ x v) : V1 μ' x v := by
  cases x
  case agg cs => obtain ⟨vs, h1, rfl⟩ := hv; exact ⟨vs, h1.mono_mem fun y hy b hb => plainC_rel (allB_mem h y hy) hb, rfl⟩
  all_goals (simp only [plain1] at h; simp only [V1] at hv ⊢; exact plainC_rel (μ := μ) (μ' := μ') h hv)
theorem plain_rel {x : AV} {v : Value} (h : plainV x = true) (hv : VR μ x v) : VR μ' x v := by
  cases x
  case tuple cs => obtain ⟨vs, h1, rfl⟩ := hv; exact ⟨vs, h1.mono_mem fun y hy b hb => plain1_rel (allB_mem h y hy) hb, rfl⟩
  all_goals (simp only [plainV] at h; simp only [VR] at hv ⊢; exact plain1_rel (μ := μ) (μ' := μ') h hv)

theorem tidy_sound (hi : Inv base μ s w) {v : AV} {v' : Value} (hst : Stp base μ μ' { s with low := s.nx } s' w w') (hv : VR μ' v v') :
    ∃ μ'', VR μ'' v v' ∧ Stp base μ μ'' s (tidy s s' v) w w' := by
  have hi' : Inv base μ { s with low := s.nx } w := ⟨hi.rel, hi.dom, Nat.le_refl _, hi.size, hi.glob, hi.wf⟩
  unfold tidy
  split
  · rename_i hc
    simp only [Bool.and_eq_true, ble_iff] at hc
    refine ⟨μ, plain_rel hc.1 hv, Stp.of_below hi ⟨hst.os, hst.tape, hst.output, hst.size, fun k hk => ?_⟩⟩
    exact hst.still hi' hc.2 k hk
  · refine ⟨μ', hv, ⟨hst.ext, hst.rel, hst.dom, ?_, hst.nx, hst.gl, Nat.min_le_left _ _, ?_, ?_, hst.size, hst.os, hst.tape, hst.output, hst.wf⟩⟩
    · intro b g blk n hm
      rcases hst.new b g blk n hm with h | h | ⟨h1, h2⟩
      · exact .inl h
      · exact .inr (.inl h)
      · exact .inr (.inr ⟨Nat.le_trans (Nat.min_le_right _ _) h1, h2⟩)
    · intro b hb hl
      exact hst.same b hb (Nat.lt_of_lt_of_le hl (Nat.min_le_right _ _))
    · intro blk hb
      rcases hst.fr blk hb with h | ⟨b, g, n, h1, h2, h3⟩
      · exact .inl h
      · exact .inr ⟨b, g, n, h1, Nat.le_trans (Nat.min_le_right _ _) h2, h3⟩

/-- what is asked of a program -/
structure ProgOk (P : Program) (same : FuncId → Bool) (known : FuncId → List AV → Option AV) : Prop where
  mixed : P.follows .mixedOrders = true
  name : ∀ (f : FuncId) (fn : Func), P.funcs[f]? = some fn → (fn.name == "runtime.NumGoroutine") = false
  same : ∀ f v w, same f = true → (callFunc f #[v]).run P w = .ok (.value v) w
  known : ∀ f args v, known f args = some v → plainV v = true ∧ (∀ vs w, (callFunc f vs).run P w = .ok (.enter f vs) w) ∧
    ∀ μ vs w, LR (VR μ) args vs → Calls P f vs.toArray w fun e w' => ∃ v', e = .returned v' ∧ VR μ v v' ∧ Below w.heap.size w w'

def DrawOk : Prop := ∀ (E : Env) (base : Nat) (ops : Array Oper) (id : Nat) (f f' : Fr) (s s' : St), EnvOk E base → E.P.follows .mixedOrders = true → okRegion ops = true →
  drawO E ops (kindOf ops) 0 ops.toList [] [] f s = some (f', s') → CodeOk E.P base (.region id ops true) f s .normal f' s'

theorem run_sound {same : FuncId → Bool} {known : FuncId → List AV → Option AV} (hP : ProgOk P same known) (hD : DrawOk) (base : Nat) :
    ∀ n, (∀ c f s ex f' s', (run P same known kindOf n).code c f s = some (ex, f', s') → CodeOk P base c f s ex f' s') ∧
      (∀ b f s ex f' s', (run P same known kindOf n).code (.loop b) f s = some (ex, f', s') → ∀ μ w a, Inv base μ s w → TmRel μ f a → a.defers = [] → ∀ Q : Exit → Act → World → Prop,
        (∀ μ' w' a', Stp base μ μ' s s' w w' → TmRel μ' f' a' → a'.defers = [] → Q (exOf ex) a' w') → Code.rounds P b Q n a w) ∧
      CallOk P base (run P same known kindOf n).call := by
  intro n
  induction n with
  | zero =>
    refine ⟨fun c f s ex f' s' h => ?_, fun b f s ex f' s' h => ?_, fun f args s v s' h => ?_⟩ <;> simp [run] at h
  | succ n ih =>
    obtain ⟨ihc, ihl, ihf⟩ := ih
    have hE : EnvOk (envOf P same known (run P same known kindOf n)) base := ⟨hP.same, hP.known, fun f args s v s' h => ihf f args s v s' h⟩
    have hloop : ∀ b f s ex f' s', (run P same known kindOf (n + 1)).code (.loop b) f s = some (ex, f', s') → ∀ μ w a, Inv base μ s w → TmRel μ f a → a.defers = [] → ∀ Q : Exit → Act → World → Prop,
        (∀ μ' w' a', Stp base μ μ' s s' w w' → TmRel μ' f' a' → a'.defers = [] → Q (exOf ex) a' w') → Code.rounds P b Q (n + 1) a w := by
      intro b f s ex f' s' h μ w a hi ht hd Q hq
      rw [rounds_succ]
      simp only [run, stepC] at h
      split at h
      · rename_i f1 s1 h1
        refine ihc b f s .normal f1 s1 h1 μ w a hi ht hd _ fun μ1 w1 a1 hst ht1 hd1 => ?_
        exact ihl b f1 s1 ex f' s' h μ1 w1 a1 (hi.after hst) ht1 hd1 Q fun μ2 w2 a2 hst2 ht2 hd2 => hq μ2 w2 a2 (hst.trans hi hst2) ht2 hd2
      · rename_i hne
        refine ihc b f s ex f' s' h μ w a hi ht hd _ fun μ1 w1 a1 hst ht1 hd1 => ?_
        cases ex with
        | normal => exact absurd h (hne _ _)
        | exit id => exact hq μ1 w1 a1 hst ht1 hd1
        | ret => exact hq μ1 w1 a1 hst ht1 hd1
    refine ⟨?_, hloop, ?_⟩
    · intro c f s ex f' s' h μ w a hi ht hd Q hq
      cases c
      case loop b => exact wp_loop_rounds (n + 1) (hloop b f s ex f' s' h μ w a hi ht hd Q hq)
      case skip =>
        simp only [run, stepC, Option.some.injEq, Prod.mk.injEq] at h
        obtain ⟨rfl, rfl, rfl⟩ := h
        exact wp_skip (hq μ w a (Stp.refl hi) ht hd)
      case exit id =>
        simp only [run, stepC, Option.some.injEq, Prod.mk.injEq] at h
        obtain ⟨rfl, rfl, rfl⟩ := h
        exact wp_exit (hq μ w a (Stp.refl hi) ht hd)
      case ret =>
        simp only [run, stepC, Option.some.injEq, Prod.mk.injEq] at h
        obtain ⟨rfl, rfl, rfl⟩ := h
        exact wp_ret (hq μ w a (Stp.refl hi) ht hd)
      case region id ops draw =>
        cases draw with
        | false =>
          simp only [run, stepC] at h
          split at h
          · rename_i f1 s1 h1
            simp only [Option.some.injEq, Prod.mk.injEq] at h
            obtain ⟨rfl, rfl, rfl⟩ := h
            refine wp_region ?_
            have := ops_sound hE Q ops.toList 0 f f1 s s1 μ w a rfl h1 hi ht hd hq
            rw [List.range_eq_range']
            have hlen : ops.toList.length = ops.size := by simp
            rw [hlen] at this
            exact this
          · cases h
        | true =>
          simp only [run, stepC] at h
          split at h
          · rename_i hok
            split at h
            · rename_i f1 s1 h1
              simp only [Option.some.injEq, Prod.mk.injEq] at h
              obtain ⟨rfl, rfl, rfl⟩ := h
              exact hD _ base ops id f f1 s s1 hE hP.mixed hok h1 μ w a hi ht hd Q hq
            · cases h
          · cases h
      case seq x y =>
        refine wp_seq ?_
        simp only [run, stepC] at h
        split at h
        · rename_i f1 s1 h1
          refine ihc x f s .normal f1 s1 h1 μ w a hi ht hd _ fun μ1 w1 a1 hst ht1 hd1 => ?_
          exact ihc y f1 s1 ex f' s' h μ1 w1 a1 (hi.after hst) ht1 hd1 Q fun μ2 w2 a2 hst2 ht2 hd2 => hq μ2 w2 a2 (hst.trans hi hst2) ht2 hd2
        · rename_i hne
          refine ihc x f s ex f' s' h μ w a hi ht hd _ fun μ1 w1 a1 hst ht1 hd1 => ?_
          cases ex with
          | normal => exact absurd h (hne _ _)
          | exit id => exact hq μ1 w1 a1 hst ht1 hd1
          | ret => exact hq μ1 w1 a1 hst ht1 hd1
      case cond c x y =>
        simp only [run, stepC] at h
        split at h
        · rename_i hb
          exact wp_cond_true (bool_inv (ev_sound hi ht _ _ hb)) (ihc x f s ex f' s' h μ w a hi ht hd Q hq)
        · rename_i hb
          exact wp_cond_false (bool_inv (ev_sound hi ht _ _ hb)) (ihc y f s ex f' s' h μ w a hi ht hd Q hq)
        · cases h
      case block id b =>
        refine wp_block ?_
        simp only [run, stepC] at h
        split at h
        · rename_i i f1 s1 h1
          refine ihc b f s (.exit i) f1 s1 h1 μ w a hi ht hd _ fun μ1 w1 a1 hst ht1 hd1 => ?_
          show Exit.inBlock id Q (.exit i) a1 w1
          unfold Exit.inBlock
          split at h
          · rename_i he
            have he := Nat.eq_of_beq_eq_true he
            subst he
            simp only [Option.some.injEq, Prod.mk.injEq] at h
            obtain ⟨rfl, rfl, rfl⟩ := h
            simp only [if_true]
            exact hq μ1 w1 a1 hst ht1 hd1
          · rename_i he
            rw [beq0] at he
            have he : ¬ i = id := by simpa using he
            simp only [Option.some.injEq, Prod.mk.injEq] at h
            obtain ⟨rfl, rfl, rfl⟩ := h
            simp only [he, if_false]
            exact hq μ1 w1 a1 hst ht1 hd1
        · rename_i hne
          refine ihc b f s ex f' s' h μ w a hi ht hd _ fun μ1 w1 a1 hst ht1 hd1 => ?_
          cases ex with
          | normal => exact hq μ1 w1 a1 hst ht1 hd1
          | exit id => exact absurd h (hne _ _ _)
          | ret => exact hq μ1 w1 a1 hst ht1 hd1
      all_goals (simp [run, stepC] at h)
    · intro g args s v s' h
      simp only [run, stepF] at h
      split at h
      · cases h
      · rename_i fn hfn
        split at h
        · cases h
        · rename_i c hbody
          split at h
          · cases h
          · rename_i hlen
            have hlen := ble_iff.1 hlen
            refine ⟨fun vs w => ?_, fun μ w vs hi hvs => ?_⟩
            · have hn : ¬ fn.name = "runtime.NumGoroutine" := by simpa using hP.name g fn hfn
              simp [callFunc, hfn, hn, hbody]
            · have hi' : Inv base μ { s with low := s.nx } w := ⟨hi.rel, hi.dom, Nat.le_refl _, hi.size, hi.glob, hi.wf⟩
              have key : ∀ ex f1 s1, (run P same known kindOf n).code c { tm := argsT args 0 .nil, nt := fn.ntmps } { s with low := s.nx } = some (ex, f1, s1) → leaveO P fn s f1 s1 = some (v, s') → (exOf ex = .normal ∨ exOf ex = .ret) →
                  Calls P g vs.toArray w fun e w' => ∃ v' μ', e = .returned v' ∧ VR μ' v v' ∧ Stp base μ μ' s s' w w' := by
                intro ex f1 s1 h1 h2 h3
                unfold leaveO at h2
                split at h2
                · rename_i l hl
                  simp only [Option.some.injEq, Prod.mk.injEq] at h2
                  obtain ⟨rfl, rfl⟩ := h2
                  refine calls_of_wp hfn hbody ?_
                  refine ihc c _ _ ex f1 s1 h1 μ w _ hi' (enter_rel hvs hlen) rfl _ fun μ1 w1 a1 hst ht1 hd1 => ?_
                  obtain ⟨v', hv', hrun⟩ := results_run hst.rel ht1 hl
                  obtain ⟨μ2, h4, h5⟩ := tidy_sound hi hst hv'
                  have : a1.defers = [] ∧ ∃ v, (results fn a1.tmps).run P w1 = .ok v w1 ∧ ∃ v' μ', Ending.returned v = .returned v' ∧ VR μ' (oneOf l) v' ∧ Stp base μ μ' s (tidy s s1 (oneOf l)) w w1 :=
                    ⟨hd1, v', hrun, v', μ2, rfl, h4, h5⟩
                  rcases h3 with h3 | h3 <;> rw [h3] <;> exact this
                · cases h2
              split at h
              · rename_i f1 s1 h1
                exact key .normal f1 s1 h1 h (.inl rfl)
              · rename_i f1 s1 h1
                exact key .ret f1 s1 h1 h (.inr rfl)
              · cases h
end
end Go.AM
