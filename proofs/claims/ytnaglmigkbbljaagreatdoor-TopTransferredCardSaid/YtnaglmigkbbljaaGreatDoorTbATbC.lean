/-
  The abstract machine with calls whose answer is known and lays a row of its own.
-/
import Derived.Test.YtnaglmigkbbljaaGreatDoorAmFastRAmFast4
import Derived.KernelRfl
import Derived.Test.YtnaglmigkbbljaaGreatDoorProg
import Derived.WalkKit
import Derived.Lib.Hide
import Derived.Deep.QuietTactic
import Derived.BigQuiet
import Derived.Deep.DeepCutAuto
import Derived.OwnWalk
import Derived.Deep.AppendLies
import Derived.Laws.ResultCell
import Derived.Deep.RegionLaw
import Derived.Deep.CutBlock
import Derived.Deep.RegionHeld3
import Derived.Deep.RegionWith
import Derived.Maps.AppendAt
import Derived.StillTailTactics
set_option maxHeartbeats 6400000
set_option maxRecDepth 1000000
namespace Go.AM
open Go Go.RowKit Go.Lib
noncomputable section
def runS (P : Program) (same : FuncId → Bool) (known : FuncId → List AV → Option AV) (sp : FuncId → List AV → St → Option (AV × St)) (kind : Array Oper → Nat → Nat) : Nat → Rec
  | 0 => { code := fun _ _ _ => none, call := fun _ _ _ => none }
  | n + 1 => { code := stepC (envOf P same known (runS P same known sp kind n)) kind (runS P same known sp kind n).code,
               call := fun f args s => match sp f args s with | some r => some r | none => stepF P (runS P same known sp kind n).code f args s }
variable {P : Program}
theorem runS_sound {same : FuncId → Bool} {known : FuncId → List AV → Option AV} {sp : FuncId → List AV → St → Option (AV × St)} (hP : ProgOk P same known) (hS : ∀ base, CallOk P base sp) (hD : DrawOk) (base : Nat) :
  ∀ n, (∀ c f s ex f' s', (runS P same known sp kindOf n).code c f s = some (ex, f', s') → CodeOk P base c f s ex f' s') ∧
   (∀ b f s ex f' s', (runS P same known sp kindOf n).code (.loop b) f s = some (ex, f', s') → ∀ μ w a, Inv base μ s w → TmRel μ f a → a.defers = [] → ∀ Q : Exit → Act → World → Prop,
    (∀ μ' w' a', Stp base μ μ' s s' w w' → TmRel μ' f' a' → a'.defers = [] → Q (exOf ex) a' w') → Code.rounds P b Q n a w) ∧
   CallOk P base (runS P same known sp kindOf n).call := by
 intro n
 induction n with
 | zero =>
  refine ⟨fun c f s ex f' s' h => ?_, fun b f s ex f' s' h => ?_, fun f args s v s' h => ?_⟩ <;> simp [runS] at h
 | succ n ih =>
  obtain ⟨ihc, ihl, ihf⟩ := ih
  have hE : EnvOk (envOf P same known (runS P same known sp kindOf n)) base := ⟨hP.same, hP.known, fun f args s v s' h => ihf f args s v s' h⟩
  have hloop : ∀ b f s ex f' s', (runS P same known sp kindOf (n + 1)).code (.loop b) f s = some (ex, f', s') → ∀ μ w a, Inv base μ s w → TmRel μ f a → a.defers = [] → ∀ Q : Exit → Act → World → Prop,
    (∀ μ' w' a', Stp base μ μ' s s' w w' → TmRel μ' f' a' → a'.defers = [] → Q (exOf ex) a' w') → Code.rounds P b Q (n + 1) a w := by
   intro b f s ex f' s' h μ w a hi ht hd Q hq
   rw [rounds_succ]
   simp only [runS, stepC] at h
   split at h
   ·rename_i f1 s1 h1
    refine ihc b f s .normal f1 s1 h1 μ w a hi ht hd _ fun μ1 w1 a1 hst ht1 hd1 => ?_
    exact ihl b f1 s1 ex f' s' h μ1 w1 a1 (hi.after hst) ht1 hd1 Q fun μ2 w2 a2 hst2 ht2 hd2 => hq μ2 w2 a2 (hst.trans hi hst2) ht2 hd2
   ·rename_i hne
    refine ihc b f s ex f' s' h μ w a hi ht hd _ fun μ1 w1 a1 hst ht1 hd1 => ?_
    cases ex with
    | normal => exact absurd h (hne _ _)
    | exit id => exact hq μ1 w1 a1 hst ht1 hd1
    | ret => exact hq μ1 w1 a1 hst ht1 hd1
  refine ⟨?_, hloop, ?_⟩
  ·intro c f s ex f' s' h μ w a hi ht hd Q hq
   cases c
   case loop b => exact wp_loop_rounds (n + 1) (hloop b f s ex f' s' h μ w a hi ht hd Q hq)
   case skip =>
    simp only [runS, stepC, Option.some.injEq, Prod.mk.injEq] at h
    obtain ⟨rfl, rfl, rfl⟩ := h
    exact wp_skip (hq μ w a (Stp.refl hi) ht hd)
   case exit id =>
    simp only [runS, stepC, Option.some.injEq, Prod.mk.injEq] at h
    obtain ⟨rfl, rfl, rfl⟩ := h
    exact wp_exit (hq μ w a (Stp.refl hi) ht hd)
   case ret =>
    simp only [runS, stepC, Option.some.injEq, Prod.mk.injEq] at h
    obtain ⟨rfl, rfl, rfl⟩ := h
    exact wp_ret (hq μ w a (Stp.refl hi) ht hd)
   case region id ops draw =>
    cases draw with
    | false =>
     simp only [runS, stepC] at h
     split at h
     ·rename_i f1 s1 h1
      simp only [Option.some.injEq, Prod.mk.injEq] at h
      obtain ⟨rfl, rfl, rfl⟩ := h
      refine wp_region ?_
      have := ops_sound hE Q ops.toList 0 f f1 s s1 μ w a rfl h1 hi ht hd hq
      rw [List.range_eq_range']
      have hlen : ops.toList.length = ops.size := by simp
      rw [hlen] at this
      exact this
     ·cases h
    | true =>
     simp only [runS, stepC] at h
     split at h
     ·rename_i hok
      split at h
      ·rename_i f1 s1 h1
       simp only [Option.some.injEq, Prod.mk.injEq] at h
       obtain ⟨rfl, rfl, rfl⟩ := h
       exact hD _ base ops id f f1 s s1 hE hP.mixed hok h1 μ w a hi ht hd Q hq
      ·cases h
     ·cases h
   case seq x y =>
    refine wp_seq ?_
    simp only [runS, stepC] at h
    split at h
    ·rename_i f1 s1 h1
     refine ihc x f s .normal f1 s1 h1 μ w a hi ht hd _ fun μ1 w1 a1 hst ht1 hd1 => ?_
     exact ihc y f1 s1 ex f' s' h μ1 w1 a1 (hi.after hst) ht1 hd1 Q fun μ2 w2 a2 hst2 ht2 hd2 => hq μ2 w2 a2 (hst.trans hi hst2) ht2 hd2
    ·rename_i hne
     refine ihc x f s ex f' s' h μ w a hi ht hd _ fun μ1 w1 a1 hst ht1 hd1 => ?_
     cases ex with
     | normal => exact absurd h (hne _ _)
     | exit id => exact hq μ1 w1 a1 hst ht1 hd1
     | ret => exact hq μ1 w1 a1 hst ht1 hd1
   case cond c x y =>
    simp only [runS, stepC] at h
    split at h
    ·rename_i hb
     exact wp_cond_true (bool_inv (ev_sound hi ht _ _ hb)) (ihc x f s ex f' s' h μ w a hi ht hd Q hq)
    ·rename_i hb
     exact wp_cond_false (bool_inv (ev_sound hi ht _ _ hb)) (ihc y f s ex f' s' h μ w a hi ht hd Q hq)
    ·cases h
   case block id b =>
    refine wp_block ?_
    simp only [runS, stepC] at h
    split at h
    ·rename_i i f1 s1 h1
     refine ihc b f s (.exit i) f1 s1 h1 μ w a hi ht hd _ fun μ1 w1 a1 hst ht1 hd1 => ?_
     show Exit.inBlock id Q (.exit i) a1 w1
     unfold Exit.inBlock
     split at h
     ·rename_i he
      have he := Nat.eq_of_beq_eq_true he
      subst he
      simp only [Option.some.injEq, Prod.mk.injEq] at h
      obtain ⟨rfl, rfl, rfl⟩ := h
      simp only [if_true]
      exact hq μ1 w1 a1 hst ht1 hd1
     ·rename_i he
      rw [beq0] at he
      have he : ¬ i = id := by simpa using he
      simp only [Option.some.injEq, Prod.mk.injEq] at h
      obtain ⟨rfl, rfl, rfl⟩ := h
      simp only [he, if_false]
      exact hq μ1 w1 a1 hst ht1 hd1
    ·rename_i hne
     refine ihc b f s ex f' s' h μ w a hi ht hd _ fun μ1 w1 a1 hst ht1 hd1 => ?_
     cases ex with
     | normal => exact hq μ1 w1 a1 hst ht1 hd1
     | exit id => exact absurd h (hne _ _ _)
     | ret => exact hq μ1 w1 a1 hst ht1 hd1
   all_goals (simp [runS, stepC] at h)
  ·intro g args s v s' h
   simp only [runS] at h
   cases hsp : sp g args s with
   | some r =>
    rw [hsp] at h
    simp only [Option.some.injEq] at h
    subst h
    exact hS base g args s v s' hsp
   | none =>
   rw [hsp] at h
   simp only [stepF] at h
   split at h
   ·cases h
   ·rename_i fn hfn
    split at h
    ·cases h
    ·rename_i c hbody
     split at h
     ·cases h
     ·rename_i hlen
      have hlen := ble_iff.1 hlen
      refine ⟨fun vs w => ?_, fun μ w vs hi hvs => ?_⟩
      ·have hn : ¬ fn.name = "runtime.NumGoroutine" := by simpa using hP.name g fn hfn
       simp [callFunc, hfn, hn, hbody]
      ·have hi' : Inv base μ { s with low := s.nx } w := ⟨hi.rel, hi.dom, Nat.le_refl _, hi.size, hi.glob, hi.wf⟩
       have key : ∀ ex f1 s1, (runS P same known sp kindOf n).code c { tm := argsT args 0 .nil, nt := fn.ntmps } { s with low := s.nx } = some (ex, f1, s1) → leaveO P fn s f1 s1 = some (v, s') → (exOf ex = .normal ∨ exOf ex = .ret) →
         Calls P g vs.toArray w fun e w' => ∃ v' μ', e = .returned v' ∧ VR μ' v v' ∧ Stp base μ μ' s s' w w' := by
        intro ex f1 s1 h1 h2 h3
        unfold leaveO at h2
        split at h2
        ·rename_i l hl
         simp only [Option.some.injEq, Prod.mk.injEq] at h2
         obtain ⟨rfl, rfl⟩ := h2
         refine calls_of_wp hfn hbody ?_
         refine ihc c _ _ ex f1 s1 h1 μ w _ hi' (enter_rel hvs hlen) rfl _ fun μ1 w1 a1 hst ht1 hd1 => ?_
         obtain ⟨v', hv', hrun⟩ := results_run hst.rel ht1 hl
         obtain ⟨μ2, h4, h5⟩ := tidy_sound hi hst hv'
         have : a1.defers = [] ∧ ∃ v, (results fn a1.tmps).run P w1 = .ok v w1 ∧ ∃ v' μ', Ending.returned v = .returned v' ∧ VR μ' (oneOf l) v' ∧ Stp base μ μ' s (tidy s s1 (oneOf l)) w w1 :=
          ⟨hd1, v', hrun, v', μ2, rfl, h4, h5⟩
         rcases h3 with h3 | h3 <;> rw [h3] <;> exact this
        ·cases h2
       split at h
       ·rename_i f1 s1 h1
        exact key .normal f1 s1 h1 h (.inl rfl)
       ·rename_i f1 s1 h1
        exact key .ret f1 s1 h1 h (.inr rfl)
       ·cases h
variable {base : Nat} {μ : Mp} {s : St} {w : World}
theorem Stp.fresh (hi : Inv base μ s w) {w' : World} {blk0 : Nat} (hblk : w.heap.size ≤ blk0) (hbw : Below w.heap.size w w') (elem : TypeId) (cells : List AV) (odd : Bool) (cs : Array Value) (fz : Nat × Nat)
  (hnewb : w'.heap[blk0]? = some (.cells cs elem fz)) (hl : cells.length ≤ cs.size) (hr : LR (CR μ) cells (cs.toList.take cells.length)) (hz : ∀ i, i < cs.size → ¬ (fz.1 ≤ i ∧ i < fz.2)) (hodd : odd = false → fz.2 ≤ 0) :
  Stp base μ (μ.put s.nx 0 (blk0, cs.size)) s (newRow s elem cells odd).2 w w' := by
 have hne : ∀ b g x, μ b g = some x → ¬ (b = s.nx ∧ g = 0) := fun b g x hm ⟨hb, _⟩ => by have := hi.dom b g x hm; omega
 have hext : Ext μ (μ.put s.nx 0 (blk0, cs.size)) := fun b g x hm => by rw [Mp.put_other _ _ (hne b g x hm)]; exact hm
 have hold : ∀ blk, blk < w.heap.size → w'.heap[blk]? = w.heap[blk]? := fun blk hb => hbw.block blk hb
 have hlt : ∀ b g blk n, μ b g = some (blk, n) → blk < w.heap.size := fun b g blk n hm => by
  obtain ⟨r, _, hr⟩ := hi.rel.row b g blk n hm
  obtain ⟨cs, fz, h, _⟩ := hr.at_
  exact (Array.getElem?_eq_some_iff.1 h).1
 refine ⟨hext, ⟨?_, ?_⟩, ?_, ?_, Nat.le_succ _, rfl, Nat.le_refl _, ?_, fun blk hb => .inl (hold blk hb), hbw.size, hbw.os, hbw.tape, hbw.output, (hi.wf.mono (Nat.le_succ _)).set (fun x hx => okC.mono (Nat.le_succ _) (hr.ok hi.dom x hx)) _⟩
 ·intro b g blk n hm
  by_cases hc : b = s.nx ∧ g = 0
  ·obtain ⟨rfl, rfl⟩ := hc
   rw [Mp.put_same] at hm
   injection hm with hm
   injection hm with h1 h2
   subst h1; subst h2
   refine ⟨_, T.get_set_same _ _ _, rfl, Nat.le_refl _, ⟨cs, fz, hnewb, rfl, ?_, fun _ _ => ⟨fun i _ hi => hz i hi, hodd⟩⟩, Nat.zero_le _, ?_, Nat.le_refl _⟩
   ·intro m hm
    simp [extent] at hm
    subst hm
    exact ⟨hl, Nat.le_refl _, by simpa using hr.mono fun _ _ => CR.mono hext⟩
   ·exact Nat.le_trans hi.size hblk
  ·rw [Mp.put_other _ _ hc] at hm
   obtain ⟨r, h1, h2⟩ := hi.rel.row b g blk n hm
   refine ⟨r, ?_, h2.mono hext (hold _ (hlt _ _ _ _ hm))⟩
   show (T.set _ s.hp s.nx).get b = _
   rw [T.get_set_ne _ _ (by have := hi.dom _ _ _ hm; omega)]
   exact h1
 ·intro b g blk n b' g' n' r hm hm' hg ho
  by_cases hc : b = s.nx ∧ g = 0
  ·by_cases hc' : b' = s.nx ∧ g' = 0
   ·rw [hc.1, hc'.1]
   ·rw [Mp.put_other _ _ hc'] at hm'
    obtain ⟨rfl, rfl⟩ := hc
    rw [Mp.put_same] at hm
    injection hm with hm
    injection hm with h1 h2
    subst h1
    have := hlt _ _ _ _ hm'
    omega
  ·rw [Mp.put_other _ _ hc] at hm
   have hbn : b ≠ s.nx := by have := hi.dom _ _ _ hm; omega
   by_cases hc' : b' = s.nx ∧ g' = 0
   ·obtain ⟨rfl, rfl⟩ := hc'
    rw [Mp.put_same] at hm'
    injection hm' with hm'
    injection hm' with h1 h2
    subst h1
    have := hlt _ _ _ _ hm
    omega
   ·rw [Mp.put_other _ _ hc'] at hm'
    refine hi.rel.sep b g blk n b' g' n' r hm hm' ?_ ho
    have : (T.set _ s.hp s.nx).get b = some r := hg
    rw [T.get_set_ne _ _ hbn] at this
    exact this
 ·intro b g x hm
  show b < s.nx + 1
  by_cases hc : b = s.nx ∧ g = 0
  ·omega
  ·rw [Mp.put_other _ _ hc] at hm
   have := hi.dom _ _ _ hm
   omega
 ·intro b g blk n hm
  by_cases hc : b = s.nx ∧ g = 0
  ·obtain ⟨rfl, rfl⟩ := hc
   rw [Mp.put_same] at hm
   injection hm with hm
   injection hm with h1 h2
   exact .inr (.inl ⟨Nat.le_refl _, by omega⟩)
  ·rw [Mp.put_other _ _ hc] at hm
   exact .inl hm
 ·intro b hb _
  show (T.set _ s.hp s.nx).get b = _
  rw [T.get_set_ne _ _ (by omega)]
def runFS (P : Program) (same : FuncId → Bool) (known : FuncId → List AV → Option AV) (sp : FuncId → List AV → St → Option (AV × St)) (kind : Array Oper → Nat → Nat) (n : Nat) : Rec :=
 Nat.rec (motive := fun _ => Rec) { code := fun _ _ _ => none, call := fun _ _ _ => none }
  (fun _ ih => { code := stepCF P same known ih.call kind ih.code, call := fun f args s => match sp f args s with | some r => some r | none => stepFF P ih.code f args s }) n
theorem runFS_eq (P : Program) (same : FuncId → Bool) (known : FuncId → List AV → Option AV) (sp : FuncId → List AV → St → Option (AV × St)) (kind : Array Oper → Nat → Nat) : ∀ n, runFS P same known sp kind n = runS P same known sp kind n
 | 0 => rfl
 | n + 1 => by
  have ih := runFS_eq P same known sp kind n
  show Rec.mk (stepCF P same known (runFS P same known sp kind n).call kind (runFS P same known sp kind n).code) (fun f args s => match sp f args s with | some r => some r | none => stepFF P (runFS P same known sp kind n).code f args s) = Rec.mk _ _
  rw [ih]
  congr 1
  ·funext c f s
   exact stepCF_eq P same known _ kind _ c f s
  ·funext g args s
   rw [stepFF_eq P _ g args s]
theorem closed_boolS {same : FuncId → Bool} {known : FuncId → List AV → Option AV} {sp : FuncId → List AV → St → Option (AV × St)} (hP : ProgOk P same known) (hS : ∀ base, CallOk P base sp) {n : Nat} {f : FuncId} {b : Bool} {s' : St}
  (h : (runS P same known sp kindOf n).call f [] s00 = some (.bool b, s')) (w : World) :
  Calls P f #[] w fun e w' => e = .returned (.bool b) ∧ Below w.heap.size w w' := by
 refine (((runS_sound hP hS draw_ok w.heap.size n).2.2 f [] s00 (.bool b) s' h).2 μ0 w [] (inv00 w) trivial).mono ?_
 rintro e w' ⟨v', μ', rfl, h1, h2⟩
 have : v' = .bool b := h1
 subst this
 exact ⟨rfl, h2.below (Nat.le_refl _)⟩
end
end Go.AM
/-
  The program as the abstract machine asks it.
-/
namespace Go.Proofs.YtnaglmigkbbljaaGreatDoor
open Go Go.AM
def same0 (f : FuncId) : Bool := Nat.beq f 186
def known0 (_ : FuncId) (_ : List AV) : Option AV := none
theorem names0 : (Tryz.prog.funcs.toList.all fun fn => !(fn.name == "runtime.NumGoroutine")) = true := by kernel_rfl
theorem noEscape (v : Value) (w : World) : (callFunc 186 #[v]).run Tryz.prog w = .ok (.value v) w := by kernel_rfl
theorem progOk0 : ProgOk Tryz.prog same0 known0 where
 mixed := by kernel_rfl
 name := fun f fn h => by
  have hm : fn ∈ Tryz.prog.funcs.toList := by
   rw [← Array.getElem?_toList] at h
   exact List.mem_of_getElem? h
  have := List.all_eq_true.mp names0 fn hm
  simpa using this
 same := fun f v w h => by
  obtain rfl : f = 186 := Nat.eq_of_beq_eq_true h
  exact noEscape v w
 known := fun _ _ _ h => by cases h
end Go.Proofs.YtnaglmigkbbljaaGreatDoor
/-
  What nothing older has changed, rows of the call's own, cells: small words for all that follows.
-/
namespace Go.Proofs.YtnaglmigkbbljaaGreatDoor
open Go Go.RowKit
theorem below_grown {B : Nat} {w wr w1 : World} {o : Obj} {e : TypeId} {sz n : Nat} {v : Value} {xs : List Value} (hbl : Below B w wr) (hB : B ≤ wr.heap.size) (hown : wr.ownsRow B e sz v n xs) (hg : (wr.alloc o).grownBy w1 v.ownBlock) : Below B w w1 := by
 have h1 : Below B w (wr.alloc o) := hbl.alloc hB o
 refine ⟨hg.os.trans h1.os, hg.tape.trans h1.tape, hg.output.trans h1.output, Nat.le_trans h1.size hg.size, fun i hi => ?_⟩
 refine (hg.block i (by have := World.size_alloc wr o; omega) fun e => ?_).trans (h1.block i hi)
 rcases hown.2 with ⟨rfl, _⟩ | ⟨g, cap, cur, rfl, hbg, _⟩
 ·cases e
 ·simp [Value.ownBlock] at e; omega
theorem own_below {w W : World} {base e sz n : Nat} {v : Value} {xs : List Value} (h : w.ownsRow base e sz v n xs) (hb : Below w.heap.size w W) : W.ownsRow base e sz v n xs := by
 refine ⟨h.1, ?_⟩
 rcases h.2 with h0 | ⟨g, cap, cur, rfl, hg, hc, hr⟩
 ·exact .inl h0
 ·exact .inr ⟨g, cap, cur, rfl, hg, (hb.block g (Array.getElem?_eq_some_iff.mp hc).1).trans hc, hr⟩
theorem cellOf {W : World} {b j : Nat} {cs : Array Value} {t : TypeId} {fr : Nat × Nat} {v : Value} (h : W.heap[b]? = some (.cells cs t fr)) (hj : cs[j]? = some v) : W.cell? ⟨b, j, none⟩ = some v := by
 unfold World.cell?
 rw [h]
 exact hj
theorem frozenOf {W : World} {b j : Nat} {cs : Array Value} {t : TypeId} (h : W.heap[b]? = some (.cells cs t (0, 0))) : W.frozen? ⟨b, j, none⟩ = false := by
 unfold World.frozen?
 rw [h]
 simp
theorem below_set {B : Nat} {a w : World} (h : Below B a w) {p : Addr} (hp : B ≤ p.block) (u : Value) : Below B a (w.setCell p u) :=
 ⟨h.os, h.tape, h.output, by simpa [World.setCell] using h.size, fun i hi => (Below.heap_setCell w p u i (by rintro rfl; omega)).trans (h.block i hi)⟩
theorem own_set {w : World} {base e sz n : Nat} {v : Value} {xs : List Value} (h : w.ownsRow base e sz v n xs) {p : Addr} (hp : p.block < base) (u : Value) : (w.setCell p u).ownsRow base e sz v n xs := by
 refine ⟨h.1, ?_⟩
 rcases h.2 with h0 | ⟨g, cap, cur, h1, h2, h3, h4⟩
 ·exact .inl h0
 ·exact .inr ⟨g, cap, cur, h1, h2, (Below.heap_setCell w p u g (by omega)).trans h3, h4⟩
theorem below_drew (W : World) : Below W.heap.size W W.drew := ⟨rfl, rfl, rfl, Nat.le_refl _, fun _ _ => rfl⟩
theorem below_drewN {B : Nat} {a w : World} (h : Below B a w) (n : Nat) : Below B a (w.drewN n) := ⟨h.os, h.tape, h.output, h.size, h.block⟩
def IsB (r : Bool) (w : World) (e : Ending) (w' : World) : Prop := e = .returned (.bool r) ∧ Below w.heap.size w w'
def inV (l : List Nat) : List Value := l.map fun (i : Nat) => Value.int .i64 (i : Int)
theorem inV_snoc (l : List Nat) (k : Nat) : inV l ++ [.int .i64 (k : Int)] = inV (l ++ [k]) := by simp [inV]
def IntL (W : World) (p : Option Addr) (l : List Nat) : Prop := l = [] ∨ ∃ b off, p = some ⟨b, off, none⟩ ∧ b < W.heap.size ∧ ∀ i (h : i < l.length), W.cell? ⟨b, off + i, none⟩ = some (.int .i64 (l[i] : Nat))
theorem IntL.below {W W' : World} {p : Option Addr} {l : List Nat} (h : IntL W p l) (hb : Below W.heap.size W W') : IntL W' p l := by
 rcases h with h | ⟨b, off, h1, h2, h3⟩
 ·exact .inl h
 ·exact .inr ⟨b, off, h1, Nat.lt_of_lt_of_le h2 hb.size, fun i hi => (hb.cell (p := ⟨b, off + i, none⟩) h2).trans (h3 i hi)⟩
theorem intL_of_own {w : World} {base n : Nat} {v : Value} {l : List Nat} (h : w.ownsRow base 3 1 v n (inV l)) : ∃ p cap, v = .slice p l.length cap ∧ IntL w p l ∧ n = l.length := by
 have hl : l.length = n := by have := h.1; simp [inV] at this; omega
 subst hl
 rcases h.2 with ⟨rfl, h0⟩ | ⟨g, cap, cur, rfl, _, hc, hcap, _, hsz, hx⟩
 ·have : l = [] := List.eq_nil_of_length_eq_zero h0
  subst this
  exact ⟨none, 0, rfl, .inl rfl, rfl⟩
 ·have hg : g < w.heap.size := (Array.getElem?_eq_some_iff.mp hc).1
  refine ⟨_, cap, rfl, .inr ⟨g, 0, rfl, hg, fun i hi => ?_⟩, rfl⟩
  have hj2 : (cur.toList.take (l.length * 1))[i]? = some (.int .i64 ((l[i] : Nat) : Int)) := by rw [hx]; simp [inV, hi]
  rw [List.getElem?_take] at hj2
  split at hj2
  ·simp [World.cell?, hc]
   simpa using hj2
  ·cases hj2
theorem Tryz.info3 : (Tryz.prog.info? 3).map (fun i => (i.zero, i.size, i.bytes)) = some (some (.int .i64 0), 1, 8) := by kernel_rfl
end Go.Proofs.YtnaglmigkbbljaaGreatDoor
