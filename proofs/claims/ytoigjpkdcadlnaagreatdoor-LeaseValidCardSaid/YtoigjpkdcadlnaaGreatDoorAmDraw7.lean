/-
  Regions that draw their order.
-/
import Derived.Test.YtoigjpkdcadlnaaGreatDoorAmDraw6
namespace Go.AM
open Go Go.RowKit Go.Lib

section
variable {E : Env} {base : Nat} {ops : Array Oper} {F : Nat → Fr} {S Y : Nat → St} {μ0 : Mp} {w0 : World} {l : Array Bool} {μ μ' : Mp} {f f' : Fr} {t t' : T Row} {a : Act} {w w' : World} {s s' : St} {ρ : Operand → Option AV} {o : Oper}

/-- the row of a load or a store -/
theorem DI.row (hT : Txt E base ops F S Y) (h0 : Inv base μ0 (S 0) w0) (h : DI base ops F S μ0 w0 (In l) μ f t a w) {i : Nat} (ho : ops[i]? = some o) (hi : i ∈ Region.ready .any ops l) (hc : Closed ops l) (hw : wantO (F i) ops o = true)
    (hk : kindOf ops i = 2 ∨ kindOf ops i = 3) {c g off : Nat} (hr : rowAt (Go.AM.ev (F i) (S i).gl) o.op = some c) {x : Operand} (hx : x ∈ o.op.operands) (hv : Go.AM.ev (F i) (S i).gl x = some (.ptr ⟨c, g, off⟩)) :
    (∃ x, μ c g = some x) ∧ c < (S i).nx ∧ Good ops S (In l) i c ∧ t.get c = (S i).hp.get c := by
  have his : i < ops.size := (Array.getElem?_eq_some_iff.1 ho).1
  have hin := h.inv hT h0
  have hgl := hT.gl_eq (k := i) (by omega)
  obtain ⟨μ1, w1, a1, hin1, htm1⟩ := hT.chain i (by omega)
  have hpu : isPure o.op = false := by
    rcases hk with hk | hk
    · exact not_pure_load ((kind_spec ho).2.2.1 hk)
    · exact not_pure_store ((kind_spec ho).2.2.2.1 hk)
  obtain ⟨_, ⟨_, _, hm1, _⟩, _⟩ := ev_sound hin1 htm1 x _ hv
  have hev := h.ev hT ho hi hc (S 0).gl x hx
  rw [hgl, ← hev] at hv
  obtain ⟨_, ⟨blk, n, hm, _⟩, _⟩ := ev_sound hin h.tm x _ hv
  have hlt : c < (S i).nx := hin1.dom _ _ _ hm1
  have hrow : rowOf ops F S i = some c := by
    unfold rowOf
    simp only [ho, hw]
    exact hr
  have hg : Good ops S (In l) i c := h.good hT ho hi hc hpu (.inr (.inl ⟨⟨g, _, hm⟩, hlt, .inr ⟨hk, hrow⟩⟩))
  exact ⟨⟨_, hm⟩, hlt, hg, h.cons c g _ hm i (by omega) hg hlt⟩

theorem DI.step (hT : Txt E base ops F S Y) (h0 : Inv base μ0 (S 0) w0) (h : DI base ops F S μ0 w0 (In l) μ f t a w) {i : Nat} (hi : i ∈ Region.ready .any ops l) (hc : Closed ops l)
    {Q : Exit → Act → World → Prop} {K : Act → World → Prop} (hK : ∀ μ' f' t' a' w', DI base ops F S μ0 w0 (In' l i) μ' f' t' a' w' → K a' w') : wpOp E.P ops Q i K a w := by
  obtain ⟨_, o, ho, _⟩ := mem_ready.1 hi
  have his : i < ops.size := (Array.getElem?_eq_some_iff.1 ho).1
  obtain ⟨o', ho', hs⟩ := hT.tr.step i (Nat.zero_le _) his
  rw [ho] at ho'
  injection ho' with ho'
  subst ho'
  have hin := h.inv hT h0
  have hinN := sD_low hin
  have hgl := hT.gl_eq (k := i) (by omega)
  have hnot := ready_not hi
  have n1 := hT.nx_le (i := 0) (k := i) (by omega) (by omega)
  have n2 := (hT.tf his).nx
  have n3 := hT.nx_le (i := i + 1) (k := ops.size) (by omega) (by omega)
  have n4 := hT.low_nx
  have hput : ∀ v, put (F i) o.dst v = some (F (i + 1)) → ∃ f', put f o.dst v = some f' := fun v hp =>
    put_of f v fun d hd => by rw [h.nt, ← hT.nt_eq (k := i) (by omega)]; exact (put_get hp).2.1 d hd
  have hev : ∀ s : St, s.gl = (S 0).gl → ∀ s2, opO E (Go.AM.ev f s.gl) s2 o.op = opO E (Go.AM.ev (F i) (S i).gl) s2 o.op := fun s hs s2 => by
    rw [hs, hgl]
    exact op_congr o.op (h.ev hT ho hi hc _)
  have hdomD : ∀ b g x, μ b g = some x → b < (S 0).nx ∨ ∃ j, In' l i j ∧ j < ops.size ∧ (S j).nx ≤ b ∧ b < (S (j + 1)).nx := fun b g x hm => by
    rcases h.dom b g x hm with h1 | ⟨j, h1, h2⟩
    · exact .inl h1
    · exact .inr ⟨j, .inl h1, h2⟩
  unfold wpOp
  simp only [ho]
  rw [← want_sound h.tm, h.want hT ho hi hc]
  cases hw : wantO (F i) ops o with
  | false =>
    rw [if_neg (by simp)]
    obtain ⟨v, hpF, ⟨h1, _⟩ | ⟨_, rfl, _⟩⟩ := one_inv hs.one
    · rw [hw] at h1; cases h1
    · obtain ⟨f', hpf⟩ := hput und hpF
      exact hK _ _ _ _ _ (h.skip hT h0 ho hi hc hpF hpf (hT.skip hs hw) (Stp.refl hin) (fun _ _ _ h => h) VR.und)
  | true =>
    rw [if_pos rfl]
    refine .inl ?_
    obtain ⟨v, hpF, hop⟩ := hT.op hs hw
    obtain ⟨f', hpf⟩ := hput v hpF
    cases hpu : isPure o.op with
    | true =>
      obtain ⟨h1, h2⟩ := pure_simple hpu hop
      have hS : S (i + 1) = S i := by
        rw [hs.next, h1]
        unfold preOf
        split <;> rfl
      refine op_sound hT.env hinN (ev_sound hinN h.tm) ((hev (sD ops S t) rfl _).trans (h2 { sD ops S t with low := (sD ops S t).nx })) K Q fun v' w' μ' hv hst => ?_
      obtain ⟨q1, q2⟩ := quiet_step hT hst
      exact hK _ _ _ _ _ (h.skip hT h0 ho hi hc hpF hpf hS q1 q2 hv)
    | false =>
      obtain ⟨_, _, k2, k3, k5⟩ := kind_spec ho
      rcases hs.kd with hk | hk | hk | hk | hk
      · exact h.whole hT h0 ho hi hc hs hpu (.inl hk) hpF hpf hop hK
      · exact h.whole hT h0 ho hi hc hs hpu (.inr hk) hpF hpf hop hK
      · -- a load
        have hpre : preOf (kindOf ops) S i = S i := by simp [preOf, hk]
        have hnx : S (i + 1) = Y i := by rw [hs.next]; simp [hk]
        rw [hpre] at hop
        obtain ⟨h1, c, g, hr, ⟨x, off, hx, hxv⟩, h2⟩ := load_simple (k2 hk) hop
        obtain ⟨_, _, _, hrow⟩ := h.row hT h0 ho hi hc hw (.inl hk) hr hx hxv
        refine op_sound hT.env hinN (ev_sound hinN h.tm) ((hev (sD ops S t) rfl _).trans (h2 { sD ops S t with low := (sD ops S t).nx } hrow)) K Q fun v' w' μ' hv hst => ?_
        obtain ⟨q1, q2⟩ := quiet_step hT hst
        exact hK _ _ _ _ _ (h.skip hT h0 ho hi hc hpF hpf (hnx.trans h1) q1 q2 hv)
      · -- a store
        have hpre : preOf (kindOf ops) S i = S i := by simp [preOf, hk]
        have hnx : S (i + 1) = Y i := by rw [hs.next]; simp [hk]
        rw [hpre] at hop
        obtain ⟨rfl, c, g, hr, ⟨x, off, hx, hxv⟩, h2⟩ := store_simple (k3 hk) hop
        obtain ⟨⟨xm, hm⟩, hlt, hgood, hrow⟩ := h.row hT h0 ho hi hc hw (.inr hk) hr hx hxv
        rcases h2 with ⟨h1, h2⟩ | ⟨r, h1, h2⟩
        · refine op_sound hT.env hinN (ev_sound hinN h.tm) ((hev (sD ops S t) rfl _).trans (h2 { sD ops S t with low := (sD ops S t).nx })) K Q fun v' w' μ' hv hst => ?_
          obtain ⟨q1, q2⟩ := quiet_step hT hst
          exact hK _ _ _ _ _ (h.skip hT h0 ho hi hc hpF hpf (hnx.trans h1) q1 q2 hv)
        · have hSi := hnx.trans h1
          have hlow : (S ops.size).low ≤ c := by
            have h3 := hT.low_le (i := i + 1) (k := ops.size) (by omega) (Nat.le_refl _)
            rw [hSi] at h3
            exact Nat.le_trans h3 (Nat.min_le_right _ _)
          have heq : ({ sD ops S t with hp := T.set r (sD ops S t).hp c, low := Nat.min (sD ops S t).low c } : St) = sD ops S (T.set r t c) := by
            have : Nat.min (S ops.size).low c = (S ops.size).low := Nat.min_eq_left hlow
            unfold sD
            simp only [this]
          have hop2 := h2 (sD ops S t) hrow
          rw [heq, ← hev (sD ops S t) rfl] at hop2
          obtain ⟨w', hrun, hst⟩ := store_run hin (ev_sound hin h.tm) (k3 hk) hop2
          unfold Oper.wp
          rw [hrun]
          have hchg : ∀ b, Chg ops S i b → b = c := fun b hb => by
            rcases hT.chg ho hb with ⟨_, hq | ⟨_, _, hq | hq⟩ | ⟨_, hq, _⟩⟩
            · rw [hk] at hq; cases hq
            · rw [hk] at hq; cases hq
            · rw [hk] at hq; cases hq
            · unfold rowOf at hq
              simp only [ho, hw, hr] at hq
              injection hq with hq
              exact hq.symm
          refine hK _ _ _ _ _ (h.next hT h0 ho hi hc hpF hpf hst VR.und (fun b g' x' hm' => ?_) (fun b g x hm => hdomD b g x hm) fun _ b hb => ⟨g, xm, by rw [hchg b hb]; exact hm⟩)
          by_cases hb : b = c
          · subst hb
            refine .inl ⟨hgood, by omega, ?_⟩
            rw [hSi]
            show (T.set r t b).get b = (T.set r (S i).hp b).get b
            rw [T.get_set_same, T.get_set_same]
          · refine .inr ⟨⟨g', x', hm'⟩, fun hq => hb (hchg b hq), ?_⟩
            rw [T.get_set_ne _ _ hb]
      · -- new memory
        have hpre : preOf (kindOf ops) S i = S i := by simp [preOf, hk]
        have hnx : S (i + 1) = Y i := by rw [hs.next]; simp [hk]
        rw [hpre] at hop
        obtain ⟨r, mk, hmk, hex, rfl, h1, h2⟩ := alloc_simple (k5 hk) hop
        have hSi := hnx.trans h1
        have hnx1 : (S (i + 1)).nx = (S i).nx + 1 := by rw [hSi]
        obtain ⟨μ1, w1, a1, hin1, htm1⟩ := hT.chain i (by omega)
        obtain ⟨μ2, w2, v2, hst2, hv2⟩ := op_step hT.env hin1 (ev_sound hin1 htm1) hop
        have hcells : ∃ vs, LR (CR μ2) r.cells vs := by
          have : ∃ x, μ2 (S i).nx 0 = some x := by
            rcases hmk with rfl | ⟨q, e, rfl⟩
            · obtain ⟨_, ⟨_, _, hq, _⟩, _⟩ := hv2; exact ⟨_, hq⟩
            · obtain ⟨_, _, _, hq, _⟩ := hv2; exact ⟨_, hq⟩
          obtain ⟨⟨blk, n⟩, hq⟩ := this
          obtain ⟨r', g1, g2⟩ := hst2.rel.row _ _ _ _ hq
          rw [h1] at g1
          have g1 : (T.set r (S i).hp (S i).nx).get (S i).nx = some r' := g1
          rw [T.get_set_same] at g1
          injection g1 with g1
          subst g1
          obtain ⟨cs, fz, _, _, g3, _⟩ := g2.at_
          have := (g3 _ hex).2.2
          rw [List.take_length] at this
          exact ⟨_, this⟩
        obtain ⟨vs, hcells⟩ := hcells
        have hsmall : Small μ2 (sD ops S t).nx := fun b g x hm => by
          have := hst2.dom b g x hm
          rw [← hnx] at this
          show b < (S ops.size).nx
          omega
        have hop2 := h2 { sD ops S t with low := (sD ops S t).nx }
        rw [← hev (sD ops S t) rfl] at hop2
        refine op_sound hT.env hinN (ev_sound hinN h.tm) hop2 K Q fun v' w' μ3 hv hst => ?_
        have hfree : ∀ g, μ (S i).nx g = none := fun g => by
          cases hm : μ (S i).nx g with
          | none => rfl
          | some x =>
            exfalso
            rcases h.dom _ g x hm with hb | ⟨j, hj, hjs, c1, c2⟩
            · omega
            · have := hT.new_one hjs his c1 c2 (Nat.le_refl _) (by omega)
              subst this; exact hnot hj
        obtain ⟨μn, q1, q2, hst'⟩ := Stp.rename (s := sD ops S t) (low := (sD ops S t).low) hin hst (m := (S i).nx) (by show _ < (S ops.size).nx; omega) hfree (by show (S ops.size).low ≤ _; omega) hsmall hcells
        have hv' : VR μn (mk ⟨(S i).nx, 0, 0⟩) v' := by
          rcases hmk with rfl | ⟨q, e, rfl⟩
          · obtain ⟨c, ⟨blk, n, hq, hc⟩, hv⟩ := hv
            exact ⟨c, ⟨blk, n, (q1 0).trans hq, hc⟩, hv⟩
          · obtain ⟨blk, m, cap, hq, hv⟩ := hv
            exact ⟨blk, m, cap, (q1 0).trans hq, hv⟩
        refine hK _ _ (T.set r t (S i).nx) _ _ (h.next hT h0 ho hi hc hpF hpf hst' hv' (fun b g x hm => ?_) (fun b g x hm => ?_) fun hk3 => by rw [hk] at hk3; cases hk3)
        · by_cases hb : b = (S i).nx
          · subst hb
            refine .inl ⟨h.good hT ho hi hc hpu (.inr (.inr ⟨Nat.le_refl _, by omega, .inr hk⟩)), by omega, ?_⟩
            rw [hSi]
            show (T.set r t (S i).nx).get (S i).nx = (T.set r (S i).hp (S i).nx).get (S i).nx
            rw [T.get_set_same, T.get_set_same]
          · refine .inr ⟨⟨g, x, q2 b g x hb hm⟩, ?_, T.get_set_ne _ _ hb⟩
            rintro ⟨_, ⟨c1, c2⟩ | ⟨c1, c2⟩⟩
            · omega
            · apply c2
              rw [hSi]
              exact T.get_set_ne _ _ hb
        · by_cases hb : b = (S i).nx
          · exact .inr ⟨i, .inr rfl, his, by omega, by omega⟩
          · exact hdomD b g x (q2 b g x hb hm)

theorem DI.congr {D D' : Nat → Prop} (hd : ∀ j, D j ↔ D' j) (h : DI base ops F S μ0 w0 D μ f t a w) : DI base ops F S μ0 w0 D' μ f t a w := by
  have : D = D' := funext fun j => propext (hd j)
  rw [← this]
  exact h

def leftOf (ops : Array Oper) (l : Array Bool) : Nat := (List.range ops.size).countP fun j => !l.getD j true

theorem countP_lt {p q : Nat → Bool} : ∀ {xs : List Nat} {i : Nat}, (∀ x, q x = true → p x = true) → i ∈ xs → p i = true → q i = false → xs.countP q < xs.countP p
  | [], _, _, h, _, _ => by cases h
  | x :: xs, i, hpq, hi, hp, hq => by
    have hle : xs.countP q ≤ xs.countP p := List.countP_mono_left fun y _ hy => hpq y hy
    rw [List.countP_cons, List.countP_cons]
    rcases List.mem_cons.1 hi with rfl | hi
    · simp only [hp, hq]
      simp
      omega
    · have := countP_lt hpq hi hp hq
      by_cases hx : q x = true
      · simp [hx, hpq x hx]; omega
      · simp [hx]
        omega

theorem any_order (hT : Txt E base ops F S Y) (h0 : Inv base μ0 (S 0) w0) {Q : Exit → Act → World → Prop} (hQ : ∀ μ f t a w, DI base ops F S μ0 w0 (fun j => j < ops.size) μ f t a w → Q .normal a w) :
    ∀ (fuel : Nat) (l : Array Bool), l.size = ops.size → leftOf ops l ≤ fuel → Closed ops l → ∀ μ f t a w, DI base ops F S μ0 w0 (In l) μ f t a w → wpAny E.P .any ops Q fuel l a w := by
  have hend : ∀ l : Array Bool, l.size = ops.size → Region.ready .any ops l = [] → ∀ μ f t a w, DI base ops F S μ0 w0 (In l) μ f t a w → Q .normal a w := by
    intro l hl hr μ f t a w h
    refine hQ μ f t a w (h.congr fun j => ⟨fun hj => ?_, fun hj => all_listed hT.ok hl hr _ j (Nat.lt_succ_self _) hj⟩)
    rcases Nat.lt_or_ge j l.size with hlt | hge
    · omega
    · unfold In at hj
      simp [Array.getElem?_eq_none hge] at hj
  intro fuel
  induction fuel with
  | zero =>
    intro l hl hn hc μ f t a w h
    have hr : Region.ready .any ops l = [] := by
      cases hr : Region.ready .any ops l with
      | nil => rfl
      | cons i r =>
        have hi : i ∈ Region.ready .any ops l := by rw [hr]; simp
        obtain ⟨h1, o, ho, _⟩ := mem_ready.1 hi
        have his : i < ops.size := (Array.getElem?_eq_some_iff.1 ho).1
        have : 0 < leftOf ops l := List.countP_pos_iff.2 ⟨i, List.mem_range.2 his, by rw [h1]; rfl⟩
        omega
    exact ⟨hr, hend l hl hr μ f t a w h⟩
  | succ fuel ih =>
    intro l hl hn hc μ f t a w h
    refine ⟨fun hr => hend l hl hr μ f t a w h, fun i hi => ?_⟩
    obtain ⟨h1, o, ho, _⟩ := mem_ready.1 hi
    have his : i < ops.size := (Array.getElem?_eq_some_iff.1 ho).1
    refine h.step hT h0 hi hc fun μ' f' t' a' w' h' => ?_
    refine ih _ (by simpa using hl) ?_ (closed_set hc hi (by omega)) μ' f' t' a' w' (h'.congr fun j => (in_set (by omega)).symm)
    have : leftOf ops (l.setIfInBounds i true) < leftOf ops l := countP_lt (i := i) (fun j hj => by
        by_cases hji : i = j
        · subst hji
          have : i < l.size := by omega
          simp [this] at hj
        · rw [getD_set_ne true hji] at hj; exact hj) (List.mem_range.2 his) (by rw [h1]; rfl) (by
        have : i < l.size := by omega
        simp [this])
    omega
end

theorem draw_ok : DrawOk := by
  intro E base ops id f f' s s' hE hm hok h μ w a hi ht hd Q hq
  obtain ⟨F, S, Y, e1, e2, e3, e4, htr⟩ := draw_trace ops.toList 0 [] [] f f' s s' rfl h
  have hlen : 0 + ops.toList.length = ops.size := by simp
  rw [hlen] at e3 e4 htr
  have hT : Txt E base ops F S Y := ⟨hE, hok, htr, μ, w, a, by rw [e2]; exact hi, by rw [e1]; exact ht⟩
  let w0 : World := { w with drawn := w.drawn + 1 }
  have h0 : Inv base μ (S 0) w0 := by
    rw [e2]
    exact ⟨hi.rel.heap rfl, hi.dom, hi.low, hi.size, hi.glob, hi.wf⟩
  have n1 := hT.nx_le (i := 0) (Nat.zero_le _) (Nat.le_refl _)
  have n2 := hT.low_le (i := 0) (Nat.zero_le _) (Nat.le_refl _)
  have n3 := hT.low_nx
  have hnone : ∀ j, ¬ In (Array.replicate ops.size false) j := fun j hj => by
    unfold In at hj
    simp [Array.getElem?_replicate] at hj
    split at hj <;> simp at hj
  have h1 : Inv base μ { S 0 with nx := (S ops.size).nx } w0 := ⟨h0.rel, fun b g x hm => Nat.lt_of_lt_of_le (h0.dom b g x hm) n1, Nat.le_trans h0.low n1, h0.size, h0.glob, h0.wf.mono n1⟩
  refine wp_region_any hm (any_order hT h0 (fun μ' fD t a' w' hD => ?_) ops.size _ (by simp) ?_ (fun j o hj => absurd hj (hnone j)) μ f s.hp a w0 ?_)
  · -- all done
    refine hq μ' w' a' ?_ ?_ hD.defers
    · have hst := hD.stp
      have hrow : ∀ b g x, μ' b g = some x → t.get b = s'.hp.get b := fun b g x hm => by
        rw [← e4]
        exact hD.cons b g x hm ops.size (Nat.le_refl _) (fun j hj => Iff.rfl) (hst.dom b g x hm)
      have hnx : s.nx = (S 0).nx := by rw [e2]
      refine ⟨hst.ext, ⟨fun b g blk n hm => ?_, fun b g blk n b' g' n' r hm hm' hg ho => ?_⟩, fun b g x hm => ?_, fun b g blk n hm => ?_, ?_, ?_, ?_, ?_, fun blk hb => ?_, hst.size, hst.os, hst.tape, hst.output, ?_⟩
      · obtain ⟨r, g1, g2⟩ := hst.rel.row b g blk n hm
        exact ⟨r, (hrow b g _ hm).symm.trans g1, g2⟩
      · exact hst.rel.sep _ _ _ _ _ _ _ _ hm hm' ((hrow b g _ hm).trans hg) ho
      · have := hst.dom b g x hm
        rw [← e4]; exact this
      · rcases hst.new b g blk n hm with h2 | ⟨h2, h3⟩ | ⟨h2, h3, h4⟩
        · exact .inl h2
        · have h2 : (S ops.size).nx ≤ b := h2
          exact .inr (.inl ⟨by omega, h3⟩)
        · have h2 : (S ops.size).low ≤ b := h2
          rw [← e4]
          rcases Nat.lt_or_ge b s.nx with hb | hb
          · exact .inr (.inr ⟨h2, hb, h4⟩)
          · refine .inr (.inl ⟨hb, ?_⟩)
            rcases h4 with h4 | ⟨g0, h4⟩
            · exact h4
            · have := hi.dom _ _ _ h4; omega
      · rw [← e4, hnx]; exact n1
      · rw [← e4, ← e2]; exact hT.gl_eq (Nat.le_refl _)
      · rw [← e4, ← e2]; exact n2
      · intro b _ hb
        rw [← e4] at hb ⊢
        rw [← e2]
        exact hT.same_low hb (Nat.le_refl _)
      · rcases hst.fr blk hb with h2 | ⟨b, g, n, h2, h3, h4⟩
        · exact .inl h2
        · rw [← e4]
          exact .inr ⟨b, g, n, h2, h3, h4⟩
      · obtain ⟨_, _, _, hin1, _⟩ := hT.chain ops.size (Nat.le_refl _)
        rw [← e4]
        exact hin1.wf
    · refine ⟨?_, fun d => ?_⟩
      · rw [hD.tm.size, hD.nt, ← hT.nt_eq (Nat.le_refl ops.size), e3]
      · have := hD.tm.tmp d
        rw [hD.tcons d ops.size (Nat.le_refl _) (fun j o hj _ => Iff.rfl), e3] at this
        exact this
  · unfold leftOf
    exact Nat.le_trans List.countP_le_length (by simp)
  · have hsd : sD ops S s.hp = { { S 0 with nx := (S ops.size).nx } with low := (S ops.size).low } := by
      unfold sD
      rw [← e2]
    refine ⟨?_, by rw [← e1] at ht ⊢; exact ht, by rw [e1], fun b g x hm k hk hp hb => ?_, fun d k hk hp => ?_, fun b g x hm => .inl (h0.dom b g x hm), fun j hj => absurd hj (hnone j), hd⟩
    · rw [hsd]
      exact (Stp.refl h1).lower n2
    · have hbx : b < (S 0).nx := h0.dom b g x hm
      rw [hT.stay hbx (Nat.zero_le k) hk fun j _ hj hch => hnone j ((hp j hch).1 hj), e2]
    · rw [hT.tstay (i := 0) (Nat.zero_le k) hk fun j o _ hj hoj hjd => hnone j ((hp j o hoj hjd).1 hj), e1]
end Go.AM
