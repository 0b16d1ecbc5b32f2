/-
  For regions that draw their order: operations that touch little, and values that name few rows.
-/
import Derived.Test.YtoigjpkdcadlnaaGreatDoorAmRun
namespace Go.AM
open Go Go.RowKit Go.Lib

section
variable {base : Nat} {μ μ1 : Mp} {s s' : St} {E : Env} {ρ ρ' : Operand → Option AV}

/-! an operation looks at its operands alone -/
theorem evs_congr : ∀ {xs : List Operand}, (∀ x ∈ xs, ρ x = ρ' x) → evs ρ xs = evs ρ' xs
  | [], _ => rfl
  | x :: xs, h => by
    simp only [evs]
    rw [h x (by simp), evs_congr fun y hy => h y (by simp [hy])]
theorem evParts_congr : ∀ {xs : List (Nat × Operand)}, (∀ x ∈ xs, ρ x.2 = ρ' x.2) → evParts ρ xs = evParts ρ' xs
  | [], _ => rfl
  | (i, x) :: xs, h => by
    simp only [evParts]
    rw [h (i, x) (by simp), evParts_congr fun y hy => h y (by simp [hy])]
theorem evO_congr {x : Option Operand} (h : ∀ y, x = some y → ρ y = ρ' y) : evO ρ x = evO ρ' x := by
  cases x with
  | none => rfl
  | some y => simp only [evO]; rw [h y rfl]

theorem op_congr (op : Op) (h : ∀ x ∈ op.operands, ρ x = ρ' x) : opO E ρ s op = opO E ρ' s op := by
  cases op <;> simp only [opO]
  case build t ps =>
    rw [evParts_congr fun x hx => h x.2 (by simp [Op.operands]; exact ⟨x.1, by simpa using hx⟩)]
  case buildSlice t n ps =>
    rw [evParts_congr fun x hx => h x.2 (by simp [Op.operands]; exact ⟨x.1, by simpa using hx⟩)]
  case makeFunc fn first cap =>
    cases fn <;> simp only
    rw [evs_congr fun x hx => h x (by simp [Op.operands]; exact .inr (by simpa using hx))]
  case slice t x lo hi mx =>
    cases mx <;> simp only
    rw [h x (by simp [Op.operands]), evO_congr (x := lo) fun y hy => h y (by simp [Op.operands, hy]), evO_congr (x := hi) fun y hy => h y (by simp [Op.operands, hy])]
  case call c =>
    rw [evs_congr fun x hx => h x (by simp [Op.operands, Call.operands]; exact .inr (by simpa using hx))]
    cases hc : c.callee <;> simp only
    rename_i f
    rw [h f (by simp [Op.operands, Call.operands, hc])]
  case pick c x y => rw [h c (by simp [Op.operands]), h x (by simp [Op.operands]), h y (by simp [Op.operands])]
  case store t x y => rw [h x (by simp [Op.operands]), h y (by simp [Op.operands])]
  case binOp op t x y yt => rw [h x (by simp [Op.operands]), h y (by simp [Op.operands])]
  case makeSlice t x y => rw [h x (by simp [Op.operands]), h y (by simp [Op.operands])]
  case indexAddr t x y => rw [h x (by simp [Op.operands]), h y (by simp [Op.operands])]
  case index t x y => rw [h x (by simp [Op.operands]), h y (by simp [Op.operands])]
  all_goals first
    | rfl
    | (rename_i x; rw [h x (by simp [Op.operands])])
    | (rename_i x y; rw [h x (by simp [Op.operands])])
    | (rename_i x y; rw [h y (by simp [Op.operands])])
    | (rename_i x y z; rw [h x (by simp [Op.operands])])
    | (rename_i x y z; rw [h y (by simp [Op.operands])])
    | (rename_i x y z; rw [h z (by simp [Op.operands])])

/-! values that were known when fewer rows were there -/
def Mp.lt (μ : Mp) (N : Nat) : Mp := fun b g => if b < N then μ b g else none

theorem Mp.lt_some {N b g : Nat} {x : Nat × Nat} : μ.lt N b g = some x ↔ b < N ∧ μ b g = some x := by
  unfold Mp.lt
  by_cases h : b < N <;> simp [h]

theorem Mp.lt_ext (μ : Mp) (N : Nat) : Ext (μ.lt N) μ := fun _ _ _ h => (Mp.lt_some.1 h).2

def Small (μ1 : Mp) (N : Nat) : Prop := ∀ b g x, μ1 b g = some x → b < N

variable {N : Nat}
theorem AR.lt (hs : Small μ1 N) {a : AA} {c c1 : Addr} (h1 : AR μ1 a c1) (h : AR μ a c) : AR (μ.lt N) a c := by
  obtain ⟨_, _, e1, _⟩ := h1
  obtain ⟨blk, n, e2, e3⟩ := h
  exact ⟨blk, n, Mp.lt_some.2 ⟨hs _ _ _ e1, e2⟩, e3⟩
theorem SR.lt (hs : Small μ1 N) {x : AV} {v v1 : Value} (h1 : SR μ1 x v1) (h : SR μ x v) : SR (μ.lt N) x v := by
  cases x <;> first | exact h | skip
  obtain ⟨c1, e1, _⟩ := h1
  obtain ⟨c, e2, e3⟩ := h
  exact ⟨c, AR.lt hs e1 e2, e3⟩
theorem LR.lt {α β γ : Type} {R1 : α → γ → Prop} {R R' : α → β → Prop} (hR : ∀ a c b, R1 a c → R a b → R' a b) : ∀ {as : List α} {cs : List γ} {bs : List β}, LR R1 as cs → LR R as bs → LR R' as bs
  | [], [], [], _, _ => trivial
  | _ :: _, _ :: _, _ :: _, ⟨a1, a2⟩, ⟨b1, b2⟩ => ⟨hR _ _ _ a1 b1, LR.lt hR a2 b2⟩
  | [], [], _ :: _, _, h => h.elim
  | [], _ :: _, _, h, _ => h.elim
  | _ :: _, [], _, h, _ => h.elim
  | _ :: _, _ :: _, [], _, h => h.elim
theorem CR.lt (hs : Small μ1 N) {x : AV} {v v1 : Value} (h1 : CR μ1 x v1) (h : CR μ x v) : CR (μ.lt N) x v := by
  cases x
  case slice a n e =>
    obtain ⟨_, _, _, e1, _⟩ := h1
    obtain ⟨blk, m, cap, e2, e3⟩ := h
    exact ⟨blk, m, cap, Mp.lt_some.2 ⟨hs _ _ _ e1, e2⟩, e3⟩
  case func f caps =>
    obtain ⟨cs1, e1, _⟩ := h1
    obtain ⟨cs, e2, e3⟩ := h
    exact ⟨cs, LR.lt (R1 := AR μ1) (R := AR μ) (R' := AR (μ.lt N)) (fun _ _ _ q1 q2 => AR.lt hs q1 q2) e1 e2, e3⟩
  case iface t y =>
    obtain ⟨_, e1, _⟩ := h1
    obtain ⟨u, e2, e3⟩ := h
    exact ⟨u, SR.lt hs e1 e2, e3⟩
  case ptr a => exact SR.lt (x := .ptr a) hs h1 h
  all_goals exact h
theorem V1.lt (hs : Small μ1 N) {x : AV} {v v1 : Value} (h1 : V1 μ1 x v1) (h : V1 μ x v) : V1 (μ.lt N) x v := by
  cases x
  case agg cs =>
    obtain ⟨_, e1, _⟩ := h1
    obtain ⟨vs, e2, e3⟩ := h
    exact ⟨vs, LR.lt (R1 := CR μ1) (R := CR μ) (R' := CR (μ.lt N)) (fun _ _ _ q1 q2 => CR.lt hs q1 q2) e1 e2, e3⟩
  all_goals (simp only [V1] at h1 h ⊢; exact CR.lt hs h1 h)
theorem VR.lt (hs : Small μ1 N) {x : AV} {v v1 : Value} (h1 : VR μ1 x v1) (h : VR μ x v) : VR (μ.lt N) x v := by
  cases x
  case tuple cs =>
    obtain ⟨_, e1, _⟩ := h1
    obtain ⟨vs, e2, e3⟩ := h
    exact ⟨vs, LR.lt (R1 := V1 μ1) (R := V1 μ) (R' := V1 (μ.lt N)) (fun _ _ _ q1 q2 => V1.lt hs q1 q2) e1 e2, e3⟩
  all_goals (simp only [VR] at h1 h ⊢; exact V1.lt hs h1 h)

theorem SR.ltc {x : AV} (hx : okS N x) {v : Value} (h : SR μ x v) : SR (μ.lt N) x v := by
  cases x <;> first | exact h | skip
  obtain ⟨c, ⟨blk, n, e2, e3⟩, e4⟩ := h
  exact ⟨c, ⟨blk, n, Mp.lt_some.2 ⟨hx, e2⟩, e3⟩, e4⟩
theorem CR.ltc {x : AV} (hx : okC N x) {v : Value} (h : CR μ x v) : CR (μ.lt N) x v := by
  cases x
  case slice a n e =>
    obtain ⟨blk, m, cap, e2, e3⟩ := h
    exact ⟨blk, m, cap, Mp.lt_some.2 ⟨hx, e2⟩, e3⟩
  case func f caps =>
    obtain ⟨cs, e2, e3⟩ := h
    refine ⟨cs, ?_, e3⟩
    exact e2.mono_mem fun q hq c ⟨blk, n, g1, g2⟩ => ⟨blk, n, Mp.lt_some.2 ⟨hx q hq, g1⟩, g2⟩
  case iface t y =>
    obtain ⟨u, e2, e3⟩ := h
    exact ⟨u, SR.ltc (x := y) hx e2, e3⟩
  case ptr a => exact SR.ltc (x := .ptr a) hx h
  all_goals exact h
theorem RowOk.lt {base : Nat} {w : World} {r : Row} (hx : ∀ x ∈ r.cells, okC N x) {g blk n : Nat} (h : RowOk base μ w r g blk n) : RowOk base (μ.lt N) w r g blk n := by
  obtain ⟨h1, h2, ⟨cs, fz, h3, h4, h5, h6⟩, h7, h8, h9⟩ := h
  exact ⟨h1, h2, ⟨cs, fz, h3, h4, fun m hm => ⟨(h5 m hm).1, (h5 m hm).2.1, (h5 m hm).2.2.mono_mem fun x hx' _ => CR.ltc (hx x (List.mem_of_mem_take hx'))⟩, h6⟩, h7, h8, h9⟩

/-- a tree with given contents -/
theorem tree_of {α : Type} (h : Nat → Option α) : ∀ N, ∃ t : T α, (∀ b, b < N → t.get b = h b) ∧ (∀ b, N ≤ b → t.get b = none)
  | 0 => ⟨.nil, fun _ hb => by omega, fun _ _ => rfl⟩
  | N + 1 => by
    obtain ⟨t, h1, h2⟩ := tree_of h N
    cases hN : h N with
    | none =>
      refine ⟨t, fun b hb => ?_, fun b hb => h2 b (by omega)⟩
      by_cases hbN : b = N
      · subst hbN; rw [hN]; exact h2 b (Nat.le_refl _)
      · exact h1 b (by omega)
    | some x =>
      refine ⟨T.set x t N, fun b hb => ?_, fun b hb => ?_⟩
      · rw [T.get_set]
        by_cases hbN : b = N
        · subst hbN; rw [if_pos rfl, hN]
        · rw [if_neg hbN]; exact h1 b (by omega)
      · rw [T.get_set, if_neg (by omega)]; exact h2 b (by omega)

/-! what little an operation touches -/
theorem pair_map (s : St) (x : Option AV) : (pairO s x).map Prod.fst = x := by cases x <;> rfl

theorem builtin_pure {P : Program} {ts : Array TypeId} {b : Builtin} (hb : b = .len ∨ b = .min ∨ b = .max) (vs : List AV) (s s2 : St) :
    builtinO P s2 b ts vs = pairO s2 ((builtinO P s b ts vs).map Prod.fst) := by
  rcases hb with rfl | rfl | rfl
  · match vs with
    | [] => rfl
    | _ :: _ :: _ => rfl
    | [x] =>
      simp only [builtinO]
      cases ts[0]? with
      | none => rfl
      | some t =>
        simp only
        cases P.underlying t with
        | none => rfl
        | some u =>
          cases u <;> try rfl
          case pointer arr =>
            simp only
            cases P.underlying arr with
            | none => rfl
            | some u => cases u <;> rfl
          case slice e =>
            simp only
            cases x <;> rfl
          case string =>
            simp only
            cases x <;> rfl
  · match vs with
    | [] => rfl
    | x :: r =>
      simp only [builtinO]
      cases foldMin x r <;> rfl
  · match vs with
    | [] => rfl
    | x :: r =>
      simp only [builtinO]
      cases foldMax x r <;> rfl

theorem pure_eq {op : Op} (hp : isPure op = true) (s s2 : St) : opO E ρ s2 op = pairO s2 ((opO E ρ s op).map Prod.fst) := by
  cases op <;> first | (exfalso; revert hp; simp [isPure]; done) | skip
  case move x => simp only [opO, pair_map]
  case assign x => simp only [opO, pair_map]
  case pick c x y =>
    simp only [opO]
    cases ρ c with
    | none => rfl
    | some u =>
      cases u <;> try rfl
      rename_i b
      cases b <;> simp only [pair_map]
  case build t' ps =>
    simp only [opO]
    cases evParts ρ ps.toList <;> simp only [pair_map] <;> rfl
  case nilCheck x =>
    simp only [opO]
    cases ρ x with
    | none => rfl
    | some u => cases u <;> rfl
  case binOp op t' x y yt =>
    simp only [opO]
    cases ρ x <;> cases ρ y <;> simp only [pair_map] <;> rfl
  case unOp op t' x =>
    simp only [opO]
    cases ρ x <;> simp only [pair_map] <;> rfl
  case makeInterface t' x =>
    simp only [opO]
    cases ρ x with
    | none => rfl
    | some u =>
      cases E.P.underlying t' with
      | none => rfl
      | some d =>
        simp only
        cases d <;> cases scalar u <;> rfl
  case makeFunc fn first cap =>
    cases fn <;> try rfl
    simp only [opO]
    cases first.size with
    | succ n => cases evs ρ cap.toList <;> rfl
    | zero =>
      cases evs ρ cap.toList with
      | none => rfl
      | some vs =>
        simp only
        cases addrs vs <;> rfl
  case slice t' x lo hi mx =>
    cases mx <;> try rfl
    simp only [opO]
    cases ρ x with
    | none => rfl
    | some u =>
      cases evO ρ lo with
      | none => rfl
      | some l => cases evO ρ hi <;> simp only [pair_map] <;> rfl
  case fieldAddr t' x f =>
    simp only [opO]
    cases ρ x <;> simp only [pair_map] <;> rfl
  case field t' x f =>
    simp only [opO]
    cases ρ x <;> simp only [pair_map] <;> rfl
  case indexAddr t' x y =>
    simp only [opO]
    cases ρ x <;> cases ρ y <;> simp only [pair_map] <;> rfl
  case index t' x y =>
    simp only [opO]
    cases ρ x <;> cases ρ y <;> simp only [pair_map] <;> rfl
  case extract x i =>
    simp only [opO]
    cases ρ x with
    | none => rfl
    | some u => cases u <;> simp only [pair_map] <;> rfl
  case call c =>
    obtain ⟨callee, args, ts⟩ := c
    cases callee with
    | value f => exfalso; revert hp; simp [isPure]
    | invoke r m => exfalso; revert hp; simp [isPure]
    | builtin b =>
      simp only [opO]
      cases evs ρ args.toList with
      | none => rfl
      | some vs =>
        refine builtin_pure ?_ vs s s2
        cases b <;> first | (exfalso; revert hp; simp [isPure]; done) | simp

theorem pure_simple {op : Op} (hp : isPure op = true) {v : AV} (h : opO E ρ s op = some (v, s')) : s' = s ∧ ∀ s2, opO E ρ s2 op = some (v, s2) := by
  have h1 := pure_eq (E := E) (ρ := ρ) hp s s
  rw [h] at h1
  simp [pairO] at h1
  refine ⟨h1, fun s2 => ?_⟩
  rw [pure_eq hp s s2, h]
  rfl

theorem read_same {s2 : St} {a : AA} (n : Nat) (h : s2.hp.get a.b = s.hp.get a.b) : readCells s2 a n = readCells s a n := by
  unfold readCells
  rw [h]

theorem load_simple {op : Op} (hp : isLoad op = true) {v : AV} (h : opO E ρ s op = some (v, s')) :
    s' = s ∧ ∃ c g, rowAt ρ op = some c ∧ (∃ x off, x ∈ op.operands ∧ ρ x = some (.ptr ⟨c, g, off⟩)) ∧ ∀ s2, s2.hp.get c = s.hp.get c → opO E ρ s2 op = some (v, s2) := by
  cases op <;> first | (exfalso; revert hp; simp [isLoad]; done) | skip
  case load t x =>
    simp only [opO] at h
    cases hx : ρ x with
    | none => simp [hx] at h
    | some u =>
      rw [hx] at h
      cases u <;> first | (cases h; done) | skip
      rename_i a
      obtain ⟨h1, h2⟩ := pair_inv h
      refine ⟨h2, a.b, a.g, by simp [rowAt, hx], ⟨x, a.off, by simp [Op.operands], hx⟩, fun s2 hs => ?_⟩
      simp only [opO, hx]
      have : loadT E.P s2 t a = loadT E.P s t a := by
        unfold loadT
        simp only [read_same _ hs]
      rw [this, h1]
      rfl

theorem store_simple {op : Op} (hp : isStore op = true) {v : AV} (h : opO E ρ s op = some (v, s')) :
    v = und ∧ ∃ c g, rowAt ρ op = some c ∧ (∃ x off, x ∈ op.operands ∧ ρ x = some (.ptr ⟨c, g, off⟩)) ∧
      ((s' = s ∧ ∀ s2, opO E ρ s2 op = some (v, s2)) ∨
        ∃ r, s' = { s with hp := T.set r s.hp c, low := Nat.min s.low c } ∧ ∀ s2, s2.hp.get c = s.hp.get c → opO E ρ s2 op = some (v, { s2 with hp := T.set r s2.hp c, low := Nat.min s2.low c })) := by
  cases op <;> first | (exfalso; revert hp; simp [isStore]; done) | skip
  case store t x y =>
    simp only [opO] at h
    cases hx : ρ x with
    | none => simp [hx] at h
    | some u =>
      rw [hx] at h
      cases hy : ρ y with
      | none => cases u <;> simp [hy] at h
      | some z =>
        rw [hy] at h
        cases u <;> first | (cases h; done) | skip
        rename_i a
        simp only at h
        cases hst : storeT E.P s t a z with
        | none => simp [hst] at h
        | some s1 =>
          rw [hst] at h
          simp only [Option.some.injEq, Prod.mk.injEq] at h
          obtain ⟨rfl, rfl⟩ := h
          refine ⟨rfl, a.b, a.g, by simp [rowAt, hx], ⟨x, a.off, by simp [Op.operands], hx⟩, ?_⟩
          simp only [opO, hx, hy]
          unfold storeT at hst ⊢
          cases hc : cellsOf z with
          | none => simp [hc] at hst
          | some l =>
            cases hz : sizeT E.P t with
            | none => simp [hc, hz] at hst
            | some n =>
              simp only [hc, hz] at hst ⊢
              cases hb : Nat.beq l.length n with
              | false => simp [hb] at hst
              | true =>
                simp only [hb] at hst ⊢
                unfold writeCells at hst ⊢
                cases l with
                | nil =>
                  simp only [Option.some.injEq] at hst
                  exact .inl ⟨hst.symm, fun s2 => rfl⟩
                | cons q l =>
                  simp only at hst ⊢
                  cases hg : s.hp.get a.b with
                  | none => simp [hg] at hst
                  | some r =>
                    simp only [hg] at hst ⊢
                    split at hst
                    · rename_i hcond
                      simp only [Option.some.injEq] at hst
                      refine .inr ⟨_, hst.symm, fun s2 hs2 => ?_⟩
                      rw [hs2]
                      simp only [hcond]
                      rfl
                    · cases hst

theorem alloc_simple {op : Op} (hp : isAlloc op = true) {v : AV} (h : opO E ρ s op = some (v, s')) :
    ∃ (r : Row) (mk : AA → AV), (mk = AV.ptr ∨ ∃ l e, mk = fun q => AV.slice q l e) ∧ extent r 0 = some r.cells.length ∧ v = mk ⟨s.nx, 0, 0⟩ ∧ s' = { s with hp := T.set r s.hp s.nx, nx := s.nx + 1 } ∧
      ∀ s2, opO E ρ s2 op = some (mk ⟨s2.nx, 0, 0⟩, { s2 with hp := T.set r s2.hp s2.nx, nx := s2.nx + 1 }) := by
  cases op <;> first | (exfalso; revert hp; simp [isAlloc]; done) | skip
  case alloc e =>
    simp only [opO] at h ⊢
    cases h1 : zeroOf E.P e with
    | none => simp [h1] at h
    | some z =>
      simp only [h1] at h ⊢
      cases h2 : cellsOf z with
      | none => simp [h2] at h
      | some cs =>
        simp only [h2, newRow, Option.some.injEq, Prod.mk.injEq] at h ⊢
        exact ⟨_, .ptr, .inl rfl, by simp [extent], h.1.symm, h.2.symm, fun s2 => ⟨rfl, rfl⟩⟩
  case box e x =>
    simp only [opO] at h ⊢
    cases h1 : ρ x with
    | none => simp [h1] at h
    | some z =>
      simp only [h1] at h ⊢
      cases h2 : cellsOf z with
      | none => simp [h2] at h
      | some cs =>
        simp only [h2, newRow, Option.some.injEq, Prod.mk.injEq] at h ⊢
        exact ⟨_, .ptr, .inl rfl, by simp [extent], h.1.symm, h.2.symm, fun s2 => ⟨rfl, rfl⟩⟩
  case buildSlice t n ps =>
    simp only [opO] at h ⊢
    cases h1 : evParts ρ ps.toList with
    | none => simp [h1] at h
    | some l =>
      cases h2 : E.P.underlying t with
      | none => simp [h1, h2] at h
      | some u =>
        cases u <;> first | (simp [h1, h2] at h; done) | skip
        rename_i e
        simp only [h1, h2] at h ⊢
        cases h3 : sizeT E.P e with
        | none => simp [h3] at h
        | some size =>
          simp only [h3] at h ⊢
          cases h4 : Nat.ble (n * size) 16777216 with
          | false => simp [h4] at h
          | true =>
            cases h5 : zerosOf E.P e size n with
            | none => simp [h4, h5] at h
            | some zs =>
              simp only [h4, h5] at h ⊢
              cases h6 : fillO (fun i => some (i * size, size)) zs l with
              | none => simp [h6] at h
              | some cs =>
                simp only [h6, newRow, Option.some.injEq, Prod.mk.injEq] at h ⊢
                exact ⟨_, fun q => .slice q n size, .inr ⟨n, size, rfl⟩, by simp [extent], h.1.symm, h.2.symm, fun s2 => ⟨rfl, rfl⟩⟩
  case makeSlice t x y =>
    simp only [opO] at h ⊢
    cases h1 : ρ x with
    | none => simp [h1] at h
    | some l =>
      cases h2 : ρ y with
      | none => simp [h1, h2] at h
      | some c =>
        cases h3 : E.P.underlying t with
        | none => simp [h1, h2, h3] at h
        | some u =>
          cases u <;> first | (simp [h1, h2, h3] at h; done) | skip
          rename_i e
          simp only [h1, h2, h3] at h ⊢
          cases h4 : natO l with
          | none => simp [h4] at h
          | some l =>
            cases h5 : natO c with
            | none => simp [h4, h5] at h
            | some c =>
              cases h6 : E.P.info? e with
              | none => simp [h4, h5, h6] at h
              | some i =>
                simp only [h4, h5, h6] at h ⊢
                cases h7 : (Nat.ble l c && (Nat.ble (c * i.bytes) 1000000000 && Nat.ble c 1000000000)) with
                | false => simp [h7] at h
                | true =>
                  cases h8 : zerosOf E.P e i.size c with
                  | none => simp [h7, h8] at h
                  | some zs =>
                    simp only [h7, h8] at h ⊢
                    cases h9 : Nat.beq l c with
                    | true =>
                      simp only [h9, newRow, Option.some.injEq, Prod.mk.injEq] at h ⊢
                      exact ⟨_, fun q => .slice q l i.size, .inr ⟨l, i.size, rfl⟩, by simp [extent], h.1.symm, h.2.symm, fun s2 => ⟨rfl, rfl⟩⟩
                    | false =>
                      cases l with
                      | succ l => simp [h9] at h
                      | zero =>
                        simp only [h9, newRow, Option.some.injEq, Prod.mk.injEq] at h ⊢
                        exact ⟨_, fun q => .slice q 0 i.size, .inr ⟨0, i.size, rfl⟩, by simp [extent], h.1.symm, h.2.symm, fun s2 => ⟨rfl, rfl⟩⟩
end
end Go.AM
