/-
  For regions that draw their order: operations that touch little, and values that name few rows.
-/
import Derived.Test.YtmcnpaehmnadeaaGreatDoorAmB
set_option maxHeartbeats 6400000
set_option maxRecDepth 1000000
namespace Go.AM
open Go Go.RowKit Go.Lib
section
variable {base : Nat} {μ μ1 : Mp} {s s' : St} {E : Env} {ρ ρ' : Operand → Option AV}
/-! an operation looks at its operands alone -/
theorem evs_congr : ∀ {xs : List Operand}, (∀ x ∈ xs, ρ x = ρ' x) → evs ρ xs = evs ρ' xs
 | [], _ => rfl
 | x :: xs, h => by
  simp only [evs]
  rw [h x (by simp), evs_congr fun y hy => h y (by simp [hy])]
theorem evParts_congr : ∀ {xs : List (Nat × Operand)}, (∀ x ∈ xs, ρ x.2 = ρ' x.2) → evParts ρ xs = evParts ρ' xs
 | [], _ => rfl
 | (i, x) :: xs, h => by
  simp only [evParts]
  rw [h (i, x) (by simp), evParts_congr fun y hy => h y (by simp [hy])]
theorem evO_congr {x : Option Operand} (h : ∀ y, x = some y → ρ y = ρ' y) : evO ρ x = evO ρ' x := by
 cases x with
 | none => rfl
 | some y => simp only [evO]; rw [h y rfl]
theorem op_congr (op : Op) (h : ∀ x ∈ op.operands, ρ x = ρ' x) : opO E ρ s op = opO E ρ' s op := by
 cases op <;> simp only [opO]
 case build t ps =>
  rw [evParts_congr fun x hx => h x.2 (by simp [Op.operands]; exact ⟨x.1, by simpa using hx⟩)]
 case buildSlice t n ps =>
  rw [evParts_congr fun x hx => h x.2 (by simp [Op.operands]; exact ⟨x.1, by simpa using hx⟩)]
 case makeFunc fn first cap =>
  cases fn <;> simp only
  rw [evs_congr fun x hx => h x (by simp [Op.operands]; exact .inr (by simpa using hx))]
 case slice t x lo hi mx =>
  cases mx <;> simp only
  rw [h x (by simp [Op.operands]), evO_congr (x := lo) fun y hy => h y (by simp [Op.operands, hy]), evO_congr (x := hi) fun y hy => h y (by simp [Op.operands, hy])]
 case call c =>
  rw [evs_congr fun x hx => h x (by simp [Op.operands, Call.operands]; exact .inr (by simpa using hx))]
  cases hc : c.callee <;> simp only
  rename_i f
  rw [h f (by simp [Op.operands, Call.operands, hc])]
 case pick c x y => rw [h c (by simp [Op.operands]), h x (by simp [Op.operands]), h y (by simp [Op.operands])]
 case store t x y => rw [h x (by simp [Op.operands]), h y (by simp [Op.operands])]
 case binOp op t x y yt => rw [h x (by simp [Op.operands]), h y (by simp [Op.operands])]
 case makeSlice t x y => rw [h x (by simp [Op.operands]), h y (by simp [Op.operands])]
 case indexAddr t x y => rw [h x (by simp [Op.operands]), h y (by simp [Op.operands])]
 case index t x y => rw [h x (by simp [Op.operands]), h y (by simp [Op.operands])]
 all_goals first
  | rfl
  | (rename_i x; rw [h x (by simp [Op.operands])])
  | (rename_i x y; rw [h x (by simp [Op.operands])])
  | (rename_i x y; rw [h y (by simp [Op.operands])])
  | (rename_i x y z; rw [h x (by simp [Op.operands])])
  | (rename_i x y z; rw [h y (by simp [Op.operands])])
  | (rename_i x y z; rw [h z (by simp [Op.operands])])
/-! values that were known when fewer rows were there -/
def Mp.lt (μ : Mp) (N : Nat) : Mp := fun b g => if b < N then μ b g else none
theorem Mp.lt_some {N b g : Nat} {x : Nat × Nat} : μ.lt N b g = some x ↔ b < N ∧ μ b g = some x := by
 unfold Mp.lt
 by_cases h : b < N <;> simp [h]
def Small (μ1 : Mp) (N : Nat) : Prop := ∀ b g x, μ1 b g = some x → b < N
variable {N : Nat}
theorem AR.lt (hs : Small μ1 N) {a : AA} {c c1 : Addr} (h1 : AR μ1 a c1) (h : AR μ a c) : AR (μ.lt N) a c := by
 obtain ⟨_, _, e1, _⟩ := h1
 obtain ⟨blk, n, e2, e3⟩ := h
 exact ⟨blk, n, Mp.lt_some.2 ⟨hs _ _ _ e1, e2⟩, e3⟩
theorem SR.lt (hs : Small μ1 N) {x : AV} {v v1 : Value} (h1 : SR μ1 x v1) (h : SR μ x v) : SR (μ.lt N) x v := by
 cases x <;> first | exact h | skip
 obtain ⟨c1, e1, _⟩ := h1
 obtain ⟨c, e2, e3⟩ := h
 exact ⟨c, AR.lt hs e1 e2, e3⟩
theorem LR.lt {α β γ : Type} {R1 : α → γ → Prop} {R R' : α → β → Prop} (hR : ∀ a c b, R1 a c → R a b → R' a b) : ∀ {as : List α} {cs : List γ} {bs : List β}, LR R1 as cs → LR R as bs → LR R' as bs
 | [], [], [], _, _ => trivial
 | _ :: _, _ :: _, _ :: _, ⟨a1, a2⟩, ⟨b1, b2⟩ => ⟨hR _ _ _ a1 b1, LR.lt hR a2 b2⟩
 | [], [], _ :: _, _, h => h.elim
 | [], _ :: _, _, h, _ => h.elim
 | _ :: _, [], _, h, _ => h.elim
 | _ :: _, _ :: _, [], _, h => h.elim
theorem CR.lt (hs : Small μ1 N) {x : AV} {v v1 : Value} (h1 : CR μ1 x v1) (h : CR μ x v) : CR (μ.lt N) x v := by
 cases x
 case slice a n e =>
  obtain ⟨_, _, _, e1, _⟩ := h1
  obtain ⟨blk, m, cap, e2, e3⟩ := h
  exact ⟨blk, m, cap, Mp.lt_some.2 ⟨hs _ _ _ e1, e2⟩, e3⟩
 case func f caps =>
  obtain ⟨cs1, e1, _⟩ := h1
  obtain ⟨cs, e2, e3⟩ := h
  exact ⟨cs, LR.lt (R1 := AR μ1) (R := AR μ) (R' := AR (μ.lt N)) (fun _ _ _ q1 q2 => AR.lt hs q1 q2) e1 e2, e3⟩
 case iface t y =>
  obtain ⟨_, e1, _⟩ := h1
  obtain ⟨u, e2, e3⟩ := h
  exact ⟨u, SR.lt hs e1 e2, e3⟩
 case ptr a => exact SR.lt (x := .ptr a) hs h1 h
 all_goals exact h
theorem V1.lt (hs : Small μ1 N) {x : AV} {v v1 : Value} (h1 : V1 μ1 x v1) (h : V1 μ x v) : V1 (μ.lt N) x v := by
 cases x
 case agg cs =>
  obtain ⟨_, e1, _⟩ := h1
  obtain ⟨vs, e2, e3⟩ := h
  exact ⟨vs, LR.lt (R1 := CR μ1) (R := CR μ) (R' := CR (μ.lt N)) (fun _ _ _ q1 q2 => CR.lt hs q1 q2) e1 e2, e3⟩
 all_goals (simp only [V1] at h1 h ⊢; exact CR.lt hs h1 h)
theorem VR.lt (hs : Small μ1 N) {x : AV} {v v1 : Value} (h1 : VR μ1 x v1) (h : VR μ x v) : VR (μ.lt N) x v := by
 cases x
 case tuple cs =>
  obtain ⟨_, e1, _⟩ := h1
  obtain ⟨vs, e2, e3⟩ := h
  exact ⟨vs, LR.lt (R1 := V1 μ1) (R := V1 μ) (R' := V1 (μ.lt N)) (fun _ _ _ q1 q2 => V1.lt hs q1 q2) e1 e2, e3⟩
 all_goals (simp only [VR] at h1 h ⊢; exact V1.lt hs h1 h)
theorem SR.ltc {x : AV} (hx : okS N x) {v : Value} (h : SR μ x v) : SR (μ.lt N) x v := by
 cases x <;> first | exact h | skip
 obtain ⟨c, ⟨blk, n, e2, e3⟩, e4⟩ := h
 exact ⟨c, ⟨blk, n, Mp.lt_some.2 ⟨hx, e2⟩, e3⟩, e4⟩
theorem CR.ltc {x : AV} (hx : okC N x) {v : Value} (h : CR μ x v) : CR (μ.lt N) x v := by
 cases x
 case slice a n e =>
  obtain ⟨blk, m, cap, e2, e3⟩ := h
  exact ⟨blk, m, cap, Mp.lt_some.2 ⟨hx, e2⟩, e3⟩
 case func f caps =>
  obtain ⟨cs, e2, e3⟩ := h
  refine ⟨cs, ?_, e3⟩
  exact e2.mono_mem fun q hq c ⟨blk, n, g1, g2⟩ => ⟨blk, n, Mp.lt_some.2 ⟨hx q hq, g1⟩, g2⟩
 case iface t y =>
  obtain ⟨u, e2, e3⟩ := h
  exact ⟨u, SR.ltc (x := y) hx e2, e3⟩
 case ptr a => exact SR.ltc (x := .ptr a) hx h
 all_goals exact h
theorem RowOk.lt {base : Nat} {w : World} {r : Row} (hx : ∀ x ∈ r.cells, okC N x) {g blk n : Nat} (h : RowOk base μ w r g blk n) : RowOk base (μ.lt N) w r g blk n := by
 obtain ⟨h1, h2, ⟨cs, fz, h3, h4, h5, h6⟩, h7, h8, h9⟩ := h
 exact ⟨h1, h2, ⟨cs, fz, h3, h4, fun m hm => ⟨(h5 m hm).1, (h5 m hm).2.1, (h5 m hm).2.2.mono_mem fun x hx' _ => CR.ltc (hx x (List.mem_of_mem_take hx'))⟩, h6⟩, h7, h8, h9⟩
theorem tree_of {α : Type} (h : Nat → Option α) : ∀ N, ∃ t : T α, (∀ b, b < N → t.get b = h b) ∧ (∀ b, N ≤ b → t.get b = none)
 | 0 => ⟨.nil, fun _ hb => by omega, fun _ _ => rfl⟩
 | N + 1 => by
  obtain ⟨t, h1, h2⟩ := tree_of h N
  cases hN : h N with
  | none =>
   refine ⟨t, fun b hb => ?_, fun b hb => h2 b (by omega)⟩
   by_cases hbN : b = N
   ·subst hbN; rw [hN]; exact h2 b (Nat.le_refl _)
   ·exact h1 b (by omega)
  | some x =>
   refine ⟨T.set x t N, fun b hb => ?_, fun b hb => ?_⟩
   ·rw [T.get_set]
    by_cases hbN : b = N
    ·subst hbN; rw [if_pos rfl, hN]
    ·rw [if_neg hbN]; exact h1 b (by omega)
   ·rw [T.get_set, if_neg (by omega)]; exact h2 b (by omega)
/-! what little an operation touches -/
theorem pair_map (s : St) (x : Option AV) : (pairO s x).map Prod.fst = x := by cases x <;> rfl
theorem builtin_pure {P : Program} {ts : Array TypeId} {b : Builtin} (hb : b = .len ∨ b = .min ∨ b = .max) (vs : List AV) (s s2 : St) :
  builtinO P s2 b ts vs = pairO s2 ((builtinO P s b ts vs).map Prod.fst) := by
 rcases hb with rfl | rfl | rfl
 ·match vs with
  | [] => rfl
  | _ :: _ :: _ => rfl
  | [x] =>
   simp only [builtinO]
   cases ts[0]? with
   | none => rfl
   | some t =>
    simp only
    cases P.underlying t with
    | none => rfl
    | some u =>
     cases u <;> try rfl
     case pointer arr =>
      simp only
      cases P.underlying arr with
      | none => rfl
      | some u => cases u <;> rfl
     case slice e =>
      simp only
      cases x <;> rfl
     case string =>
      simp only
      cases x <;> rfl
 ·match vs with
  | [] => rfl
  | x :: r =>
   simp only [builtinO]
   cases foldMin x r <;> rfl
 ·match vs with
  | [] => rfl
  | x :: r =>
   simp only [builtinO]
   cases foldMax x r <;> rfl
theorem pure_eq {op : Op} (hp : isPure op = true) (s s2 : St) : opO E ρ s2 op = pairO s2 ((opO E ρ s op).map Prod.fst) := by
 cases op <;> first | (exfalso; revert hp; simp [isPure]; done) | skip
 case move x => simp only [opO, pair_map]
 case assign x => simp only [opO, pair_map]
 case pick c x y =>
  simp only [opO]
  cases ρ c with
  | none => rfl
  | some u =>
   cases u <;> try rfl
   rename_i b
   cases b <;> simp only [pair_map]
 case build t' ps =>
  simp only [opO]
  cases evParts ρ ps.toList <;> simp only [pair_map] <;> rfl
 case nilCheck x =>
  simp only [opO]
  cases ρ x with
  | none => rfl
  | some u => cases u <;> rfl
 case binOp op t' x y yt =>
  simp only [opO]
  cases ρ x <;> cases ρ y <;> simp only [pair_map] <;> rfl
 case unOp op t' x =>
  simp only [opO]
  cases ρ x <;> simp only [pair_map] <;> rfl
 case makeInterface t' x =>
  simp only [opO]
  cases ρ x with
  | none => rfl
  | some u =>
   cases E.P.underlying t' with
   | none => rfl
   | some d =>
    simp only
    cases d <;> cases scalar u <;> rfl
 case makeFunc fn first cap =>
  cases fn <;> try rfl
  simp only [opO]
  cases first.size with
  | succ n => cases evs ρ cap.toList <;> rfl
  | zero =>
   cases evs ρ cap.toList with
   | none => rfl
   | some vs =>
    simp only
    cases addrs vs <;> rfl
 case slice t' x lo hi mx =>
  cases mx <;> try rfl
  simp only [opO]
  cases ρ x with
  | none => rfl
  | some u =>
   cases evO ρ lo with
   | none => rfl
   | some l => cases evO ρ hi <;> simp only [pair_map] <;> rfl
 case fieldAddr t' x f =>
  simp only [opO]
  cases ρ x <;> simp only [pair_map] <;> rfl
 case field t' x f =>
  simp only [opO]
  cases ρ x <;> simp only [pair_map] <;> rfl
 case indexAddr t' x y =>
  simp only [opO]
  cases ρ x <;> cases ρ y <;> simp only [pair_map] <;> rfl
 case index t' x y =>
  simp only [opO]
  cases ρ x <;> cases ρ y <;> simp only [pair_map] <;> rfl
 case extract x i =>
  simp only [opO]
  cases ρ x with
  | none => rfl
  | some u => cases u <;> simp only [pair_map] <;> rfl
 case call c =>
  obtain ⟨callee, args, ts⟩ := c
  cases callee with
  | value f => exfalso; revert hp; simp [isPure]
  | invoke r m => exfalso; revert hp; simp [isPure]
  | builtin b =>
   simp only [opO]
   cases evs ρ args.toList with
   | none => rfl
   | some vs =>
    refine builtin_pure ?_ vs s s2
    cases b <;> first | (exfalso; revert hp; simp [isPure]; done) | simp
theorem pure_simple {op : Op} (hp : isPure op = true) {v : AV} (h : opO E ρ s op = some (v, s')) : s' = s ∧ ∀ s2, opO E ρ s2 op = some (v, s2) := by
 have h1 := pure_eq (E := E) (ρ := ρ) hp s s
 rw [h] at h1
 simp [pairO] at h1
 refine ⟨h1, fun s2 => ?_⟩
 rw [pure_eq hp s s2, h]
 rfl
theorem read_same {s2 : St} {a : AA} (n : Nat) (h : s2.hp.get a.b = s.hp.get a.b) : readCells s2 a n = readCells s a n := by
 unfold readCells
 rw [h]
theorem load_simple {op : Op} (hp : isLoad op = true) {v : AV} (h : opO E ρ s op = some (v, s')) :
  s' = s ∧ ∃ c g, rowAt ρ op = some c ∧ (∃ x off, x ∈ op.operands ∧ ρ x = some (.ptr ⟨c, g, off⟩)) ∧ ∀ s2, s2.hp.get c = s.hp.get c → opO E ρ s2 op = some (v, s2) := by
 cases op <;> first | (exfalso; revert hp; simp [isLoad]; done) | skip
 case load t x =>
  simp only [opO] at h
  cases hx : ρ x with
  | none => simp [hx] at h
  | some u =>
   rw [hx] at h
   cases u <;> first | (cases h; done) | skip
   rename_i a
   obtain ⟨h1, h2⟩ := pair_inv h
   refine ⟨h2, a.b, a.g, by simp [rowAt, hx], ⟨x, a.off, by simp [Op.operands], hx⟩, fun s2 hs => ?_⟩
   simp only [opO, hx]
   have : loadT E.P s2 t a = loadT E.P s t a := by
    unfold loadT
    simp only [read_same _ hs]
   rw [this, h1]
   rfl
theorem store_simple {op : Op} (hp : isStore op = true) {v : AV} (h : opO E ρ s op = some (v, s')) :
  v = und ∧ ∃ c g, rowAt ρ op = some c ∧ (∃ x off, x ∈ op.operands ∧ ρ x = some (.ptr ⟨c, g, off⟩)) ∧
   ((s' = s ∧ ∀ s2, opO E ρ s2 op = some (v, s2)) ∨
    ∃ r, s' = { s with hp := T.set r s.hp c, low := Nat.min s.low c } ∧ ∀ s2, s2.hp.get c = s.hp.get c → opO E ρ s2 op = some (v, { s2 with hp := T.set r s2.hp c, low := Nat.min s2.low c })) := by
 cases op <;> first | (exfalso; revert hp; simp [isStore]; done) | skip
 case store t x y =>
  simp only [opO] at h
  cases hx : ρ x with
  | none => simp [hx] at h
  | some u =>
   rw [hx] at h
   cases hy : ρ y with
   | none => cases u <;> simp [hy] at h
   | some z =>
    rw [hy] at h
    cases u <;> first | (cases h; done) | skip
    rename_i a
    simp only at h
    cases hst : storeT E.P s t a z with
    | none => simp [hst] at h
    | some s1 =>
     rw [hst] at h
     simp only [Option.some.injEq, Prod.mk.injEq] at h
     obtain ⟨rfl, rfl⟩ := h
     refine ⟨rfl, a.b, a.g, by simp [rowAt, hx], ⟨x, a.off, by simp [Op.operands], hx⟩, ?_⟩
     simp only [opO, hx, hy]
     unfold storeT at hst ⊢
     cases hc : cellsOf z with
     | none => simp [hc] at hst
     | some l =>
      cases hz : sizeT E.P t with
      | none => simp [hc, hz] at hst
      | some n =>
       simp only [hc, hz] at hst ⊢
       cases hb : Nat.beq l.length n with
       | false => simp [hb] at hst
       | true =>
        simp only [hb] at hst ⊢
        unfold writeCells at hst ⊢
        cases l with
        | nil =>
         simp only [Option.some.injEq] at hst
         exact .inl ⟨hst.symm, fun s2 => rfl⟩
        | cons q l =>
         simp only at hst ⊢
         cases hg : s.hp.get a.b with
         | none => simp [hg] at hst
         | some r =>
          simp only [hg] at hst ⊢
          split at hst
          ·rename_i hcond
           simp only [Option.some.injEq] at hst
           refine .inr ⟨_, hst.symm, fun s2 hs2 => ?_⟩
           rw [hs2]
           simp only [hcond]
           rfl
          ·cases hst
theorem alloc_simple {op : Op} (hp : isAlloc op = true) {v : AV} (h : opO E ρ s op = some (v, s')) :
  ∃ (r : Row) (mk : AA → AV), (mk = AV.ptr ∨ ∃ l e, mk = fun q => AV.slice q l e) ∧ extent r 0 = some r.cells.length ∧ v = mk ⟨s.nx, 0, 0⟩ ∧ s' = { s with hp := T.set r s.hp s.nx, nx := s.nx + 1 } ∧
   ∀ s2, opO E ρ s2 op = some (mk ⟨s2.nx, 0, 0⟩, { s2 with hp := T.set r s2.hp s2.nx, nx := s2.nx + 1 }) := by
 cases op <;> first | (exfalso; revert hp; simp [isAlloc]; done) | skip
 case alloc e =>
  simp only [opO] at h ⊢
  cases h1 : zeroOf E.P e with
  | none => simp [h1] at h
  | some z =>
   simp only [h1] at h ⊢
   cases h2 : cellsOf z with
   | none => simp [h2] at h
   | some cs =>
    simp only [h2, newRow, Option.some.injEq, Prod.mk.injEq] at h ⊢
    exact ⟨_, .ptr, .inl rfl, by simp [extent], h.1.symm, h.2.symm, fun s2 => ⟨rfl, rfl⟩⟩
 case box e x =>
  simp only [opO] at h ⊢
  cases h1 : ρ x with
  | none => simp [h1] at h
  | some z =>
   simp only [h1] at h ⊢
   cases h2 : cellsOf z with
   | none => simp [h2] at h
   | some cs =>
    simp only [h2, newRow, Option.some.injEq, Prod.mk.injEq] at h ⊢
    exact ⟨_, .ptr, .inl rfl, by simp [extent], h.1.symm, h.2.symm, fun s2 => ⟨rfl, rfl⟩⟩
 case buildSlice t n ps =>
  simp only [opO] at h ⊢
  cases h1 : evParts ρ ps.toList with
  | none => simp [h1] at h
  | some l =>
   cases h2 : E.P.underlying t with
   | none => simp [h1, h2] at h
   | some u =>
    cases u <;> first | (simp [h1, h2] at h; done) | skip
    rename_i e
    simp only [h1, h2] at h ⊢
    cases h3 : sizeT E.P e with
    | none => simp [h3] at h
    | some size =>
     simp only [h3] at h ⊢
     cases h4 : Nat.ble (n * size) 16777216 with
     | false => simp [h4] at h
     | true =>
      cases h5 : zerosOf E.P e size n with
      | none => simp [h4, h5] at h
      | some zs =>
       simp only [h4, h5] at h ⊢
       cases h6 : fillO (fun i => some (i * size, size)) zs l with
       | none => simp [h6] at h
       | some cs =>
        simp only [h6, newRow, Option.some.injEq, Prod.mk.injEq] at h ⊢
        exact ⟨_, fun q => .slice q n size, .inr ⟨n, size, rfl⟩, by simp [extent], h.1.symm, h.2.symm, fun s2 => ⟨rfl, rfl⟩⟩
 case makeSlice t x y =>
  simp only [opO] at h ⊢
  cases h1 : ρ x with
  | none => simp [h1] at h
  | some l =>
   cases h2 : ρ y with
   | none => simp [h1, h2] at h
   | some c =>
    cases h3 : E.P.underlying t with
    | none => simp [h1, h2, h3] at h
    | some u =>
     cases u <;> first | (simp [h1, h2, h3] at h; done) | skip
     rename_i e
     simp only [h1, h2, h3] at h ⊢
     cases h4 : natO l with
     | none => simp [h4] at h
     | some l =>
      cases h5 : natO c with
      | none => simp [h4, h5] at h
      | some c =>
       cases h6 : E.P.info? e with
       | none => simp [h4, h5, h6] at h
       | some i =>
        simp only [h4, h5, h6] at h ⊢
        cases h7 : (Nat.ble l c && (Nat.ble (c * i.bytes) 1000000000 && Nat.ble c 1000000000)) with
        | false => simp [h7] at h
        | true =>
         cases h8 : zerosOf E.P e i.size c with
         | none => simp [h7, h8] at h
         | some zs =>
          simp only [h7, h8] at h ⊢
          cases h9 : Nat.beq l c with
          | true =>
           simp only [h9, newRow, Option.some.injEq, Prod.mk.injEq] at h ⊢
           exact ⟨_, fun q => .slice q l i.size, .inr ⟨l, i.size, rfl⟩, by simp [extent], h.1.symm, h.2.symm, fun s2 => ⟨rfl, rfl⟩⟩
          | false =>
           cases l with
           | succ l => simp [h9] at h
           | zero =>
            simp only [h9, newRow, Option.some.injEq, Prod.mk.injEq] at h ⊢
            exact ⟨_, fun q => .slice q 0 i.size, .inr ⟨0, i.size, rfl⟩, by simp [extent], h.1.symm, h.2.symm, fun s2 => ⟨rfl, rfl⟩⟩
end
end Go.AM
/-
  For regions that draw their order: what the run in the order of the text leaves behind, and steps of memory in a wider memory.
-/
namespace Go.AM
open Go Go.RowKit Go.Lib
section
variable {E : Env} {ops : Array Oper} {kind : Nat → Nat}
noncomputable def rowOf (ops : Array Oper) (F : Nat → Fr) (S : Nat → St) (j : Nat) : Option Nat :=
 match ops[j]? with
 | some o => match wantO (F j) ops o with
  | true => rowAt (ev (F j) (S j).gl) o.op
  | false => none
 | none => none
def preOf (kind : Nat → Nat) (S : Nat → St) (j : Nat) : St := if kind j = 1 then { S j with low := (S j).nx } else S j
structure StepT (E : Env) (ops : Array Oper) (kind : Nat → Nat) (F : Nat → Fr) (S Y : Nat → St) (j : Nat) (o : Oper) : Prop where
 kd : kind j = 0 ∨ kind j = 1 ∨ kind j = 2 ∨ kind j = 3 ∨ kind j = 5
 one : oneO E ops o (F j) (preOf kind S j) = some (F (j + 1), Y j)
 next : S (j + 1) = if kind j = 1 then { Y j with low := (S j).low } else Y j
 low : kind j = 1 → (S j).nx ≤ (Y j).low
def soft (a b : Nat) : Prop := (a = 3 ∧ (b = 2 ∨ b = 3)) ∨ (a = 2 ∧ b = 3)
theorem memb_mem {n : Nat} : ∀ {l : List Nat}, memb n l = false → n ∉ l
 | [], _ => by simp
 | m :: l, h => by
  simp only [memb] at h
  split at h
  ·cases h
  ·rename_i hb
   have hne : n ≠ m := fun he => by subst he; simp at hb
   simp only [List.mem_cons, not_or]
   exact ⟨hne, memb_mem h⟩
structure Trace (E : Env) (ops : Array Oper) (kind : Nat → Nat) (i n : Nat) (rd wr : List Nat) (F : Nat → Fr) (S Y : Nat → St) : Prop where
 step : ∀ j, i ≤ j → j < n → ∃ o, ops[j]? = some o ∧ StepT E ops kind F S Y j o
 store : ∀ j, i ≤ j → j < n → kind j = 3 → ∀ c, rowOf ops F S j = some c → c ∉ rd ++ wr
 load : ∀ j, i ≤ j → j < n → kind j = 2 → ∀ c, rowOf ops F S j = some c → c ∉ wr
 pair : ∀ j k, i ≤ j → j < k → k < n → soft (kind j) (kind k) → ∀ c, rowOf ops F S j = some c → rowOf ops F S k ≠ some c
theorem Trace.cons {i n : Nat} {rd wr rd' wr' : List Nat} {F : Nat → Fr} {S Y : Nat → St} (hn : i < n) {f : Fr} {s y : St} {o : Oper} (ho : ops[i]? = some o)
  (ht : Trace E ops kind (i + 1) n rd' wr' F S Y) (hrd : ∀ c ∈ rd, c ∈ rd') (hwr : ∀ c ∈ wr, c ∈ wr')
  (hk : kind i = 0 ∨ kind i = 1 ∨ kind i = 2 ∨ kind i = 3 ∨ kind i = 5)
  (h1 : oneO E ops o f (if kind i = 1 then { s with low := s.nx } else s) = some (F (i + 1), y))
  (h2 : S (i + 1) = if kind i = 1 then { y with low := s.low } else y) (h3 : kind i = 1 → s.nx ≤ y.low)
  (h4 : ∀ c, wantO f ops o = true → rowAt (ev f s.gl) o.op = some c → (kind i = 3 → c ∉ rd ++ wr ∧ c ∈ wr') ∧ (kind i = 2 → c ∉ wr ∧ c ∈ rd')) :
  ∃ (F' : Nat → Fr) (S' Y' : Nat → St), F' i = f ∧ S' i = s ∧ (∀ j, j ≠ i → F' j = F j ∧ S' j = S j) ∧ Trace E ops kind i n rd wr F' S' Y' := by
 refine ⟨fun j => if j = i then f else F j, fun j => if j = i then s else S j, fun j => if j = i then y else Y j, by simp, by simp, fun j hj => by simp [hj], ?_⟩
 have hne : ∀ j, i + 1 ≤ j → (if j = i then f else F j) = F j ∧ (if j = i then s else S j) = S j ∧ (if j = i then y else Y j) = Y j := fun j hj => by
  have : j ≠ i := by omega
  simp [this]
 have hrow : ∀ j, i + 1 ≤ j → rowOf ops (fun j => if j = i then f else F j) (fun j => if j = i then s else S j) j = rowOf ops F S j := fun j hj => by
  unfold rowOf
  simp only [(hne j hj).1, (hne j hj).2.1]
 have hrow0 : ∀ c, rowOf ops (fun j => if j = i then f else F j) (fun j => if j = i then s else S j) i = some c → wantO f ops o = true ∧ rowAt (ev f s.gl) o.op = some c := fun c hc => by
  unfold rowOf at hc
  simp only [ho, if_true] at hc
  split at hc
  ·exact ⟨by assumption, hc⟩
  ·cases hc
 refine ⟨fun j hj hjn => ?_, fun j hj hjn hk3 c hc => ?_, fun j hj hjn hk2 c hc => ?_, fun j k hj hjk hkn hs c hc => ?_⟩
 ·by_cases hji : j = i
  ·subst hji
   refine ⟨o, ho, hk, ?_, ?_, ?_⟩
   ·simpa [preOf] using h1
   ·simpa using h2
   ·simpa using h3
  ·obtain ⟨o', h5, h6⟩ := ht.step j (by omega) hjn
   have e1 := hne j (by omega)
   have e2 := hne (j + 1) (by omega)
   refine ⟨o', h5, h6.kd, ?_, ?_, ?_⟩
   ·have := h6.one
    simp only [preOf, e1.1, e1.2.1, e1.2.2, e2.1] at this ⊢
    exact this
   ·simp only [e1.2.1, e1.2.2, e2.2.1]; exact h6.next
   ·simp only [e1.2.1, e1.2.2]; exact h6.low
 ·by_cases hji : j = i
  ·subst hji
   obtain ⟨hw, hr⟩ := hrow0 c hc
   exact ((h4 c hw hr).1 hk3).1
  ·rw [hrow j (by omega)] at hc
   have := ht.store j (by omega) hjn hk3 c hc
   simp only [List.mem_append, not_or] at this ⊢
   exact ⟨fun h => this.1 (hrd c h), fun h => this.2 (hwr c h)⟩
 ·by_cases hji : j = i
  ·subst hji
   obtain ⟨hw, hr⟩ := hrow0 c hc
   exact ((h4 c hw hr).2 hk2).1
  ·rw [hrow j (by omega)] at hc
   exact fun h => ht.load j (by omega) hjn hk2 c hc (hwr c h)
 ·have hck : rowOf ops (fun j => if j = i then f else F j) (fun j => if j = i then s else S j) k = rowOf ops F S k := hrow k (by omega)
  rw [hck]
  by_cases hji : j = i
  ·subst hji
   obtain ⟨hw, hr⟩ := hrow0 c hc
   intro hck'
   rcases hs with ⟨h5, h6⟩ | ⟨h5, h6⟩
   ·have hm := ((h4 c hw hr).1 h5).2
    rcases h6 with h6 | h6
    ·exact ht.load k (by omega) hkn h6 c hck' hm
    ·exact ht.store k (by omega) hkn h6 c hck' (by simp [hm])
   ·have hm := ((h4 c hw hr).2 h5).2
    exact ht.store k (by omega) hkn h6 c hck' (by simp [hm])
  ·rw [hrow j (by omega)] at hc
   exact ht.pair j k (by omega) hjk hkn hs c hc
theorem softO_inv {o : Oper} {f f' : Fr} {s s' : St} {bad : List Nat} {c : Option Nat} (h : softO E ops o f s bad = some (c, f', s')) :
  oneO E ops o f s = some (f', s') ∧ ∀ c', wantO f ops o = true → rowAt (ev f s.gl) o.op = some c' → c = some c' ∧ c' ∉ bad := by
 unfold softO at h
 cases hw : wantO f ops o with
 | false =>
  simp only [hw] at h
  split at h
  ·rename_i f1 hp
   simp only [Option.some.injEq, Prod.mk.injEq] at h
   obtain ⟨_, rfl, rfl⟩ := h
   refine ⟨by simp [oneO, hw, hp], fun c' h0 => by cases h0⟩
  ·cases h
 | true =>
  simp only [hw] at h
  cases hr : rowAt (ev f s.gl) o.op with
  | none => simp [hr] at h
  | some c0 =>
   simp only [hr] at h
   cases hm : memb c0 bad with
   | true => simp [hm] at h
   | false =>
    simp only [hm] at h
    split at h
    ·rename_i f1 s1 h1
     simp only [Option.some.injEq, Prod.mk.injEq] at h
     obtain ⟨rfl, rfl, rfl⟩ := h
     refine ⟨h1, fun c' _ hc => ?_⟩
     injection hc with hc
     subst hc
     exact ⟨rfl, memb_mem hm⟩
    ·cases h
theorem draw_trace : ∀ (l : List Oper) (i : Nat) (rd wr : List Nat) (f f' : Fr) (s s' : St), ops.toList.drop i = l → drawO E ops kind i l rd wr f s = some (f', s') →
  ∃ (F : Nat → Fr) (S Y : Nat → St), F i = f ∧ S i = s ∧ F (i + l.length) = f' ∧ S (i + l.length) = s' ∧ Trace E ops kind i (i + l.length) rd wr F S Y
 | [], i, rd, wr, f, f', s, s', hl, h => by
  simp only [drawO, Option.some.injEq, Prod.mk.injEq] at h
  obtain ⟨rfl, rfl⟩ := h
  exact ⟨fun _ => f, fun _ => s, fun _ => s, rfl, rfl, rfl, rfl, ⟨fun j h1 h2 => by simp at h2; omega, fun j h1 h2 => by simp at h2; omega, fun j h1 h2 => by simp at h2; omega, fun j k h1 h2 h3 => by simp at h3; omega⟩⟩
 | o :: l, i, rd, wr, f, f', s, s', hl, h => by
  have ho : ops[i]? = some o := by
   have : (ops.toList.drop i)[0]? = some o := by rw [hl]; rfl
   rw [List.getElem?_drop] at this
   simpa using this
  have hl' : ops.toList.drop (i + 1) = l := by rw [← List.drop_drop, hl]; rfl
  have hlen : i + (o :: l).length = i + 1 + l.length := by simp; omega
  have key : ∀ (rd' wr' : List Nat) (f1 : Fr) (s1 y : St), drawO E ops kind (i + 1) l rd' wr' f1 s1 = some (f', s') → (∀ c ∈ rd, c ∈ rd') → (∀ c ∈ wr, c ∈ wr') →
    (kind i = 0 ∨ kind i = 1 ∨ kind i = 2 ∨ kind i = 3 ∨ kind i = 5) → oneO E ops o f (if kind i = 1 then { s with low := s.nx } else s) = some (f1, y) →
    s1 = (if kind i = 1 then { y with low := s.low } else y) → (kind i = 1 → s.nx ≤ y.low) →
    (∀ c, wantO f ops o = true → rowAt (ev f s.gl) o.op = some c → (kind i = 3 → c ∉ rd ++ wr ∧ c ∈ wr') ∧ (kind i = 2 → c ∉ wr ∧ c ∈ rd')) →
    ∃ (F : Nat → Fr) (S Y : Nat → St), F i = f ∧ S i = s ∧ F (i + (o :: l).length) = f' ∧ S (i + (o :: l).length) = s' ∧ Trace E ops kind i (i + (o :: l).length) rd wr F S Y := by
   intro rd' wr' f1 s1 y h1 hrd hwr hk h2 h3 h4 h5
   obtain ⟨F, S, Y, e1, e2, e3, e4, ht⟩ := draw_trace l (i + 1) rd' wr' f1 f' s1 s' hl' h1
   rw [hlen]
   obtain ⟨F', S', Y', g1, g2, g3, g4⟩ := Trace.cons (i := i) (n := i + 1 + l.length) (f := f) (s := s) (y := y) (by omega) ho ht hrd hwr hk (by rw [e1]; exact h2) (by rw [e2]; exact h3) h4 h5
   have := g3 (i + 1 + l.length) (by omega)
   exact ⟨F', S', Y', g1, g2, this.1.trans e3, this.2.trans e4, g4⟩
  simp only [drawO] at h
  split at h
  ·rename_i hk
   split at h
   ·rename_i f1 s1 h1
    exact key rd wr f1 s1 s1 h (fun _ h => h) (fun _ h => h) (.inl hk) (by simpa [hk] using h1) (by simp [hk]) (by simp [hk]) (by simp [hk])
   ·cases h
  ·rename_i hk
   split at h
   ·rename_i f1 s1 h1
    split at h
    ·rename_i hb
     exact key rd wr f1 _ s1 h (fun _ h => h) (fun _ h => h) (.inr (.inl hk)) (by simpa [hk] using h1) (by simp [hk]) (fun _ => ble_iff.1 hb) (by simp [hk])
    ·cases h
   ·cases h
  ·rename_i hk
   split at h
   ·rename_i c f1 s1 h1
    obtain ⟨h2, h3⟩ := softO_inv h1
    refine key _ _ f1 s1 s1 h ?_ (fun _ h => h) (.inr (.inr (.inl hk))) (by simpa [hk] using h2) (by simp [hk]) (by simp [hk]) ?_
    ·intro c' hc'; cases c <;> simp [consO, hc']
    ·intro c' hw hr
     obtain ⟨rfl, h4⟩ := h3 c' hw hr
     exact ⟨by simp [hk], fun _ => ⟨h4, by simp [consO]⟩⟩
   ·cases h
  ·rename_i hk
   split at h
   ·rename_i c f1 s1 h1
    obtain ⟨h2, h3⟩ := softO_inv h1
    refine key _ _ f1 s1 s1 h (fun _ h => h) ?_ (.inr (.inr (.inr (.inl hk)))) (by simpa [hk] using h2) (by simp [hk]) (by simp [hk]) ?_
    ·intro c' hc'; cases c <;> simp [consO, hc']
    ·intro c' hw hr
     obtain ⟨rfl, h4⟩ := h3 c' hw hr
     exact ⟨fun _ => ⟨h4, by simp [consO]⟩, by simp [hk]⟩
   ·cases h
  ·rename_i hk
   split at h
   ·rename_i f1 s1 h1
    exact key rd wr f1 s1 s1 h (fun _ h => h) (fun _ h => h) (.inr (.inr (.inr (.inr hk)))) (by simpa [hk] using h1) (by simp [hk]) (by simp [hk]) (by simp [hk])
   ·cases h
  ·cases h
end
/-! the run in the order of the text, as the model has it -/
section
variable {base : Nat} {μ : Mp} {w : World} {s s' : St} {a : Act} {E : Env} {o : Oper} {f f' : Fr} {ops : Array Oper}
theorem wp_some {P : Program} {K : Act → World → Prop} (h : o.wp P a w K (fun _ _ _ => False)) : ∃ a' w', K a' w' := by
 unfold Oper.wp at h
 generalize (execOp a.eval o).run P w = r at h
 cases r with
 | ok n w' =>
  cases n <;> simp only [Oper.upon] at h
  case value => exact ⟨_, _, h⟩
  case skip => exact ⟨_, _, h⟩
  case defer => exact ⟨_, _, h⟩
  case enter f args =>
   obtain ⟨e, w2, _, hr, _⟩ := h []
   cases e with
   | returned v => exact ⟨_, _, hr⟩
   | panicked _ => exact hr.elim
   | outgrown => obtain ⟨_, _, hr⟩ := hr; exact hr.elim
  case row row args =>
   obtain ⟨v, w2, hr, _⟩ := h (Frame.enter P 0 #[] .normal) []
   exact ⟨_, _, hr⟩
  all_goals exact h.elim
 | halt x w' => cases x <;> simp only [Oper.upon] at h
theorem wpOp_some {P : Program} {i : Nat} {K : Act → World → Prop} (h : wpOp P ops (fun _ _ _ => False) i K a w) : ∃ a' w', K a' w' := by
 unfold wpOp at h
 split at h
 ·exact ⟨_, _, h⟩
 ·split at h
  ·rcases h with h | ⟨_, h⟩
   ·exact wp_some h
   ·obtain ⟨_, _, hr⟩ := h; exact hr.elim
  ·exact ⟨_, _, h⟩
theorem op_step (hE : EnvOk E base) (hi : Inv base μ s w) {ρ : Operand → Option AV} (hr : RhoOk μ ρ a) {op : Op} {v : AV} (h : opO E ρ s op = some (v, s')) :
  ∃ μ' w' v', Stp base μ μ' s s' w w' ∧ VR μ' v v' := by
 obtain ⟨a', w', μ', v', h1, h2⟩ := wp_some (o := { (default : Oper) with op := op }) (K := fun a' w' => ∃ μ' v', Stp base μ μ' s s' w w' ∧ VR μ' v v') (op_sound hE hi hr (o := { (default : Oper) with op := op }) h _ _ fun v' w' μ' h1 h2 => ⟨μ', v', h2, h1⟩)
 exact ⟨μ', w', v', h1, h2⟩
theorem one_step (hE : EnvOk E base) (hi : Inv base μ s w) (ht : TmRel μ f a) {i : Nat} (ho : ops[i]? = some o) (h : oneO E ops o f s = some (f', s')) :
  ∃ μ' w' a', Stp base μ μ' s s' w w' ∧ TmRel μ' f' a' := by
 obtain ⟨a', w', μ', h1, h2⟩ := wpOp_some (K := fun a' w' => ∃ μ', Stp base μ μ' s s' w w' ∧ TmRel μ' f' a') (one_sound hE hi ht h ho _ _ fun μ' w' v' h1 h2 => ⟨μ', h1, h2⟩)
 exact ⟨μ', w', a', h1, h2⟩
end
end Go.AM
/-
  For regions that draw their order: steps of memory seen from a wider memory.
-/
namespace Go.AM
open Go Go.RowKit Go.Lib
section
variable {base : Nat} {μ μ' μ2 : Mp} {w w' : World} {s s' si si' : St}
theorem Stp.lower (h : Stp base μ μ' s s' w w') {low : Nat} (hl : low ≤ s'.low) : Stp base μ μ' s { s' with low := low } w w' :=
 ⟨h.ext, h.rel, h.dom, fun b g blk n hm => by
   rcases h.new b g blk n hm with h1 | h1 | ⟨h1, h2⟩
   ·exact .inl h1
   ·exact .inr (.inl h1)
   ·exact .inr (.inr ⟨Nat.le_trans hl h1, h2⟩), h.nx, h.gl, Nat.le_trans hl h.low, fun b hb hb' => h.same b hb (Nat.lt_of_lt_of_le hb' hl), fun blk hb => by
   rcases h.fr blk hb with h1 | ⟨b, g, n, h1, h2, h3⟩
   ·exact .inl h1
   ·exact .inr ⟨b, g, n, h1, Nat.le_trans hl h2, h3⟩, h.size, h.os, h.tape, h.output, h.wf⟩
theorem Stp.raise (h : Stp base μ μ' s s' w w') {low low' : Nat} (hl : low' ≤ low) (hl' : low' ≤ s'.low) : Stp base μ μ' { s with low := low } { s' with low := low' } w w' :=
 let k := h.lower hl'
 ⟨k.ext, k.rel, k.dom, k.new, k.nx, k.gl, hl, k.same, k.fr, k.size, k.os, k.tape, k.output, k.wf⟩
theorem Rel.own_of_base {h : T Row} (hr : Rel base μ h w) {b g blk n : Nat} (hm : μ b g = some (blk, n)) (hb : base ≤ blk) : ∃ r, h.get b = some r ∧ r.own = true := by
 obtain ⟨r, h1, h2⟩ := hr.row b g blk n hm
 refine ⟨r, h1, ?_⟩
 have := h2.own
 cases ho : r.own with
 | true => rfl
 | false => simp [ho] at this; omega
theorem Rel.base_of_own {h : T Row} (hr : Rel base μ h w) {b g blk n : Nat} {r : Row} (hm : μ b g = some (blk, n)) (hg : h.get b = some r) (ho : r.own = true) : base ≤ blk := by
 obtain ⟨r', h1, h2⟩ := hr.row b g blk n hm
 rw [hg] at h1
 injection h1 with h1
 subst h1
 simpa [ho] using h2.own
theorem Rel.sep' {h : T Row} (hr : Rel base μ h w) {b g blk n b' g' n' : Nat} (hm : μ b g = some (blk, n)) (hm' : μ b' g' = some (blk, n')) (hb : base ≤ blk) : b = b' := by
 obtain ⟨r, h1, h2⟩ := hr.own_of_base hm hb
 exact hr.sep _ _ _ _ _ _ _ _ hm hm' h1 h2
def Mp.join (μ2 μ : Mp) (N : Nat) : Mp := fun b g => if b < N then μ2 b g else μ b g
theorem Stp.widen {t t' : T Row} {N low : Nat} (hi : Inv base μ { si with hp := t, nx := N, low := low } w)
  (hx : ∀ b g x, μ b g = some x → b < si.nx ∨ si'.nx ≤ b) (hst : Stp base (μ.lt si.nx) μ2 si si' w w') (hN : si'.nx ≤ N) (hlow : low ≤ si'.low) (hlx : low ≤ si.nx)
  (hsame : ∀ b, b < low → si'.hp.get b = t.get b) (ht1 : ∀ b, b < si'.nx → t'.get b = si'.hp.get b) (ht2 : ∀ b, si'.nx ≤ b → b < N → t'.get b = t.get b) (ht3 : ∀ b, N ≤ b → t'.get b = none) :
  Ext μ2 (μ2.join μ si'.nx) ∧ Stp base μ (μ2.join μ si'.nx) { si with hp := t, nx := N, low := low } { si with hp := t', nx := N, low := low } w w' ∧
   ∀ b g x, μ2.join μ si'.nx b g = some x → (∃ x', μ b g = some x') ∨ (si.nx ≤ b ∧ b < si'.nx) ∨ (si'.low ≤ b ∧ b < si.nx) := by
 have hnx := hst.nx
 have hlt : ∀ b g x, b < si'.nx → (μ2.join μ si'.nx b g = some x ↔ μ2 b g = some x) := fun b g x hb => by simp [Mp.join, hb]
 have hge : ∀ b g x, si'.nx ≤ b → (μ2.join μ si'.nx b g = some x ↔ μ b g = some x) := fun b g x hb => by
  have : ¬ b < si'.nx := by omega
  simp [Mp.join, this]
 have he2 : Ext μ2 (μ2.join μ si'.nx) := fun b g x hm => (hlt b g x (hst.dom b g x hm)).2 hm
 have he : Ext μ (μ2.join μ si'.nx) := fun b g x hm => by
  rcases hx b g x hm with hb | hb
  ·exact (hlt b g x (by omega)).2 (hst.ext _ _ _ (Mp.lt_some.2 ⟨hb, hm⟩))
  ·exact (hge b g x hb).2 hm
 -- blocks that the wide memory alone knows are not touched
 have hfar : ∀ b g blk n, si'.nx ≤ b → μ b g = some (blk, n) → w'.heap[blk]? = w.heap[blk]? := fun b g blk n hb hm => by
  rcases hst.fr blk (hi.rel.lt hm) with h | ⟨b0, g0, n0, h1, h2, h3⟩
  ·exact h
  ·obtain ⟨h4, h5⟩ := Mp.lt_some.1 h1
   have := hi.rel.sep' hm h5 h3
   omega
 have hapart : ∀ b g blk n b' g' n', μ2 b g = some (blk, n) → si'.nx ≤ b' → μ b' g' = some (blk, n') → base ≤ blk → b = b' := fun b g blk n b' g' n' hm hb' hm' hb => by
  have hs := hi.rel.lt hm'
  rcases hst.new b g blk n hm with h | ⟨_, h⟩ | ⟨_, h, h0 | ⟨g0, h0⟩⟩
  ·exact hi.rel.sep' (Mp.lt_some.1 h).2 hm' hb
  ·omega
  ·omega
  ·exact hi.rel.sep' (Mp.lt_some.1 h0).2 hm' hb
 have hwf : WF t' N := fun b r hg x hx => by
  by_cases hb : b < si'.nx
  ·exact okC.mono hN (hst.wf b r ((ht1 b hb).symm.trans hg) x hx)
  ·by_cases hbN : b < N
   ·exact hi.wf b r ((ht2 b (by omega) hbN).symm.trans hg) x hx
   ·rw [ht3 b (by omega)] at hg; cases hg
 refine ⟨he2, ⟨he, ⟨?_, ?_⟩, ?_, ?_, Nat.le_refl _, rfl, Nat.le_refl _, ?_, ?_, hst.size, hst.os, hst.tape, hst.output, hwf⟩, ?_⟩
 ·intro b g blk n hm
  by_cases hb : b < si'.nx
  ·have hm := (hlt b g _ hb).1 hm
   obtain ⟨r, h1, h2⟩ := hst.rel.row b g blk n hm
   exact ⟨r, (ht1 b hb).trans h1, h2.mono he2 rfl⟩
  ·have hb : si'.nx ≤ b := by omega
   have hm := (hge b g _ hb).1 hm
   obtain ⟨r, h1, h2⟩ := hi.rel.row b g blk n hm
   exact ⟨r, (ht2 b hb (hi.dom b g _ hm)).trans h1, h2.mono he (hfar b g blk n hb hm)⟩
 ·intro b g blk n b' g' n' r hm hm' hg ho
  by_cases hb : b < si'.nx
  ·have hm := (hlt b g _ hb).1 hm
   have hg : si'.hp.get b = some r := (ht1 b hb).symm.trans hg
   have hbase := hst.rel.base_of_own hm hg ho
   by_cases hb' : b' < si'.nx
   ·exact hst.rel.sep _ _ _ _ _ _ _ _ hm ((hlt b' g' _ hb').1 hm') hg ho
   ·exact hapart _ _ _ _ _ _ _ hm (by omega) ((hge b' g' _ (by omega)).1 hm') hbase
  ·have hm := (hge b g _ (by omega)).1 hm
   have hg : t.get b = some r := (ht2 b (by omega) (hi.dom b g _ hm)).symm.trans hg
   have hbase := hi.rel.base_of_own hm hg ho
   by_cases hb' : b' < si'.nx
   ·exact (hapart _ _ _ _ _ _ _ ((hlt b' g' _ hb').1 hm') (by omega) hm hbase).symm
   ·exact hi.rel.sep _ _ _ _ _ _ _ _ hm ((hge b' g' _ (by omega)).1 hm') hg ho
 ·intro b g x hm
  show b < N
  by_cases hb : b < si'.nx
  ·omega
  ·exact hi.dom b g x ((hge b g _ (by omega)).1 hm)
 ·intro b g blk n hm
  by_cases hb : b < si'.nx
  ·have hm := (hlt b g _ hb).1 hm
   rcases hst.new b g blk n hm with h | ⟨h1, h2⟩ | ⟨h1, h2, h3⟩
   ·exact .inl (Mp.lt_some.1 h).2
   ·exact .inr (.inr ⟨show low ≤ b by omega, show b < N by omega, .inl h2⟩)
   ·refine .inr (.inr ⟨show low ≤ b by omega, show b < N by omega, ?_⟩)
    rcases h3 with h3 | ⟨g0, h3⟩
    ·exact .inl h3
    ·exact .inr ⟨g0, (Mp.lt_some.1 h3).2⟩
  ·exact .inl ((hge b g _ (by omega)).1 hm)
 ·intro b hb hbl
  show t'.get b = t.get b
  have hbl : b < low := hbl
  rw [ht1 b (by omega)]
  exact hsame b hbl
 ·intro blk hb
  rcases hst.fr blk hb with h | ⟨b, g, n, h1, h2, h3⟩
  ·exact .inl h
  ·exact .inr ⟨b, g, n, (Mp.lt_some.1 h1).2, show low ≤ b by omega, h3⟩
 ·intro b g x hm
  obtain ⟨blk, n⟩ := x
  by_cases hb : b < si'.nx
  ·have hm := (hlt b g _ hb).1 hm
   rcases hst.new b g blk n hm with h | ⟨h1, h2⟩ | ⟨h1, h2, h3⟩
   ·exact .inl ⟨_, (Mp.lt_some.1 h).2⟩
   ·exact .inr (.inl ⟨h1, hb⟩)
   ·exact .inr (.inr ⟨h1, h2⟩)
  ·exact .inl ⟨_, (hge b g _ (by omega)).1 hm⟩
theorem Stp.rename {r : Row} {m : Nat} {low : Nat} (hi : Inv base μ { s with low := low } w)
  (hst : Stp base μ μ2 { s with low := s.nx } { s with hp := T.set r s.hp s.nx, nx := s.nx + 1, low := s.nx } w w')
  (hm : m < s.nx) (hfree : ∀ g, μ m g = none) (hlow : low ≤ m) {μ1 : Mp} (hs : Small μ1 s.nx) {vs : List Value} (hcells : LR (CR μ1) r.cells vs) :
  ∃ μn : Mp, (∀ g, μn m g = μ2 s.nx g) ∧ (∀ b g x, b ≠ m → μn b g = some x → μ b g = some x) ∧ Stp base μ μn { s with low := low } { s with hp := T.set r s.hp m, low := low } w w' := by
 have hnew : ∀ b g blk n, μ2 b g = some (blk, n) → μ b g = some (blk, n) ∨ (b = s.nx ∧ w.heap.size ≤ blk) := fun b g blk n h => by
  have hd : b < s.nx + 1 := hst.dom _ _ _ h
  rcases hst.new b g blk n h with h | ⟨h1, h2⟩ | ⟨h1, h2, _⟩
  ·exact .inl h
  ·have h1 : s.nx ≤ b := h1
   exact .inr ⟨by omega, h2⟩
  ·have h1 : s.nx ≤ b := h1
   have h2 : b < s.nx := h2
   omega
 have hdom : ∀ b g x, μ b g = some x → b < s.nx ∧ b ≠ m := fun b g x h => ⟨hi.dom b g x h, fun e => by subst e; rw [hfree] at h; cases h⟩
 generalize hμ : (fun b g => if b = m then μ2 s.nx g else if b = s.nx then none else μ2 b g : Mp) = μn
 have e1 : ∀ g, μn m g = μ2 s.nx g := fun g => by rw [← hμ]; simp
 have e2 : ∀ b g x, b ≠ m → μn b g = some x → μ b g = some x := fun b g x hb h => by
  rw [← hμ] at h
  simp only [hb, if_false] at h
  by_cases hbn : b = s.nx
  ·simp [hbn] at h
  ·simp only [hbn, if_false] at h
   rcases hnew b g x.1 x.2 h with h | ⟨h, _⟩
   ·exact h
   ·exact absurd h hbn
 have he : Ext μ μn := fun b g x h => by
  obtain ⟨h1, h2⟩ := hdom b g x h
  rw [← hμ]
  have : b ≠ s.nx := by omega
  simp only [h2, this, if_false]
  exact hst.ext _ _ _ h
 have heq : Ext (μ2.lt s.nx) μn := fun b g x h => by
  obtain ⟨h1, h2⟩ := Mp.lt_some.1 h
  rcases hnew b g x.1 x.2 h2 with h | ⟨h, _⟩
  ·exact he _ _ _ h
  ·omega
 have hblk : ∀ blk, blk < w.heap.size → w'.heap[blk]? = w.heap[blk]? := fun blk hb => by
  rcases hst.fr blk hb with h | ⟨b, g, n, h1, h2, _⟩
  ·exact h
  ·have := (hdom _ _ _ h1).1
   have h2 : s.nx ≤ b := h2
   omega
 have hrow : ∀ g blk n, μ2 s.nx g = some (blk, n) → RowOk base μn w' r g blk n ∧ w.heap.size ≤ blk := fun g blk n h => by
  obtain ⟨r', h1, h2⟩ := hst.rel.row _ _ _ _ h
  have h1 : (T.set r s.hp s.nx).get s.nx = some r' := h1
  rw [T.get_set_same] at h1
  injection h1 with h1
  subst h1
  refine ⟨?_, ?_⟩
  ·obtain ⟨k1, k2, ⟨cs, fz, k3, k4, k5, k6⟩, k7, k8, k9⟩ := h2
   refine ⟨k1, k2, ⟨cs, fz, k3, k4, fun q hq => ⟨(k5 q hq).1, (k5 q hq).2.1, ?_⟩, k6⟩, k7, k8, k9⟩
   exact (LR.lt (R1 := CR μ1) (R := CR μ2) (R' := CR (μ2.lt s.nx)) (fun _ _ _ q1 q2 => CR.lt hs q1 q2) (hcells.take q) (k5 q hq).2.2).mono fun _ _ => CR.mono heq
  ·rcases hnew _ _ _ _ h with h | ⟨_, h⟩
   ·have := (hdom _ _ _ h).1; omega
   ·exact h
 refine ⟨μn, e1, e2, he, ⟨?_, ?_⟩, ?_, ?_, Nat.le_refl _, rfl, Nat.le_refl _, ?_, fun blk hb => .inl (hblk blk hb), hst.size, hst.os, hst.tape, hst.output, hi.wf.set (r := r) (fun x hx => hcells.ok hs x hx) m⟩
 ·intro b g blk n h
  by_cases hb : b = m
  ·subst hb
   rw [e1] at h
   exact ⟨r, T.get_set_same _ _ _, (hrow g blk n h).1⟩
  ·have h := e2 b g _ hb h
   obtain ⟨r', h1, h2⟩ := hi.rel.row b g blk n h
   refine ⟨r', ?_, h2.mono he (hblk _ (hi.rel.lt h))⟩
   show (T.set r s.hp m).get b = _
   rw [T.get_set_ne _ _ hb]
   exact h1
 ·intro b g blk n b' g' n' r' h h' hg ho
  by_cases hb : b = m
  ·by_cases hb' : b' = m
   ·rw [hb, hb']
   ·subst hb
    rw [e1] at h
    have := (hrow g blk n h).2
    have := hi.rel.lt (e2 b' g' _ hb' h')
    omega
  ·have h := e2 b g _ hb h
   by_cases hb' : b' = m
   ·subst hb'
    rw [e1] at h'
    have := (hrow g' blk n' h').2
    have := hi.rel.lt h
    omega
   ·have h' := e2 b' g' _ hb' h'
    have hg : (T.set r s.hp m).get b = some r' := hg
    rw [T.get_set_ne _ _ hb] at hg
    exact hi.rel.sep _ _ _ _ _ _ _ _ h h' hg ho
 ·intro b g x h
  show b < s.nx
  by_cases hb : b = m
  ·omega
  ·exact (hdom _ _ _ (e2 b g x hb h)).1
 ·intro b g blk n h
  by_cases hb : b = m
  ·subst hb
   rw [e1] at h
   exact .inr (.inr ⟨hlow, hm, .inl (hrow g blk n h).2⟩)
  ·exact .inl (e2 b g _ hb h)
 ·intro b _ hb
  show (T.set r s.hp m).get b = s.hp.get b
  have hb : b < low := hb
  rw [T.get_set_ne _ _ (by omega)]
end
end Go.AM
/-
  Regions that draw their order: what is ordered, what changes, and what every order keeps.
-/
namespace Go.AM
open Go Go.RowKit Go.Lib
section
variable {ops : Array Oper} {E : Env}
theorem ordered_comm (i j : Nat) : ordered ops i j = ordered ops j i := by
 unfold ordered
 rw [Nat.max_comm, Nat.min_comm]
theorem ok_at (hok : okRegion ops = true) {j : Nat} {oj : Oper} (hj : ops[j]? = some oj) :
  (∀ e ∈ oj.after, Region.binds .any e = true → e.on < j) ∧
  ∀ i oi, i < j → ops[i]? = some oi → (ordered ops i j = true → ∃ e ∈ oj.after, Region.binds .any e = true ∧ (e.on = i ∨ (i < e.on ∧ ordered ops i e.on = true))) ∧ (ordered ops i j = false → oi.apart ops oj = true) := by
 unfold okRegion at hok
 have hlt : j < ops.size := (Array.getElem?_eq_some_iff.1 hj).1
 have h := (List.all_eq_true.1 hok) j (List.mem_range.2 hlt)
 simp only [hj, Bool.and_eq_true] at h
 obtain ⟨h1, _, h2⟩ := h
 refine ⟨fun e he hb => ?_, fun i oi hij hi => ?_⟩
 ·have := (Array.all_eq_true_iff_forall_mem.1 h1) e he
  simpa [hb] using this
 ·have := (List.all_eq_true.1 h2) i (List.mem_range.2 hij)
  simp only [hi] at this
  refine ⟨fun ho => ?_, fun ho => ?_⟩
  ·rw [ho] at this
   simp only [Array.any_eq_true'] at this
   obtain ⟨e, he, hp⟩ := this
   refine ⟨e, he, ?_⟩
   simp only [Bool.and_eq_true, Bool.or_eq_true] at hp
   refine ⟨hp.1, ?_⟩
   rcases hp.2 with h | ⟨h, h'⟩
   ·exact .inl (Nat.eq_of_beq_eq_true h)
   ·exact .inr ⟨by simpa using h, h'⟩
  ·rw [ho] at this
   exact this
def In (l : Array Bool) (j : Nat) : Prop := l.getD j false = true
def Closed (ops : Array Oper) (l : Array Bool) : Prop := ∀ (j : Nat) (o : Oper), In l j → ops[j]? = some o → ∀ e ∈ o.after, Region.binds .any e = true → In l e.on
theorem ord_closed (hok : okRegion ops = true) {l : Array Bool} (hc : Closed ops l) : ∀ (n j : Nat) (o : Oper), j < n → ops[j]? = some o → In l j → ∀ i, i < j → ordered ops i j = true → In l i
 | 0, _, _, h, _, _, _, _, _ => by omega
 | n + 1, j, o, hjn, ho, hj, i, hij, hord => by
  have hjs : j < ops.size := (Array.getElem?_eq_some_iff.1 ho).1
  obtain ⟨oi, hoi⟩ : ∃ oi, ops[i]? = some oi := ⟨ops[i], Array.getElem?_eq_getElem (by omega)⟩
  obtain ⟨e, he, hb, h⟩ := ((ok_at hok ho).2 i oi hij hoi).1 hord
  have hlt := (ok_at hok ho).1 e he hb
  have hin := hc j o hj ho e he hb
  rcases h with h | ⟨h1, h2⟩
  ·rw [← h]; exact hin
  ·obtain ⟨oe, hoe⟩ : ∃ oe, ops[e.on]? = some oe := ⟨ops[e.on], Array.getElem?_eq_getElem (by omega)⟩
   exact ord_closed hok hc n e.on oe (by omega) hoe hin i h1 h2
theorem ready_order (hok : okRegion ops = true) {l : Array Bool} (hc : Closed ops l) {i : Nat} (hi : i ∈ Region.ready .any ops l) {j : Nat} {oj : Oper} (hoj : ops[j]? = some oj) (hne : j ≠ i) (hord : ordered ops i j = true) : j < i ↔ In l j := by
 obtain ⟨h0, o, ho, hall⟩ := mem_ready.1 hi
 have hnot : ¬ In l i := by
  intro h
  unfold In at h
  cases hg : l[i]? with
  | none => simp [hg] at h
  | some b => simp [hg] at h h0; rw [h] at h0; cases h0
 have hi' : i < ops.size := (Array.getElem?_eq_some_iff.1 ho).1
 constructor
 ·intro hji
  rw [ordered_comm] at hord
  obtain ⟨e, he, hb, h⟩ := ((ok_at hok ho).2 j oj hji hoj).1 hord
  have hin : In l e.on := hall e he hb
  have hlt := (ok_at hok ho).1 e he hb
  rcases h with h | ⟨h1, h2⟩
  ·rw [← h]; exact hin
  ·obtain ⟨oe, hoe⟩ : ∃ oe, ops[e.on]? = some oe := ⟨ops[e.on], Array.getElem?_eq_getElem (by omega)⟩
   exact ord_closed hok hc _ e.on oe (Nat.lt_succ_self _) hoe hin j h1 h2
 ·intro hin
  rcases Nat.lt_or_ge j i with h | h
  ·exact h
  ·exact absurd (ord_closed hok hc _ j oj (Nat.lt_succ_self _) hoj hin i (by omega) hord) hnot
theorem ready_not {l : Array Bool} {i : Nat} (hi : i ∈ Region.ready .any ops l) : ¬ In l i := by
 obtain ⟨h0, o, ho, hall⟩ := mem_ready.1 hi
 intro h
 unfold In at h
 cases hg : l[i]? with
 | none => simp [hg] at h
 | some b => simp [hg] at h h0; rw [h] at h0; cases h0
theorem in_set {l : Array Bool} {i j : Nat} (hi : i < l.size) : In (l.setIfInBounds i true) j ↔ In l j ∨ j = i := by
 unfold In
 by_cases hji : j = i
 ·subst hji; simp [hi]
 ·rw [getD_set_ne false (fun h => hji h.symm)]
  simp [hji]
theorem closed_set {l : Array Bool} (hc : Closed ops l) {i : Nat} (hi : i ∈ Region.ready .any ops l) (hs : i < l.size) : Closed ops (l.setIfInBounds i true) := by
 intro j o hj ho e he hb
 rw [in_set hs] at hj ⊢
 rcases hj with hj | rfl
 ·exact .inl (hc j o hj ho e he hb)
 ·obtain ⟨_, o', ho', hall⟩ := mem_ready.1 hi
  rw [ho] at ho'
  injection ho' with ho'
  subst ho'
  exact .inl (hall e he hb)
theorem all_listed (hok : okRegion ops = true) {l : Array Bool} (hs : l.size = ops.size) (h : Region.ready .any ops l = []) : ∀ n i, i < n → i < ops.size → In l i
 | 0, _, h, _ => by omega
 | n + 1, i, hin, hi => by
  have ih : ∀ j, j < i → In l j := fun j hj => all_listed hok hs h n j (by omega) (by omega)
  refine Classical.byContradiction fun hn => ?_
  have ho : ops[i]? = some ops[i] := Array.getElem?_eq_getElem hi
  have : i ∈ Region.ready .any ops l := mem_ready.2 ⟨by
    have hl : i < l.size := by omega
    unfold In at hn
    simp [hl] at hn ⊢
    exact hn, _, ho, fun e he hb => ih e.on ((ok_at hok ho).1 e he hb)⟩
  rw [h] at this
  cases this
/-! kinds -/
theorem meets_false {i : Nat} {p : Op → Bool} (h : meets ops i p = false) {j : Nat} {oj : Oper} (hj : ops[j]? = some oj) (hne : j ≠ i) (hp : isPure oj.op = false) (hpp : p oj.op = true) : ordered ops i j = true := by
 unfold meets at h
 have hlt : j < ops.size := (Array.getElem?_eq_some_iff.1 hj).1
 have := (List.any_eq_false.1 h) j (List.mem_range.2 hlt)
 simpa [hj, hne, hp, hpp] using this
theorem kind_spec {i : Nat} {o : Oper} (ho : ops[i]? = some o) :
  (kindOf ops i = 0 → isPure o.op = false → ∀ j oj, j ≠ i → ops[j]? = some oj → isPure oj.op = false → ordered ops i j = true) ∧
  (kindOf ops i = 1 → isPure o.op = false ∧ ∀ j oj, j ≠ i → ops[j]? = some oj → isStore oj.op = true → ordered ops i j = true) ∧
  (kindOf ops i = 2 → isLoad o.op = true) ∧ (kindOf ops i = 3 → isStore o.op = true) ∧ (kindOf ops i = 5 → isAlloc o.op = true) := by
 have hst : ∀ op : Op, isStore op = true → isPure op = false := fun op h => by cases op <;> first | rfl | (simp [isStore] at h; done)
 unfold kindOf
 simp only [ho]
 cases h1 : isPure o.op with
 | true => simp
 | false =>
  cases h2 : meets ops i (fun _ => true) with
  | false =>
   refine ⟨fun _ _ j oj hj hoj hp => meets_false h2 hoj hj hp rfl, ?_⟩
   simp
  | true =>
   cases h3 : isAlloc o.op with
   | true => simp
   | false =>
    cases h4 : isStore o.op with
    | true => cases h5 : meets ops i (fun x => !isLoad x && !isStore x && !isAlloc x) <;> simp
    | false =>
     cases h5 : meets ops i isStore with
     | true => cases h6 : isLoad o.op <;> simp
     | false =>
      simp
      intro j oj hj hoj hs
      exact meets_false h5 hoj hj (hst _ hs) hs
theorem not_pure_load {op : Op} (h : isLoad op = true) : isPure op = false := by cases op <;> first | rfl | (simp [isLoad] at h; done)
theorem not_pure_store {op : Op} (h : isStore op = true) : isPure op = false := by cases op <;> first | rfl | (simp [isStore] at h; done)
theorem not_pure_alloc {op : Op} (h : isAlloc op = true) : isPure op = false := by cases op <;> first | rfl | (simp [isAlloc] at h; done)
/-! temporaries -/
theorem put_get {f f' : Fr} {dst : Option Tmp} {v : AV} (h : put f dst v = some f') : f'.nt = f.nt ∧ (∀ d, dst = some d → d < f.nt) ∧ ∀ t, f'.tm.get t = if dst = some t then some v else f.tm.get t := by
 cases dst with
 | none => simp [put] at h; subst h; simp
 | some d =>
  simp only [put] at h
  split at h
  ·rename_i hd
   have hd : d < f.nt := by simpa using Nat.blt_eq.mp hd
   simp at h; subst h
   refine ⟨rfl, fun d' h => by injection h with h; subst h; exact hd, fun t => ?_⟩
   show (T.set v f.tm d).get t = _
   rw [T.get_set]
   by_cases ht : t = d
   ·subst ht; simp
   ·have : ¬ d = t := fun h => ht h.symm
    simp [ht, this]
  ·cases h
theorem put_of (f : Fr) {dst : Option Tmp} (v : AV) (h : ∀ d, dst = some d → d < f.nt) : ∃ f', put f dst v = some f' := by
 cases dst with
 | none => exact ⟨f, rfl⟩
 | some d =>
  have : Nat.blt d f.nt = true := by simpa [Nat.blt_eq] using h d rfl
  exact ⟨_, by simp only [put, this]; rfl⟩
theorem one_inv {o : Oper} {f f' : Fr} {s s' : St} (h : oneO E ops o f s = some (f', s')) :
  ∃ v, put f o.dst v = some f' ∧ ((wantO f ops o = true ∧ opO E (ev f s.gl) s o.op = some (v, s')) ∨ (wantO f ops o = false ∧ v = und ∧ s' = s)) := by
 unfold oneO at h
 cases hw : wantO f ops o with
 | true =>
  simp only [hw] at h
  split at h
  ·rename_i v s1 h1
   split at h
   ·rename_i f1 h2
    simp only [Option.some.injEq, Prod.mk.injEq] at h
    obtain ⟨rfl, rfl⟩ := h
    exact ⟨v, h2, .inl ⟨rfl, h1⟩⟩
   ·cases h
  ·cases h
 | false =>
  simp only [hw] at h
  split at h
  ·rename_i f1 h2
   simp only [Option.some.injEq, Prod.mk.injEq] at h
   obtain ⟨rfl, rfl⟩ := h
   exact ⟨und, h2, .inr ⟨rfl, rfl, rfl⟩⟩
  ·cases h
end
/-! the run in the order of the text -/
structure Txt (E : Env) (base : Nat) (ops : Array Oper) (F : Nat → Fr) (S Y : Nat → St) : Prop where
 env : EnvOk E base
 ok : okRegion ops = true
 tr : Trace E ops (kindOf ops) 0 ops.size [] [] F S Y
 start : ∃ μ w a, Inv base μ (S 0) w ∧ TmRel μ (F 0) a
section
variable {E : Env} {base : Nat} {ops : Array Oper} {F : Nat → Fr} {S Y : Nat → St}
def Chg (ops : Array Oper) (S : Nat → St) (j b : Nat) : Prop :=
 j < ops.size ∧ (((S j).nx ≤ b ∧ b < (S (j + 1)).nx) ∨ (b < (S j).nx ∧ (S (j + 1)).hp.get b ≠ (S j).hp.get b))
theorem Txt.chain (h : Txt E base ops F S Y) : ∀ i, i ≤ ops.size → ∃ μ w a, Inv base μ (S i) w ∧ TmRel μ (F i) a
 | 0, _ => h.start
 | i + 1, hi => by
  obtain ⟨μ, w, a, h1, h2⟩ := h.chain i (by omega)
  obtain ⟨o, ho, hs⟩ := h.tr.step i (by omega) (by omega)
  have hpre : Inv base μ (preOf (kindOf ops) S i) w := by
   unfold preOf
   split
   ·exact ⟨h1.rel, h1.dom, Nat.le_refl _, h1.size, h1.glob, h1.wf⟩
   ·exact h1
  obtain ⟨μ', w', a', h3, h4⟩ := one_step h.env hpre h2 ho hs.one
  refine ⟨μ', w', a', ?_, h4⟩
  have h5 := hpre.after h3
  rw [hs.next]
  split
  ·rename_i hk
   refine ⟨h5.rel, h5.dom, ?_, h5.size, h5.glob, h5.wf⟩
   show (S i).low ≤ (Y i).nx
   have := h3.nx
   simp [preOf, hk] at this
   exact Nat.le_trans h1.low this
  ·exact h5
structure TF (ops : Array Oper) (F : Nat → Fr) (S : Nat → St) (i : Nat) : Prop where
 nx : (S i).nx ≤ (S (i + 1)).nx
 gl : (S (i + 1)).gl = (S i).gl
 low : (S (i + 1)).low ≤ (S i).low
 lowx : (S i).low ≤ (S i).nx
 same : ∀ b, b < (S i).nx → b < (S (i + 1)).low → (S (i + 1)).hp.get b = (S i).hp.get b
 same1 : kindOf ops i = 1 → ∀ b, b < (S i).nx → (S (i + 1)).hp.get b = (S i).hp.get b
 nt : (F (i + 1)).nt = (F i).nt
theorem Txt.tf (h : Txt E base ops F S Y) {i : Nat} (hi : i < ops.size) : TF ops F S i := by
 obtain ⟨μ, w, a, h1, h2⟩ := h.chain i (by omega)
 obtain ⟨o, ho, hs⟩ := h.tr.step i (by omega) hi
 have hpre : Inv base μ (preOf (kindOf ops) S i) w := by
  unfold preOf
  split
  ·exact ⟨h1.rel, h1.dom, Nat.le_refl _, h1.size, h1.glob, h1.wf⟩
  ·exact h1
 obtain ⟨μ', w', a', h3, h4⟩ := one_step h.env hpre h2 ho hs.one
 obtain ⟨v, hp, _⟩ := one_inv hs.one
 have hnt := (put_get hp).1
 by_cases hk : kindOf ops i = 1
 ·have hn := hs.next
  have hpr : preOf (kindOf ops) S i = { S i with low := (S i).nx } := by simp [preOf, hk]
  rw [hpr] at h3
  simp only [hk, if_true] at hn
  have hsame : ∀ b, b < (S i).nx → (S (i + 1)).hp.get b = (S i).hp.get b := fun b hb => by
   rw [hn]
   exact h3.same b hb (Nat.lt_of_lt_of_le hb (hs.low hk))
  refine ⟨?_, ?_, ?_, h1.low, fun b hb _ => hsame b hb, fun _ => hsame, hnt⟩
  ·rw [hn]; exact h3.nx
  ·rw [hn]; exact h3.gl
  ·rw [hn]; exact Nat.le_refl _
 ·have hn := hs.next
  have hpr : preOf (kindOf ops) S i = S i := by simp [preOf, hk]
  rw [hpr] at h3
  simp only [hk, if_false] at hn
  refine ⟨?_, ?_, ?_, h1.low, ?_, fun h => absurd h hk, hnt⟩
  ·rw [hn]; exact h3.nx
  ·rw [hn]; exact h3.gl
  ·rw [hn]; exact h3.low
  ·rw [hn]; exact h3.same
theorem Txt.nx_le (h : Txt E base ops F S Y) {i : Nat} : ∀ {k : Nat}, i ≤ k → k ≤ ops.size → (S i).nx ≤ (S k).nx
  | 0, h1, _ => by have : i = 0 := by omega
                   subst this; exact Nat.le_refl _
  | k + 1, h1, h2 => by
    by_cases hik : i = k + 1
    · subst hik; exact Nat.le_refl _
    · exact Nat.le_trans (h.nx_le (k := k) (by omega) (by omega)) (h.tf (i := k) (by omega)).nx
theorem Txt.low_le (h : Txt E base ops F S Y) {i : Nat} : ∀ {k : Nat}, i ≤ k → k ≤ ops.size → (S k).low ≤ (S i).low
  | 0, h1, _ => by have : i = 0 := by omega
                   subst this; exact Nat.le_refl _
  | k + 1, h1, h2 => by
    by_cases hik : i = k + 1
    · subst hik; exact Nat.le_refl _
    · exact Nat.le_trans (h.tf (i := k) (by omega)).low (h.low_le (k := k) (by omega) (by omega))
theorem Txt.gl_eq (h : Txt E base ops F S Y) : ∀ {k : Nat}, k ≤ ops.size → (S k).gl = (S 0).gl
 | 0, _ => rfl
 | k + 1, h2 => (h.tf (i := k) (by omega)).gl.trans (h.gl_eq (k := k) (by omega))
theorem Txt.nt_eq (h : Txt E base ops F S Y) : ∀ {k : Nat}, k ≤ ops.size → (F k).nt = (F 0).nt
 | 0, _ => rfl
 | k + 1, h2 => (h.tf (i := k) (by omega)).nt.trans (h.nt_eq (k := k) (by omega))
theorem Txt.low_nx (h : Txt E base ops F S Y) : (S ops.size).low ≤ (S 0).nx := by
 obtain ⟨μ, w, a, h1, _⟩ := h.start
 exact Nat.le_trans (h.low_le (Nat.zero_le _) (Nat.le_refl _)) h1.low
theorem Txt.same_low (h : Txt E base ops F S Y) {b : Nat} (hb : b < (S ops.size).low) : ∀ {k : Nat}, k ≤ ops.size → (S k).hp.get b = (S 0).hp.get b
 | 0, _ => rfl
 | k + 1, h2 => by
  rw [← h.same_low hb (k := k) (by omega)]
  refine (h.tf (i := k) (by omega)).same b ?_ (Nat.lt_of_lt_of_le hb (h.low_le h2 (Nat.le_refl _)))
  have := h.low_nx
  have := h.nx_le (i := 0) (k := k) (by omega) (by omega)
  omega
theorem Txt.stay (h : Txt E base ops F S Y) {b i : Nat} (hb : b < (S i).nx) : ∀ {k : Nat}, i ≤ k → k ≤ ops.size → (∀ j, i ≤ j → j < k → ¬ Chg ops S j b) → (S k).hp.get b = (S i).hp.get b
  | 0, h1, _, _ => by have : i = 0 := by omega
                      subst this; rfl
  | k + 1, h1, h2, hn => by
    by_cases hik : i = k + 1
    · subst hik; rfl
    · rw [← h.stay hb (k := k) (by omega) (by omega) fun j h3 h4 => hn j h3 (by omega)]
      refine Classical.byContradiction fun hc => hn k (by omega) (by omega) ⟨by omega, .inr ⟨?_, hc⟩⟩
      exact Nat.lt_of_lt_of_le hb (h.nx_le (by omega) (by omega))
theorem Txt.tstay (h : Txt E base ops F S Y) {d i : Nat} : ∀ {k : Nat}, i ≤ k → k ≤ ops.size → (∀ j o, i ≤ j → j < k → ops[j]? = some o → o.dst ≠ some d) → (F k).tm.get d = (F i).tm.get d
  | 0, h1, _, _ => by have : i = 0 := by omega
                      subst this; rfl
  | k + 1, h1, h2, hn => by
    by_cases hik : i = k + 1
    · subst hik; rfl
    · rw [← h.tstay (k := k) (by omega) (by omega) fun j o h3 h4 => hn j o h3 (by omega)]
      obtain ⟨o, ho, hs⟩ := h.tr.step k (by omega) (by omega)
      obtain ⟨v, hp, _⟩ := one_inv hs.one
      rw [(put_get hp).2.2 d, if_neg (hn k o (by omega) (by omega) ho)]
theorem Txt.skip (_h : Txt E base ops F S Y) {i : Nat} {o : Oper} (hs : StepT E ops (kindOf ops) F S Y i o) (hw : wantO (F i) ops o = false) : S (i + 1) = S i := by
 obtain ⟨v, _, ⟨h1, _⟩ | ⟨_, _, h2⟩⟩ := one_inv hs.one
 ·rw [hw] at h1; cases h1
 ·rw [hs.next, h2]
  unfold preOf
  split <;> rfl
theorem Txt.op (_h : Txt E base ops F S Y) {i : Nat} {o : Oper} (hs : StepT E ops (kindOf ops) F S Y i o) (hw : wantO (F i) ops o = true) :
  ∃ v, put (F i) o.dst v = some (F (i + 1)) ∧ opO E (ev (F i) (S i).gl) (preOf (kindOf ops) S i) o.op = some (v, Y i) := by
 obtain ⟨v, hp, ⟨_, h1⟩ | ⟨h1, _⟩⟩ := one_inv hs.one
 ·refine ⟨v, hp, ?_⟩
  have : (preOf (kindOf ops) S i).gl = (S i).gl := by unfold preOf; split <;> rfl
  rw [this] at h1
  exact h1
 ·rw [hw] at h1; cases h1
theorem Txt.chg (h : Txt E base ops F S Y) {j b : Nat} {o : Oper} (ho : ops[j]? = some o) (hc : Chg ops S j b) :
  isPure o.op = false ∧ (kindOf ops j = 0 ∨ ((S j).nx ≤ b ∧ b < (S (j + 1)).nx ∧ (kindOf ops j = 1 ∨ kindOf ops j = 5)) ∨ (kindOf ops j = 3 ∧ rowOf ops F S j = some b ∧ b < (S j).nx)) := by
 obtain ⟨hj, hc⟩ := hc
 obtain ⟨o', ho', hs⟩ := h.tr.step j (Nat.zero_le _) hj
 rw [ho] at ho'
 injection ho' with ho'
 subst ho'
 have hno : S (j + 1) ≠ S j := fun he => by
  rw [he] at hc
  rcases hc with ⟨h1, h2⟩ | ⟨_, h2⟩
  ·omega
  ·exact h2 rfl
 have hw : wantO (F j) ops o = true := by
  cases hw : wantO (F j) ops o with
  | true => rfl
  | false => exact absurd (h.skip hs hw) hno
 obtain ⟨v, hp, hop⟩ := h.op hs hw
 obtain ⟨k0, k1, k2, k3, k5⟩ := kind_spec ho
 have hn := hs.next
 rcases hs.kd with hk | hk | hk | hk | hk
 ·simp only [preOf, hk] at hop hn
  cases hpu : isPure o.op with
  | true => exact absurd (hn.trans (pure_simple hpu hop).1) hno
  | false => exact ⟨rfl, .inl hk⟩
 ·refine ⟨(k1 hk).1, .inr (.inl ?_)⟩
  rcases hc with ⟨h1, h2⟩ | ⟨h1, h2⟩
  ·exact ⟨h1, h2, .inl hk⟩
  ·exact absurd ((h.tf hj).same1 hk b h1) h2
 ·simp only [preOf, hk] at hop hn
  exact absurd (hn.trans (load_simple (k2 hk) hop).1) hno
 ·simp only [preOf, hk] at hop hn
  refine ⟨not_pure_store (k3 hk), .inr (.inr ⟨hk, ?_⟩)⟩
  obtain ⟨_, c, g, hr, _, ⟨h1, _⟩ | ⟨r, h1, _⟩⟩ := store_simple (k3 hk) hop
  ·exact absurd (hn.trans h1) hno
  ·have hn := hn.trans h1
   rw [hn] at hc
   rcases hc with ⟨h2, h3⟩ | ⟨h2, h3⟩
   ·have h3 : b < (S j).nx := h3
    omega
   ·have h3 : (T.set r (S j).hp c).get b ≠ _ := h3
    rw [T.get_set] at h3
    by_cases hbc : b = c
    ·subst hbc
     refine ⟨?_, h2⟩
     unfold rowOf
     simp only [ho, hw]
     exact hr
    ·simp [hbc] at h3
 ·simp only [preOf, hk] at hop hn
  refine ⟨not_pure_alloc (k5 hk), .inr (.inl ?_)⟩
  obtain ⟨r, mk, _, _, _, h1, _⟩ := alloc_simple (k5 hk) hop
  have hn := hn.trans h1
  rcases hc with ⟨h2, h3⟩ | ⟨h2, h3⟩
  ·exact ⟨h2, h3, .inr hk⟩
  ·rw [hn] at h3
   have h3 : (T.set r (S j).hp (S j).nx).get b ≠ _ := h3
   rw [T.get_set_ne _ _ (by omega)] at h3
   exact absurd rfl h3
theorem Txt.new_one (h : Txt E base ops F S Y) {i j b : Nat} (hi : i < ops.size) (hj : j < ops.size) (h1 : (S i).nx ≤ b) (h2 : b < (S (i + 1)).nx) (h3 : (S j).nx ≤ b) (h4 : b < (S (j + 1)).nx) : i = j := by
 rcases Nat.lt_trichotomy i j with hij | hij | hij
 ·have := h.nx_le (i := i + 1) (k := j) (by omega) (by omega); omega
 ·exact hij
 ·have := h.nx_le (i := j + 1) (k := i) (by omega) (by omega); omega
end
end Go.AM
/-
  Regions that draw their order: every order comes to what the order of the text comes to.
-/
namespace Go.AM
open Go Go.RowKit Go.Lib
section
variable {E : Env} {base : Nat} {ops : Array Oper} {F : Nat → Fr} {S Y : Nat → St} {μ0 : Mp} {w0 : World} {l : Array Bool} {μ μ' : Mp} {f f' : Fr} {t t' : T Row} {a : Act} {w w' : World}
def In' (l : Array Bool) (i j : Nat) : Prop := In l j ∨ j = i
def sD (ops : Array Oper) (S : Nat → St) (t : T Row) : St := { S 0 with hp := t, nx := (S ops.size).nx, low := (S ops.size).low }
structure DI (base : Nat) (ops : Array Oper) (F : Nat → Fr) (S : Nat → St) (μ0 : Mp) (w0 : World) (D : Nat → Prop) (μ : Mp) (f : Fr) (t : T Row) (a : Act) (w : World) : Prop where
 stp : Stp base μ0 μ { S 0 with nx := (S ops.size).nx } (sD ops S t) w0 w
 tm : TmRel μ f a
 nt : f.nt = (F 0).nt
 cons : ∀ b g x, μ b g = some x → ∀ k, k ≤ ops.size → (∀ j, Chg ops S j b → (j < k ↔ D j)) → b < (S k).nx → t.get b = (S k).hp.get b
 tcons : ∀ d k, k ≤ ops.size → (∀ j o, ops[j]? = some o → o.dst = some d → (j < k ↔ D j)) → f.tm.get d = (F k).tm.get d
 dom : ∀ b g x, μ b g = some x → b < (S 0).nx ∨ ∃ j, D j ∧ j < ops.size ∧ (S j).nx ≤ b ∧ b < (S (j + 1)).nx
 sdom : ∀ j, D j → kindOf ops j = 3 → ∀ b, Chg ops S j b → ∃ g x, μ b g = some x
 defers : a.defers = []
def Good (ops : Array Oper) (S : Nat → St) (D : Nat → Prop) (i b : Nat) : Prop := ∀ j, Chg ops S j b → (j < i ↔ D j)
theorem DI.inv (hT : Txt E base ops F S Y) (h0 : Inv base μ0 (S 0) w0) {D : Nat → Prop} (h : DI base ops F S μ0 w0 D μ f t a w) : Inv base μ (sD ops S t) w := by
 have h1 : Inv base μ0 { S 0 with nx := (S ops.size).nx } w0 := by
  have := hT.nx_le (i := 0) (Nat.zero_le _) (Nat.le_refl _)
  exact ⟨h0.rel, fun b g x hm => Nat.lt_of_lt_of_le (h0.dom b g x hm) this, Nat.le_trans h0.low this, h0.size, h0.glob, h0.wf.mono this⟩
 exact h1.after h.stp
theorem DI.next (hT : Txt E base ops F S Y) (h0 : Inv base μ0 (S 0) w0) (h : DI base ops F S μ0 w0 (In l) μ f t a w) {i : Nat} {o : Oper} (ho : ops[i]? = some o) (hi : i ∈ Region.ready .any ops l) (hc : Closed ops l)
  {v : AV} {v' : Value} (hpF : put (F i) o.dst v = some (F (i + 1))) (hpf : put f o.dst v = some f')
  (hst : Stp base μ μ' (sD ops S t) (sD ops S t') w w') (hv : VR μ' v v')
  (hb : ∀ b g x, μ' b g = some x → (Good ops S (In l) i b ∧ b < (S (i + 1)).nx ∧ t'.get b = (S (i + 1)).hp.get b) ∨ ((∃ g' x', μ b g' = some x') ∧ ¬ Chg ops S i b ∧ t'.get b = t.get b))
  (hdom : ∀ b g x, μ' b g = some x → b < (S 0).nx ∨ ∃ j, In' l i j ∧ j < ops.size ∧ (S j).nx ≤ b ∧ b < (S (j + 1)).nx)
  (hsd : kindOf ops i = 3 → ∀ b, Chg ops S i b → ∃ g x, μ b g = some x) :
  DI base ops F S μ0 w0 (In' l i) μ' f' t' (a.put o.dst v') w' := by
 have hin := h.inv hT h0
 have h1 : Inv base μ0 { S 0 with nx := (S ops.size).nx } w0 := by
  have := hT.nx_le (i := 0) (Nat.zero_le _) (Nat.le_refl _)
  exact ⟨h0.rel, fun b g x hm => Nat.lt_of_lt_of_le (h0.dom b g x hm) this, Nat.le_trans h0.low this, h0.size, h0.glob, h0.wf.mono this⟩
 have his : i < ops.size := (Array.getElem?_eq_some_iff.1 ho).1
 have hnot := ready_not hi
 refine ⟨h.stp.trans h1 hst, (h.tm.mono hst.ext).put hpf hv, (put_get hpf).1.trans h.nt, ?_, ?_, hdom, ?_, ?_⟩
 ·intro b g x hm k hk hp hbk
  rcases hb b g x hm with ⟨hg, hbn, ht⟩ | ⟨⟨g', x', hm'⟩, hnc, ht⟩
  ·rw [ht]
   have hiff : ∀ j, Chg ops S j b → (j < k ↔ j < i + 1) := fun j hj => by
    have e1 := hp j hj
    have e2 := hg j hj
    by_cases hji : j = i
    ·subst hji
     have : j < k := e1.2 (.inr rfl)
     constructor <;> intro <;> omega
    ·constructor
     ·intro h'
      rcases e1.1 h' with h'' | h''
      ·have := e2.2 h''; omega
      ·exact absurd h'' hji
     ·intro h'
      exact e1.2 (.inl (e2.1 (by omega)))
   rcases Nat.le_total (i + 1) k with hik | hik
   ·exact (hT.stay hbn hik hk fun j hj1 hj2 hj => by have := (hiff j hj).1 hj2; omega).symm
   ·exact hT.stay hbk hik (by omega) fun j hj1 hj2 hj => by have := (hiff j hj).2 hj2; omega
  ·rw [ht]
   refine h.cons b g' x' hm' k hk (fun j hj => ?_) hbk
   have hji : j ≠ i := fun e => by subst e; exact hnc hj
   rw [hp j hj]
   unfold In'
   simp [hji]
 ·intro d k hk hp
  rw [(put_get hpf).2.2 d]
  by_cases hd : o.dst = some d
  ·rw [if_pos hd]
   have hik : i < k := (hp i o ho hd).2 (.inr rfl)
   have : (F k).tm.get d = (F (i + 1)).tm.get d := hT.tstay (by omega) hk fun j oj hj1 hj2 hoj hjd => by
    rcases (hp j oj hoj hjd).1 hj2 with hj | hj
    ·have hord : ordered ops i j = true := by
      cases hord : ordered ops i j with
      | true => rfl
      | false =>
       have := ((ok_at hT.ok hoj).2 i o (by omega) ho).2 hord
       exact absurd hjd ((Oper.apart_spec this).2.1 d hd)
     have := (ready_order hT.ok hc hi hoj (by omega) hord).2 hj
     omega
    ·omega
   rw [this, (put_get hpF).2.2 d, if_pos hd]
  ·rw [if_neg hd]
   refine h.tcons d k hk fun j oj hoj hjd => ?_
   have hji : j ≠ i := fun e => by subst e; rw [ho] at hoj; injection hoj with hoj; subst hoj; exact hd hjd
   rw [hp j oj hoj hjd]
   unfold In'
   simp [hji]
 ·intro j hj hk b hcb
  rcases hj with hj | rfl
  ·obtain ⟨g, x, hm⟩ := h.sdom j hj hk b hcb
   exact ⟨g, x, hst.ext _ _ _ hm⟩
  ·obtain ⟨g, x, hm⟩ := hsd hk b hcb
   exact ⟨g, x, hst.ext _ _ _ hm⟩
 ·cases o.dst <;> exact h.defers
theorem DI.good (hT : Txt E base ops F S Y) (h : DI base ops F S μ0 w0 (In l) μ f t a w) {i : Nat} {o : Oper} (ho : ops[i]? = some o) (hi : i ∈ Region.ready .any ops l) (hc : Closed ops l) (hp : isPure o.op = false) {b : Nat}
  (hk : kindOf ops i = 0 ∨ ((∃ g x, μ b g = some x) ∧ b < (S i).nx ∧ (kindOf ops i = 1 ∨ ((kindOf ops i = 2 ∨ kindOf ops i = 3) ∧ rowOf ops F S i = some b))) ∨
   ((S i).nx ≤ b ∧ b < (S (i + 1)).nx ∧ (kindOf ops i = 1 ∨ kindOf ops i = 5))) : Good ops S (In l) i b := by
 intro j hj
 have hnot := ready_not hi
 have his : i < ops.size := (Array.getElem?_eq_some_iff.1 ho).1
 have hjs := hj.1
 by_cases hji : j = i
 ·subst hji
  exact ⟨fun h => by omega, fun h => absurd h hnot⟩
 obtain ⟨oj, hoj⟩ : ∃ oj, ops[j]? = some oj := ⟨ops[j], Array.getElem?_eq_getElem hjs⟩
 obtain ⟨hjp, hjk⟩ := hT.chg hoj hj
 cases hord : ordered ops i j with
 | true => exact ready_order hT.ok hc hi hoj hji hord
 | false =>
  have hk0 : kindOf ops i ≠ 0 := fun e => by
   have := (kind_spec ho).1 e hp j oj hji hoj hjp
   rw [hord] at this; cases this
  have hk1 : kindOf ops i = 1 → isStore oj.op = true → False := fun e hs => by
   have := ((kind_spec ho).2.1 e).2 j oj hji hoj hs
   rw [hord] at this; cases this
  have hj0 : kindOf ops j ≠ 0 := fun e => by
   have := (kind_spec hoj).1 e hjp i o (fun e => hji e.symm) ho hp
   rw [ordered_comm, hord] at this; cases this
  have hstore : kindOf ops j = 3 → isStore oj.op = true := (kind_spec hoj).2.2.2.1
  rcases hjk with hjk | ⟨c1, c2, _⟩ | ⟨c1, c2, c3⟩
  ·exact absurd hjk hj0
  ·
   rcases hk with hk | ⟨⟨g, x, hm⟩, hbn, _⟩ | ⟨d1, d2, _⟩
   ·exact absurd hk hk0
   ·have hjD : In l j := by
     rcases h.dom b g x hm with hb | ⟨j', hj', hjs', e1, e2⟩
     ·have := hT.nx_le (i := 0) (k := j) (by omega) (by omega); omega
     ·have := hT.new_one hjs hjs' c1 c2 e1 e2
      subst this; exact hj'
    refine ⟨fun _ => hjD, fun _ => ?_⟩
    rcases Nat.lt_or_ge j i with hlt | hge
    ·exact hlt
    ·have := hT.nx_le (i := i) (k := j) hge (by omega); omega
   ·exact absurd (hT.new_one hjs his c1 c2 d1 d2) hji
  ·
   rcases hk with hk | ⟨hm, hbn, hk | ⟨hk, hrow⟩⟩ | ⟨d1, d2, hk | hk⟩
   ·exact absurd hk hk0
   ·exact (hk1 hk (hstore c1)).elim
   ·exfalso
    rcases Nat.lt_or_ge j i with hlt | hge
    ·exact hT.tr.pair j i (Nat.zero_le _) hlt his (.inl ⟨c1, hk⟩) b c2 hrow
    ·refine hT.tr.pair i j (Nat.zero_le _) (by omega) hjs ?_ b hrow c2
     rcases hk with hk | hk
     ·exact .inr ⟨hk, c1⟩
     ·exact .inl ⟨hk, .inr c1⟩
   ·exact (hk1 hk (hstore c1)).elim
   ·constructor
    ·intro hlt
     have := hT.nx_le (i := j) (k := i) (by omega) (by omega); omega
    ·intro hjD
     obtain ⟨g, x, hm⟩ := h.sdom j hjD c1 b hj
     rcases h.dom b g x hm with hb | ⟨j', hj', hjs', e1, e2⟩
     ·have := hT.nx_le (i := 0) (k := i) (by omega) (by omega); omega
     ·have := hT.new_one his hjs' d1 d2 e1 e2
      subst this; exact absurd hj' hnot
theorem DI.looks (hT : Txt E base ops F S Y) (h : DI base ops F S μ0 w0 (In l) μ f t a w) {i : Nat} {o : Oper} (ho : ops[i]? = some o) (hi : i ∈ Region.ready .any ops l) (hc : Closed ops l) {d : Tmp} (hd : d ∈ o.looksAt ops) : f.tm.get d = (F i).tm.get d := by
 have his : i < ops.size := (Array.getElem?_eq_some_iff.1 ho).1
 refine h.tcons d i (by omega) fun j oj hoj hjd => ?_
 by_cases hji : j = i
 ·subst hji
  exact ⟨fun h => by omega, fun h => absurd h (ready_not hi)⟩
 ·cases hord : ordered ops i j with
  | true => exact ready_order hT.ok hc hi hoj hji hord
  | false =>
   exfalso
   rcases Nat.lt_or_ge j i with hlt | hge
   ·have := ((ok_at hT.ok ho).2 j oj hlt hoj).2 (by rw [ordered_comm]; exact hord)
    exact (Oper.apart_spec this).1 d hjd hd
   ·have := ((ok_at hT.ok hoj).2 i o (by omega) ho).2 hord
    exact (Oper.apart_spec this).2.2 d hjd hd
theorem DI.ev (hT : Txt E base ops F S Y) (h : DI base ops F S μ0 w0 (In l) μ f t a w) {i : Nat} {o : Oper} (ho : ops[i]? = some o) (hi : i ∈ Region.ready .any ops l) (hc : Closed ops l) (gl : Nat) : ∀ x ∈ o.op.operands, ev f gl x = ev (F i) gl x := by
 intro x hx
 cases x with
 | tmp d =>
  simp only [Go.AM.ev]
  rw [h.looks hT ho hi hc (d := d) (by
   unfold Oper.looksAt
   simp only [List.mem_append, List.mem_filterMap]
   exact .inl ⟨.tmp d, by simpa using hx, rfl⟩)]
 | _ => rfl
theorem DI.want (hT : Txt E base ops F S Y) (h : DI base ops F S μ0 w0 (In l) μ f t a w) {i : Nat} {o : Oper} (ho : ops[i]? = some o) (hi : i ∈ Region.ready .any ops l) (hc : Closed ops l) : wantO f ops o = wantO (F i) ops o := by
 unfold wantO
 cases hg : o.guard with
 | none => rfl
 | some p =>
  obtain ⟨j, want⟩ := p
  simp only
  have : yieldO f ops j = yieldO (F i) ops j := by
   unfold yieldO
   cases hd : (ops[j]?).bind (·.dst) with
   | none => rfl
   | some d =>
    simp only
    rw [h.looks hT ho hi hc (d := d) (by
     unfold Oper.looksAt
     simp [hg, hd])]
  rw [this]
theorem join_tree (t1 t2 : T Row) (N M : Nat) (h2 : N ≤ M) : ∃ t' : T Row, (∀ b, b < N → t'.get b = t1.get b) ∧ (∀ b, N ≤ b → b < M → t'.get b = t2.get b) ∧ ∀ b, M ≤ b → t'.get b = none := by
 obtain ⟨t', h1, h3⟩ := tree_of (fun b => if b < N then t1.get b else t2.get b) M
 refine ⟨t', fun b hb => ?_, fun b hb hb' => ?_, h3⟩
 ·rw [h1 b (by omega)]; simp [hb]
 ·rw [h1 b hb']
  have : ¬ b < N := by omega
  simp [this]
end
end Go.AM
/-
  Regions that draw their order: one operation, in any order.
-/
namespace Go.AM
open Go Go.RowKit Go.Lib
section
variable {E : Env} {base : Nat} {ops : Array Oper} {F : Nat → Fr} {S Y : Nat → St} {μ0 : Mp} {w0 : World} {l : Array Bool} {μ μ' : Mp} {f f' : Fr} {t t' : T Row} {a : Act} {w w' : World} {s s' : St} {ρ : Operand → Option AV} {o : Oper}
theorem store_run (hi : Inv base μ s w) (hr : RhoOk μ ρ a) (hp : isStore o.op = true) {v : AV} (h : opO E ρ s o.op = some (v, s')) :
  ∃ w', (execOp a.eval o).run E.P w = .ok .skip w' ∧ Stp base μ μ s s' w w' := by
 obtain ⟨dst, op, type, pos, after, guard⟩ := o
 simp only at h hp
 cases op <;> first | (exfalso; revert hp; simp [isStore]; done) | skip
 case store t x y =>
  simp only [opO] at h
  split at h
  ·rename_i q u hq hu
   split at h
   ·rename_i s1 hs
    simp only [Option.some.injEq, Prod.mk.injEq] at h
    obtain ⟨rfl, rfl⟩ := h
    obtain ⟨c, hc', he⟩ := hr _ _ hq
    obtain ⟨w', h2, h3, h4, h5⟩ := store_sound hi hs hc' (hr _ _ hu)
    refine ⟨w', ?_, h3⟩
    simp [execOp, Instr.storeAt, he, Instr.sureAddr, h2]
   ·cases h
  ·cases h
theorem Txt.find (hT : Txt E base ops F S Y) {b : Nat} : ∀ {i : Nat}, i ≤ ops.size → b < (S i).nx → b < (S 0).nx ∨ ∃ j, j < i ∧ (S j).nx ≤ b ∧ b < (S (j + 1)).nx
 | 0, _, h => .inl h
 | i + 1, hi, h => by
  rcases Nat.lt_or_ge b (S i).nx with hb | hb
  ·rcases hT.find (i := i) (by omega) hb with h1 | ⟨j, h1, h2⟩
   ·exact .inl h1
   ·exact .inr ⟨j, by omega, h2⟩
  ·exact .inr ⟨i, by omega, hb, h⟩
theorem DI.skip (hT : Txt E base ops F S Y) (h0 : Inv base μ0 (S 0) w0) (h : DI base ops F S μ0 w0 (In l) μ f t a w) {i : Nat} (ho : ops[i]? = some o) (hi : i ∈ Region.ready .any ops l) (hc : Closed ops l)
  {v : AV} {v' : Value} (hpF : put (F i) o.dst v = some (F (i + 1))) (hpf : put f o.dst v = some f') (hS : S (i + 1) = S i)
  (hst : Stp base μ μ' (sD ops S t) (sD ops S t) w w') (hd : ∀ b g x, μ' b g = some x → μ b g = some x) (hv : VR μ' v v') : DI base ops F S μ0 w0 (In' l i) μ' f' t (a.put o.dst v') w' := by
 have hno : ∀ b, ¬ Chg ops S i b := fun b hb => by
  obtain ⟨_, hb⟩ := hb
  rw [hS] at hb
  rcases hb with ⟨h1, h2⟩ | ⟨_, h2⟩
  ·omega
  ·exact h2 rfl
 refine h.next hT h0 ho hi hc hpF hpf hst hv (fun b g x hm => .inr ⟨⟨g, x, hd b g x hm⟩, hno b, rfl⟩) (fun b g x hm => ?_) fun _ b hb => absurd hb (hno b)
 rcases h.dom b g x (hd b g x hm) with h1 | ⟨j, h1, h2⟩
 ·exact .inl h1
 ·exact .inr ⟨j, .inl h1, h2⟩
theorem sD_low (hin : Inv base μ (sD ops S t) w) : Inv base μ { sD ops S t with low := (sD ops S t).nx } w :=
 ⟨hin.rel, hin.dom, Nat.le_refl _, hin.size, hin.glob, hin.wf⟩
theorem quiet_step (hT : Txt E base ops F S Y) (hst : Stp base μ μ' { sD ops S t with low := (sD ops S t).nx } { sD ops S t with low := (sD ops S t).nx } w w') :
  Stp base μ μ' (sD ops S t) (sD ops S t) w w' ∧ ∀ b g x, μ' b g = some x → μ b g = some x := by
 have hl : (sD ops S t).low ≤ (sD ops S t).nx := by
  show (S ops.size).low ≤ (S ops.size).nx
  have := hT.low_nx
  have := hT.nx_le (i := 0) (Nat.zero_le _) (Nat.le_refl _)
  omega
 refine ⟨hst.raise (low := (sD ops S t).low) (low' := (sD ops S t).low) (Nat.le_refl _) hl, fun b g x hm => ?_⟩
 obtain ⟨blk, n⟩ := x
 have hd := hst.dom b g _ hm
 rcases hst.new b g blk n hm with h | ⟨h, _⟩ | ⟨h1, h2, _⟩
 ·exact h
 ·omega
 ·have h1 : (sD ops S t).nx ≤ b := h1
  have h2 : b < (sD ops S t).nx := h2
  omega
theorem DI.whole (hT : Txt E base ops F S Y) (h0 : Inv base μ0 (S 0) w0) (h : DI base ops F S μ0 w0 (In l) μ f t a w) {i : Nat} (ho : ops[i]? = some o) (hi : i ∈ Region.ready .any ops l) (hc : Closed ops l)
  (hs : StepT E ops (kindOf ops) F S Y i o) (hpu : isPure o.op = false) (hk : kindOf ops i = 0 ∨ kindOf ops i = 1) {v : AV} (hpF : put (F i) o.dst v = some (F (i + 1))) (hpf : put f o.dst v = some f')
  (hop : opO E (Go.AM.ev (F i) (S i).gl) (preOf (kindOf ops) S i) o.op = some (v, Y i)) {Q : Exit → Act → World → Prop} {K : Act → World → Prop} (hK : ∀ μ' f' t' a' w', DI base ops F S μ0 w0 (In' l i) μ' f' t' a' w' → K a' w') : o.wp E.P a w K Q := by
 have his : i < ops.size := (Array.getElem?_eq_some_iff.1 ho).1
 have hin := h.inv hT h0
 have hnot := ready_not hi
 have hgl := hT.gl_eq (k := i) (by omega)
 generalize hsi : preOf (kindOf ops) S i = si at *
 have e1 : si.nx = (S i).nx := by rw [← hsi]; unfold preOf; split <;> rfl
 have e2 : si.hp = (S i).hp := by rw [← hsi]; unfold preOf; split <;> rfl
 have e3 : si.gl = (S 0).gl := by rw [← hgl, ← hsi]; unfold preOf; split <;> rfl
 have e4 : (Y i).nx = (S (i + 1)).nx := by rw [hs.next]; split <;> rfl
 have e5 : (Y i).hp = (S (i + 1)).hp := by rw [hs.next]; split <;> rfl
 have n1 := hT.nx_le (i := 0) (k := i) (by omega) (by omega)
 have n2 := (hT.tf his).nx
 have n3 := hT.nx_le (i := i + 1) (k := ops.size) (by omega) (by omega)
 have n4 := hT.low_nx
 obtain ⟨μ1, w1, a1, hin1, htm1⟩ := hT.chain i (by omega)
 have hsmall : Small μ1 (S i).nx := hin1.dom
 have hgood : ∀ b g x, μ b g = some x → b < (S i).nx → Good ops S (In l) i b := fun b g x hm hb =>
  h.good hT ho hi hc hpu (hk.imp id fun hk => .inl ⟨⟨g, x, hm⟩, hb, .inl hk⟩)
 have hrow : ∀ b g x, μ b g = some x → b < (S i).nx → t.get b = (S i).hp.get b := fun b g x hm hb => h.cons b g x hm i (by omega) (hgood b g x hm hb) hb
 have hinv : Inv base (μ.lt si.nx) si w := by
  refine ⟨⟨fun b g blk n hm => ?_, fun b g blk n b' g' n' r hm hm' hg hown => ?_⟩, fun b g x hm => (Mp.lt_some.1 hm).1, ?_, hin.size, fun g hg => ?_, ?_⟩
  ·obtain ⟨hb, hm⟩ := Mp.lt_some.1 hm
   rw [e1] at hb
   obtain ⟨r, h1, h2⟩ := hin.rel.row b g blk n hm
   have h1 : t.get b = some r := h1
   rw [hrow b g _ hm hb] at h1
   refine ⟨r, by rw [e2]; exact h1, h2.lt ?_⟩
   rw [e1]
   exact hin1.wf b r h1
  ·obtain ⟨hb, hm⟩ := Mp.lt_some.1 hm
   rw [e1] at hb
   rw [e2, ← hrow b g _ hm hb] at hg
   exact hin.rel.sep _ _ _ _ _ _ _ _ hm (Mp.lt_some.1 hm').2 hg hown
  ·rw [← hsi]
   unfold preOf
   split
   ·exact Nat.le_refl _
   ·exact hin1.low
  ·rw [e3] at hg
   obtain ⟨n, hn⟩ := hin.glob g hg
   obtain ⟨n0, hn0⟩ := h0.glob g hg
   have := h0.dom _ _ _ hn0
   exact ⟨n, Mp.lt_some.2 ⟨by rw [e1]; omega, hn⟩⟩
  ·rw [e1, e2]; exact hin1.wf
 have hev := h.ev hT ho hi hc (S 0).gl
 let ρ' : Operand → Option AV := fun x => open Classical in if x ∈ o.op.operands then Go.AM.ev f (S 0).gl x else none
 have hrho : RhoOk (μ.lt si.nx) ρ' a := by
  intro x u hx
  by_cases hmem : x ∈ o.op.operands
  ·have hx : Go.AM.ev f (S 0).gl x = some u := by simpa [ρ', hmem] using hx
   rw [e1]
   refine VR.lt hsmall (ev_sound hin1 htm1 x u ?_) (ev_sound hin h.tm x u hx)
   rw [hgl, ← hev x hmem]
   exact hx
  ·simp [ρ', hmem] at hx
 have hop' : opO E ρ' si o.op = some (v, Y i) := by
  rw [op_congr (ρ' := Go.AM.ev (F i) (S i).gl) o.op fun x hx => by simp only [ρ', hx, if_true]; rw [hev x hx, hgl]]
  exact hop
 refine op_sound hT.env hinv hrho hop' K Q fun v' w' μ2 hv hst => ?_
 have heq : ∀ q : T Row, ({ si with hp := q, nx := (S ops.size).nx, low := (S ops.size).low } : St) = sD ops S q := fun q => by
  unfold sD
  rw [e3]
 obtain ⟨t', t1, t2, t3⟩ := join_tree (Y i).hp t (Y i).nx (S ops.size).nx (by omega)
 have hx : ∀ b g x, μ b g = some x → b < si.nx ∨ (Y i).nx ≤ b := fun b g x hm => by
  rw [e1, e4]
  rcases h.dom b g x hm with hb | ⟨j, hj, hjs, c1, c2⟩
  ·exact .inl (by omega)
  ·rcases Nat.lt_trichotomy j i with hji | hji | hji
   ·have := hT.nx_le (i := j + 1) (k := i) (by omega) (by omega)
    exact .inl (by omega)
   ·subst hji; exact absurd hj hnot
   ·have := hT.nx_le (i := i + 1) (k := j) (by omega) (by omega)
    exact .inr (by omega)
 have hlowY : (S ops.size).low ≤ (Y i).low := by
  rcases hk with hk | hk
  ·have : S (i + 1) = Y i := by rw [hs.next]; simp [hk]
   rw [← this]
   exact hT.low_le (by omega) (Nat.le_refl _)
  ·have := hs.low hk; omega
 have hsame : ∀ b, b < (S ops.size).low → (Y i).hp.get b = t.get b := fun b hb => by
  rw [e5, hT.same_low hb (k := i + 1) (by omega)]
  exact (h.stp.same b (by show b < (S ops.size).nx; omega) hb).symm
 have hwide := Stp.widen (t := t) (t' := t') (N := (S ops.size).nx) (low := (S ops.size).low) (by rw [heq]; exact hin) hx hst (by omega) hlowY (by omega) hsame t1 t2 t3
 rw [heq, heq] at hwide
 obtain ⟨hext, hst', hdom'⟩ := hwide
 refine hK _ f' t' _ _ (h.next hT h0 ho hi hc hpF hpf hst' (hv.mono hext) ?_ ?_ ?_)
 ·intro b g x hm
  by_cases hb : b < (Y i).nx
  ·refine .inl ⟨?_, by omega, by rw [t1 b hb, e5]⟩
   rcases hdom' b g x hm with ⟨x', hm'⟩ | ⟨c1, c2⟩ | ⟨c1, c2⟩
   ·refine hgood b g x' hm' ?_
    rcases hx b g x' hm' with c | c <;> omega
   ·exact h.good hT ho hi hc hpu (hk.imp id fun hk => .inr ⟨by omega, by omega, .inl hk⟩)
   ·rcases hk with hk | hk
    ·exact h.good hT ho hi hc hpu (.inl hk)
    ·have := hs.low hk; omega
  ·have hbN : b < (S ops.size).nx := hst'.dom b g x hm
   refine .inr ⟨?_, ?_, t2 b (by omega) hbN⟩
   ·rcases hdom' b g x hm with ⟨x', hm'⟩ | ⟨c1, c2⟩ | ⟨c1, c2⟩
    ·exact ⟨g, x', hm'⟩
    ·omega
    ·omega
   ·rintro ⟨_, ⟨_, c⟩ | ⟨c, _⟩⟩ <;> omega
 ·intro b g x hm
  rcases hdom' b g x hm with ⟨x', hm'⟩ | ⟨c1, c2⟩ | ⟨c1, c2⟩
  ·rcases h.dom b g x' hm' with h1 | ⟨j, h1, h2⟩
   ·exact .inl h1
   ·exact .inr ⟨j, .inl h1, h2⟩
  ·exact .inr ⟨i, .inr rfl, his, by omega, by omega⟩
  ·rcases hk with hk | hk
   ·rcases hT.find (i := i) (by omega) (show b < (S i).nx by omega) with h1 | ⟨j, hji, c3, c4⟩
    ·exact .inl h1
    ·refine .inr ⟨j, .inl ?_, by omega, c3, c4⟩
     obtain ⟨oj, hoj⟩ : ∃ oj, ops[j]? = some oj := ⟨ops[j], Array.getElem?_eq_getElem (by omega)⟩
     obtain ⟨hjp, _⟩ := hT.chg hoj ⟨by omega, .inl ⟨c3, c4⟩⟩
     have hord := (kind_spec ho).1 hk hpu j oj (by omega) hoj hjp
     exact (ready_order hT.ok hc hi hoj (by omega) hord).1 hji
   ·have := hs.low hk; omega
 ·intro hk3
  rcases hk with hk | hk <;> rw [hk] at hk3 <;> cases hk3
end
end Go.AM
/-
  Regions that draw their order.
-/
namespace Go.AM
open Go Go.RowKit Go.Lib
section
variable {E : Env} {base : Nat} {ops : Array Oper} {F : Nat → Fr} {S Y : Nat → St} {μ0 : Mp} {w0 : World} {l : Array Bool} {μ μ' : Mp} {f f' : Fr} {t t' : T Row} {a : Act} {w w' : World} {s s' : St} {ρ : Operand → Option AV} {o : Oper}
theorem DI.row (hT : Txt E base ops F S Y) (h0 : Inv base μ0 (S 0) w0) (h : DI base ops F S μ0 w0 (In l) μ f t a w) {i : Nat} (ho : ops[i]? = some o) (hi : i ∈ Region.ready .any ops l) (hc : Closed ops l) (hw : wantO (F i) ops o = true)
  (hk : kindOf ops i = 2 ∨ kindOf ops i = 3) {c g off : Nat} (hr : rowAt (Go.AM.ev (F i) (S i).gl) o.op = some c) {x : Operand} (hx : x ∈ o.op.operands) (hv : Go.AM.ev (F i) (S i).gl x = some (.ptr ⟨c, g, off⟩)) :
  (∃ x, μ c g = some x) ∧ c < (S i).nx ∧ Good ops S (In l) i c ∧ t.get c = (S i).hp.get c := by
 have his : i < ops.size := (Array.getElem?_eq_some_iff.1 ho).1
 have hin := h.inv hT h0
 have hgl := hT.gl_eq (k := i) (by omega)
 obtain ⟨μ1, w1, a1, hin1, htm1⟩ := hT.chain i (by omega)
 have hpu : isPure o.op = false := by
  rcases hk with hk | hk
  ·exact not_pure_load ((kind_spec ho).2.2.1 hk)
  ·exact not_pure_store ((kind_spec ho).2.2.2.1 hk)
 obtain ⟨_, ⟨_, _, hm1, _⟩, _⟩ := ev_sound hin1 htm1 x _ hv
 have hev := h.ev hT ho hi hc (S 0).gl x hx
 rw [hgl, ← hev] at hv
 obtain ⟨_, ⟨blk, n, hm, _⟩, _⟩ := ev_sound hin h.tm x _ hv
 have hlt : c < (S i).nx := hin1.dom _ _ _ hm1
 have hrow : rowOf ops F S i = some c := by
  unfold rowOf
  simp only [ho, hw]
  exact hr
 have hg : Good ops S (In l) i c := h.good hT ho hi hc hpu (.inr (.inl ⟨⟨g, _, hm⟩, hlt, .inr ⟨hk, hrow⟩⟩))
 exact ⟨⟨_, hm⟩, hlt, hg, h.cons c g _ hm i (by omega) hg hlt⟩
theorem DI.step (hT : Txt E base ops F S Y) (h0 : Inv base μ0 (S 0) w0) (h : DI base ops F S μ0 w0 (In l) μ f t a w) {i : Nat} (hi : i ∈ Region.ready .any ops l) (hc : Closed ops l)
  {Q : Exit → Act → World → Prop} {K : Act → World → Prop} (hK : ∀ μ' f' t' a' w', DI base ops F S μ0 w0 (In' l i) μ' f' t' a' w' → K a' w') : wpOp E.P ops Q i K a w := by
 obtain ⟨_, o, ho, _⟩ := mem_ready.1 hi
 have his : i < ops.size := (Array.getElem?_eq_some_iff.1 ho).1
 obtain ⟨o', ho', hs⟩ := hT.tr.step i (Nat.zero_le _) his
 rw [ho] at ho'
 injection ho' with ho'
 subst ho'
 have hin := h.inv hT h0
 have hinN := sD_low hin
 have hgl := hT.gl_eq (k := i) (by omega)
 have hnot := ready_not hi
 have n1 := hT.nx_le (i := 0) (k := i) (by omega) (by omega)
 have n2 := (hT.tf his).nx
 have n3 := hT.nx_le (i := i + 1) (k := ops.size) (by omega) (by omega)
 have n4 := hT.low_nx
 have hput : ∀ v, put (F i) o.dst v = some (F (i + 1)) → ∃ f', put f o.dst v = some f' := fun v hp =>
  put_of f v fun d hd => by rw [h.nt, ← hT.nt_eq (k := i) (by omega)]; exact (put_get hp).2.1 d hd
 have hev : ∀ s : St, s.gl = (S 0).gl → ∀ s2, opO E (Go.AM.ev f s.gl) s2 o.op = opO E (Go.AM.ev (F i) (S i).gl) s2 o.op := fun s hs s2 => by
  rw [hs, hgl]
  exact op_congr o.op (h.ev hT ho hi hc _)
 have hdomD : ∀ b g x, μ b g = some x → b < (S 0).nx ∨ ∃ j, In' l i j ∧ j < ops.size ∧ (S j).nx ≤ b ∧ b < (S (j + 1)).nx := fun b g x hm => by
  rcases h.dom b g x hm with h1 | ⟨j, h1, h2⟩
  ·exact .inl h1
  ·exact .inr ⟨j, .inl h1, h2⟩
 unfold wpOp
 simp only [ho]
 rw [← want_sound h.tm, h.want hT ho hi hc]
 cases hw : wantO (F i) ops o with
 | false =>
  rw [if_neg (by simp)]
  obtain ⟨v, hpF, ⟨h1, _⟩ | ⟨_, rfl, _⟩⟩ := one_inv hs.one
  ·rw [hw] at h1; cases h1
  ·obtain ⟨f', hpf⟩ := hput und hpF
   exact hK _ _ _ _ _ (h.skip hT h0 ho hi hc hpF hpf (hT.skip hs hw) (Stp.refl hin) (fun _ _ _ h => h) VR.und)
 | true =>
  rw [if_pos rfl]
  refine .inl ?_
  obtain ⟨v, hpF, hop⟩ := hT.op hs hw
  obtain ⟨f', hpf⟩ := hput v hpF
  cases hpu : isPure o.op with
  | true =>
   obtain ⟨h1, h2⟩ := pure_simple hpu hop
   have hS : S (i + 1) = S i := by
    rw [hs.next, h1]
    unfold preOf
    split <;> rfl
   refine op_sound hT.env hinN (ev_sound hinN h.tm) ((hev (sD ops S t) rfl _).trans (h2 { sD ops S t with low := (sD ops S t).nx })) K Q fun v' w' μ' hv hst => ?_
   obtain ⟨q1, q2⟩ := quiet_step hT hst
   exact hK _ _ _ _ _ (h.skip hT h0 ho hi hc hpF hpf hS q1 q2 hv)
  | false =>
   obtain ⟨_, _, k2, k3, k5⟩ := kind_spec ho
   rcases hs.kd with hk | hk | hk | hk | hk
   ·exact h.whole hT h0 ho hi hc hs hpu (.inl hk) hpF hpf hop hK
   ·exact h.whole hT h0 ho hi hc hs hpu (.inr hk) hpF hpf hop hK
   ·
    have hpre : preOf (kindOf ops) S i = S i := by simp [preOf, hk]
    have hnx : S (i + 1) = Y i := by rw [hs.next]; simp [hk]
    rw [hpre] at hop
    obtain ⟨h1, c, g, hr, ⟨x, off, hx, hxv⟩, h2⟩ := load_simple (k2 hk) hop
    obtain ⟨_, _, _, hrow⟩ := h.row hT h0 ho hi hc hw (.inl hk) hr hx hxv
    refine op_sound hT.env hinN (ev_sound hinN h.tm) ((hev (sD ops S t) rfl _).trans (h2 { sD ops S t with low := (sD ops S t).nx } hrow)) K Q fun v' w' μ' hv hst => ?_
    obtain ⟨q1, q2⟩ := quiet_step hT hst
    exact hK _ _ _ _ _ (h.skip hT h0 ho hi hc hpF hpf (hnx.trans h1) q1 q2 hv)
   ·
    have hpre : preOf (kindOf ops) S i = S i := by simp [preOf, hk]
    have hnx : S (i + 1) = Y i := by rw [hs.next]; simp [hk]
    rw [hpre] at hop
    obtain ⟨rfl, c, g, hr, ⟨x, off, hx, hxv⟩, h2⟩ := store_simple (k3 hk) hop
    obtain ⟨⟨xm, hm⟩, hlt, hgood, hrow⟩ := h.row hT h0 ho hi hc hw (.inr hk) hr hx hxv
    rcases h2 with ⟨h1, h2⟩ | ⟨r, h1, h2⟩
    ·refine op_sound hT.env hinN (ev_sound hinN h.tm) ((hev (sD ops S t) rfl _).trans (h2 { sD ops S t with low := (sD ops S t).nx })) K Q fun v' w' μ' hv hst => ?_
     obtain ⟨q1, q2⟩ := quiet_step hT hst
     exact hK _ _ _ _ _ (h.skip hT h0 ho hi hc hpF hpf (hnx.trans h1) q1 q2 hv)
    ·have hSi := hnx.trans h1
     have hlow : (S ops.size).low ≤ c := by
      have h3 := hT.low_le (i := i + 1) (k := ops.size) (by omega) (Nat.le_refl _)
      rw [hSi] at h3
      exact Nat.le_trans h3 (Nat.min_le_right _ _)
     have heq : ({ sD ops S t with hp := T.set r (sD ops S t).hp c, low := Nat.min (sD ops S t).low c } : St) = sD ops S (T.set r t c) := by
      have : Nat.min (S ops.size).low c = (S ops.size).low := Nat.min_eq_left hlow
      unfold sD
      simp only [this]
     have hop2 := h2 (sD ops S t) hrow
     rw [heq, ← hev (sD ops S t) rfl] at hop2
     obtain ⟨w', hrun, hst⟩ := store_run hin (ev_sound hin h.tm) (k3 hk) hop2
     unfold Oper.wp
     rw [hrun]
     have hchg : ∀ b, Chg ops S i b → b = c := fun b hb => by
      rcases hT.chg ho hb with ⟨_, hq | ⟨_, _, hq | hq⟩ | ⟨_, hq, _⟩⟩
      ·rw [hk] at hq; cases hq
      ·rw [hk] at hq; cases hq
      ·rw [hk] at hq; cases hq
      ·unfold rowOf at hq
       simp only [ho, hw, hr] at hq
       injection hq with hq
       exact hq.symm
     refine hK _ _ _ _ _ (h.next hT h0 ho hi hc hpF hpf hst VR.und (fun b g' x' hm' => ?_) (fun b g x hm => hdomD b g x hm) fun _ b hb => ⟨g, xm, by rw [hchg b hb]; exact hm⟩)
     by_cases hb : b = c
     ·subst hb
      refine .inl ⟨hgood, by omega, ?_⟩
      rw [hSi]
      show (T.set r t b).get b = (T.set r (S i).hp b).get b
      rw [T.get_set_same, T.get_set_same]
     ·refine .inr ⟨⟨g', x', hm'⟩, fun hq => hb (hchg b hq), ?_⟩
      rw [T.get_set_ne _ _ hb]
   ·
    have hpre : preOf (kindOf ops) S i = S i := by simp [preOf, hk]
    have hnx : S (i + 1) = Y i := by rw [hs.next]; simp [hk]
    rw [hpre] at hop
    obtain ⟨r, mk, hmk, hex, rfl, h1, h2⟩ := alloc_simple (k5 hk) hop
    have hSi := hnx.trans h1
    have hnx1 : (S (i + 1)).nx = (S i).nx + 1 := by rw [hSi]
    obtain ⟨μ1, w1, a1, hin1, htm1⟩ := hT.chain i (by omega)
    obtain ⟨μ2, w2, v2, hst2, hv2⟩ := op_step hT.env hin1 (ev_sound hin1 htm1) hop
    have hcells : ∃ vs, LR (CR μ2) r.cells vs := by
     have : ∃ x, μ2 (S i).nx 0 = some x := by
      rcases hmk with rfl | ⟨q, e, rfl⟩
      ·obtain ⟨_, ⟨_, _, hq, _⟩, _⟩ := hv2; exact ⟨_, hq⟩
      ·obtain ⟨_, _, _, hq, _⟩ := hv2; exact ⟨_, hq⟩
     obtain ⟨⟨blk, n⟩, hq⟩ := this
     obtain ⟨r', g1, g2⟩ := hst2.rel.row _ _ _ _ hq
     rw [h1] at g1
     have g1 : (T.set r (S i).hp (S i).nx).get (S i).nx = some r' := g1
     rw [T.get_set_same] at g1
     injection g1 with g1
     subst g1
     obtain ⟨cs, fz, _, _, g3, _⟩ := g2.at_
     have := (g3 _ hex).2.2
     rw [List.take_length] at this
     exact ⟨_, this⟩
    obtain ⟨vs, hcells⟩ := hcells
    have hsmall : Small μ2 (sD ops S t).nx := fun b g x hm => by
     have := hst2.dom b g x hm
     rw [← hnx] at this
     show b < (S ops.size).nx
     omega
    have hop2 := h2 { sD ops S t with low := (sD ops S t).nx }
    rw [← hev (sD ops S t) rfl] at hop2
    refine op_sound hT.env hinN (ev_sound hinN h.tm) hop2 K Q fun v' w' μ3 hv hst => ?_
    have hfree : ∀ g, μ (S i).nx g = none := fun g => by
     cases hm : μ (S i).nx g with
     | none => rfl
     | some x =>
      exfalso
      rcases h.dom _ g x hm with hb | ⟨j, hj, hjs, c1, c2⟩
      ·omega
      ·have := hT.new_one hjs his c1 c2 (Nat.le_refl _) (by omega)
       subst this; exact hnot hj
    obtain ⟨μn, q1, q2, hst'⟩ := Stp.rename (s := sD ops S t) (low := (sD ops S t).low) hin hst (m := (S i).nx) (by show _ < (S ops.size).nx; omega) hfree (by show (S ops.size).low ≤ _; omega) hsmall hcells
    have hv' : VR μn (mk ⟨(S i).nx, 0, 0⟩) v' := by
     rcases hmk with rfl | ⟨q, e, rfl⟩
     ·obtain ⟨c, ⟨blk, n, hq, hc⟩, hv⟩ := hv
      exact ⟨c, ⟨blk, n, (q1 0).trans hq, hc⟩, hv⟩
     ·obtain ⟨blk, m, cap, hq, hv⟩ := hv
      exact ⟨blk, m, cap, (q1 0).trans hq, hv⟩
    refine hK _ _ (T.set r t (S i).nx) _ _ (h.next hT h0 ho hi hc hpF hpf hst' hv' (fun b g x hm => ?_) (fun b g x hm => ?_) fun hk3 => by rw [hk] at hk3; cases hk3)
    ·by_cases hb : b = (S i).nx
     ·subst hb
      refine .inl ⟨h.good hT ho hi hc hpu (.inr (.inr ⟨Nat.le_refl _, by omega, .inr hk⟩)), by omega, ?_⟩
      rw [hSi]
      show (T.set r t (S i).nx).get (S i).nx = (T.set r (S i).hp (S i).nx).get (S i).nx
      rw [T.get_set_same, T.get_set_same]
     ·refine .inr ⟨⟨g, x, q2 b g x hb hm⟩, ?_, T.get_set_ne _ _ hb⟩
      rintro ⟨_, ⟨c1, c2⟩ | ⟨c1, c2⟩⟩
      ·omega
      ·apply c2
       rw [hSi]
       exact T.get_set_ne _ _ hb
    ·by_cases hb : b = (S i).nx
     ·exact .inr ⟨i, .inr rfl, his, by omega, by omega⟩
     ·exact hdomD b g x (q2 b g x hb hm)
theorem DI.congr {D D' : Nat → Prop} (hd : ∀ j, D j ↔ D' j) (h : DI base ops F S μ0 w0 D μ f t a w) : DI base ops F S μ0 w0 D' μ f t a w := by
 have : D = D' := funext fun j => propext (hd j)
 rw [← this]
 exact h
def leftOf (ops : Array Oper) (l : Array Bool) : Nat := (List.range ops.size).countP fun j => !l.getD j true
theorem countP_lt {p q : Nat → Bool} : ∀ {xs : List Nat} {i : Nat}, (∀ x, q x = true → p x = true) → i ∈ xs → p i = true → q i = false → xs.countP q < xs.countP p
 | [], _, _, h, _, _ => by cases h
 | x :: xs, i, hpq, hi, hp, hq => by
  have hle : xs.countP q ≤ xs.countP p := List.countP_mono_left fun y _ hy => hpq y hy
  rw [List.countP_cons, List.countP_cons]
  rcases List.mem_cons.1 hi with rfl | hi
  ·simp only [hp, hq]
   simp
   omega
  ·have := countP_lt hpq hi hp hq
   by_cases hx : q x = true
   ·simp [hx, hpq x hx]; omega
   ·simp [hx]
    omega
theorem any_order (hT : Txt E base ops F S Y) (h0 : Inv base μ0 (S 0) w0) {Q : Exit → Act → World → Prop} (hQ : ∀ μ f t a w, DI base ops F S μ0 w0 (fun j => j < ops.size) μ f t a w → Q .normal a w) :
  ∀ (fuel : Nat) (l : Array Bool), l.size = ops.size → leftOf ops l ≤ fuel → Closed ops l → ∀ μ f t a w, DI base ops F S μ0 w0 (In l) μ f t a w → wpAny E.P .any ops Q fuel l a w := by
 have hend : ∀ l : Array Bool, l.size = ops.size → Region.ready .any ops l = [] → ∀ μ f t a w, DI base ops F S μ0 w0 (In l) μ f t a w → Q .normal a w := by
  intro l hl hr μ f t a w h
  refine hQ μ f t a w (h.congr fun j => ⟨fun hj => ?_, fun hj => all_listed hT.ok hl hr _ j (Nat.lt_succ_self _) hj⟩)
  rcases Nat.lt_or_ge j l.size with hlt | hge
  ·omega
  ·unfold In at hj
   simp [Array.getElem?_eq_none hge] at hj
 intro fuel
 induction fuel with
 | zero =>
  intro l hl hn hc μ f t a w h
  have hr : Region.ready .any ops l = [] := by
   cases hr : Region.ready .any ops l with
   | nil => rfl
   | cons i r =>
    have hi : i ∈ Region.ready .any ops l := by rw [hr]; simp
    obtain ⟨h1, o, ho, _⟩ := mem_ready.1 hi
    have his : i < ops.size := (Array.getElem?_eq_some_iff.1 ho).1
    have : 0 < leftOf ops l := List.countP_pos_iff.2 ⟨i, List.mem_range.2 his, by rw [h1]; rfl⟩
    omega
  exact ⟨hr, hend l hl hr μ f t a w h⟩
 | succ fuel ih =>
  intro l hl hn hc μ f t a w h
  refine ⟨fun hr => hend l hl hr μ f t a w h, fun i hi => ?_⟩
  obtain ⟨h1, o, ho, _⟩ := mem_ready.1 hi
  have his : i < ops.size := (Array.getElem?_eq_some_iff.1 ho).1
  refine h.step hT h0 hi hc fun μ' f' t' a' w' h' => ?_
  refine ih _ (by simpa using hl) ?_ (closed_set hc hi (by omega)) μ' f' t' a' w' (h'.congr fun j => (in_set (by omega)).symm)
  have : leftOf ops (l.setIfInBounds i true) < leftOf ops l := countP_lt (i := i) (fun j hj => by
    by_cases hji : i = j
    ·subst hji
     have : i < l.size := by omega
     simp [this] at hj
    ·rw [getD_set_ne true hji] at hj; exact hj) (List.mem_range.2 his) (by rw [h1]; rfl) (by
    have : i < l.size := by omega
    simp [this])
  omega
end
theorem draw_ok : DrawOk := by
 intro E base ops id f f' s s' hE hm hok h μ w a hi ht hd Q hq
 obtain ⟨F, S, Y, e1, e2, e3, e4, htr⟩ := draw_trace ops.toList 0 [] [] f f' s s' rfl h
 have hlen : 0 + ops.toList.length = ops.size := by simp
 rw [hlen] at e3 e4 htr
 have hT : Txt E base ops F S Y := ⟨hE, hok, htr, μ, w, a, by rw [e2]; exact hi, by rw [e1]; exact ht⟩
 let w0 : World := { w with drawn := w.drawn + 1 }
 have h0 : Inv base μ (S 0) w0 := by
  rw [e2]
  exact ⟨hi.rel.heap rfl, hi.dom, hi.low, hi.size, hi.glob, hi.wf⟩
 have n1 := hT.nx_le (i := 0) (Nat.zero_le _) (Nat.le_refl _)
 have n2 := hT.low_le (i := 0) (Nat.zero_le _) (Nat.le_refl _)
 have n3 := hT.low_nx
 have hnone : ∀ j, ¬ In (Array.replicate ops.size false) j := fun j hj => by
  unfold In at hj
  simp [Array.getElem?_replicate] at hj
  split at hj <;> simp at hj
 have h1 : Inv base μ { S 0 with nx := (S ops.size).nx } w0 := ⟨h0.rel, fun b g x hm => Nat.lt_of_lt_of_le (h0.dom b g x hm) n1, Nat.le_trans h0.low n1, h0.size, h0.glob, h0.wf.mono n1⟩
 refine wp_region_any hm (any_order hT h0 (fun μ' fD t a' w' hD => ?_) ops.size _ (by simp) ?_ (fun j o hj => absurd hj (hnone j)) μ f s.hp a w0 ?_)
 ·
  refine hq μ' w' a' ?_ ?_ hD.defers
  ·have hst := hD.stp
   have hrow : ∀ b g x, μ' b g = some x → t.get b = s'.hp.get b := fun b g x hm => by
    rw [← e4]
    exact hD.cons b g x hm ops.size (Nat.le_refl _) (fun j hj => Iff.rfl) (hst.dom b g x hm)
   have hnx : s.nx = (S 0).nx := by rw [e2]
   refine ⟨hst.ext, ⟨fun b g blk n hm => ?_, fun b g blk n b' g' n' r hm hm' hg ho => ?_⟩, fun b g x hm => ?_, fun b g blk n hm => ?_, ?_, ?_, ?_, ?_, fun blk hb => ?_, hst.size, hst.os, hst.tape, hst.output, ?_⟩
   ·obtain ⟨r, g1, g2⟩ := hst.rel.row b g blk n hm
    exact ⟨r, (hrow b g _ hm).symm.trans g1, g2⟩
   ·exact hst.rel.sep _ _ _ _ _ _ _ _ hm hm' ((hrow b g _ hm).trans hg) ho
   ·have := hst.dom b g x hm
    rw [← e4]; exact this
   ·rcases hst.new b g blk n hm with h2 | ⟨h2, h3⟩ | ⟨h2, h3, h4⟩
    ·exact .inl h2
    ·have h2 : (S ops.size).nx ≤ b := h2
     exact .inr (.inl ⟨by omega, h3⟩)
    ·have h2 : (S ops.size).low ≤ b := h2
     rw [← e4]
     rcases Nat.lt_or_ge b s.nx with hb | hb
     ·exact .inr (.inr ⟨h2, hb, h4⟩)
     ·refine .inr (.inl ⟨hb, ?_⟩)
      rcases h4 with h4 | ⟨g0, h4⟩
      ·exact h4
      ·have := hi.dom _ _ _ h4; omega
   ·rw [← e4, hnx]; exact n1
   ·rw [← e4, ← e2]; exact hT.gl_eq (Nat.le_refl _)
   ·rw [← e4, ← e2]; exact n2
   ·intro b _ hb
    rw [← e4] at hb ⊢
    rw [← e2]
    exact hT.same_low hb (Nat.le_refl _)
   ·rcases hst.fr blk hb with h2 | ⟨b, g, n, h2, h3, h4⟩
    ·exact .inl h2
    ·rw [← e4]
     exact .inr ⟨b, g, n, h2, h3, h4⟩
   ·obtain ⟨_, _, _, hin1, _⟩ := hT.chain ops.size (Nat.le_refl _)
    rw [← e4]
    exact hin1.wf
  ·refine ⟨?_, fun d => ?_⟩
   ·rw [hD.tm.size, hD.nt, ← hT.nt_eq (Nat.le_refl ops.size), e3]
   ·have := hD.tm.tmp d
    rw [hD.tcons d ops.size (Nat.le_refl _) (fun j o hj _ => Iff.rfl), e3] at this
    exact this
 ·unfold leftOf
  exact Nat.le_trans List.countP_le_length (by simp)
 ·have hsd : sD ops S s.hp = { { S 0 with nx := (S ops.size).nx } with low := (S ops.size).low } := by
   unfold sD
   rw [← e2]
  refine ⟨?_, by rw [← e1] at ht ⊢; exact ht, by rw [e1], fun b g x hm k hk hp hb => ?_, fun d k hk hp => ?_, fun b g x hm => .inl (h0.dom b g x hm), fun j hj => absurd hj (hnone j), hd⟩
  ·rw [hsd]
   exact (Stp.refl h1).lower n2
  ·have hbx : b < (S 0).nx := h0.dom b g x hm
   rw [hT.stay hbx (Nat.zero_le k) hk fun j _ hj hch => hnone j ((hp j hch).1 hj), e2]
  ·rw [hT.tstay (i := 0) (Nat.zero_le k) hk fun j o _ hj hoj hjd => hnone j ((hp j o hoj hjd).1 hj), e1]
end Go.AM
/-
  A closed call that the abstract machine runs to a plain value: the model's call returns it, and leaves what was there.
-/
namespace Go.AM
open Go Go.RowKit Go.Lib
def μ0 : Mp := fun _ _ => none
def s00 : St := { hp := .nil, nx := 0, low := 0, gl := 0 }
theorem inv00 (w : World) : Inv w.heap.size μ0 s00 w :=
 ⟨⟨fun _ _ _ _ h => (by cases h), fun _ _ _ _ _ _ _ _ h => (by cases h)⟩, fun _ _ _ h => (by cases h), Nat.le_refl _, Nat.le_refl _, fun _ h => absurd h (Nat.not_lt_zero _), fun _ _ h => (by cases h)⟩
theorem args_plain {μ : Mp} : ∀ {as : List AV} {vs : List Value}, allB plainV as = true → LR (VR μ) as vs → LR (VR μ0) as vs
 | [], [], _, _ => trivial
 | a :: as, v :: vs, h, ⟨h1, h2⟩ => by
  simp only [allB] at h
  split at h
  ·rename_i ha
   exact ⟨plain_rel ha h1, args_plain h h2⟩
  ·cases h
 | [], _ :: _, _, h => h.elim
 | _ :: _, [], _, h => h.elim
section
variable {P : Program} {same : FuncId → Bool} {known : FuncId → List AV → Option AV}
theorem plain_call (hP : ProgOk P same known) {n : Nat} {f : FuncId} {args : List AV} {v : AV} {s' : St} (ha : allB plainV args = true) (hv : plainV v = true)
  (h : (run P same known kindOf n).call f args s00 = some (v, s')) :
  (∀ vs w, (callFunc f vs).run P w = .ok (.enter f vs) w) ∧
  ∀ μ vs w, LR (VR μ) args vs → Calls P f vs.toArray w fun e w' => ∃ v', e = .returned v' ∧ VR μ v v' ∧ Below w.heap.size w w' := by
 refine ⟨((run_sound hP draw_ok 0 n).2.2 f args s00 v s' h).1, fun μ vs w hvs => ?_⟩
 refine (((run_sound hP draw_ok w.heap.size n).2.2 f args s00 v s' h).2 μ0 w vs (inv00 w) (args_plain ha hvs)).mono ?_
 rintro e w' ⟨v', μ', rfl, h1, h2⟩
 exact ⟨v', rfl, plain_rel hv h1, h2.below (Nat.le_refl _)⟩
theorem closed_bool (hP : ProgOk P same known) {n : Nat} {f : FuncId} {b : Bool} {s' : St} (h : (run P same known kindOf n).call f [] s00 = some (.bool b, s')) (w : World) :
  Calls P f #[] w fun e w' => e = .returned (.bool b) ∧ Below w.heap.size w w' := by
 refine ((plain_call hP (args := []) rfl rfl h).2 μ0 [] w trivial).mono ?_
 rintro e w' ⟨v', rfl, h1, h2⟩
 have : v' = .bool b := h1
 subst this
 exact ⟨rfl, h2⟩
end
end Go.AM
