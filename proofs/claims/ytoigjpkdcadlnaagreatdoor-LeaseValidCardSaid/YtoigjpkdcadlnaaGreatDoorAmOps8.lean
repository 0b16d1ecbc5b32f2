/-
  One operation: what the abstract machine does, the model does.
-/
import Derived.Test.YtoigjpkdcadlnaaGreatDoorAmOps7
namespace Go.AM
open Go Go.RowKit Go.Lib

structure TmRel (μ : Mp) (f : Fr) (a : Act) : Prop where
  size : a.tmps.size = f.nt
  tmp : ∀ t, VR μ ((f.tm.get t).getD und) (a.tmps.getD t undef)

def RhoOk (μ : Mp) (ρ : Operand → Option AV) (a : Act) : Prop := ∀ x v, ρ x = some v → VR μ v (a.eval x)

section
variable {base : Nat} {μ μ' : Mp} {P : Program} {w : World} {s s' : St} {a : Act} {f f' : Fr} {ρ : Operand → Option AV}

theorem TmRel.mono (h : TmRel μ f a) (he : Ext μ μ') : TmRel μ' f a := ⟨h.size, fun t => (h.tmp t).mono he⟩

theorem TmRel.put (h : TmRel μ f a) {dst : Option Tmp} {v : AV} {v' : Value} (hp : put f dst v = some f') (hv : VR μ v v') : TmRel μ f' (a.put dst v') := by
  unfold Go.AM.put at hp
  cases dst with
  | none => simp at hp; subst hp; exact h
  | some d =>
    simp only at hp
    split at hp
    · rename_i hd
      have hd : d < f.nt := by simpa using Nat.blt_eq.mp hd
      simp at hp; subst hp
      refine ⟨by simpa [Act.put] using h.size, fun t => ?_⟩
      show VR μ (((T.set v f.tm d).get t).getD und) _
      rw [T.get_set]
      have hsz := h.size
      by_cases htd : t = d
      · subst htd
        rw [if_pos rfl]
        have hta : t < a.tmps.size := by rw [hsz]; exact hd
        simp [Act.put, hta]
        exact hv
      · rw [if_neg htd]
        have : (a.put (some d) v').tmps.getD t undef = a.tmps.getD t undef := by
          simp [Act.put, Array.getElem?_setIfInBounds_ne (fun h => htd h.symm)]
        rw [this]
        exact h.tmp t
    · cases hp

theorem ev_sound (hi : Inv base μ s w) (ht : TmRel μ f a) : RhoOk μ (ev f s.gl) a := by
  intro x v h
  cases x with
  | tmp t =>
    have := ht.tmp t
    simp only [ev] at h
    split at h
    · rename_i u hu
      simp at h; subst h
      rw [hu] at this
      exact this
    · rename_i hu
      simp at h; subst h
      rw [hu] at this
      exact this
  | const c => exact (vOf_sound h).vr
  | global g =>
    simp only [ev] at h
    split at h
    · rename_i hg
      have hg : g < s.gl := by simpa using Nat.blt_eq.mp hg
      simp at h; subst h
      obtain ⟨n, hn⟩ := hi.glob g hg
      exact ⟨⟨g, 0, none⟩, ⟨g, n, hn, rfl⟩, rfl⟩
    · cases h
  | func f =>
    simp [ev] at h; subst h
    exact ⟨[], trivial, rfl⟩

theorem evs_sound (hr : RhoOk μ ρ a) : ∀ {xs : List Operand} {vs : List AV}, evs ρ xs = some vs → LR (VR μ) vs (xs.map a.eval)
  | [], vs, h => by simp [evs] at h; subst h; trivial
  | x :: xs, vs, h => by
    simp only [evs] at h
    split at h
    · cases h
    · rename_i v hv
      split at h
      · cases h
      · rename_i vs' hvs
        simp at h; subst h
        exact ⟨hr _ _ hv, evs_sound hr hvs⟩

theorem evO_sound (hr : RhoOk μ ρ a) {x : Option Operand} {v : Option AV} (h : evO ρ x = some v) : OR μ v (x.map a.eval) := by
  cases x with
  | none => simp [evO] at h; subst h; trivial
  | some x =>
    simp only [evO] at h
    split at h
    · cases h
    · rename_i u hu
      simp at h; subst h
      exact hr _ _ hu

theorem evParts_sound (hr : RhoOk μ ρ a) : ∀ {xs : List (Nat × Operand)} {vs : List (Nat × AV)}, evParts ρ xs = some vs → PR μ vs (xs.map fun p => (p.1, a.eval p.2))
  | [], vs, h => by simp [evParts] at h; subst h; trivial
  | (i, x) :: xs, vs, h => by
    simp only [evParts] at h
    split at h
    · cases h
    · rename_i v hv
      split at h
      · cases h
      · rename_i vs' hvs
        simp at h; subst h
        exact ⟨⟨rfl, hr _ _ hv⟩, evParts_sound hr hvs⟩

theorem addrs_sound : ∀ {vs : List AV} {l : List AA} {us : List Value}, addrs vs = some l → LR (VR μ) vs us → ∃ cs, LR (AR μ) l cs ∧ us = cs.map fun c => Value.pointer (some c)
  | [], l, us, h, hu => by
    simp [addrs] at h; subst h
    rw [hu.nil_left]; exact ⟨[], trivial, rfl⟩
  | v :: vs, l, us, h, hu => by
    obtain ⟨u, us', rfl, h1, h2⟩ := hu.cons_left
    unfold addrs at h
    split at h
    · rename_i heq; cases heq
    · rename_i a r heq
      injection heq with e1 e2
      subst e1; subst e2
      split at h
      · rename_i l' hl'
        simp at h; subst h
        obtain ⟨cs, h3, rfl⟩ := addrs_sound hl' h2
        obtain ⟨c, hc, rfl⟩ := h1
        exact ⟨c :: cs, ⟨hc, h3⟩, rfl⟩
      · cases h
    · cases h

theorem scalar_sound {v : AV} {v' : Value} (h : scalar v = true) (hv : VR μ v v') : SR μ v v' := by
  cases v <;> simp [scalar] at h <;> exact hv

theorem foldMin_sound : ∀ {r : List AV} {x v : AV} {us : List Value} {u : Value}, foldMin x r = some v → LR (VR μ) r us → VR μ x u → ∃ v', VR μ v v' ∧ ∀ w, (us.foldlM Builtin.min2 u : Sem Value).run P w = .ok v' w
  | [], x, v, us, u, h, hr, hx => by
    rw [hr.nil_left]
    unfold foldMin at h
    simp at h; subst h
    exact ⟨u, hx, fun w => by simp⟩
  | y :: r, x, v, us, u, h, hr, hx => by
    obtain ⟨u1, us', rfl, h1, h2⟩ := hr.cons_left
    unfold foldMin at h
    split at h
    · rename_i heq; cases heq
    · rename_i k a k' b r' heq
      injection heq with e1 e2
      subst e1; subst e2
      rw [int_inv hx, int_inv h1]
      obtain ⟨v', h3, h4⟩ := foldMin_sound (u := .int k (if b < a then b else a)) h h2 rfl
      exact ⟨v', h3, fun w => by simp only [List.foldlM_cons, Sem.run_bind, Builtin.min2, Sem.run_pure, Result.andThen_ok, h4]⟩
    · cases h

theorem foldMax_sound : ∀ {r : List AV} {x v : AV} {us : List Value} {u : Value}, foldMax x r = some v → LR (VR μ) r us → VR μ x u → ∃ v', VR μ v v' ∧ ∀ w, (us.foldlM Builtin.max2 u : Sem Value).run P w = .ok v' w
  | [], x, v, us, u, h, hr, hx => by
    rw [hr.nil_left]
    unfold foldMax at h
    simp at h; subst h
    exact ⟨u, hx, fun w => by simp⟩
  | y :: r, x, v, us, u, h, hr, hx => by
    obtain ⟨u1, us', rfl, h1, h2⟩ := hr.cons_left
    unfold foldMax at h
    split at h
    · rename_i heq; cases heq
    · rename_i k a k' b r' heq
      injection heq with e1 e2
      subst e1; subst e2
      rw [int_inv hx, int_inv h1]
      obtain ⟨v', h3, h4⟩ := foldMax_sound (u := .int k (if b > a then b else a)) h h2 rfl
      exact ⟨v', h3, fun w => by simp only [List.foldlM_cons, Sem.run_bind, Builtin.max2, Sem.run_pure, Result.andThen_ok, h4]⟩
    · cases h

theorem len_sound {x : AV} {n : Nat} {x' : Value} (h : lenO x = some n) (hs : ∀ l, x ≠ .str l) (hx : VR μ x x') : ∃ a c, x' = .slice a n c := by
  unfold lenO at h
  split at h
  · exact absurd rfl (hs _)
  · simp at h; subst h; exact ⟨none, 0, hx⟩
  · simp at h; subst h; obtain ⟨a, c, rfl⟩ := hx; exact ⟨some a, c, rfl⟩
  · simp at h; subst h; obtain ⟨_, _, c, _, rfl, _⟩ := hx; exact ⟨_, c, rfl⟩
  · cases h

theorem builtin_sound (hi : Inv base μ s w) {b : Builtin} {ts : Array TypeId} {ty : TypeId} {consts : Array Bool} {args : List AV} {v : AV} {us : List Value} (h : builtinO P s b ts args = some (v, s')) (hu : LR (VR μ) args us) :
    (∃ v' w' μ', (builtin b ts ty consts us.toArray).run P w = .ok (.value v') w' ∧ VR μ' v v' ∧ Stp base μ μ' s s' w w') ∧ s'.gl = s.gl ∧ s'.gl = s.gl := by
  unfold builtinO at h
  split at h
  · -- len
    rename_i x
    obtain ⟨x', us', rfl, hx, hu'⟩ := hu.cons_left
    have := hu'.nil_left
    subst this
    split at h
    · rename_i t ht
      split at h
      · rename_i n e hun
        simp at h; obtain ⟨rfl, rfl⟩ := h
        exact ⟨⟨_, w, μ, by simp [builtin, Builtin.len_, ht, run_underlying hun]; rfl, rfl, Stp.refl hi⟩, rfl, rfl⟩
      · rename_i arr hun
        split at h
        · rename_i n e hun2
          simp at h; obtain ⟨rfl, rfl⟩ := h
          exact ⟨⟨_, w, μ, by simp [builtin, Builtin.len_, ht, run_underlying hun, run_underlying hun2]; rfl, rfl, Stp.refl hi⟩, rfl, rfl⟩
        · cases h
      · rename_i e hun
        split at h
        · cases h
        · rename_i hns
          split at h
          · rename_i n hn
            simp at h; obtain ⟨rfl, rfl⟩ := h
            obtain ⟨q, c, rfl⟩ := len_sound hn hns hx
            exact ⟨⟨_, w, μ, by simp [builtin, Builtin.len_, ht, run_underlying hun]; rfl, rfl, Stp.refl hi⟩, rfl, rfl⟩
          · cases h
      · rename_i hun
        split at h
        · rename_i l
          simp at h; obtain ⟨rfl, rfl⟩ := h
          rw [str_inv hx]
          have hsz : (⟨l.toArray⟩ : ByteArray).size = l.length := by simp [ByteArray.size]
          exact ⟨⟨_, w, μ, by simp [builtin, Builtin.len_, ht, run_underlying hun, hsz]; rfl, rfl, Stp.refl hi⟩, rfl, rfl⟩
        · cases h
      · cases h
    · cases h
  · -- append
    rename_i x y
    obtain ⟨x', us', rfl, hx, hu'⟩ := hu.cons_left
    obtain ⟨y', us'', rfl, hy, hu''⟩ := hu'.cons_left
    have := hu''.nil_left
    subst this
    split at h
    · rename_i t xt ht hxt
      have hts : ∀ q, (Builtin.append_ ts ty q) = Builtin.append_ #[t, xt] ty q := by
        intro q
        unfold Builtin.append_
        simp [ht, hxt]
      obtain ⟨⟨v', w', μ', h1, h2⟩, h3⟩ := append_sound (ty := ty) hi h hx hy
      refine ⟨⟨v', w', μ', ?_, h2⟩, h3⟩
      simp [builtin, hts, h1]
    · cases h
  · -- min
    rename_i x r
    obtain ⟨x', us', rfl, hx, hu'⟩ := hu.cons_left
    split at h
    · rename_i v0 hv
      simp at h; obtain ⟨rfl, rfl⟩ := h
      obtain ⟨v', h1, h2⟩ := foldMin_sound (P := P) hv hu' hx
      exact ⟨⟨v', w, μ, by simp [builtin, Builtin.min_, h2], h1, Stp.refl hi⟩, rfl, rfl⟩
    · cases h
  · rename_i x r
    obtain ⟨x', us', rfl, hx, hu'⟩ := hu.cons_left
    split at h
    · rename_i v0 hv
      simp at h; obtain ⟨rfl, rfl⟩ := h
      obtain ⟨v', h1, h2⟩ := foldMax_sound (P := P) hv hu' hx
      exact ⟨⟨v', w, μ, by simp [builtin, Builtin.max_, h2], h1, Stp.refl hi⟩, rfl, rfl⟩
    · cases h
  · -- the data of a slice
    rename_i x
    obtain ⟨x', us', rfl, hx, hu'⟩ := hu.cons_left
    have := hu'.nil_left
    subst this
    split at h
    · simp at h; obtain ⟨rfl, rfl⟩ := h
      have hx : x' = _ := hx
      subst hx
      exact ⟨⟨_, w, μ, by simp [builtin, run_unsafeSliceData_nil], rfl, Stp.refl hi⟩, rfl, rfl⟩
    · rename_i q n e
      simp at h; obtain ⟨rfl, rfl⟩ := h
      obtain ⟨blk, m, cap, hm, rfl, hle, _⟩ := hx
      have hc : cap ≠ 0 := by omega
      exact ⟨⟨.pointer (some ⟨blk, q.off, none⟩), w, μ, by simp [builtin, run_unsafeSliceData_row w ts ty _ _ cap hc], ⟨_, ⟨blk, m, hm, rfl⟩, rfl⟩, Stp.refl hi⟩, rfl, rfl⟩
    · cases h
  · -- a string of bytes
    rename_i p n
    obtain ⟨p', us', rfl, hp, hu'⟩ := hu.cons_left
    obtain ⟨n', us'', rfl, hn, hu''⟩ := hu'.cons_left
    have := hu''.nil_left
    subst this
    rw [int_inv hn]
    split at h
    · rename_i pt it hts
      have hts' : ts = #[pt, it] := by
        apply Array.ext'
        simpa using hts
      subst hts'
      split at h
      · split at h
        · rename_i hz
          have hz : n = 0 := by simpa using hz
          subst hz
          simp at h; obtain ⟨rfl, rfl⟩ := h
          have hp : p' = _ := hp
          subst hp
          exact ⟨⟨.string .empty, w, μ, by simp [builtin, run_unsafeString_none], rfl, Stp.refl hi⟩, rfl, rfl⟩
        · cases h
      · rename_i q
        split at h
        · rename_i k hk
          split at h
          · rename_i cs r hc hg
            split at h
            · rename_i l hl
              split at h
              · rename_i hcond
                split at h
                · rename_i u hpt hsz
                  split at h
                  · rename_i hue
                    have hue := Nat.eq_of_beq_eq_true hue
                    subst hue
                    simp only [Option.some.injEq, Prod.mk.injEq] at h
                    obtain ⟨rfl, rfl⟩ := h
                    simp only [Bool.and_eq_true, Bool.not_eq_true', ble_iff] at hcond
                    obtain ⟨hodd, hown, hoff, hgen, hbnd⟩ := hcond
                    have hoff := Nat.eq_of_beq_eq_true hoff
                    have hgen := Nat.eq_of_beq_eq_true hgen
                    obtain ⟨c, hc', rfl⟩ := hp
                    obtain ⟨vs, hv, hcn, hcell⟩ := read_cells hi.rel hc hc'
                    have hb := bytes_sound hl hv
                    subst hb
                    have hln := hv.length
                    simp at hln
                    obtain ⟨blk, m, hm, rfl⟩ := hc'
                    obtain ⟨r', hg', hrow⟩ := hi.rel.row _ _ _ _ hm
                    rw [hg] at hg'
                    injection hg' with hg'
                    subst hg'
                    obtain ⟨arr, fz, hh, hs1, hex, _⟩ := hrow.at_
                    have hext : extent r q.g = some r.len := by rw [hgen]; exact extent_gen hrow.gens
                    have hlr := (hex _ hext).1
                    have hkl : k + 1 ≤ r.len := by
                      simp only [readCells, hg, hext] at hc
                      split at hc
                      · rename_i hb; have := ble_iff.1 hb; omega
                      · cases hc
                    have hnk : n = ((k + 1 : Nat) : Int) := by
                      obtain ⟨kk, hkk⟩ := nat_sound (μ := μ) hk (show VR μ (.int .i64 n) (.int .i64 n) from rfl)
                      injection hkk
                    have hll : l.length = k + 1 := by omega
                    have hc1 : P.cellsOf r.elem = 1 := by
                      unfold sizeT at hsz
                      unfold Program.cellsOf
                      rw [hsz]; rfl
                    rw [hgen] at hm
                    have hstp := freeze_row hi hg hown hodd hm (k + 1) hkl (by omega)
                    refine ⟨⟨.string ⟨l.toArray⟩, _, μ, ?_, rfl, hstp⟩, rfl, rfl⟩
                    have hrun := run_unsafeString_row (P := P) (w := w) pt it ty r.elem hpt hc1 blk arr.size (shape_of_heap hh) l (by intro h0; rw [h0] at hll; simp at hll) (by omega) (by omega)
                      (fun j x hj => by
                        have := hcell j (.int .u8 x.toNat) (by simp [hj])
                        rw [hoff] at this
                        exact this)
                    rw [hll] at hrun
                    rw [hnk, hoff]
                    simp only [builtin, Sem.run_bind, hrun, Result.andThen_ok, Sem.run_pure]
                  · cases h
                · cases h
              · cases h
            · cases h
          · cases h
        · cases h
      · cases h
    · cases h
  · cases h
end
end Go.AM
