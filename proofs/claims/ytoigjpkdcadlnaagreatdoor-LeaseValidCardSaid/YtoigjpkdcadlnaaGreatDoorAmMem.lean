/-
  Cells that are written, rows that grow, bytes that are frozen: the abstract row and the block go on side by side.
-/
import Derived.Test.YtoigjpkdcadlnaaGreatDoorAmRel
import Derived.Laws.IdiomCopy
import Derived.Deep.AppendSrc
import Derived.Deep.Upon
namespace Go.AM
open Go Go.RowKit

def spl {α : Type} (l : List α) (o : Nat) (xs : List α) : List α := l.take o ++ (xs ++ l.drop (o + xs.length))

theorem splice_eq (l : List AV) (o : Nat) (xs : List AV) : splice l o xs = spl l o xs := rfl

theorem ble_iff {a b : Nat} : Nat.ble a b = true ↔ a ≤ b := by rw [Nat.ble_eq]

theorem spl_nil {α : Type} (l : List α) (o : Nat) : spl l o [] = l := by simp [spl]

theorem spl_cons {α : Type} (l : List α) (o : Nat) (v : α) (r : List α) (h : o < l.length) : spl l o (v :: r) = spl (l.set o v) (o + 1) r := by
  unfold spl
  have h1 : (l.set o v).take (o + 1) = l.take o ++ [v] := by
    rw [List.take_succ_eq_append_getElem (by simpa using h), List.take_set, List.set_eq_of_length_le (by simp; omega)]
    simp
  have h2 : (l.set o v).drop (o + 1 + r.length) = l.drop (o + (v :: r).length) := by
    rw [List.drop_set]
    rw [if_pos (by omega)]
    congr 1
    simp; omega
  rw [h1, h2]
  simp

theorem spl_length {α : Type} (l : List α) (o : Nat) (xs : List α) (h : o + xs.length ≤ l.length) : (spl l o xs).length = l.length := by
  simp [spl]; omega

theorem spl_take {α : Type} (l : List α) (o : Nat) (xs : List α) (m : Nat) (h : m ≤ o) (ho : o ≤ l.length) : (spl l o xs).take m = l.take m := by
  unfold spl
  rw [List.take_append_of_le_length (by simp; omega), List.take_take]
  congr 1
  omega

theorem spl_get {α : Type} (l : List α) (o : Nat) (xs : List α) (h : o + xs.length ≤ l.length) (i : Nat) :
    (spl l o xs)[i]? = if i < o then l[i]? else if i < o + xs.length then xs[i - o]? else l[i]? := by
  unfold spl
  have hl : (l.take o).length = o := by simp; omega
  by_cases h1 : i < o
  · rw [List.getElem?_append_left (by omega), if_pos h1, List.getElem?_take, if_pos h1]
  · rw [List.getElem?_append_right (by omega), if_neg h1, hl]
    by_cases h2 : i < o + xs.length
    · rw [List.getElem?_append_left (by omega), if_pos h2]
    · rw [List.getElem?_append_right (by omega), if_neg h2, List.getElem?_drop]
      congr 1
      omega

theorem spl_take_comm {α : Type} (l : List α) (o : Nat) (xs : List α) (k : Nat) (h : o + xs.length ≤ k) (hk : k ≤ l.length) : spl (l.take k) o xs = (spl l o xs).take k := by
  apply List.ext_getElem?
  intro i
  rw [spl_get (l.take k) _ _ (by simp; omega), List.getElem?_take, List.getElem?_take (l := spl l o xs), spl_get l _ _ (by omega)]
  by_cases h1 : i < o
  · rw [if_pos h1, if_pos (by omega), if_pos (by omega), if_pos h1]
  · by_cases h2 : i < o + xs.length
    · rw [if_neg h1, if_pos h2, if_pos (by omega), if_neg h1, if_pos h2]
    · rw [if_neg h1, if_neg h2, if_neg h1, if_neg h2]

theorem LR.spl {α β : Type} {R : α → β → Prop} {as : List α} {bs : List β} {xs : List α} {ys : List β} (h : LR R as bs) (o : Nat) (hx : LR R xs ys) :
    LR R (Go.AM.spl as o xs) (Go.AM.spl bs o ys) := by
  unfold Go.AM.spl
  rw [hx.length]
  exact (h.take o).append (hx.append (h.drop _))

theorem setCells_heap (b : Nat) : ∀ (vs : List Value) (o : Nat) (w : World) (cs : Array Value) (e : TypeId) (fz : Nat × Nat), w.heap[b]? = some (.cells cs e fz) → o + vs.length ≤ cs.size →
    ∃ cs' : Array Value, (w.setCells b o vs).heap[b]? = some (.cells cs' e fz) ∧ cs'.toList = spl cs.toList o vs
  | [], o, w, cs, e, fz, h, _ => ⟨cs, h, by rw [spl_nil]⟩
  | v :: r, o, w, cs, e, fz, h, hl => by
    have h1 : (w.setCell ⟨b, o, none⟩ v).heap[b]? = some (.cells (cs.setIfInBounds o v) e fz) := by
      simp [World.setCell, Array.getElem?_modify, h]
    obtain ⟨cs', h2, h3⟩ := setCells_heap b r (o + 1) _ _ e fz h1 (by simp at hl ⊢; omega)
    refine ⟨cs', h2, ?_⟩
    rw [h3, spl_cons _ _ _ _ (by simp at hl ⊢; omega)]
    simp

theorem setCells_other (b : Nat) : ∀ (vs : List Value) (o : Nat) (w : World) (k : Nat), k ≠ b → (w.setCells b o vs).heap[k]? = w.heap[k]?
  | [], _, _, _, _ => rfl
  | v :: r, o, w, k, h => by
    have := setCells_other b r (o + 1) (w.setCell ⟨b, o, none⟩ v) k h
    rw [World.setCells, this]
    exact Below.heap_setCell w ⟨b, o, none⟩ v k h

theorem setCells_rest (b : Nat) : ∀ (vs : List Value) (o : Nat) (w : World), (w.setCells b o vs).heap.size = w.heap.size ∧ (w.setCells b o vs).os = w.os ∧ (w.setCells b o vs).tape = w.tape ∧ (w.setCells b o vs).output = w.output
  | [], _, _ => ⟨rfl, rfl, rfl, rfl⟩
  | v :: r, o, w => by
    have := setCells_rest b r (o + 1) (w.setCell ⟨b, o, none⟩ v)
    refine ⟨this.1.trans (by simp [World.setCell]), this.2.1, this.2.2.1, this.2.2.2⟩

theorem CR.oneCell {μ : Mp} {x : AV} {v : Value} (h : CR μ x v) : v.oneCell' = true := by
  cases x <;> simp only [CR, SR] at h
  case ptr a => obtain ⟨c, _, rfl⟩ := h; rfl
  case empty => obtain ⟨a, c, rfl⟩ := h; rfl
  case slice a n e => obtain ⟨_, _, _, _, rfl, _⟩ := h; rfl
  case func f c => obtain ⟨_, _, rfl⟩ := h; rfl
  case iface t y => obtain ⟨_, _, rfl⟩ := h; rfl
  all_goals first | (subst h; rfl) | exact h.elim

theorem LR.oneCell {μ : Mp} : ∀ {xs : List AV} {vs : List Value}, LR (CR μ) xs vs → ∀ v ∈ vs, v.oneCell' = true
  | [], [], _, _, h => by simp at h
  | _ :: _, _ :: _, ⟨h1, h2⟩, v, h => by
    rcases List.mem_cons.1 h with rfl | h
    · exact h1.oneCell
    · exact LR.oneCell h2 v h
  | [], _ :: _, h, _, _ => h.elim
  | _ :: _, [], h, _, _ => h.elim

theorem cell_of_heap {w : World} {b o : Nat} {cs : Array Value} {e : TypeId} {fz : Nat × Nat} (h : w.heap[b]? = some (.cells cs e fz)) : w.cell? ⟨b, o, none⟩ = cs[o]? := by
  simp [World.cell?, h]

theorem frozen_of_heap {w : World} {b o : Nat} {cs : Array Value} {e : TypeId} {fz : Nat × Nat} (h : w.heap[b]? = some (.cells cs e fz)) : w.frozen? ⟨b, o, none⟩ = (decide (fz.1 ≤ o) && decide (o < fz.2)) := by
  simp [World.frozen?, h]

section
variable {base : Nat} {μ : Mp} {s s' : St} {w : World} {P : Program}

theorem Rel.lt {h : T Row} (hr : Rel base μ h w) {b g blk n : Nat} (hm : μ b g = some (blk, n)) : blk < w.heap.size := by
  obtain ⟨r, _, hr⟩ := hr.row b g blk n hm
  obtain ⟨cs, fz, h, _⟩ := hr.at_
  exact (Array.getElem?_eq_some_iff.1 h).1

theorem extent_gen {r : Row} (h : r.minGen ≤ r.gen) : extent r r.gen = some r.len := by
  have h1 : Nat.ble r.minGen r.gen = true := ble_iff.2 h
  have h2 : Nat.ble r.gen r.gen = true := ble_iff.2 (Nat.le_refl _)
  simp [extent, h1, h2]

/-- cells that are read -/
theorem read_cells (hi : Rel base μ s.hp w) {a : AA} {n : Nat} {xs : List AV} (hx : readCells s a n = some xs) {c : Addr} (hc : AR μ a c) :
    ∃ vs, LR (CR μ) xs vs ∧ xs.length = n ∧ ∀ j v, vs[j]? = some v → w.cell? (c.add j) = some v := by
  obtain ⟨blk, k, hm, rfl⟩ := hc
  obtain ⟨r, hg, hr⟩ := hi.row _ _ _ _ hm
  obtain ⟨cs, fz, hh, hs, he, _⟩ := hr.at_
  simp only [readCells, hg] at hx
  cases hex : extent r a.g with
  | none => simp [hex] at hx
  | some m =>
    obtain ⟨h1, h2, h3⟩ := he m hex
    cases hb : Nat.ble (a.off + n) m with
    | false => simp [hex, hb] at hx
    | true =>
      have hle : a.off + n ≤ m := ble_iff.1 hb
      simp [hex, hb] at hx
      subst hx
      have hl := hr.len
      refine ⟨((cs.toList.take m).drop a.off).take n, ?_, by simp; omega, ?_⟩
      · have := (h3.drop a.off).take n
        rwa [show ((r.cells.take m).drop a.off).take n = (r.cells.drop a.off).take n by
          rw [List.drop_take, List.take_take]; congr 1; omega] at this
      · intro j v hj
        have hjn : j < n := by
          rcases Nat.lt_or_ge j n with h | h
          · exact h
          · rw [List.getElem?_eq_none (by simp; omega)] at hj; cases hj
        have hadd : (⟨blk, a.off, none⟩ : Addr).add j = ⟨blk, a.off + j, none⟩ := by unfold Addr.add; split <;> simp_all
        rw [hadd, cell_of_heap hh]
        rw [List.getElem?_take, if_pos hjn, List.getElem?_drop, List.getElem?_take, if_pos (by omega)] at hj
        simpa using hj

/-- cells that are written -/
theorem write_cells (hi : Inv base μ s w) {a : AA} {xs : List AV} (hx : writeCells s a xs = some s') {c : Addr} (hc : AR μ a c) {vs : List Value} (hv : LR (CR μ) xs vs) :
    ∃ w', (storeCells c vs).run P w = .ok () w' ∧ Stp base μ μ s s' w w' ∧ s'.gl = s.gl ∧ s'.gl = s.gl := by
  cases xs with
  | nil =>
    have := hv.nil_left
    subst this
    simp [writeCells] at hx
    subst hx
    exact ⟨w, rfl, Stp.refl hi, rfl, rfl⟩
  | cons x0 xr =>
    obtain ⟨blk, n, hm, rfl⟩ := hc
    obtain ⟨r, hg, hr⟩ := hi.rel.row _ _ _ _ hm
    obtain ⟨cs, fz, hh, hs, he, hf⟩ := hr.at_
    simp only [writeCells, hg] at hx
    generalize hxs : x0 :: xr = xs at *
    split at hx
    case h_2 => cases hx
    case h_1 hcond =>
      simp only [Option.some.injEq] at hx
      have hx' := hx
      clear hx
      simp only [Bool.and_eq_true, ble_iff] at hcond
      obtain ⟨hown, hgen, hfz, hlen⟩ := hcond
      have hgen : a.g = r.gen := Nat.eq_of_beq_eq_true hgen
      subst hx'
      have hex := extent_gen hr.gens
      rw [← hgen] at hex
      obtain ⟨h1, h2, h3⟩ := he _ hex
      have hrl := hr.len
      have hvl := hv.length
      have hfr := (hf hgen hown).1
      have hrun := run_storeCells_cells (P := P) blk a.off vs 0 w
        (fun j hj => by rw [cell_of_heap hh]; simp; omega)
        (fun j hj => by
          rw [frozen_of_heap hh]
          have := hfr (a.off + 0 + j) (by omega) (by omega)
          simpa using this)
        hv.oneCell
      simp only [Nat.add_zero] at hrun
      obtain ⟨cs', hh', hcs'⟩ := setCells_heap blk vs a.off w cs r.elem fz hh (by omega)
      obtain ⟨hsz, hos, htape, hout⟩ := setCells_rest blk vs a.off w
      have hoth := setCells_other blk vs a.off w
      refine ⟨_, hrun, ?_, rfl, rfl⟩
      have hlr : cs.toList.length = n := by simpa using hs
      have hbase : base ≤ blk := by have := hr.own; rw [if_pos hown] at this; exact this
      refine ⟨Ext.refl _, ⟨?_, ?_⟩, hi.dom, fun _ _ _ _ h => .inl h, Nat.le_refl _, rfl, Nat.min_le_left _ _, ?_, ?_, by omega, hos, htape, hout, ?wf⟩
      case wf =>
        refine hi.wf.set (fun x hx => ?_) _
        simp only [splice, List.mem_append] at hx
        rcases hx with hx | hx | hx
        · exact hi.wf _ _ hg x (List.mem_of_mem_take hx)
        · exact hv.ok hi.dom x hx
        · exact hi.wf _ _ hg x (List.mem_of_mem_drop hx)
      · intro b g blk' n' hm'
        by_cases hb : b = a.b
        · subst hb
          refine ⟨_, T.get_set_same _ _ _, ?_⟩
          obtain ⟨r', hg', hr'⟩ := hi.rel.row _ _ _ _ hm'
          rw [hg] at hg'
          injection hg' with hg'
          subst hg'
          obtain ⟨cs2, fz2, hh2, hs2, he2, hf2⟩ := hr'.at_
          have hlen' : r.len = (splice r.cells a.off xs).length := by rw [splice_eq, spl_length _ _ _ (by omega), hrl]
          by_cases hbk : blk' = blk
          · subst hbk
            rw [hh] at hh2
            injection hh2 with hh2
            injection hh2 with hh2 _ hfz2
            subst hh2; subst hfz2
            have hnn : n' = n := by rw [← hs, ← hs2]
            subst hnn
            refine ⟨hlen', Nat.le_refl _, ⟨cs', fz, hh', ?_, ?_, hf2⟩, hr'.fzl, hr'.own, hr'.gen⟩
            · rw [← Array.length_toList, hcs', spl_length _ _ _ (by omega)]; exact hlr
            · intro m hmx
              have hgg : g = r.gen := by
                simp only [extent] at hmx
                cases h1 : Nat.ble r.gen g <;> simp [h1] at hmx
                have := ble_iff.1 h1
                have := hr'.gen
                omega
              subst hgg
              have : m = r.len := by
                have h0 := extent_gen (r := { r with cells := splice r.cells a.off xs, minGen := r.gen }) (Nat.le_refl _)
                simp only at h0
                rw [h0] at hmx
                injection hmx with hmx
                exact hmx.symm
              subst this
              refine ⟨h1, Nat.le_refl _, ?_⟩
              rw [List.take_of_length_le (by simp only; omega), hcs', splice_eq]
              have h4 : LR (CR μ) (r.cells.take r.len) (cs.toList.take r.len) := h3
              rw [List.take_of_length_le (by omega)] at h4
              have h5 := h4.spl a.off hv
              have h6 : spl (cs.toList.take r.len) a.off vs = (spl cs.toList a.off vs).take r.len := spl_take_comm _ _ _ _ (by omega) (by omega)
              rwa [h6] at h5
          · refine ⟨hlen', Nat.le_refl _, ⟨cs2, fz2, (hoth _ hbk).trans hh2, hs2, ?_, hf2⟩, hr'.fzl, hr'.own, hr'.gen⟩
            intro m hmx
            exfalso
            have hgg : g = r.gen := by
              simp only [extent] at hmx
              cases h1 : Nat.ble r.gen g <;> simp [h1] at hmx
              have := ble_iff.1 h1
              have := hr'.gen
              omega
            subst hgg
            rw [← hgen, hm] at hm'
            injection hm' with hm'
            injection hm' with hm' _
            exact hbk hm'.symm
        · obtain ⟨r', hg', hr'⟩ := hi.rel.row _ _ _ _ hm'
          refine ⟨r', ?_, hr'.mono (Ext.refl _) (hoth _ ?_)⟩
          · show (T.set _ s.hp a.b).get b = _
            rw [T.get_set_ne _ _ hb]; exact hg'
          · rintro rfl
            exact hb (hi.rel.sep _ _ _ _ _ _ _ _ hm hm' hg hown).symm
      · intro b g blk' n' b' g' n'' r' hm1 hm2 hget ho
        by_cases hb : b = a.b
        · subst hb
          exact hi.rel.sep _ _ _ _ _ _ _ _ hm1 hm2 hg hown
        · have hget' : (T.set _ s.hp a.b).get b = some r' := hget
          rw [T.get_set_ne _ _ hb] at hget'
          exact hi.rel.sep _ _ _ _ _ _ _ _ hm1 hm2 hget' ho
      · intro b _ hl
        show (T.set _ s.hp a.b).get b = _
        have hl' : b < Nat.min s.low a.b := hl
        have hmr := Nat.min_le_right s.low a.b
        have hne' : b ≠ a.b := by
          intro he
          rw [he] at hl'
          exact absurd (Nat.lt_of_lt_of_le hl' hmr) (Nat.lt_irrefl _)
        rw [T.get_set_ne _ _ hne']
      · intro k hk
        by_cases hkb : k = blk
        · subst hkb
          exact .inr ⟨a.b, a.g, n, hm, Nat.min_le_right _ _, hbase⟩
        · exact .inl (hoth _ hkb)


def grown (r : Row) (cs : List AV) : Row := { r with cells := r.cells ++ cs, len := r.len + cs.length, gen := r.gen + 1, lens := r.len :: r.lens }

theorem extent_grown {r : Row} (cs : List AV) {g : Nat} (hg : g ≤ r.gen) : extent (grown r cs) g = extent r g := by
  unfold extent grown
  have h1 : Nat.ble g (r.gen + 1) = true := ble_iff.2 (by omega)
  have h2 : Nat.ble g r.gen = true := ble_iff.2 hg
  have h3 : Nat.beq g (r.gen + 1) = false := by rw [beq0]; simp; omega
  simp only [h1, h2, h3]
  cases h4 : Nat.ble r.minGen g with
  | false => rfl
  | true =>
    by_cases h5 : g = r.gen
    · subst h5
      simp
    · have h6 : Nat.beq g r.gen = false := by rw [beq0]; simp [h5]
      simp only [h6]
      rw [show r.gen + 1 - g - 1 = (r.gen - g - 1) + 1 by omega]
      simp

theorem grow_row (hi : Inv base μ s w) {b : Nat} {r : Row} (hg : s.hp.get b = some r) (hown : r.own = true) (hml : r.minGen ≤ r.gen) (hrl : r.len = r.cells.length) (hfl : r.fz ≤ r.len)
    (cs : List AV) (blk n : Nat) (w' : World)
    (hnew : ∃ cs' fz', w'.heap[blk]? = some (.cells cs' r.elem fz') ∧ cs'.size = n ∧ r.len + cs.length ≤ n ∧ LR (CR μ) (r.cells ++ cs) (cs'.toList.take (r.len + cs.length)) ∧
      (∀ i, r.fz ≤ i → i < n → ¬ (fz'.1 ≤ i ∧ i < fz'.2)) ∧ (r.odd = false → fz'.2 ≤ r.fz))
    (hold : ∀ k, k < w.heap.size → k ≠ blk → w'.heap[k]? = w.heap[k]?)
    (hin : blk < w.heap.size → ∃ g0, μ b g0 = some (blk, n))
    (hshare : blk < w.heap.size → ∃ cs0 cs' fz, w.heap[blk]? = some (.cells cs0 r.elem fz) ∧ w'.heap[blk]? = some (.cells cs' r.elem fz) ∧ cs'.size = cs0.size ∧ cs'.toList.take r.len = cs0.toList.take r.len)
    (hbase : base ≤ blk) (hb : b < s.nx) (hfresh : μ b (r.gen + 1) = none) (hsz : w.heap.size ≤ w'.heap.size) (hos : w'.os = w.os) (htape : w'.tape = w.tape) (hout : w'.output = w.output) :
    Stp base μ (μ.put b (r.gen + 1) (blk, n)) s { hset s b (grown r cs) with low := Nat.min s.low b } w w' := by
  have hext : Ext μ (μ.put b (r.gen + 1) (blk, n)) := fun b' g' x hm => by
    rw [Mp.put_other]
    · exact hm
    · rintro ⟨rfl, rfl⟩
      rw [hfresh] at hm
      cases hm
  have hlt : ∀ {b' g' k m}, μ b' g' = some (k, m) → k < w.heap.size := fun hm => hi.rel.lt hm
  refine ⟨hext, ⟨?_, ?_⟩, ?_, ?_, Nat.le_refl _, rfl, Nat.min_le_left _ _, ?_, ?_, hsz, hos, htape, hout, ?wf⟩
  case wf =>
    obtain ⟨_, _, _, _, _, h4, _⟩ := hnew
    exact hi.wf.set (r := grown r cs) (fun x hx => h4.ok hi.dom x hx) _
  · intro b' g' k m hm
    by_cases hc : b' = b ∧ g' = r.gen + 1
    · obtain ⟨rfl, rfl⟩ := hc
      rw [Mp.put_same] at hm
      injection hm with hm
      injection hm with h1 h2
      subst h1; subst h2
      obtain ⟨cs', fz', h1, h2, h3, h4, h5, h6⟩ := hnew
      refine ⟨_, T.get_set_same _ _ _, ?_, ?_, ⟨cs', fz', h1, h2, ?_, fun _ _ => ⟨h5, h6⟩⟩, ?_, ?_, Nat.le_refl _⟩
      · simp [grown, hrl]
      · exact Nat.le_succ_of_le hml
      · intro m hm
        have := extent_gen (r := grown r cs) (Nat.le_succ_of_le hml)
        have hm' : extent (grown r cs) (grown r cs).gen = some m := hm
        rw [this] at hm'
        injection hm' with hm'
        subst hm'
        refine ⟨h3, Nat.le_refl _, ?_⟩
        show LR _ ((r.cells ++ cs).take (r.len + cs.length)) _
        rw [List.take_of_length_le (by simp [hrl])]
        exact h4.mono fun _ _ => CR.mono hext
      · show r.fz ≤ r.len + cs.length
        omega
      · show if r.own = true then _ else _
        rw [if_pos hown]; exact hbase
    · rw [Mp.put_other _ _ hc] at hm
      obtain ⟨r', hg', hr'⟩ := hi.rel.row _ _ _ _ hm
      by_cases hbb : b' = b
      · subst hbb
        rw [hg] at hg'
        injection hg' with hg'
        subst hg'
        refine ⟨_, T.get_set_same _ _ _, ?_⟩
        have hge : g' ≤ r.gen := hr'.gen
        obtain ⟨cs0, fz0, h1, h2, h3, h4⟩ := hr'.at_
        have hrow : ∃ cs1 fz1, w'.heap[k]? = some (.cells cs1 r.elem fz1) ∧ cs1.size = m ∧ cs1.toList.take r.len = cs0.toList.take r.len := by
          by_cases hk : k = blk
          · subst hk
            obtain ⟨cs2, cs', fz, e1, e2, e3, e4⟩ := hshare (hlt hm)
            rw [h1] at e1
            injection e1 with e1
            injection e1 with e1 _ _
            subst e1
            exact ⟨cs', fz, e2, e3.trans h2, e4⟩
          · exact ⟨cs0, fz0, (hold k (hlt hm) hk).trans h1, h2, rfl⟩
        obtain ⟨cs1, fz1, e1, e2, e3⟩ := hrow
        refine ⟨by simp [grown, hrl], Nat.le_succ_of_le hml, ⟨cs1, fz1, e1, e2, ?_, ?_⟩, by show r.fz ≤ r.len + cs.length; omega, hr'.own, Nat.le_succ_of_le hge⟩
        · intro q hq
          rw [extent_grown cs hge] at hq
          obtain ⟨q1, q2, q3⟩ := h3 q hq
          refine ⟨q1, by show q ≤ r.len + cs.length; omega, ?_⟩
          show LR _ ((r.cells ++ cs).take q) _
          rw [List.take_append_of_le_length (by omega)]
          have : cs1.toList.take q = cs0.toList.take q := by
            have := congrArg (List.take q) e3
            rwa [List.take_take, List.take_take, Nat.min_eq_left q2] at this
          rw [this]
          exact q3.mono fun _ _ => CR.mono hext
        · intro he
          have : g' = r.gen + 1 := he
          omega
      · refine ⟨r', ?_, hr'.mono hext (hold k (hlt hm) ?_)⟩
        · show (T.set _ s.hp b).get b' = _
          rw [T.get_set_ne _ _ hbb]; exact hg'
        · rintro rfl
          obtain ⟨g0, h0⟩ := hin (hlt hm)
          exact hbb (hi.rel.sep _ _ _ _ _ _ _ _ h0 hm hg hown).symm
  · intro b1 g1 k m b2 g2 m' r' hm1 hm2 hget ho
    have hset : ∀ {b'}, b' ≠ b → (T.set (grown r cs) s.hp b).get b' = s.hp.get b' := fun h => T.get_set_ne _ _ h
    by_cases c1 : b1 = b ∧ g1 = r.gen + 1
    · by_cases c2 : b2 = b ∧ g2 = r.gen + 1
      · rw [c1.1, c2.1]
      · rw [Mp.put_other _ _ c2] at hm2
        obtain ⟨rfl, rfl⟩ := c1
        rw [Mp.put_same] at hm1
        injection hm1 with hm1
        injection hm1 with e1 e2
        subst e1
        obtain ⟨g0, h0⟩ := hin (hlt hm2)
        exact hi.rel.sep _ _ _ _ _ _ _ _ h0 hm2 hg hown
    · rw [Mp.put_other _ _ c1] at hm1
      by_cases c2 : b2 = b ∧ g2 = r.gen + 1
      · obtain ⟨rfl, rfl⟩ := c2
        rw [Mp.put_same] at hm2
        injection hm2 with hm2
        injection hm2 with e1 e2
        subst e1
        obtain ⟨g0, h0⟩ := hin (hlt hm1)
        exact (hi.rel.sep _ _ _ _ _ _ _ _ h0 hm1 hg hown).symm
      · rw [Mp.put_other _ _ c2] at hm2
        by_cases hbb : b1 = b
        · subst hbb
          exact hi.rel.sep _ _ _ _ _ _ _ _ hm1 hm2 hg hown
        · have hget' : (T.set (grown r cs) s.hp b).get b1 = some r' := hget
          rw [hset hbb] at hget'
          exact hi.rel.sep _ _ _ _ _ _ _ _ hm1 hm2 hget' ho
  · intro b' g' x hm
    by_cases hc : b' = b ∧ g' = r.gen + 1
    · rw [hc.1]; exact hb
    · rw [Mp.put_other _ _ hc] at hm
      exact hi.dom _ _ _ hm
  · intro b' g' k m hm
    by_cases hc : b' = b ∧ g' = r.gen + 1
    · obtain ⟨rfl, rfl⟩ := hc
      rw [Mp.put_same] at hm
      injection hm with hm
      injection hm with e1 e2
      subst e1; subst e2
      refine .inr (.inr ⟨Nat.min_le_right _ _, hb, ?_⟩)
      rcases Nat.lt_or_ge blk w.heap.size with h | h
      · exact .inr (hin h)
      · exact .inl h
    · rw [Mp.put_other _ _ hc] at hm
      exact .inl hm
  · intro b' _ hl
    show (T.set _ s.hp b).get b' = _
    have hl' : b' < Nat.min s.low b := hl
    have hmr := Nat.min_le_right s.low b
    have hne' : b' ≠ b := by
      intro he
      rw [he] at hl'
      exact absurd (Nat.lt_of_lt_of_le hl' hmr) (Nat.lt_irrefl _)
    rw [T.get_set_ne _ _ hne']
  · intro k hk
    by_cases hkb : k = blk
    · subst hkb
      obtain ⟨g0, h0⟩ := hin hk
      exact .inr ⟨b, g0, n, h0, Nat.min_le_right _ _, hbase⟩
    · exact .inl (hold k hk hkb)

/-- cells whose bytes a string shares -/
theorem freeze_row (hi : Inv base μ s w) {b : Nat} {r : Row} (hg : s.hp.get b = some r) (hown : r.own = true) (hodd : r.odd = false) {blk n : Nat} (hm : μ b r.gen = some (blk, n)) (k : Nat) (hk : k ≤ r.len) (hk0 : 0 < k) :
    Stp base μ μ s { hset s b { r with fz := Nat.max r.fz k } with low := Nat.min s.low b } w (w.freeze ⟨blk, 0, none⟩ k) := by
  have hne : k ≠ 0 := by omega
  have hbf : ∀ j, j ≠ blk → (w.freeze ⟨blk, 0, none⟩ k).heap[j]? = w.heap[j]? := fun j hj => by
    have hj' : blk ≠ j := fun h => hj h.symm
    simp [World.freeze, hne, Array.getElem?_modify, hj']
  have hbs : ∀ cs e fz, w.heap[blk]? = some (.cells cs e fz) → (w.freeze ⟨blk, 0, none⟩ k).heap[blk]? = some (.cells cs e (if fz.1 == fz.2 then (0, 0 + k) else (min fz.1 0, max fz.2 (0 + k)))) := fun cs e fz h => by
    simp [World.freeze, hne, Array.getElem?_modify, h]
  have hsz : (w.freeze ⟨blk, 0, none⟩ k).heap.size = w.heap.size := by simp [World.freeze, hne]
  have hrest : (w.freeze ⟨blk, 0, none⟩ k).os = w.os ∧ (w.freeze ⟨blk, 0, none⟩ k).tape = w.tape ∧ (w.freeze ⟨blk, 0, none⟩ k).output = w.output := by simp [World.freeze, hne]
  have hlt : ∀ {b' g' k m}, μ b' g' = some (k, m) → k < w.heap.size := fun hm => hi.rel.lt hm
  have hbase : base ≤ blk := by
    obtain ⟨r', hg', hr'⟩ := hi.rel.row _ _ _ _ hm
    rw [hg] at hg'
    injection hg' with hg'
    subst hg'
    have := hr'.own
    rw [if_pos hown] at this
    exact this
  refine ⟨Ext.refl _, ⟨?_, ?_⟩, hi.dom, fun _ _ _ _ h => .inl h, Nat.le_refl _, rfl, Nat.min_le_left _ _, ?_, ?_, by omega, hrest.1, hrest.2.1, hrest.2.2, hi.wf.set (r := { r with fz := Nat.max r.fz k }) (fun x hx => hi.wf _ _ hg x hx) _⟩
  · intro b' g' q m hm'
    obtain ⟨r', hg', hr'⟩ := hi.rel.row _ _ _ _ hm'
    by_cases hbb : b' = b
    · subst hbb
      rw [hg] at hg'
      injection hg' with hg'
      subst hg'
      refine ⟨_, T.get_set_same _ _ _, hr'.len, hr'.gens, ?_, Nat.max_le.2 ⟨hr'.fzl, hk⟩, hr'.own, hr'.gen⟩
      obtain ⟨cs0, fz0, h1, h2, h3, h4⟩ := hr'.at_
      by_cases hq : q = blk
      · subst hq
        refine ⟨cs0, _, hbs _ _ _ h1, h2, h3, fun he ho => ?_⟩
        obtain ⟨h5, h6⟩ := h4 he ho
        have h7 := h6 hodd
        have hmx : r.fz ≤ Nat.max r.fz k ∧ k ≤ Nat.max r.fz k := ⟨Nat.le_max_left _ _, Nat.le_max_right _ _⟩
        constructor
        · intro i hi1 hi2
          have hi1' : Nat.max r.fz k ≤ i := hi1
          split
          · simp; omega
          · simp; omega
        · intro _
          show _ ≤ Nat.max r.fz k
          split
          · simp; omega
          · simp only [Nat.zero_add]
            exact Nat.max_le.2 ⟨by omega, hmx.2⟩
      · refine ⟨cs0, fz0, (hbf _ hq).trans h1, h2, h3, fun he _ => ?_⟩
        exfalso
        have he' : g' = r.gen := he
        rw [he', hm] at hm'
        injection hm' with hm'
        injection hm' with e1 _
        exact hq e1.symm
    · refine ⟨r', ?_, hr'.mono (Ext.refl _) (hbf _ ?_)⟩
      · show (T.set _ s.hp b).get b' = _
        rw [T.get_set_ne _ _ hbb]; exact hg'
      · rintro rfl
        exact hbb (hi.rel.sep _ _ _ _ _ _ _ _ hm hm' hg hown).symm
  · intro b1 g1 q m b2 g2 m' r' hm1 hm2 hget ho
    by_cases hbb : b1 = b
    · subst hbb
      exact hi.rel.sep _ _ _ _ _ _ _ _ hm1 hm2 hg hown
    · have hget' : (T.set { r with fz := Nat.max r.fz k } s.hp b).get b1 = some r' := hget
      rw [T.get_set_ne _ _ hbb] at hget'
      exact hi.rel.sep _ _ _ _ _ _ _ _ hm1 hm2 hget' ho
  · intro b' _ hl
    show (T.set _ s.hp b).get b' = _
    have hl' : b' < Nat.min s.low b := hl
    have hmr := Nat.min_le_right s.low b
    have hne' : b' ≠ b := by
      intro he
      rw [he] at hl'
      exact absurd (Nat.lt_of_lt_of_le hl' hmr) (Nat.lt_irrefl _)
    rw [T.get_set_ne _ _ hne']
  · intro q hq
    by_cases hkb : q = blk
    · subst hkb
      exact .inr ⟨b, r.gen, n, hm, Nat.min_le_right _ _, hbase⟩
    · exact .inl (hbf q hkb)
end
end Go.AM
