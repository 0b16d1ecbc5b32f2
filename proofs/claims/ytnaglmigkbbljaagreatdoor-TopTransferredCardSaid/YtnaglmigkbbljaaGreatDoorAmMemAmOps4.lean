/-
  Cells that are written, rows that grow, bytes that are frozen: the abstract row and the block go on side by side.
-/
import Derived.Test.YtnaglmigkbbljaaGreatDoorAmDefsAmRel
import Derived.Laws.IdiomCopy
import Derived.Deep.AppendSrc
import Derived.Deep.Upon
import Derived.Laws.StructEq
import Derived.Laws.Entries
set_option maxHeartbeats 6400000
set_option maxRecDepth 1000000
namespace Go.AM
open Go Go.RowKit
def spl {α : Type} (l : List α) (o : Nat) (xs : List α) : List α := l.take o ++ (xs ++ l.drop (o + xs.length))
theorem splice_eq (l : List AV) (o : Nat) (xs : List AV) : splice l o xs = spl l o xs := rfl
theorem ble_iff {a b : Nat} : Nat.ble a b = true ↔ a ≤ b := by rw [Nat.ble_eq]
theorem spl_nil {α : Type} (l : List α) (o : Nat) : spl l o [] = l := by simp [spl]
theorem spl_cons {α : Type} (l : List α) (o : Nat) (v : α) (r : List α) (h : o < l.length) : spl l o (v :: r) = spl (l.set o v) (o + 1) r := by
 unfold spl
 have h1 : (l.set o v).take (o + 1) = l.take o ++ [v] := by
  rw [List.take_succ_eq_append_getElem (by simpa using h), List.take_set, List.set_eq_of_length_le (by simp; omega)]
  simp
 have h2 : (l.set o v).drop (o + 1 + r.length) = l.drop (o + (v :: r).length) := by
  rw [List.drop_set]
  rw [if_pos (by omega)]
  congr 1
  simp; omega
 rw [h1, h2]
 simp
theorem spl_length {α : Type} (l : List α) (o : Nat) (xs : List α) (h : o + xs.length ≤ l.length) : (spl l o xs).length = l.length := by
 simp [spl]; omega
theorem spl_take {α : Type} (l : List α) (o : Nat) (xs : List α) (m : Nat) (h : m ≤ o) (ho : o ≤ l.length) : (spl l o xs).take m = l.take m := by
 unfold spl
 rw [List.take_append_of_le_length (by simp; omega), List.take_take]
 congr 1
 omega
theorem spl_get {α : Type} (l : List α) (o : Nat) (xs : List α) (h : o + xs.length ≤ l.length) (i : Nat) :
  (spl l o xs)[i]? = if i < o then l[i]? else if i < o + xs.length then xs[i - o]? else l[i]? := by
 unfold spl
 have hl : (l.take o).length = o := by simp; omega
 by_cases h1 : i < o
 ·rw [List.getElem?_append_left (by omega), if_pos h1, List.getElem?_take, if_pos h1]
 ·rw [List.getElem?_append_right (by omega), if_neg h1, hl]
  by_cases h2 : i < o + xs.length
  ·rw [List.getElem?_append_left (by omega), if_pos h2]
  ·rw [List.getElem?_append_right (by omega), if_neg h2, List.getElem?_drop]
   congr 1
   omega
theorem spl_take_comm {α : Type} (l : List α) (o : Nat) (xs : List α) (k : Nat) (h : o + xs.length ≤ k) (hk : k ≤ l.length) : spl (l.take k) o xs = (spl l o xs).take k := by
 apply List.ext_getElem?
 intro i
 rw [spl_get (l.take k) _ _ (by simp; omega), List.getElem?_take, List.getElem?_take (l := spl l o xs), spl_get l _ _ (by omega)]
 by_cases h1 : i < o
 ·rw [if_pos h1, if_pos (by omega), if_pos (by omega), if_pos h1]
 ·by_cases h2 : i < o + xs.length
  ·rw [if_neg h1, if_pos h2, if_pos (by omega), if_neg h1, if_pos h2]
  ·rw [if_neg h1, if_neg h2, if_neg h1, if_neg h2]
theorem LR.spl {α β : Type} {R : α → β → Prop} {as : List α} {bs : List β} {xs : List α} {ys : List β} (h : LR R as bs) (o : Nat) (hx : LR R xs ys) :
  LR R (Go.AM.spl as o xs) (Go.AM.spl bs o ys) := by
 unfold Go.AM.spl
 rw [hx.length]
 exact (h.take o).append (hx.append (h.drop _))
theorem setCells_heap (b : Nat) : ∀ (vs : List Value) (o : Nat) (w : World) (cs : Array Value) (e : TypeId) (fz : Nat × Nat), w.heap[b]? = some (.cells cs e fz) → o + vs.length ≤ cs.size →
  ∃ cs' : Array Value, (w.setCells b o vs).heap[b]? = some (.cells cs' e fz) ∧ cs'.toList = spl cs.toList o vs
 | [], o, w, cs, e, fz, h, _ => ⟨cs, h, by rw [spl_nil]⟩
 | v :: r, o, w, cs, e, fz, h, hl => by
  have h1 : (w.setCell ⟨b, o, none⟩ v).heap[b]? = some (.cells (cs.setIfInBounds o v) e fz) := by
   simp [World.setCell, Array.getElem?_modify, h]
  obtain ⟨cs', h2, h3⟩ := setCells_heap b r (o + 1) _ _ e fz h1 (by simp at hl ⊢; omega)
  refine ⟨cs', h2, ?_⟩
  rw [h3, spl_cons _ _ _ _ (by simp at hl ⊢; omega)]
  simp
theorem setCells_other (b : Nat) : ∀ (vs : List Value) (o : Nat) (w : World) (k : Nat), k ≠ b → (w.setCells b o vs).heap[k]? = w.heap[k]?
 | [], _, _, _, _ => rfl
 | v :: r, o, w, k, h => by
  have := setCells_other b r (o + 1) (w.setCell ⟨b, o, none⟩ v) k h
  rw [World.setCells, this]
  exact Below.heap_setCell w ⟨b, o, none⟩ v k h
theorem setCells_rest (b : Nat) : ∀ (vs : List Value) (o : Nat) (w : World), (w.setCells b o vs).heap.size = w.heap.size ∧ (w.setCells b o vs).os = w.os ∧ (w.setCells b o vs).tape = w.tape ∧ (w.setCells b o vs).output = w.output
 | [], _, _ => ⟨rfl, rfl, rfl, rfl⟩
 | v :: r, o, w => by
  have := setCells_rest b r (o + 1) (w.setCell ⟨b, o, none⟩ v)
  refine ⟨this.1.trans (by simp [World.setCell]), this.2.1, this.2.2.1, this.2.2.2⟩
theorem CR.oneCell {μ : Mp} {x : AV} {v : Value} (h : CR μ x v) : v.oneCell' = true := by
 cases x <;> simp only [CR, SR] at h
 case ptr a => obtain ⟨c, _, rfl⟩ := h; rfl
 case empty => obtain ⟨a, c, rfl⟩ := h; rfl
 case slice a n e => obtain ⟨_, _, _, _, rfl, _⟩ := h; rfl
 case func f c => obtain ⟨_, _, rfl⟩ := h; rfl
 case iface t y => obtain ⟨_, _, rfl⟩ := h; rfl
 all_goals first | (subst h; rfl) | exact h.elim
theorem LR.oneCell {μ : Mp} : ∀ {xs : List AV} {vs : List Value}, LR (CR μ) xs vs → ∀ v ∈ vs, v.oneCell' = true
 | [], [], _, _, h => by simp at h
 | _ :: _, _ :: _, ⟨h1, h2⟩, v, h => by
  rcases List.mem_cons.1 h with rfl | h
  ·exact h1.oneCell
  ·exact LR.oneCell h2 v h
 | [], _ :: _, h, _, _ => h.elim
 | _ :: _, [], h, _, _ => h.elim
theorem cell_of_heap {w : World} {b o : Nat} {cs : Array Value} {e : TypeId} {fz : Nat × Nat} (h : w.heap[b]? = some (.cells cs e fz)) : w.cell? ⟨b, o, none⟩ = cs[o]? := by
 simp [World.cell?, h]
theorem frozen_of_heap {w : World} {b o : Nat} {cs : Array Value} {e : TypeId} {fz : Nat × Nat} (h : w.heap[b]? = some (.cells cs e fz)) : w.frozen? ⟨b, o, none⟩ = (decide (fz.1 ≤ o) && decide (o < fz.2)) := by
 simp [World.frozen?, h]
section
variable {base : Nat} {μ : Mp} {s s' : St} {w : World} {P : Program}
theorem Rel.lt {h : T Row} (hr : Rel base μ h w) {b g blk n : Nat} (hm : μ b g = some (blk, n)) : blk < w.heap.size := by
 obtain ⟨r, _, hr⟩ := hr.row b g blk n hm
 obtain ⟨cs, fz, h, _⟩ := hr.at_
 exact (Array.getElem?_eq_some_iff.1 h).1
theorem extent_gen {r : Row} (h : r.minGen ≤ r.gen) : extent r r.gen = some r.len := by
 have h1 : Nat.ble r.minGen r.gen = true := ble_iff.2 h
 have h2 : Nat.ble r.gen r.gen = true := ble_iff.2 (Nat.le_refl _)
 simp [extent, h1, h2]
theorem read_cells (hi : Rel base μ s.hp w) {a : AA} {n : Nat} {xs : List AV} (hx : readCells s a n = some xs) {c : Addr} (hc : AR μ a c) :
  ∃ vs, LR (CR μ) xs vs ∧ xs.length = n ∧ ∀ j v, vs[j]? = some v → w.cell? (c.add j) = some v := by
 obtain ⟨blk, k, hm, rfl⟩ := hc
 obtain ⟨r, hg, hr⟩ := hi.row _ _ _ _ hm
 obtain ⟨cs, fz, hh, hs, he, _⟩ := hr.at_
 simp only [readCells, hg] at hx
 cases hex : extent r a.g with
 | none => simp [hex] at hx
 | some m =>
  obtain ⟨h1, h2, h3⟩ := he m hex
  cases hb : Nat.ble (a.off + n) m with
  | false => simp [hex, hb] at hx
  | true =>
   have hle : a.off + n ≤ m := ble_iff.1 hb
   simp [hex, hb] at hx
   subst hx
   have hl := hr.len
   refine ⟨((cs.toList.take m).drop a.off).take n, ?_, by simp; omega, ?_⟩
   ·have := (h3.drop a.off).take n
    rwa [show ((r.cells.take m).drop a.off).take n = (r.cells.drop a.off).take n by
     rw [List.drop_take, List.take_take]; congr 1; omega] at this
   ·intro j v hj
    have hjn : j < n := by
     rcases Nat.lt_or_ge j n with h | h
     ·exact h
     ·rw [List.getElem?_eq_none (by simp; omega)] at hj; cases hj
    have hadd : (⟨blk, a.off, none⟩ : Addr).add j = ⟨blk, a.off + j, none⟩ := by unfold Addr.add; split <;> simp_all
    rw [hadd, cell_of_heap hh]
    rw [List.getElem?_take, if_pos hjn, List.getElem?_drop, List.getElem?_take, if_pos (by omega)] at hj
    simpa using hj
theorem write_cells (hi : Inv base μ s w) {a : AA} {xs : List AV} (hx : writeCells s a xs = some s') {c : Addr} (hc : AR μ a c) {vs : List Value} (hv : LR (CR μ) xs vs) :
  ∃ w', (storeCells c vs).run P w = .ok () w' ∧ Stp base μ μ s s' w w' ∧ s'.gl = s.gl ∧ s'.gl = s.gl := by
 cases xs with
 | nil =>
  have := hv.nil_left
  subst this
  simp [writeCells] at hx
  subst hx
  exact ⟨w, rfl, Stp.refl hi, rfl, rfl⟩
 | cons x0 xr =>
  obtain ⟨blk, n, hm, rfl⟩ := hc
  obtain ⟨r, hg, hr⟩ := hi.rel.row _ _ _ _ hm
  obtain ⟨cs, fz, hh, hs, he, hf⟩ := hr.at_
  simp only [writeCells, hg] at hx
  generalize hxs : x0 :: xr = xs at *
  split at hx
  case h_2 => cases hx
  case h_1 hcond =>
   simp only [Option.some.injEq] at hx
   have hx' := hx
   clear hx
   simp only [Bool.and_eq_true, ble_iff] at hcond
   obtain ⟨hown, hgen, hfz, hlen⟩ := hcond
   have hgen : a.g = r.gen := Nat.eq_of_beq_eq_true hgen
   subst hx'
   have hex := extent_gen hr.gens
   rw [← hgen] at hex
   obtain ⟨h1, h2, h3⟩ := he _ hex
   have hrl := hr.len
   have hvl := hv.length
   have hfr := (hf hgen hown).1
   have hrun := run_storeCells_cells (P := P) blk a.off vs 0 w
    (fun j hj => by rw [cell_of_heap hh]; simp; omega)
    (fun j hj => by
     rw [frozen_of_heap hh]
     have := hfr (a.off + 0 + j) (by omega) (by omega)
     simpa using this)
    hv.oneCell
   simp only [Nat.add_zero] at hrun
   obtain ⟨cs', hh', hcs'⟩ := setCells_heap blk vs a.off w cs r.elem fz hh (by omega)
   obtain ⟨hsz, hos, htape, hout⟩ := setCells_rest blk vs a.off w
   have hoth := setCells_other blk vs a.off w
   refine ⟨_, hrun, ?_, rfl, rfl⟩
   have hlr : cs.toList.length = n := by simpa using hs
   have hbase : base ≤ blk := by have := hr.own; rw [if_pos hown] at this; exact this
   refine ⟨Ext.refl _, ⟨?_, ?_⟩, hi.dom, fun _ _ _ _ h => .inl h, Nat.le_refl _, rfl, Nat.min_le_left _ _, ?_, ?_, by omega, hos, htape, hout, ?wf⟩
   case wf =>
    refine hi.wf.set (fun x hx => ?_) _
    simp only [splice, List.mem_append] at hx
    rcases hx with hx | hx | hx
    ·exact hi.wf _ _ hg x (List.mem_of_mem_take hx)
    ·exact hv.ok hi.dom x hx
    ·exact hi.wf _ _ hg x (List.mem_of_mem_drop hx)
   ·intro b g blk' n' hm'
    by_cases hb : b = a.b
    ·subst hb
     refine ⟨_, T.get_set_same _ _ _, ?_⟩
     obtain ⟨r', hg', hr'⟩ := hi.rel.row _ _ _ _ hm'
     rw [hg] at hg'
     injection hg' with hg'
     subst hg'
     obtain ⟨cs2, fz2, hh2, hs2, he2, hf2⟩ := hr'.at_
     have hlen' : r.len = (splice r.cells a.off xs).length := by rw [splice_eq, spl_length _ _ _ (by omega), hrl]
     by_cases hbk : blk' = blk
     ·subst hbk
      rw [hh] at hh2
      injection hh2 with hh2
      injection hh2 with hh2 _ hfz2
      subst hh2; subst hfz2
      have hnn : n' = n := by rw [← hs, ← hs2]
      subst hnn
      refine ⟨hlen', Nat.le_refl _, ⟨cs', fz, hh', ?_, ?_, hf2⟩, hr'.fzl, hr'.own, hr'.gen⟩
      ·rw [← Array.length_toList, hcs', spl_length _ _ _ (by omega)]; exact hlr
      ·intro m hmx
       have hgg : g = r.gen := by
        simp only [extent] at hmx
        cases h1 : Nat.ble r.gen g <;> simp [h1] at hmx
        have := ble_iff.1 h1
        have := hr'.gen
        omega
       subst hgg
       have : m = r.len := by
        have h0 := extent_gen (r := { r with cells := splice r.cells a.off xs, minGen := r.gen }) (Nat.le_refl _)
        simp only at h0
        rw [h0] at hmx
        injection hmx with hmx
        exact hmx.symm
       subst this
       refine ⟨h1, Nat.le_refl _, ?_⟩
       rw [List.take_of_length_le (by simp only; omega), hcs', splice_eq]
       have h4 : LR (CR μ) (r.cells.take r.len) (cs.toList.take r.len) := h3
       rw [List.take_of_length_le (by omega)] at h4
       have h5 := h4.spl a.off hv
       have h6 : spl (cs.toList.take r.len) a.off vs = (spl cs.toList a.off vs).take r.len := spl_take_comm _ _ _ _ (by omega) (by omega)
       rwa [h6] at h5
     ·refine ⟨hlen', Nat.le_refl _, ⟨cs2, fz2, (hoth _ hbk).trans hh2, hs2, ?_, hf2⟩, hr'.fzl, hr'.own, hr'.gen⟩
      intro m hmx
      exfalso
      have hgg : g = r.gen := by
       simp only [extent] at hmx
       cases h1 : Nat.ble r.gen g <;> simp [h1] at hmx
       have := ble_iff.1 h1
       have := hr'.gen
       omega
      subst hgg
      rw [← hgen, hm] at hm'
      injection hm' with hm'
      injection hm' with hm' _
      exact hbk hm'.symm
    ·obtain ⟨r', hg', hr'⟩ := hi.rel.row _ _ _ _ hm'
     refine ⟨r', ?_, hr'.mono (Ext.refl _) (hoth _ ?_)⟩
     ·show (T.set _ s.hp a.b).get b = _
      rw [T.get_set_ne _ _ hb]; exact hg'
     ·rintro rfl
      exact hb (hi.rel.sep _ _ _ _ _ _ _ _ hm hm' hg hown).symm
   ·intro b g blk' n' b' g' n'' r' hm1 hm2 hget ho
    by_cases hb : b = a.b
    ·subst hb
     exact hi.rel.sep _ _ _ _ _ _ _ _ hm1 hm2 hg hown
    ·have hget' : (T.set _ s.hp a.b).get b = some r' := hget
     rw [T.get_set_ne _ _ hb] at hget'
     exact hi.rel.sep _ _ _ _ _ _ _ _ hm1 hm2 hget' ho
   ·intro b _ hl
    show (T.set _ s.hp a.b).get b = _
    have hl' : b < Nat.min s.low a.b := hl
    have hmr := Nat.min_le_right s.low a.b
    have hne' : b ≠ a.b := by
     intro he
     rw [he] at hl'
     exact absurd (Nat.lt_of_lt_of_le hl' hmr) (Nat.lt_irrefl _)
    rw [T.get_set_ne _ _ hne']
   ·intro k hk
    by_cases hkb : k = blk
    ·subst hkb
     exact .inr ⟨a.b, a.g, n, hm, Nat.min_le_right _ _, hbase⟩
    ·exact .inl (hoth _ hkb)
def grown (r : Row) (cs : List AV) : Row := { r with cells := r.cells ++ cs, len := r.len + cs.length, gen := r.gen + 1, lens := r.len :: r.lens }
theorem extent_grown {r : Row} (cs : List AV) {g : Nat} (hg : g ≤ r.gen) : extent (grown r cs) g = extent r g := by
 unfold extent grown
 have h1 : Nat.ble g (r.gen + 1) = true := ble_iff.2 (by omega)
 have h2 : Nat.ble g r.gen = true := ble_iff.2 hg
 have h3 : Nat.beq g (r.gen + 1) = false := by rw [beq0]; simp; omega
 simp only [h1, h2, h3]
 cases h4 : Nat.ble r.minGen g with
 | false => rfl
 | true =>
  by_cases h5 : g = r.gen
  ·subst h5
   simp
  ·have h6 : Nat.beq g r.gen = false := by rw [beq0]; simp [h5]
   simp only [h6]
   rw [show r.gen + 1 - g - 1 = (r.gen - g - 1) + 1 by omega]
   simp
theorem grow_row (hi : Inv base μ s w) {b : Nat} {r : Row} (hg : s.hp.get b = some r) (hown : r.own = true) (hml : r.minGen ≤ r.gen) (hrl : r.len = r.cells.length) (hfl : r.fz ≤ r.len)
  (cs : List AV) (blk n : Nat) (w' : World)
  (hnew : ∃ cs' fz', w'.heap[blk]? = some (.cells cs' r.elem fz') ∧ cs'.size = n ∧ r.len + cs.length ≤ n ∧ LR (CR μ) (r.cells ++ cs) (cs'.toList.take (r.len + cs.length)) ∧
   (∀ i, r.fz ≤ i → i < n → ¬ (fz'.1 ≤ i ∧ i < fz'.2)) ∧ (r.odd = false → fz'.2 ≤ r.fz))
  (hold : ∀ k, k < w.heap.size → k ≠ blk → w'.heap[k]? = w.heap[k]?)
  (hin : blk < w.heap.size → ∃ g0, μ b g0 = some (blk, n))
  (hshare : blk < w.heap.size → ∃ cs0 cs' fz, w.heap[blk]? = some (.cells cs0 r.elem fz) ∧ w'.heap[blk]? = some (.cells cs' r.elem fz) ∧ cs'.size = cs0.size ∧ cs'.toList.take r.len = cs0.toList.take r.len)
  (hbase : base ≤ blk) (hb : b < s.nx) (hfresh : μ b (r.gen + 1) = none) (hsz : w.heap.size ≤ w'.heap.size) (hos : w'.os = w.os) (htape : w'.tape = w.tape) (hout : w'.output = w.output) :
  Stp base μ (μ.put b (r.gen + 1) (blk, n)) s { hset s b (grown r cs) with low := Nat.min s.low b } w w' := by
 have hext : Ext μ (μ.put b (r.gen + 1) (blk, n)) := fun b' g' x hm => by
  rw [Mp.put_other]
  ·exact hm
  ·rintro ⟨rfl, rfl⟩
   rw [hfresh] at hm
   cases hm
 have hlt : ∀ {b' g' k m}, μ b' g' = some (k, m) → k < w.heap.size := fun hm => hi.rel.lt hm
 refine ⟨hext, ⟨?_, ?_⟩, ?_, ?_, Nat.le_refl _, rfl, Nat.min_le_left _ _, ?_, ?_, hsz, hos, htape, hout, ?wf⟩
 case wf =>
  obtain ⟨_, _, _, _, _, h4, _⟩ := hnew
  exact hi.wf.set (r := grown r cs) (fun x hx => h4.ok hi.dom x hx) _
 ·intro b' g' k m hm
  by_cases hc : b' = b ∧ g' = r.gen + 1
  ·obtain ⟨rfl, rfl⟩ := hc
   rw [Mp.put_same] at hm
   injection hm with hm
   injection hm with h1 h2
   subst h1; subst h2
   obtain ⟨cs', fz', h1, h2, h3, h4, h5, h6⟩ := hnew
   refine ⟨_, T.get_set_same _ _ _, ?_, ?_, ⟨cs', fz', h1, h2, ?_, fun _ _ => ⟨h5, h6⟩⟩, ?_, ?_, Nat.le_refl _⟩
   ·simp [grown, hrl]
   ·exact Nat.le_succ_of_le hml
   ·intro m hm
    have := extent_gen (r := grown r cs) (Nat.le_succ_of_le hml)
    have hm' : extent (grown r cs) (grown r cs).gen = some m := hm
    rw [this] at hm'
    injection hm' with hm'
    subst hm'
    refine ⟨h3, Nat.le_refl _, ?_⟩
    show LR _ ((r.cells ++ cs).take (r.len + cs.length)) _
    rw [List.take_of_length_le (by simp [hrl])]
    exact h4.mono fun _ _ => CR.mono hext
   ·show r.fz ≤ r.len + cs.length
    omega
   ·show if r.own = true then _ else _
    rw [if_pos hown]; exact hbase
  ·rw [Mp.put_other _ _ hc] at hm
   obtain ⟨r', hg', hr'⟩ := hi.rel.row _ _ _ _ hm
   by_cases hbb : b' = b
   ·subst hbb
    rw [hg] at hg'
    injection hg' with hg'
    subst hg'
    refine ⟨_, T.get_set_same _ _ _, ?_⟩
    have hge : g' ≤ r.gen := hr'.gen
    obtain ⟨cs0, fz0, h1, h2, h3, h4⟩ := hr'.at_
    have hrow : ∃ cs1 fz1, w'.heap[k]? = some (.cells cs1 r.elem fz1) ∧ cs1.size = m ∧ cs1.toList.take r.len = cs0.toList.take r.len := by
     by_cases hk : k = blk
     ·subst hk
      obtain ⟨cs2, cs', fz, e1, e2, e3, e4⟩ := hshare (hlt hm)
      rw [h1] at e1
      injection e1 with e1
      injection e1 with e1 _ _
      subst e1
      exact ⟨cs', fz, e2, e3.trans h2, e4⟩
     ·exact ⟨cs0, fz0, (hold k (hlt hm) hk).trans h1, h2, rfl⟩
    obtain ⟨cs1, fz1, e1, e2, e3⟩ := hrow
    refine ⟨by simp [grown, hrl], Nat.le_succ_of_le hml, ⟨cs1, fz1, e1, e2, ?_, ?_⟩, by show r.fz ≤ r.len + cs.length; omega, hr'.own, Nat.le_succ_of_le hge⟩
    ·intro q hq
     rw [extent_grown cs hge] at hq
     obtain ⟨q1, q2, q3⟩ := h3 q hq
     refine ⟨q1, by show q ≤ r.len + cs.length; omega, ?_⟩
     show LR _ ((r.cells ++ cs).take q) _
     rw [List.take_append_of_le_length (by omega)]
     have : cs1.toList.take q = cs0.toList.take q := by
      have := congrArg (List.take q) e3
      rwa [List.take_take, List.take_take, Nat.min_eq_left q2] at this
     rw [this]
     exact q3.mono fun _ _ => CR.mono hext
    ·intro he
     have : g' = r.gen + 1 := he
     omega
   ·refine ⟨r', ?_, hr'.mono hext (hold k (hlt hm) ?_)⟩
    ·show (T.set _ s.hp b).get b' = _
     rw [T.get_set_ne _ _ hbb]; exact hg'
    ·rintro rfl
     obtain ⟨g0, h0⟩ := hin (hlt hm)
     exact hbb (hi.rel.sep _ _ _ _ _ _ _ _ h0 hm hg hown).symm
 ·intro b1 g1 k m b2 g2 m' r' hm1 hm2 hget ho
  have hset : ∀ {b'}, b' ≠ b → (T.set (grown r cs) s.hp b).get b' = s.hp.get b' := fun h => T.get_set_ne _ _ h
  by_cases c1 : b1 = b ∧ g1 = r.gen + 1
  ·by_cases c2 : b2 = b ∧ g2 = r.gen + 1
   ·rw [c1.1, c2.1]
   ·rw [Mp.put_other _ _ c2] at hm2
    obtain ⟨rfl, rfl⟩ := c1
    rw [Mp.put_same] at hm1
    injection hm1 with hm1
    injection hm1 with e1 e2
    subst e1
    obtain ⟨g0, h0⟩ := hin (hlt hm2)
    exact hi.rel.sep _ _ _ _ _ _ _ _ h0 hm2 hg hown
  ·rw [Mp.put_other _ _ c1] at hm1
   by_cases c2 : b2 = b ∧ g2 = r.gen + 1
   ·obtain ⟨rfl, rfl⟩ := c2
    rw [Mp.put_same] at hm2
    injection hm2 with hm2
    injection hm2 with e1 e2
    subst e1
    obtain ⟨g0, h0⟩ := hin (hlt hm1)
    exact (hi.rel.sep _ _ _ _ _ _ _ _ h0 hm1 hg hown).symm
   ·rw [Mp.put_other _ _ c2] at hm2
    by_cases hbb : b1 = b
    ·subst hbb
     exact hi.rel.sep _ _ _ _ _ _ _ _ hm1 hm2 hg hown
    ·have hget' : (T.set (grown r cs) s.hp b).get b1 = some r' := hget
     rw [hset hbb] at hget'
     exact hi.rel.sep _ _ _ _ _ _ _ _ hm1 hm2 hget' ho
 ·intro b' g' x hm
  by_cases hc : b' = b ∧ g' = r.gen + 1
  ·rw [hc.1]; exact hb
  ·rw [Mp.put_other _ _ hc] at hm
   exact hi.dom _ _ _ hm
 ·intro b' g' k m hm
  by_cases hc : b' = b ∧ g' = r.gen + 1
  ·obtain ⟨rfl, rfl⟩ := hc
   rw [Mp.put_same] at hm
   injection hm with hm
   injection hm with e1 e2
   subst e1; subst e2
   refine .inr (.inr ⟨Nat.min_le_right _ _, hb, ?_⟩)
   rcases Nat.lt_or_ge blk w.heap.size with h | h
   ·exact .inr (hin h)
   ·exact .inl h
  ·rw [Mp.put_other _ _ hc] at hm
   exact .inl hm
 ·intro b' _ hl
  show (T.set _ s.hp b).get b' = _
  have hl' : b' < Nat.min s.low b := hl
  have hmr := Nat.min_le_right s.low b
  have hne' : b' ≠ b := by
   intro he
   rw [he] at hl'
   exact absurd (Nat.lt_of_lt_of_le hl' hmr) (Nat.lt_irrefl _)
  rw [T.get_set_ne _ _ hne']
 ·intro k hk
  by_cases hkb : k = blk
  ·subst hkb
   obtain ⟨g0, h0⟩ := hin hk
   exact .inr ⟨b, g0, n, h0, Nat.min_le_right _ _, hbase⟩
  ·exact .inl (hold k hk hkb)
theorem freeze_row (hi : Inv base μ s w) {b : Nat} {r : Row} (hg : s.hp.get b = some r) (hown : r.own = true) (hodd : r.odd = false) {blk n : Nat} (hm : μ b r.gen = some (blk, n)) (k : Nat) (hk : k ≤ r.len) (hk0 : 0 < k) :
  Stp base μ μ s { hset s b { r with fz := Nat.max r.fz k } with low := Nat.min s.low b } w (w.freeze ⟨blk, 0, none⟩ k) := by
 have hne : k ≠ 0 := by omega
 have hbf : ∀ j, j ≠ blk → (w.freeze ⟨blk, 0, none⟩ k).heap[j]? = w.heap[j]? := fun j hj => by
  have hj' : blk ≠ j := fun h => hj h.symm
  simp [World.freeze, hne, Array.getElem?_modify, hj']
 have hbs : ∀ cs e fz, w.heap[blk]? = some (.cells cs e fz) → (w.freeze ⟨blk, 0, none⟩ k).heap[blk]? = some (.cells cs e (if fz.1 == fz.2 then (0, 0 + k) else (min fz.1 0, max fz.2 (0 + k)))) := fun cs e fz h => by
  simp [World.freeze, hne, Array.getElem?_modify, h]
 have hsz : (w.freeze ⟨blk, 0, none⟩ k).heap.size = w.heap.size := by simp [World.freeze, hne]
 have hrest : (w.freeze ⟨blk, 0, none⟩ k).os = w.os ∧ (w.freeze ⟨blk, 0, none⟩ k).tape = w.tape ∧ (w.freeze ⟨blk, 0, none⟩ k).output = w.output := by simp [World.freeze, hne]
 have hlt : ∀ {b' g' k m}, μ b' g' = some (k, m) → k < w.heap.size := fun hm => hi.rel.lt hm
 have hbase : base ≤ blk := by
  obtain ⟨r', hg', hr'⟩ := hi.rel.row _ _ _ _ hm
  rw [hg] at hg'
  injection hg' with hg'
  subst hg'
  have := hr'.own
  rw [if_pos hown] at this
  exact this
 refine ⟨Ext.refl _, ⟨?_, ?_⟩, hi.dom, fun _ _ _ _ h => .inl h, Nat.le_refl _, rfl, Nat.min_le_left _ _, ?_, ?_, by omega, hrest.1, hrest.2.1, hrest.2.2, hi.wf.set (r := { r with fz := Nat.max r.fz k }) (fun x hx => hi.wf _ _ hg x hx) _⟩
 ·intro b' g' q m hm'
  obtain ⟨r', hg', hr'⟩ := hi.rel.row _ _ _ _ hm'
  by_cases hbb : b' = b
  ·subst hbb
   rw [hg] at hg'
   injection hg' with hg'
   subst hg'
   refine ⟨_, T.get_set_same _ _ _, hr'.len, hr'.gens, ?_, Nat.max_le.2 ⟨hr'.fzl, hk⟩, hr'.own, hr'.gen⟩
   obtain ⟨cs0, fz0, h1, h2, h3, h4⟩ := hr'.at_
   by_cases hq : q = blk
   ·subst hq
    refine ⟨cs0, _, hbs _ _ _ h1, h2, h3, fun he ho => ?_⟩
    obtain ⟨h5, h6⟩ := h4 he ho
    have h7 := h6 hodd
    have hmx : r.fz ≤ Nat.max r.fz k ∧ k ≤ Nat.max r.fz k := ⟨Nat.le_max_left _ _, Nat.le_max_right _ _⟩
    constructor
    ·intro i hi1 hi2
     have hi1' : Nat.max r.fz k ≤ i := hi1
     split
     ·simp; omega
     ·simp; omega
    ·intro _
     show _ ≤ Nat.max r.fz k
     split
     ·simp; omega
     ·simp only [Nat.zero_add]
      exact Nat.max_le.2 ⟨by omega, hmx.2⟩
   ·refine ⟨cs0, fz0, (hbf _ hq).trans h1, h2, h3, fun he _ => ?_⟩
    exfalso
    have he' : g' = r.gen := he
    rw [he', hm] at hm'
    injection hm' with hm'
    injection hm' with e1 _
    exact hq e1.symm
  ·refine ⟨r', ?_, hr'.mono (Ext.refl _) (hbf _ ?_)⟩
   ·show (T.set _ s.hp b).get b' = _
    rw [T.get_set_ne _ _ hbb]; exact hg'
   ·rintro rfl
    exact hbb (hi.rel.sep _ _ _ _ _ _ _ _ hm hm' hg hown).symm
 ·intro b1 g1 q m b2 g2 m' r' hm1 hm2 hget ho
  by_cases hbb : b1 = b
  ·subst hbb
   exact hi.rel.sep _ _ _ _ _ _ _ _ hm1 hm2 hg hown
  ·have hget' : (T.set { r with fz := Nat.max r.fz k } s.hp b).get b1 = some r' := hget
   rw [T.get_set_ne _ _ hbb] at hget'
   exact hi.rel.sep _ _ _ _ _ _ _ _ hm1 hm2 hget' ho
 ·intro b' _ hl
  show (T.set _ s.hp b).get b' = _
  have hl' : b' < Nat.min s.low b := hl
  have hmr := Nat.min_le_right s.low b
  have hne' : b' ≠ b := by
   intro he
   rw [he] at hl'
   exact absurd (Nat.lt_of_lt_of_le hl' hmr) (Nat.lt_irrefl _)
  rw [T.get_set_ne _ _ hne']
 ·intro q hq
  by_cases hkb : q = blk
  ·subst hkb
   exact .inr ⟨b, r.gen, n, hm, Nat.min_le_right _ _, hbase⟩
  ·exact .inl (hbf q hkb)
end
end Go.AM
/-
  Operations on values: what the abstract machine computes, the model computes.
-/
namespace Go.AM
open Go Go.RowKit
section
variable {μ : Mp} {P : Program} {w : World}
theorem CR.vr {x : AV} {v : Value} (h : CR μ x v) : VR μ x v := by
 cases x <;> simp only [VR, V1] <;> first | exact h | exact (show False from h).elim
theorem V1.vr {x : AV} {v : Value} (h : V1 μ x v) : VR μ x v := by
 cases x <;> simp only [VR] <;> first | exact h | exact (show False from h).elim
theorem CR.v1 {x : AV} {v : Value} (h : CR μ x v) : V1 μ x v := by
 cases x <;> simp only [V1] <;> first | exact h | exact (show False from h).elim
theorem cOf_sound {c : Value} {x : AV} (h : cOf c = some x) : CR μ x c := by
 unfold cOf at h
 split at h <;> simp at h <;> subst h <;> simp [CR, SR]
theorem mapO_sound {α β : Type} {f : α → Option β} : ∀ {l : List α} {r : List β}, mapO f l = some r → ∀ {R : β → α → Prop}, (∀ a b, f a = some b → R b a) → LR R r l
 | [], r, h, R, _ => by simp [mapO] at h; subst h; trivial
 | a :: l, r, h, R, hR => by
  simp only [mapO] at h
  cases h1 : f a with
  | none => simp [h1] at h
  | some b =>
   cases h2 : mapO f l with
   | none => simp [h1, h2] at h
   | some bs => simp [h1, h2] at h; subst h; exact ⟨hR a b h1, mapO_sound h2 hR⟩
theorem vOf_sound {c : Value} {x : AV} (h : vOf c = some x) : V1 μ x c := by
 unfold vOf at h
 split at h
 ·rename_i cs
  split at h
  ·rename_i l hl
   simp at h
   subst h
   exact ⟨cs.toList, mapO_sound hl fun _ _ h => cOf_sound h, by simp⟩
  ·cases h
 ·exact (cOf_sound h).v1
theorem cells_sound {x : AV} {l : List AV} {v : Value} (h : cellsOf x = some l) (hx : VR μ x v) : ∃ vs, LR (CR μ) l vs ∧ v.cells = vs.toArray := by
 cases x <;> simp only [cellsOf, Option.some.injEq] at h <;> try (subst h)
 case agg cs => obtain ⟨vs, h1, rfl⟩ := hx; exact ⟨vs, h1, rfl⟩
 case tuple => cases h
 all_goals
  have hc := hx
  simp only [VR, V1] at hc
  refine ⟨[v], ⟨hc, trivial⟩, ?_⟩
  have := hc.oneCell
  cases v <;> first | rfl | simp [Value.oneCell'] at this
theorem zero_sound {t : TypeId} {x : AV} (h : zeroOf P t = some x) : ∃ i z, P.info? t = some i ∧ i.zero = some z ∧ V1 μ x z := by
 unfold zeroOf at h
 split at h
 ·cases h
 ·rename_i i hi
  split at h
  ·cases h
  ·rename_i z hz
   exact ⟨i, z, hi, hz, vOf_sound h⟩
theorem size_run {t : TypeId} {n : Nat} (h : sizeT P t = some n) : ∀ w, (sizeOf t).run P w = .ok n w := by
 intro w
 unfold sizeT at h
 cases hi : P.info? t with
 | none => simp [hi] at h
 | some i => simp [hi] at h; simp [sizeOf, typeInfo, hi, h]
theorem agg_run {t : TypeId} {b : Bool} (h : aggT P t = some b) : ∀ w, (isAgg t).run P w = .ok b w := by
 intro w
 unfold aggT at h
 cases hu : P.underlying t with
 | none => simp [hu] at h
 | some d => cases d <;> simp [hu] at h <;> subst h <;> simp [isAgg, run_underlying hu]
theorem part_sound {t : TypeId} {cs : List AV} {off : Nat} {x : AV} (h : partOf P t cs off = some x) {vs : List Value} (hv : LR (CR μ) cs vs) :
  ∃ v, V1 μ x v ∧ ∀ w, (part t vs.toArray off).run P w = .ok v w := by
 unfold partOf at h
 split at h
 ·rename_i n h1 h2
  split at h
  ·rename_i hb
   have hb := ble_iff.1 hb
   simp at h
   subst h
   refine ⟨.agg (((vs.drop off).take n)).toArray, ⟨_, (hv.drop off).take n, rfl⟩, fun w => ?_⟩
   simp only [part, Sem.run_bind, agg_run h1, Result.andThen_ok, if_true, size_run h2, Sem.run_pure]
   congr 2
   apply Array.ext'
   simp
  ·cases h
 ·rename_i h1
  obtain ⟨v, h2, h3⟩ := hv.get _ _ h
  exact ⟨v, h3.v1, fun w => by simp [part, agg_run h1, h2]⟩
 ·cases h
theorem strOf_inj {a b : List UInt8} : ((⟨a.toArray⟩ : ByteArray) == ⟨b.toArray⟩) = (a == b) := by
 rw [beq_toListBytes, ByteArray.toList_eq, ByteArray.toList_eq]
theorem fields_sound {eq : TypeId → AV → AV → Option Bool} {d : Nat} {xs ys : List AV} {us vs : List Value} (hx : LR (CR μ) xs us) (hy : LR (CR μ) ys vs)
  (heq : ∀ t x y b x' y', eq t x y = some b → VR μ x x' → VR μ y y' → ∀ w, (Op.equalIn d t x' y').run P w = .ok b w) :
  ∀ (fs : List Field) (b : Bool), eqFields P eq xs ys fs = some b → ∀ w, (Op.eqFields d us.toArray vs.toArray fs).run P w = .ok b w
 | [], b, h, w => by simp [eqFields] at h; subst h; simp [Op.eqFields]
 | f :: fs, b, h, w => by
  simp only [eqFields] at h
  split at h
  ·rename_i hn
   have hn : f.name = "_" := by simpa using hn
   simp only [Op.eqFields, hn, ne_eq, not_true_eq_false, if_false]
   exact fields_sound hx hy heq fs b h w
  ·rename_i hn
   have hn : ¬ f.name = "_" := by simpa using hn
   split at h
   ·rename_i x y h1 h2
    obtain ⟨x', hx1, hx2⟩ := part_sound h1 hx
    obtain ⟨y', hy1, hy2⟩ := part_sound h2 hy
    simp only [Op.eqFields, ne_eq, hn, not_false_eq_true, if_true, Sem.run_bind, hx2, hy2, Result.andThen_ok]
    split at h
    ·rename_i h3
     simp only [heq _ _ _ _ _ _ h3 hx1.vr hy1.vr w, Result.andThen_ok, Bool.not_true, Bool.false_eq_true, if_false]
     exact fields_sound hx hy heq fs b h w
    ·rename_i h3
     simp at h
     subst h
     simp [heq _ _ _ _ _ _ h3 hx1.vr hy1.vr w]
    ·cases h
   ·cases h
theorem aeq_sound : ∀ (d : Nat) (t : TypeId) (x y : AV) (b : Bool) (x' y' : Value), aeq P d t x y = some b → VR μ x x' → VR μ y y' → ∀ (k : Nat) (w : World), (Op.equalIn (d + k) t x' y').run P w = .ok b w := by
 intro d
 induction d with
 | zero => intro t x y b x' y' h; simp [aeq] at h
 | succ d ih =>
  intro t x y b x' y' h hx hy k w
  rw [show d + 1 + k = (d + k) + 1 by omega]
  unfold aeq at h
  split at h
  case h_1 hu =>
   simp at h; subst h
   have hx : x' = _ := hx
   have hy : y' = _ := hy
   subst hx; subst hy
   simp [Op.equalIn, run_underlying hu]
  case h_2 k1 a k2 b' hu =>
   split at h
   case h_1 hk =>
    simp at h; subst h
    have hk : k1 = k2 := by simpa using hk
    subst hk
    have hx : x' = _ := hx
    have hy : y' = _ := hy
    subst hx; subst hy
    simp [Op.equalIn, run_underlying hu]
   case h_2 => cases h
  case h_3 hu =>
   simp at h; subst h
   have hx : x' = _ := hx
   have hy : y' = _ := hy
   subst hx; subst hy
   simp [Op.equalIn, run_underlying hu, strOf_inj]
  case h_4 hu =>
   simp at h; subst h
   have hx : x' = _ := hx
   have hy : y' = _ := hy
   subst hx; subst hy
   simp [Op.equalIn, run_underlying hu]
  case h_5 hu =>
   simp at h; subst h
   have hx : x' = _ := hx
   obtain ⟨c, hc, rfl⟩ := hy
   subst hx
   simp [Op.equalIn, run_underlying hu]
  case h_6 hu =>
   simp at h; subst h
   have hy : y' = _ := hy
   obtain ⟨c, hc, rfl⟩ := hx
   subst hy
   simp [Op.equalIn, run_underlying hu]
  case h_7 e a1 a2 hu =>
   obtain ⟨c1, ⟨blk1, n1, hm1, rfl⟩, rfl⟩ := hx
   obtain ⟨c2, ⟨blk2, n2, hm2, rfl⟩, rfl⟩ := hy
   split at h
   case h_1 sz hs =>
    split at h
    case h_1 hc =>
     simp at h; subst h
     simp only [Bool.and_eq_true] at hc
     have e1 := Nat.eq_of_beq_eq_true hc.1
     have e2 := Nat.eq_of_beq_eq_true hc.2
     rw [e1, e2, hm2] at hm1
     injection hm1 with hm1
     injection hm1 with hm1 _
     subst hm1
     have hne : sz + 1 ≠ 0 := by omega
     simp only [Op.equalIn, Sem.run_bind, run_underlying hu, Result.andThen_ok, size_run hs, ne_eq, hne, not_false_eq_true, if_true, sameAddr, BEq.rfl, Sem.run_pure]
     rw [beq0]
     congr 1
     show decide ((⟨blk2, a1.off, none⟩ : Addr) = ⟨blk2, a2.off, none⟩) = _
     simp
    case h_2 => cases h
   case h_2 => cases h
  case h_8 hu =>
   simp at h; subst h
   have hx : x' = _ := hx
   have hy : y' = _ := hy
   subst hx; subst hy
   simp [Op.equalIn, run_underlying hu]
  case h_9 hu =>
   simp at h; subst h
   have hx : x' = _ := hx
   obtain ⟨c, hc, rfl⟩ := hy
   subst hx
   simp [Op.equalIn, run_underlying hu]
  case h_10 hu =>
   simp at h; subst h
   have hy : y' = _ := hy
   obtain ⟨c, hc, rfl⟩ := hx
   subst hy
   simp [Op.equalIn, run_underlying hu]
  case h_11 fields xs ys hu =>
   split at h
   case h_1 => cases h
   case h_2 hst =>
    obtain ⟨us, hxs, rfl⟩ := hx
    obtain ⟨vs, hys, rfl⟩ := hy
    have hf : P.fieldsOf t = fields := by simp [Program.fieldsOf, hu]
    rw [run_equalIn_struct w (d + k) t us.toArray vs.toArray (by rw [hf]; exact hu) hst, hf]
    exact fields_sound hxs hys (fun t x y b x' y' h1 h2 h3 w => ih t x y b x' y' h1 h2 h3 k w) _ _ h w
  case h_12 hu =>
   simp at h; subst h
   have hx : x' = _ := hx
   have hy : y' = _ := hy
   subst hx; subst hy
   simp [Op.equalIn, run_underlying hu]
  case h_13 hu =>
   simp at h; subst h
   have hx : x' = _ := hx
   obtain ⟨_, _, _, _, rfl, _⟩ := hy
   subst hx
   simp [Op.equalIn, run_underlying hu]
  case h_14 hu =>
   simp at h; subst h
   have hx : x' = _ := hx
   obtain ⟨_, _, rfl⟩ := hy
   subst hx
   simp [Op.equalIn, run_underlying hu]
  case h_15 hu =>
   simp at h; subst h
   have hy : y' = _ := hy
   obtain ⟨_, _, _, _, rfl, _⟩ := hx
   subst hy
   simp [Op.equalIn, run_underlying hu]
  case h_16 hu =>
   simp at h; subst h
   have hy : y' = _ := hy
   obtain ⟨_, _, rfl⟩ := hx
   subst hy
   simp [Op.equalIn, run_underlying hu]
  case h_17 hu =>
   simp at h; subst h
   have hx : x' = _ := hx
   have hy : y' = _ := hy
   subst hx; subst hy
   simp [Op.equalIn, run_underlying hu]
  case h_18 hu =>
   simp at h; subst h
   have hx : x' = _ := hx
   obtain ⟨_, _, rfl⟩ := hy
   subst hx
   simp [Op.equalIn, run_underlying hu]
  case h_19 hu =>
   simp at h; subst h
   have hy : y' = _ := hy
   obtain ⟨_, _, rfl⟩ := hx
   subst hy
   simp [Op.equalIn, run_underlying hu]
  case h_20 => cases h
theorem int_inv {k : IntKind} {n : Int} {v : Value} (h : VR μ (.int k n) v) : v = .int k n := h
theorem bool_inv {b : Bool} {v : Value} (h : VR μ (.bool b) v) : v = .bool b := h
theorem str_inv {l : List UInt8} {v : Value} (h : VR μ (.str l) v) : v = .string ⟨l.toArray⟩ := h
theorem intBin_sound {op : BinOp} {k : IntKind} {a b : Int} {v : AV} (h : intBin op k a b = some v) :
  ∃ v', VR μ v v' ∧ ∀ (t : TypeId) (X Y : Operand) (w : World), (do eqGuard op t X Y (.int k a) (.int k b); binOp op t (.int k a) (.int k b) : Sem Value).run P w = .ok v' w := by
 cases op <;> simp only [intBin, Option.some.injEq] at h
 case quo =>
  split at h
  ·cases h
  ·rename_i hb
   have hb : ¬ b = 0 := by simpa using hb
   simp at h; subst h
   exact ⟨_, rfl, fun t X Y w => by simp [eqGuard, binOp, Op.intDiv, hb]⟩
 case rem =>
  split at h
  ·cases h
  ·rename_i hb
   have hb : ¬ b = 0 := by simpa using hb
   simp at h; subst h
   exact ⟨_, rfl, fun t X Y w => by simp [eqGuard, binOp, Op.intDiv, hb]⟩
 all_goals first
  | (subst h; exact ⟨_, rfl, fun t X Y w => by simp [eqGuard, binOp, Op.intArith, Op.intBits, Op.intCmp]⟩)
  | cases h
theorem strBin_sound {op : BinOp} {a b : List UInt8} {v : AV} (h : strBin op a b = some v) :
  ∃ v', VR μ v v' ∧ ∀ (t : TypeId) (X Y : Operand) (w : World), (do eqGuard op t X Y (.string ⟨a.toArray⟩) (.string ⟨b.toArray⟩); binOp op t (.string ⟨a.toArray⟩) (.string ⟨b.toArray⟩) : Sem Value).run P w = .ok v' w := by
 have hsz : ∀ l : List UInt8, (⟨l.toArray⟩ : ByteArray).size = l.length := fun l => by simp [ByteArray.size]
 have happ : (⟨a.toArray⟩ : ByteArray) ++ ⟨b.toArray⟩ = ⟨(a ++ b).toArray⟩ := by
  apply ByteArray.ext
  simp
 cases op <;> simp only [strBin, Option.some.injEq] at h
 case add =>
  split at h
  ·cases h
  ·rename_i hb
   have hb : ¬ (((a.length + b.length : Nat) : Int) > IntKind.i64.max) := by simpa using hb
   simp at h; subst h
   refine ⟨_, rfl, fun t X Y w => ?_⟩
   simp only [eqGuard, binOp, Op.stringOp, hsz, if_neg hb, happ]
   simp
 all_goals first
  | (subst h; exact ⟨_, rfl, fun t X Y w => by simp [eqGuard, binOp, Op.stringOp]⟩)
  | cases h
end
end Go.AM
/-
  Operations on values, continued: comparisons, conversions of numbers, places, parts.
-/
namespace Go.AM
open Go Go.RowKit
section
variable {μ : Mp} {P : Program} {w : World}
theorem eqGuard_run {op : BinOp} {t : TypeId} {X Y : Operand} {x y : AV} {x' y' : Value} (h : eqOk P (isConst X || isConst Y) t x y = true) (hx : VR μ x x') (hy : VR μ y y') :
  ∀ w, (eqGuard op t X Y x' y').run P w = .ok () w := by
 intro w
 have hc : ∀ Z : Operand, isConst Z = true → (match Z with | .const _ => true | _ => false) = true := fun Z hz => by cases Z <;> simp_all [isConst]
 cases x
 case nilIface =>
  have hx : x' = _ := hx
  subst hx
  cases y
  case nilIface =>
   have hy : y' = _ := hy
   subst hy
   simp only [eqOk, Bool.or_eq_true] at h
   cases op <;> simp [eqGuard] <;> (rcases h with h | h <;> (first | (cases X <;> simp_all [isConst]; done) | (cases Y <;> simp_all [isConst]; done) | (cases X <;> cases Y <;> simp_all [isConst])))
  case iface t' v =>
   obtain ⟨u, _, rfl⟩ := hy
   cases op <;> simp [eqGuard]
  case ptr a => obtain ⟨_, _, rfl⟩ := hy; cases op <;> simp [eqGuard]
  case empty => obtain ⟨_, _, rfl⟩ := hy; cases op <;> simp [eqGuard]
  case slice a n e => obtain ⟨_, _, _, _, rfl, _⟩ := hy; cases op <;> simp [eqGuard]
  case func f c => obtain ⟨_, _, rfl⟩ := hy; cases op <;> simp [eqGuard]
  case agg c => obtain ⟨_, _, rfl⟩ := hy; cases op <;> simp [eqGuard]
  case tuple c => obtain ⟨_, _, rfl⟩ := hy; cases op <;> simp [eqGuard]
  all_goals (have hy : y' = _ := hy; subst hy; cases op <;> simp [eqGuard])
 case agg cs =>
  obtain ⟨us, _, rfl⟩ := hx
  by_cases hya : ∃ cs', y = .agg cs'
  ·obtain ⟨cs', rfl⟩ := hya
   obtain ⟨vs, _, rfl⟩ := hy
   simp only [eqOk, Bool.not_eq_true'] at h
   exact run_eqGuard_agg w op t X Y _ _ h
  ·have : ∀ ws, y' ≠ .agg ws := by
    intro ws he
    subst he
    cases y <;> simp [VR, V1, CR, SR] at hy
    exact hya ⟨_, rfl⟩
   cases op <;> simp [eqGuard] <;> (split <;> simp_all)
 case iface t' v => obtain ⟨u, _, rfl⟩ := hx; cases op <;> simp [eqGuard]
 case ptr a => obtain ⟨_, _, rfl⟩ := hx; cases op <;> simp [eqGuard]
 case empty => obtain ⟨_, _, rfl⟩ := hx; cases op <;> simp [eqGuard]
 case slice a n e => obtain ⟨_, _, _, _, rfl, _⟩ := hx; cases op <;> simp [eqGuard]
 case func f c => obtain ⟨_, _, rfl⟩ := hx; cases op <;> simp [eqGuard]
 case tuple c => obtain ⟨_, _, rfl⟩ := hx; cases op <;> simp [eqGuard]
 all_goals (have hx : x' = _ := hx; subst hx; cases op <;> simp [eqGuard])
theorem equal_run {t : TypeId} {x y : AV} {b : Bool} {x' y' : Value} (h : aeq P 12 t x y = some b) (hx : VR μ x x') (hy : VR μ y y') : ∀ w, (Op.equal t x' y').run P w = .ok b w :=
 fun w => aeq_sound 12 t x y b x' y' h hx hy 9988 w
theorem binOp_eq {t : TypeId} {x y : AV} {b : Bool} {x' y' : Value} (h : aeq P 12 t x y = some b) (hx : VR μ x x') (hy : VR μ y y')
  (hi : ∀ k a k' b, ¬ (x = .int k a ∧ y = .int k' b)) (hs : ∀ a b, ¬ (x = .str a ∧ y = .str b)) (w : World) :
  (binOp .eql t x' y').run P w = .ok (.bool b) w ∧ (binOp .neq t x' y').run P w = .ok (.bool !b) w := by
 have he := equal_run h hx hy
 have key : (∀ k a k' b', ¬ (x' = .int k a ∧ y' = .int k' b')) ∧ (∀ a b', ¬ (x' = .string a ∧ y' = .string b')) ∧ (∀ k a k' b', ¬ (x' = .float k a ∧ y' = .float k' b')) ∧ (∀ k a b k' c d, ¬ (x' = .complex k a b ∧ y' = .complex k' c d)) := by
  refine ⟨?_, ?_, ?_, ?_⟩
  ·rintro k a k' b' ⟨rfl, rfl⟩
   cases x <;> simp [VR, V1, CR, SR] at hx
   cases y <;> simp [VR, V1, CR, SR] at hy
   exact hi _ _ _ _ ⟨rfl, rfl⟩
  ·rintro a b' ⟨rfl, rfl⟩
   cases x <;> simp [VR, V1, CR, SR] at hx
   cases y <;> simp [VR, V1, CR, SR] at hy
   exact hs _ _ ⟨rfl, rfl⟩
  ·rintro k a k' b' ⟨rfl, rfl⟩
   cases x <;> simp [VR, V1, CR, SR] at hx
  ·rintro k a b k' c d ⟨rfl, rfl⟩
   cases x <;> simp [VR, V1, CR, SR] at hx
 obtain ⟨k1, k2, k3, k4⟩ := key
 constructor
 ·unfold binOp
  split <;> first | (exfalso; first | exact k1 _ _ _ _ ⟨rfl, rfl⟩ | exact k2 _ _ ⟨rfl, rfl⟩ | exact k3 _ _ _ _ ⟨rfl, rfl⟩ | exact k4 _ _ _ _ _ _ ⟨rfl, rfl⟩) | simp_all
 ·unfold binOp
  split <;> first | (exfalso; first | exact k1 _ _ _ _ ⟨rfl, rfl⟩ | exact k2 _ _ ⟨rfl, rfl⟩ | exact k3 _ _ _ _ ⟨rfl, rfl⟩ | exact k4 _ _ _ _ _ _ ⟨rfl, rfl⟩) | simp_all
theorem bin_sound {op : BinOp} {t : TypeId} {X Y : Operand} {x y v : AV} {x' y' : Value} (h : binO P (isConst X || isConst Y) op t x y = some v) (hx : VR μ x x') (hy : VR μ y y') :
  ∃ v', VR μ v v' ∧ ∀ w, (do eqGuard op t X Y x' y'; binOp op t x' y' : Sem Value).run P w = .ok v' w := by
 unfold binO at h
 split at h
 case h_1 k a k' b =>
  split at h
  ·cases h
  ·rename_i hb
   have hb : ¬ b < 0 := by simpa using hb
   simp at h; subst h
   rw [int_inv hx, int_inv hy]
   exact ⟨_, rfl, fun w => by simp [eqGuard, binOp, Op.shift, hb]⟩
 case h_2 k a k' b =>
  split at h
  ·cases h
  ·rename_i hb
   have hb : ¬ b < 0 := by simpa using hb
   simp at h; subst h
   rw [int_inv hx, int_inv hy]
   exact ⟨_, rfl, fun w => by simp [eqGuard, binOp, Op.shift, hb]⟩
 case h_3 k a k' b _ _ =>
  split at h
  ·rename_i hk
   have hk : k = k' := by simpa using hk
   subst hk
   rw [int_inv hx, int_inv hy]
   obtain ⟨v', h1, h2⟩ := intBin_sound (P := P) (μ := μ) h
   exact ⟨v', h1, fun w => h2 t X Y w⟩
  ·cases h
 case h_4 a b _ _ _ =>
  rw [str_inv hx, str_inv hy]
  obtain ⟨v', h1, h2⟩ := strBin_sound (P := P) (μ := μ) h
  exact ⟨v', h1, fun w => h2 t X Y w⟩
 case h_5 hn1 hn2 =>
  split at h
  ·rename_i hok
   split at h
   ·rename_i b hb
    simp at h; subst h
    refine ⟨.bool b, rfl, fun w => ?_⟩
    simp only [Sem.run_bind, eqGuard_run hok hx hy, Result.andThen_ok]
    exact (binOp_eq hb hx hy (fun k a k' b' ⟨e1, e2⟩ => hn1 _ _ _ _ e1 e2) (fun a b' ⟨e1, e2⟩ => hn2 _ _ e1 e2) w).1
   ·cases h
  ·cases h
 case h_6 hn1 hn2 =>
  split at h
  ·rename_i hok
   split at h
   ·rename_i b hb
    simp at h; subst h
    refine ⟨.bool !b, rfl, fun w => ?_⟩
    simp only [Sem.run_bind, eqGuard_run hok hx hy, Result.andThen_ok]
    exact (binOp_eq hb hx hy (fun k a k' b' ⟨e1, e2⟩ => hn1 _ _ _ _ e1 e2) (fun a b' ⟨e1, e2⟩ => hn2 _ _ e1 e2) w).2
   ·cases h
  ·cases h
 case h_7 => cases h
theorem un_sound {op : UnOp} {x v : AV} {x' : Value} (h : unO op x = some v) (hx : VR μ x x') : ∃ v', VR μ v v' ∧ ∀ w, (Op.unary op x').run P w = .ok v' w := by
 unfold unO at h
 split at h
 ·simp at h; subst h; rw [int_inv hx]; exact ⟨_, rfl, fun w => by simp [Op.unary, Op.intArith]⟩
 ·simp at h; subst h; rw [int_inv hx]; exact ⟨_, rfl, fun w => by simp [Op.unary, Op.intBits]⟩
 ·simp at h; subst h; rw [bool_inv hx]; exact ⟨_, rfl, fun w => by simp [Op.unary]⟩
 ·cases h
end
end Go.AM
/-
  Places and parts: addresses of fields and elements, slices, structs that are built.
-/
namespace Go.AM
open Go Go.RowKit
section
variable {μ : Mp} {P : Program} {w : World}
theorem add_addr (blk off n : Nat) : (⟨blk, off, none⟩ : Addr).add n = ⟨blk, off + n, none⟩ := by
 unfold Addr.add
 split <;> simp_all
theorem AR.add {a : AA} {c : Addr} (h : AR μ a c) (n : Nat) : AR μ (addOff a n) (c.add n) := by
 obtain ⟨blk, k, hm, rfl⟩ := h
 exact ⟨blk, k, hm, add_addr _ _ _⟩
theorem nat_sound {i : AV} {n : Nat} {i' : Value} (h : natO i = some n) (hi : VR μ i i') : ∃ k, i' = .int k (n : Int) := by
 unfold natO at h
 split at h
 ·rename_i k m
  split at h
  ·rename_i hm
   have hm : 0 ≤ m := by simpa using hm
   simp at h
   rw [int_inv hi, ← h]
   exact ⟨k, by rw [Int.toNat_of_nonneg hm]⟩
  ·cases h
 ·cases h
theorem fieldAddr_sound {t : TypeId} {x v : AV} {f : Nat} {x' : Value} (h : fieldAddrO P t x f = some v) (hx : VR μ x x') : ∃ v', VR μ v v' ∧ ∀ w, (Instr.fieldAt t x' f).run P w = .ok v' w := by
 unfold fieldAddrO at h
 split at h
 ·rename_i fs a hu
  split at h
  ·rename_i fd hf
   split at h
   ·rename_i n hs
    simp at h; subst h
    obtain ⟨c, hc, rfl⟩ := hx
    exact ⟨_, ⟨_, hc.add _, rfl⟩, fun w => by simp [Instr.fieldAt, run_underlying hu, hf, Instr.sureAddr, fieldPlace, size_run hs]⟩
   ·cases h
  ·cases h
 ·cases h
theorem field_sound {t : TypeId} {x v : AV} {f : Nat} {x' : Value} (h : fieldO P t x f = some v) (hx : VR μ x x') : ∃ v', VR μ v v' ∧ ∀ w, (Instr.field t x' f).run P w = .ok v' w := by
 unfold fieldO at h
 split at h
 ·rename_i fs cs hu
  split at h
  ·rename_i fd hf
   obtain ⟨vs, hv, rfl⟩ := hx
   obtain ⟨v', h1, h2⟩ := part_sound h hv
   exact ⟨v', h1.vr, fun w => by simp [Instr.field, run_underlying hu, hf, asAgg, h2]⟩
  ·cases h
 ·cases h
theorem indexAddr_sound {t : TypeId} {x i v : AV} {x' i' : Value} (h : indexAddrO P t x i = some v) (hx : VR μ x x') (hi : VR μ i i') : ∃ v', VR μ v v' ∧ ∀ w, (Instr.indexAt t x' i').run P w = .ok v' w := by
 unfold indexAddrO at h
 split at h
 ·cases h
 ·rename_i n hn
  obtain ⟨k, rfl⟩ := nat_sound hn hi
  split at h
  ·rename_i len e a hu
   split at h
   ·rename_i esz hs hl
    simp at h; subst h
    obtain ⟨c, hc, rfl⟩ := hx
    have hl : n < len := by simpa using Nat.blt_eq.mp hl
    refine ⟨_, ⟨_, hc.add _, rfl⟩, fun w => ?_⟩
    simp [Instr.indexAt, asIntOf, run_underlying hu, Instr.sureAddr, size_run hs]
    intro hle; omega
   ·cases h
  ·rename_i e a len esz hu
   split at h
   ·rename_i z hs hl
    split at h
    ·rename_i hz
     have hz := Nat.eq_of_beq_eq_true hz
     subst hz
     simp at h; subst h
     obtain ⟨blk, m, cap, hm, rfl, _⟩ := hx
     have hl : n < len := by simpa using Nat.blt_eq.mp hl
     refine ⟨.pointer (some ((⟨blk, a.off, none⟩ : Addr).add (n * z))), ⟨_, AR.add ⟨blk, m, hm, rfl⟩ _, rfl⟩, fun w => ?_⟩
     simp [Instr.indexAt, asIntOf, run_underlying hu, size_run hs]
     intro hle; omega
    ·cases h
   ·cases h
  ·cases h
theorem byte_get {l : List UInt8} {n : Nat} {b : UInt8} (hb : l[n]? = some b) : (⟨l.toArray⟩ : ByteArray)[n]? = some b := by
 obtain ⟨hlt, he⟩ := List.getElem?_eq_some_iff.1 hb
 have hlt' : n < (⟨l.toArray⟩ : ByteArray).size := by simpa [ByteArray.size] using hlt
 rw [getElem?_pos (⟨l.toArray⟩ : ByteArray) n hlt', ← he]
 rfl
theorem index_sound {t : TypeId} {x i v : AV} {x' i' : Value} (h : indexO P t x i = some v) (hx : VR μ x x') (hi : VR μ i i') : ∃ v', VR μ v v' ∧ ∀ w, (Instr.index t x' i').run P w = .ok v' w := by
 unfold indexO at h
 split at h
 ·cases h
 ·rename_i n hn
  obtain ⟨k, rfl⟩ := nat_sound hn hi
  split at h
  ·rename_i len e cs hu
   split at h
   ·rename_i esz hs hl
    obtain ⟨vs, hv, rfl⟩ := hx
    have hl : n < len := by simpa using Nat.blt_eq.mp hl
    obtain ⟨v', h1, h2⟩ := part_sound h hv
    exact ⟨v', h1.vr, fun w => by
     simp [Instr.index, asIntOf, run_underlying hu, size_run hs, h2]
     intro hle; omega⟩
   ·cases h
  ·rename_i l hu
   split at h
   ·rename_i b hb
    simp at h; subst h
    rw [str_inv hx]
    refine ⟨_, rfl, fun w => ?_⟩
    have h3 : (0 : Int) ≤ (n : Int) := by omega
    have h4 : (⟨l.toArray⟩ : ByteArray)[n]? = some b := byte_get hb
    simp [Instr.index, asIntOf, run_underlying hu, h4]
   ·cases h
  ·cases h
def OR (μ : Mp) : Option AV → Option Value → Prop
 | none, none => True
 | some v, some v' => VR μ v v'
 | _, _ => False
theorem bnd_sound {x : Option AV} {d n : Nat} {x' : Option Value} (h : bnd x d = some n) (hx : OR μ x x') :
  (x' = none ∧ n = d) ∨ ∃ k, x' = some (.int k (n : Int)) := by
 cases x with
 | none => cases x' with
  | none => simp [bnd] at h; exact .inl ⟨rfl, h.symm⟩
  | some _ => exact hx.elim
 | some v => cases x' with
  | none => exact hx.elim
  | some v' =>
   obtain ⟨k, rfl⟩ := nat_sound (show natO v = some n from h) hx
   exact .inr ⟨k, rfl⟩
theorem bounds_run {sl : Bool} {len cap h k : Nat} {lo hi : Option Value} (hh : (hi = none ∧ h = len) ∨ ∃ q, hi = some (.int q (h : Int))) (hk : (lo = none ∧ k = 0) ∨ ∃ q, lo = some (.int q (k : Int)))
  (h1 : k ≤ h) (h2 : h ≤ cap) : ∀ w, (Instr.sliceBounds sl len cap lo hi none).run P w = .ok (k, h, cap) w := by
 intro w
 rcases hh with ⟨rfl, rfl⟩ | ⟨q, rfl⟩ <;> rcases hk with ⟨rfl, rfl⟩ | ⟨q', rfl⟩ <;> simp [Instr.sliceBounds, Instr.sliceBound, asIntOf, h1, h2] <;> (intro hlt; omega)
theorem mkSlice_vr {a : AA} {blk m cap n k h esz : Nat} (hm : μ a.b a.g = some (blk, m)) (hc : a.off + cap * esz ≤ m) (h1 : k ≤ h) (h2 : h ≤ cap) (hn : n = h - k) :
  VR μ (mkSlice a k n esz) (.slice (if cap = k then some ⟨blk, a.off, none⟩ else some ((⟨blk, a.off, none⟩ : Addr).add (k * esz))) n (cap - k)) := by
 unfold mkSlice
 split
 ·by_cases hck : cap = k
  ·rw [if_pos hck]; exact ⟨_, _, rfl⟩
  ·rw [if_neg hck]; exact ⟨_, _, rfl⟩
 ·rename_i n'
  rw [if_neg (by omega), add_addr]
  refine ⟨blk, m, cap - k, hm, rfl, by omega, ?_⟩
  have : k * esz + (cap - k) * esz = cap * esz := by rw [← Nat.add_mul]; congr 1; omega
  show a.off + k * esz + (cap - k) * esz ≤ m
  omega
theorem slice_sound {t : TypeId} {x v : AV} {lo hi : Option AV} {x' : Value} {lo' hi' : Option Value} (h : sliceO P t x lo hi = some v) (hx : VR μ x x')
  (hlo : OR μ lo lo') (hhi : OR μ hi hi') :
  ∃ v', VR μ v v' ∧ ∀ w, (Instr.sliceAt t x' lo' hi' none).run P w = .ok v' w := by
 unfold sliceO at h
 split at h
 ·rename_i l hu
  split at h
  ·rename_i n hn
   split at h
   ·rename_i k hk
    split at h
    ·rename_i hc
     simp only [Bool.and_eq_true, ble_iff] at hc
     simp at h; subst h
     rw [str_inv hx]
     have hb := bounds_run (P := P) (sl := false) (len := l.length) (cap := l.length) (bnd_sound hn hhi) (bnd_sound hk hlo) hc.1 hc.2
     have hsz : (⟨l.toArray⟩ : ByteArray).size = l.length := by simp [ByteArray.size]
     refine ⟨.string ⟨((l.drop k).take (n - k)).toArray⟩, rfl, fun w => ?_⟩
     have hex : (⟨l.toArray⟩ : ByteArray).extract k n = ⟨((l.drop k).take (n - k)).toArray⟩ := by
      apply ByteArray.ext
      simp [ByteArray.data_extract]
     simp [Instr.sliceAt, Instr.slice, run_underlying hu, hsz, hb, hex]
    ·cases h
   ·cases h
  ·cases h
 ·rename_i e hu
  split at h
  ·cases h
  ·rename_i z hs
   split at h
   ·rename_i a n esz
    split at h
    ·rename_i hh kk hn hk
     split at h
     ·rename_i hc
      simp only [Bool.and_eq_true, ble_iff] at hc
      obtain ⟨hz, h1, h2⟩ := hc
      have hz := Nat.eq_of_beq_eq_true hz
      subst hz
      simp at h; subst h
      obtain ⟨blk, m, cap, hm, rfl, hle, hcap⟩ := hx
      have hb := bounds_run (P := P) (sl := true) (len := n) (cap := cap) (bnd_sound hn hhi) (bnd_sound hk hlo) h1 (by omega)
      refine ⟨_, mkSlice_vr hm hcap h1 (by omega) rfl, fun w => ?_⟩
      simp only [Instr.sliceAt, Instr.slice, Sem.run_bind, run_underlying hu, Result.andThen_ok, hb, size_run hs, Sem.run_pure]
      congr 2
     ·cases h
    ·cases h
   ·split at h
    ·rename_i hn hk
     simp at h; subst h
     have hx : x' = _ := hx
     subst hx
     have hb := bounds_run (P := P) (sl := true) (len := 0) (cap := 0) (bnd_sound hn hhi) (bnd_sound hk hlo) (Nat.le_refl _) (Nat.le_refl _)
     exact ⟨_, rfl, fun w => by simp [Instr.sliceAt, Instr.slice, run_underlying hu, hb, size_run hs]⟩
    ·cases h
   ·split at h
    ·rename_i hn hk
     simp at h; subst h
     obtain ⟨a, cap, rfl⟩ := hx
     have hb := bounds_run (P := P) (sl := true) (len := 0) (cap := cap) (bnd_sound hn hhi) (bnd_sound hk hlo) (Nat.le_refl _) (Nat.zero_le _)
     refine ⟨.slice (some (if cap = 0 then a else a.add (0 * z))) 0 (cap - 0), ⟨_, _, rfl⟩, fun w => ?_⟩
     simp only [Instr.sliceAt, Instr.slice, Sem.run_bind, run_underlying hu, Result.andThen_ok, hb, size_run hs, Sem.run_pure]
     congr 2
     split <;> rfl
    ·cases h
   ·cases h
 ·cases h
end
end Go.AM
/-
  Structs and arrays that are built; loads, stores and new memory.
-/
namespace Go.AM
open Go Go.RowKit
section
variable {base : Nat} {μ : Mp} {P : Program} {w : World} {s s' : St}
theorem foldl_spl (off : Nat) : ∀ (vs : List Value) (k : Nat) (cs : Array Value), off + k + vs.length ≤ cs.size →
  ((vs.zipIdx k).foldl (fun cs p => cs.setIfInBounds (off + p.2) p.1) cs).toList = spl cs.toList (off + k) vs
 | [], k, cs, _ => by simp [spl_nil]
 | v :: r, k, cs, h => by
  simp only [List.zipIdx_cons, List.foldl_cons]
  rw [foldl_spl off r (k + 1) _ (by simp at h ⊢; omega), spl_cons _ _ _ _ (by simp at h ⊢; omega)]
  simp [Nat.add_assoc]
theorem fill_step (off : Nat) (vs cs : List Value) (h : off + vs.length ≤ cs.length) :
  vs.toArray.zipIdx.foldl (fun cs (p : Value × Nat) => cs.setIfInBounds (off + p.2) p.1) cs.toArray = (spl cs off vs).toArray := by
 apply Array.ext'
 rw [← Array.foldl_toList]
 have := foldl_spl off vs 0 cs.toArray (by simpa using h)
 simpa using this
def PR (μ : Mp) : List (Nat × AV) → List (Nat × Value) → Prop := LR fun p q => p.1 = q.1 ∧ VR μ p.2 q.2
theorem fill_sound {place : Nat → Option (Nat × Nat)} : ∀ {parts : List (Nat × AV)} {cells r : List AV} {cs : List Value} {parts' : List (Nat × Value)}, fillO place cells parts = some r → LR (CR μ) cells cs → PR μ parts parts' →
  ∃ rs, Instr.fill place cs.toArray parts' = some rs.toArray ∧ LR (CR μ) r rs
 | [], cells, r, cs, parts', h, hc, hp => by
  have := hp.nil_left
  subst this
  simp [fillO] at h
  subst h
  exact ⟨cs, rfl, hc⟩
 | (i, v) :: rest, cells, r, cs, parts', h, hc, hp => by
  obtain ⟨⟨i', v'⟩, parts2, rfl, ⟨hi, hv⟩, hp2⟩ := hp.cons_left
  have hi : i = i' := hi
  subst hi
  simp only [fillO] at h
  split at h
  ·rename_i off size vs hpl hcl
   split at h
   ·rename_i hcond
    simp only [Bool.and_eq_true, ble_iff] at hcond
    have hsz := Nat.eq_of_beq_eq_true hcond.1
    obtain ⟨us, hus, hcv⟩ := cells_sound hcl hv
    have hlu := hus.length
    have hlc := hc.length
    obtain ⟨rs, h1, h2⟩ := fill_sound h (hc.spl off hus) hp2
    refine ⟨rs, ?_, h2⟩
    simp only [Instr.fill, hpl, hcv]
    have hn : (decide (us.toArray.size ≠ size) || decide (off + us.toArray.size > cs.toArray.size)) = false := by simp; omega
    rw [if_neg (by simpa using hn)]
    rw [fill_step off us cs (by omega)]
    exact h1
   ·cases h
  ·cases h
theorem mapM_places : ∀ (fs : List Field) (ps : List (Nat × Nat)), mapO (fun f => (sizeT P f.type).map fun n => (f.offset, n)) fs = some ps →
  ∀ w, (fs.mapM (fun f => do pure (f.offset, ← sizeOf f.type)) : Sem (List (Nat × Nat))).run P w = .ok ps w
 | [], ps, h, w => by simp [mapO] at h; subst h; simp
 | f :: fs, ps, h, w => by
  simp only [mapO] at h
  cases h1 : sizeT P f.type with
  | none => simp [h1] at h
  | some n =>
   simp only [h1, Option.map_some] at h
   cases h2 : mapO (fun f => (sizeT P f.type).map fun n => (f.offset, n)) fs with
   | none => simp [h2] at h
   | some qs =>
    simp [h2] at h
    subst h
    have ih := mapM_places fs qs h2
    rw [List.mapM_cons]
    simp only [Sem.run_bind, size_run h1, Result.andThen_ok, Sem.run_pure, ih]
theorem build_sound {t : TypeId} {parts : List (Nat × AV)} {v : AV} {parts' : List (Nat × Value)} (h : buildO P t parts = some v) (hp : PR μ parts parts') :
  ∃ v', VR μ v v' ∧ ∀ w, (Instr.build t parts'.toArray).run P w = .ok v' w := by
 unfold buildO at h
 split at h
 ·rename_i zero hz
  obtain ⟨i, z, hi, hiz, hv⟩ := zero_sound (μ := μ) hz
  obtain ⟨zs, hzs, rfl⟩ := hv
  have hzv : ∀ w, (zeroValue t).run P w = .ok (.agg zs.toArray) w := fun w => by simp [zeroValue, typeInfo, hi, hiz]
  split at h
  ·rename_i fields hu
   split at h
   ·rename_i places hpl
    split at h
    ·rename_i cs hf
     simp at h; subst h
     obtain ⟨rs, h1, h2⟩ := fill_sound hf hzs hp
     refine ⟨.agg rs.toArray, ⟨rs, h2, rfl⟩, fun w => ?_⟩
     have hm := mapM_places _ _ hpl
     simp only [Instr.build, Sem.run_bind, hzv, Result.andThen_ok, run_underlying hu, Array.mapM_eq_mapM_toList, Sem.run_map, hm]
     simp [Value.cells, h1]
    ·cases h
   ·cases h
  ·rename_i n e hu
   split at h
   ·rename_i size hs
    split at h
    ·rename_i cs hf
     simp at h; subst h
     obtain ⟨rs, h1, h2⟩ := fill_sound hf hzs hp
     refine ⟨.agg rs.toArray, ⟨rs, h2, rfl⟩, fun w => ?_⟩
     simp [Instr.build, hzv, run_underlying hu, size_run hs, Value.cells, h1]
    ·cases h
   ·cases h
  ·cases h
 ·cases h
/-! memory -/
theorem load_sound (hr : Rel base μ s.hp w) {t : TypeId} {a : AA} {v : AV} (h : loadT P s t a = some v) {c : Addr} (hc : AR μ a c) : ∃ v', V1 μ v v' ∧ (loadVar t c).run P w = .ok v' w := by
 unfold loadT at h
 split at h
 ·rename_i n h1 h2
  split at h
  ·rename_i l hl
   simp at h; subst h
   obtain ⟨vs, hv, hn, hcell⟩ := read_cells hr hl hc
   have hlen := hv.length
   have hrun := run_loadCells_list (P := P) w c vs hcell
   rw [show vs.length = n by omega] at hrun
   exact ⟨.agg vs.toArray, ⟨vs, hv, rfl⟩, by simp [loadVar, agg_run h1, size_run h2, hrun]⟩
  ·cases h
 ·rename_i h1
  split at h
  ·rename_i v0 hl
   simp at h; subst h
   obtain ⟨vs, hv, hn, hcell⟩ := read_cells hr hl hc
   obtain ⟨u, us, rfl, hu, hus⟩ := hv.cons_left
   have h0 := hcell 0 u (by simp)
   have ha : c.add 0 = c := by simp [Addr.add]
   rw [ha] at h0
   exact ⟨u, hu.v1, by simp [loadVar, agg_run h1, h0]⟩
  ·cases h
 ·cases h
theorem store_sound (hi : Inv base μ s w) {t : TypeId} {a : AA} {v : AV} (h : storeT P s t a v = some s') {c : Addr} (hc : AR μ a c) {v' : Value} (hv : VR μ v v') :
  ∃ w', (storeVar t c v').run P w = .ok () w' ∧ Stp base μ μ s s' w w' ∧ s'.gl = s.gl ∧ s'.gl = s.gl := by
 unfold storeT at h
 split at h
 ·rename_i l n hl hs
  split at h
  ·rename_i hn
   have hn := Nat.eq_of_beq_eq_true hn
   obtain ⟨vs, hvs, hcv⟩ := cells_sound hl hv
   have hlen := hvs.length
   obtain ⟨w', h1, h2⟩ := write_cells (P := P) hi h hc hvs
   refine ⟨w', ?_, h2⟩
   have hz : vs.length = n := by omega
   simp [storeVar, hcv, size_run hs, hz, h1]
  ·cases h
 ·cases h
theorem new_sound (hi : Inv base μ s w) (elem : TypeId) (cells : List AV) (vs : List Value) (hv : LR (CR μ) cells vs) :
  VR (μ.put s.nx 0 (w.heap.size, vs.length)) (.ptr (newRow s elem cells).1) (.pointer (some ⟨w.heap.size, 0, none⟩)) ∧
  Stp base μ (μ.put s.nx 0 (w.heap.size, vs.length)) s (newRow s elem cells).2 w (w.alloc (.cells vs.toArray elem)) := by
 have hl := hv.length
 have h := Stp.alloc hi elem cells false vs.toArray (0, 0) (by simp; omega) (by rw [List.take_of_length_le (by simp; omega)]; exact hv) (by simp) (by simp)
 refine ⟨⟨⟨w.heap.size, 0, none⟩, ⟨w.heap.size, vs.length, Mp.put_same _ _ _ _, rfl⟩, rfl⟩, ?_⟩
 simpa using h
end
end Go.AM
