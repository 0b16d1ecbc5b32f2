/-
  TopTransferred: a range over a map beside other blocks; the pieces of a split string; store.Parse's closure.
-/
import Derived.Test.YtnaglmigkbbljaaGreatDoorStB
import Derived.Lib.SplitLaws
import Derived.Lib.Join
set_option maxHeartbeats 6400000
set_option maxRecDepth 1000000
namespace Go.Proofs.YtnaglmigkbbljaaGreatDoor
open Go Go.RowKit
structure OnlyB (r : Nat) (W W' : World) : Prop where
 os : W'.os = W.os
 tape : W'.tape = W.tape
 output : W'.output = W.output
 size : W'.heap.size = W.heap.size
 block : ∀ k, k ≠ r → W'.heap[k]? = W.heap[k]?
theorem OnlyB.below {r B : Nat} {W W' : World} (h : OnlyB r W W') (hB : B ≤ r) : Below B W W' :=
 ⟨h.os, h.tape, h.output, by rw [h.size]; exact Nat.le_refl _, fun i hi => h.block i (by omega)⟩
theorem run_next_at (W : World) (r bm since c0 : Nat) (seen : Array Nat) (es : Array MapEntry) (clock : Nat) (hr : W.heap[r]? = some (.mapIter (some bm) since seen c0)) (hb : W.heap[bm]? = some (.map es clock)) (hold : ∀ x ∈ es.toList, x.born < since) (hsc : since ≤ c0) :
  ((leftOf es seen).size = 0 ∧ ∀ ty, (Instr.next (.pointer (some ⟨r, 0, none⟩)) false ty).run Tryz.prog W = .ok (.tuple #[.bool false]) W) ∨
  ∃ e ∈ (leftOf es seen).toList, ∃ W2 : World, OnlyB r W W2 ∧ W2.heap[r]? = some (.mapIter (some bm) since (seen.push e.born) clock) ∧ ∀ ty, (Instr.next (.pointer (some ⟨r, 0, none⟩)) false ty).run Tryz.prog W = .ok (.tuple #[.bool true, e.key, e.val]) W2 := by
 have hlt : r < W.heap.size := (Array.getElem?_eq_some_iff.mp hr).1
 simp only [Instr.next, getObj, Sem.run_bind, Sem.run, hr, hb, Result.andThen, next_test_false seen es since c0 hold hsc, Bool.false_eq_true, if_false]
 unfold leftOf
 have hmem : ∀ x ∈ (Array.filter (fun e => !seen.contains e.born) es).toList, x.born < since := fun x hx => hold x (by simp at hx ⊢; exact hx.1)
 generalize Array.filter (fun e => !seen.contains e.born) es = L at hmem ⊢
 have e1 : L.filter (fun x => decide (x.born < since)) = L := Array.filter_eq_self.2 (fun x hx => by simpa using hmem x (by simpa using hx))
 have e2 : L.filter (fun x => decide (x.born ≥ since)) = #[] := by
  rw [Array.filter_eq_empty_iff]
  intro x hx
  have := hmem x (by simpa using hx)
  simp
  omega
 simp only [e1, e2, Array.append_empty]
 by_cases h0 : L.size = 0
 ·left
  have : L = #[] := Array.eq_empty_of_size_eq_zero h0
  subst this
  refine ⟨rfl, ?_⟩
  simp [choose, Sem.run, Question.forced]
 ·right
  have hne : L.isEmpty = false := by simp [Array.isEmpty, h0]
  simp only [hne, Bool.false_eq_true, if_false, Array.empty_append, Array.size_map]
  have hch : ∃ (j : Nat) (w1 : World), j < L.size ∧ (w1.heap = W.heap ∧ w1.os = W.os ∧ w1.tape = W.tape ∧ w1.output = W.output) ∧ (choose (Question.mapNext L.size)).run Tryz.prog W = .ok j w1 := by
   by_cases hf : L.size ≤ 1
   ·exact ⟨0, W, by omega, ⟨rfl, rfl, rfl, rfl⟩, by simp [choose, Sem.run, Question.forced, hf]⟩
   ·exact ⟨_, W.drew, Nat.mod_lt _ (by omega), ⟨rfl, rfl, rfl, rfl⟩, by
     simp only [choose, Sem.run, Question.forced, decide_eq_true_eq, hf, if_false, Question.cut]
     rfl⟩
  obtain ⟨j, w1, hj, ⟨q1, q2, q3, q4⟩, hrun⟩ := hch
  have hset : (setObj r (.mapIter (some bm) since (seen.push L[j].born) clock)).run Tryz.prog w1 = .ok () { w1 with heap := w1.heap.setIfInBounds r (.mapIter (some bm) since (seen.push L[j].born) clock) } := by
   simp only [setObj, Sem.run]
   rw [q1, hr]
  refine ⟨L[j], by simp, { w1 with heap := w1.heap.setIfInBounds r (.mapIter (some bm) since (seen.push L[j].born) clock) }, ⟨q2, q3, q4, by simp [q1], fun k hk => ?_⟩, ?_, ?_⟩
  ·show (w1.heap.setIfInBounds r _)[k]? = _
   rw [Array.getElem?_setIfInBounds_ne (by omega), q1]
  ·show (w1.heap.setIfInBounds r _)[r]? = _
   rw [q1, Array.getElem?_setIfInBounds_self_of_lt hlt]
  ·intro _
   simp only [hrun, Array.getElem?_map, Array.getElem?_eq_getElem hj, Option.map_some, Sem.run_bind, hset, Result.andThen]
   rfl
theorem run_entry_at (W : World) (r bm since : Nat) (seen : Array Nat) (es : Array MapEntry) (clock : Nat) (e : MapEntry) (hr : W.heap[r]? = some (.mapIter (some bm) since (seen.push e.born) clock)) (hb : W.heap[bm]? = some (.map es clock)) (he : e ∈ es.toList) (hn : (es.toList.map (·.born)).Nodup) :
  (Instr.entry (.pointer (some ⟨r, 0, none⟩))).run Tryz.prog W = .ok (.tuple #[e.key, e.val]) W := by
 have hf : es.find? (·.born == e.born) = some e := by rw [← Array.find?_toList]; exact find_born e es.toList hn he
 simp only [Instr.entry, getObj, Sem.run_bind, Sem.run, hr, hb, Result.andThen, Array.back?_push, bne_self_eq_false, Bool.false_eq_true, if_false, hf]
 rfl
theorem forms_all (e : MapEntry) (he : e ∈ formES.toList) : ∃ k : Int, ∃ nm x y z, e.key = .int .i64 k ∧ e.val = formV nm x y z := by
 simp only [formES, List.mem_cons, List.not_mem_nil, or_false] at he
 rcases he with rfl | rfl | rfl | rfl | rfl | rfl <;> exact ⟨_, _, _, _, _, rfl, rfl⟩
theorem forms_nodup : (formES.toList.map (·.born)).Nodup := by decide
theorem forms_old : ∀ x ∈ formES.toList, x.born < 6 := by decide
theorem splitB_sz (sep : ByteArray) : ∀ (k : Nat) (s : ByteArray), SzL s.size (Lib.splitB sep 0 k s)
 | 0, s => fun x hx => by
  rw [Lib.splitB_zero] at hx
  simp only [List.mem_cons, List.not_mem_nil, or_false] at hx
  rw [hx]; exact Nat.le_refl _
 | k + 1, s => fun x hx => by
  unfold Lib.splitB at hx
  split at hx
  ·simp only [List.mem_cons, List.not_mem_nil, or_false] at hx
   rw [hx]; exact Nat.le_refl _
  ·rcases List.mem_cons.mp hx with rfl | hx
   ·rw [ByteArray.size_extract]; omega
   ·have := splitB_sz sep k _ x hx
    rw [ByteArray.size_extract] at this
    omega
def spS : ByteArray := ⟨#[32]⟩
def words (s : ByteArray) : List ByteArray := Lib.splitB spS 0 (Lib.countB s spS) s
theorem words_len (s : ByteArray) : (words s).length = Lib.countB s spS + 1 := Lib.splitB_all spS (by decide) 0 _ s rfl
theorem words_count (s : ByteArray) : Lib.countB s spS ≤ s.size := Lib.countB_le spS (by decide) s.size s (Nat.le_refl _)
def SplitRet (s : ByteArray) (w : World) (e : Ending) (w' : World) : Prop :=
 e = .returned (.slice (some ⟨w.heap.size, 0, none⟩) (words s).length (words s).length) ∧ Blk w' w.heap.size 9 (strV (words s)) ∧ Below w.heap.size w w'
theorem split_ex (s : ByteArray) (w : World) (hs : s.size ≤ 1048576) (hG : GL w) : Calls Tryz.prog 75 #[.string s, .string spS] w (SplitRet s w) := by
 obtain ⟨m, hm⟩ := hG.ml
 refine (Tryz.strings_Split s spS m w (by omega) hm (by decide)).mono ?_
 rintro e w' ⟨rfl, rfl⟩
 refine ⟨by rw [words_len], heap_alloc_new w _, (Below.refl _ w).alloc (Nat.le_refl _) _⟩
def VarS (W : World) (b : Nat) (l : List ByteArray) : Prop := ∃ p c, l.length ≤ c ∧ Blk W b 35 [.slice p l.length c] ∧ StrL W p l ∧ p.map (·.block) ≠ some b
theorem VarS.below {W W' : World} {b : Nat} {l : List ByteArray} (h : VarS W b l) (hb : Below W.heap.size W W') : VarS W' b l := by
 obtain ⟨p, c, h1, h2, h3, h4⟩ := h
 exact ⟨p, c, h1, h2.below hb, h3.below hb, h4⟩
def TakeRet (b : Nat) (l : List ByteArray) (w : World) (e : Ending) (w' : World) : Prop :=
 ∃ s l', e = .returned (.string s) ∧ (s = ⟨#[]⟩ ∨ s ∈ l) ∧ (∀ y ∈ l', y ∈ l) ∧ l'.length ≤ l.length ∧ VarS w' b l' ∧ OnlyB b w w'
theorem only_set {W : World} {b : Nat} (v : Value) : OnlyB b W (W.setCell ⟨b, 0, none⟩ v) := ⟨rfl, rfl, rfl, by simp [World.setCell], fun k hk => Below.heap_setCell W ⟨b, 0, none⟩ v k hk⟩
theorem only_refl {W : World} {b : Nat} : OnlyB b W W := ⟨rfl, rfl, rfl, rfl, fun _ _ => rfl⟩
theorem strl_set {W : World} {b k : Nat} {o : Nat} {v : Value} {l : List ByteArray} (h : StrL W (some ⟨k, o, none⟩) l) (hne : k ≠ b) : StrL (W.setCell ⟨b, 0, none⟩ v) (some ⟨k, o, none⟩) l := by
 rcases h with h | ⟨k', o', h1, h2, h3⟩
 ·exact .inl h
 ·injection h1 with h1
  injection h1 with h1 h4
  subst h1; subst h4
  refine .inr ⟨k, o, rfl, by simpa [World.setCell] using h2, fun i hi => ?_⟩
  have e : (W.setCell ⟨b, 0, none⟩ v).heap[k]? = W.heap[k]? := Below.heap_setCell _ _ _ _ hne
  have := h3 i hi
  simp only [World.cell?, e] at this ⊢
  exact this
theorem take_strl {W : World} {b k c : Nat} {o : Nat} {v : Value} {l : List ByteArray} (h : StrL W (if c = 1 then some ⟨k, o, none⟩ else some ⟨k, o + 1, none⟩) l) (hne : k ≠ b) (hc : ¬ c = 1) : StrL (W.setCell ⟨b, 0, none⟩ v) (some ⟨k, o + 1, none⟩) l := by
 rw [if_neg hc] at h
 exact strl_set h hne
theorem take_strl1 {W : World} {b k : Nat} {o : Nat} {v : Value} {l : List ByteArray} (h : StrL W (if 1 = 1 then some ⟨k, o, none⟩ else some ⟨k, o + 1, none⟩) l) (hne : k ≠ b) : StrL (W.setCell ⟨b, 0, none⟩ v) (some ⟨k, o, none⟩) l := by
 rw [if_pos rfl] at h
 exact strl_set h hne
theorem take_ex (x : Bool) (b : Nat) (l : List ByteArray) (w : World) (hl : l.length ≤ 2000000) (h : VarS w b l) : Calls Tryz.prog 77 #[.bool x, .pointer (some ⟨b, 0, none⟩)] w (TakeRet b l w) := by
 have HV := Lib.hid h
 obtain ⟨p, c, hc, hB, hS, hp⟩ := h
 have HP := Lib.hid hp
 have c0 := hB.cell (j := 0) (Nat.lt_succ_self 0)
 simp only [List.getElem_cons_zero] at c0
 have f0 := hB.frozen 0
 have HB := Lib.hid hB
 have HS := Lib.hid hS
 clear hB hS hp
 cases x with
 | false =>
  go_enter Tryz.func77, Tryz.ntmps77
  go_wp2_with fail
  go_ret
  exact ⟨_, l, rfl, .inl rfl, fun y hy => hy, Nat.le_refl _, HV.out, only_refl⟩
 | true =>
  cases l with
  | nil =>
   go_enter Tryz.func77, Tryz.ntmps77
   go_wp2_with fail
   go_ret
   exact ⟨_, [], rfl, .inl rfl, fun y hy => hy, Nat.le_refl _, HV.out, only_refl⟩
  | cons y t =>
   obtain ⟨bk, off, rfl, hbk, hcs⟩ := HS.out.at (j := 0) (by simp)
   have h0 := hcs 0 (by simp)
   simp only [List.getElem_cons_zero, Nat.add_zero] at h0
   have hne : bk ≠ b := fun e => HP.out (by rw [e]; rfl)
   have hT := HS.out.tail' (c := c) (by simpa using hc)
   have HT := Lib.hid hT
   clear hT hcs HV HP
   obtain ⟨n, hn⟩ : ∃ n, n = (y :: t).length := ⟨_, rfl⟩
   have hn1 : n - 1 = t.length := by simp at hn; omega
   have hn0 : 1 ≤ n := by simp at hn; omega
   rw [← hn] at hc hl c0 HB
   have HN1 := Lib.hid hn1
   clear hn hn1
   by_cases hc1 : c = 1
   ·subst hc1
    go_enter Tryz.func77, Tryz.ntmps77
    go_wp2_with fail
    go_ret
    refine ⟨y, t, rfl, .inr (List.mem_cons_self ..), fun z hz => List.mem_cons_of_mem _ hz, Nat.le_succ _, ?_, only_set _⟩
    refine ⟨some ⟨bk, off, none⟩, 0, by have := HN1.out; omega, ?_, take_strl1 HT.out hne, fun e => hne (by injection e)⟩
    have e0 : t.length = 0 := by have := HN1.out; omega
    rw [e0]
    exact HB.out.set 0 _
   ·go_enter Tryz.func77, Tryz.ntmps77
    go_wp2_with fail
    go_ret
    refine ⟨y, t, rfl, .inr (List.mem_cons_self ..), fun z hz => List.mem_cons_of_mem _ hz, Nat.le_succ _, ?_, only_set _⟩
    refine ⟨some ⟨bk, off + 1, none⟩, c - 1, by have := HN1.out; omega, ?_, take_strl HT.out hne hc1, fun e => hne (by injection e)⟩
    rw [← HN1.out]
    exact HB.out.set 0 _
end Go.Proofs.YtnaglmigkbbljaaGreatDoor
/-
  TopTransferred: store.Format answers something.
-/
namespace Go.Proofs.YtnaglmigkbbljaaGreatDoor
open Go Go.RowKit
def SomeS (w : World) (e : Ending) (w' : World) : Prop := ∃ s, e = .returned (.string s) ∧ Below w.heap.size w w'
theorem join_bound : ∀ (xs : List (List UInt8)) (sep : List UInt8) (k : Nat), (∀ x ∈ xs, x.length ≤ k) → sep.length ≤ k → (Lib.join xs sep).length ≤ xs.length * (2 * k)
 | [], sep, k, _, _ => by simp [Lib.join_nil]
 | x :: r, sep, k, h, h2 => by
  rw [Lib.join_cons, List.length_append, Lib.joinTail_length]
  have hx := h x (List.mem_cons_self ..)
  have hl : ∀ (r : List (List UInt8)), (∀ y ∈ r, y.length ≤ k) → Lib.lens r ≤ r.length * k := by
   intro r
   induction r with
   | nil => intro _; simp [Lib.lens]
   | cons y t ih =>
    intro hr
    have h1 := hr y (List.mem_cons_self ..)
    have h3 := ih fun z hz => hr z (List.mem_cons_of_mem _ hz)
    simp only [Lib.lens, List.map_cons, List.sum_cons, List.length_cons] at h3 ⊢
    rw [Nat.succ_mul]
    omega
  have h4 := hl r fun y hy => h y (List.mem_cons_of_mem _ hy)
  have h5 : sep.length * r.length ≤ k * r.length := Nat.mul_le_mul_right _ h2
  have h6 : (x :: r).length * (2 * k) = 2 * (r.length * k) + 2 * k := by
   rw [List.length_cons, Nat.succ_mul, Nat.mul_left_comm]
  rw [Nat.mul_comm k] at h5
  omega
theorem join_any (p : Option Addr) (n c : Nat) (xs : List ByteArray) (w : World) (hn : xs.length = n) (hn2 : n ≤ 100) (hc : n ≤ c) (hz : SzL 1048576 xs) (h : StrL w p xs) : Calls Tryz.prog 133 #[.slice p n c, .string spS] w (SomeS w) := by
 subst hn
 by_cases h0 : xs.length = 0
 ·rw [h0]
  refine (Tryz.strings_Join_none p c spS w).mono ?_
  rintro e w' ⟨rfl, rfl⟩
  exact ⟨_, rfl, Below.refl _ _⟩
 ·obtain ⟨b, off, rfl, hb, hcs⟩ := h.at (j := 0) (by omega)
  have hlen : (Lib.join (xs.map (·.data.toList)) spS.data.toList).length ≤ 140737488355328 := by
   have := join_bound (xs.map (·.data.toList)) spS.data.toList 1048576 (fun x hx => by
    obtain ⟨y, hy, rfl⟩ := List.mem_map.mp hx
    have := hz y hy
    simpa using this) (by decide)
   rw [List.length_map] at this
   omega
  refine (Tryz.strings_Join b off c xs spS w (fun j x hx => by
   obtain ⟨hj, rfl⟩ := List.getElem?_eq_some_iff.mp hx
   exact hcs j hj) hb (by omega) hc hlen).mono ?_
  rintro e w' ⟨rfl, hb'⟩
  exact ⟨_, rfl, hb'⟩
structure FV (w : World) (B : Nat) (xs : List ByteArray) (v : Value) (acc : List ByteArray) (W : World) : Prop where
 own : W.ownsRow w.heap.size 9 1 v acc.length (strV acc)
 blk : Blk W B 9 (strV xs)
 ne : v.ownBlock ≠ some B
 sz : SzL 1048576 acc
 bl : Below w.heap.size w W
 hB : w.heap.size ≤ B
theorem FV.app {w : World} {B : Nat} {xs : List ByteArray} {v : Value} {acc : List ByteArray} {W W' : World} {x : ByteArray} {g cap : Nat} (h : FV w B xs v acc W) (hx : x.size ≤ 1048576)
  (hown : W'.ownsRow w.heap.size 9 1 (.slice (some ⟨g, 0, none⟩) (acc.length + 1) cap) (acc.length + 1) (strV (acc ++ [x]))) (hgr : W.grownBy W' v.ownBlock) (hat : v.ownBlock = some g ∨ g = W.heap.size + 1) :
  FV w B xs (.slice (some ⟨g, 0, none⟩) (acc.length + 1) cap) (acc ++ [x]) W' := by
 have hBl := h.blk.lt
 refine ⟨by rw [List.length_append]; exact hown, (hgr.block B hBl (fun e => h.ne e.symm)).trans h.blk, ?_, ?_, h.bl.grown hgr h.bl.size (fun k hk => (h.own.lt k hk).1), h.hB⟩
 ·rcases hat with e | e
  ·intro e2
   simp [Value.ownBlock] at e2
   exact h.ne (by rw [e, e2])
  ·intro e2
   simp [Value.ownBlock] at e2
   omega
 ·intro s hs
  rcases List.mem_append.mp hs with hs | hs
  ·exact h.sz s hs
  ·simp only [List.mem_cons, List.not_mem_nil, or_false] at hs
   rw [hs]; exact hx
def FmtRet (w : World) (e : Ending) (w' : World) : Prop := ∃ s er, e = .returned (.tuple #[.string s, .int .i64 er]) ∧ Below w.heap.size w w'
theorem kN_sz (k : Int) : (kN k).size ≤ 1048576 := by
 unfold kN
 repeat' split
 all_goals decide
theorem format_any (k : Int) (a b c : ByteArray) (w : World) (ha : a.size ≤ 1048576) (hb : b.size ≤ 1048576) (hc : c.size ≤ 1048576) : Calls Tryz.prog 78 #[opV k a b c] w (FmtRet w) := by
 have HF := Lib.hid (fun W => formOf_ex k a b c W ha hb hc)
 unfold FormOf formV at HF
 have HNS := Lib.hid (kN_sz k)
 unfold opV at HF ⊢
 generalize kOK k a b c = ok at HF
 generalize kN k = nm at HF HNS
 generalize kX k = x1 at HF
 generalize kY k = x2 at HF
 generalize kZ k = x3 at HF
 have HJ := Lib.hid (fun p n cc xs W => join_any p n cc xs W)
 go_enter Tryz.func78, Tryz.ntmps78
 go_upto_region 1 with fail
 have HB0 := Lib.hid (heap_alloc_new w (.cells #[.int .i64 k, .string a, .string b, .string c] 89))
 have HW0 := Lib.hid ((Below.refl _ w).alloc (Nat.le_refl _) (.cells #[.int .i64 k, .string a, .string b, .string c] 89))
 generalize w.alloc (.cells #[.int .i64 k, .string a, .string b, .string c] 89) = W0 at HB0 HW0 ⊢
 have a0 := cellOf (v := .int .i64 k) HB0.out (j := 0) rfl; have a1 := cellOf (v := .string a) HB0.out (j := 1) rfl; have a2 := cellOf (v := .string b) HB0.out (j := 2) rfl; have a3 := cellOf (v := .string c) HB0.out (j := 3) rfl
 go_upto_region 2 with (go_at_call 79; refine (HF.out _).mono ?_; rintro e w1 ⟨rfl, hb1⟩; have HW1 := Lib.hid (HW0.out.trans (hb1.mono HW0.out.size)); have HB1 := Lib.hid ((hb1.block _ (Array.getElem?_eq_some_iff.mp HB0.out).1).trans HB0.out); clear hb1)
 have HB2 := Lib.hid (heap_alloc_new w1 (.cells #[.string nm, .bool x1, .bool x2, .bool x3] 157))
 have HB3 := Lib.hid ((heap_alloc_old w1 (.cells #[.string nm, .bool x1, .bool x2, .bool x3] 157) (Array.getElem?_eq_some_iff.mp HB1.out).1).trans HB1.out)
 have HW2 := Lib.hid (HW1.out.alloc HW1.out.size (.cells #[.string nm, .bool x1, .bool x2, .bool x3] 157))
 generalize w1.alloc (.cells #[.string nm, .bool x1, .bool x2, .bool x3] 157) = W2 at HB2 HB3 HW2 ⊢
 have b0 := cellOf (v := .string nm) HB2.out (j := 0) rfl
 have c1 := cellOf (v := .string a) HB3.out (j := 1) rfl; have c2 := cellOf (v := .string b) HB3.out (j := 2) rfl; have c3 := cellOf (v := .string c) HB3.out (j := 3) rfl
 have hlt2 := (Array.getElem?_eq_some_iff.mp HB3.out).1
 cases ok with
 | false =>
  go_wp2_with fail
  go_ret2
  exact ⟨_, _, rfl, HW2.out⟩
 | true =>
  go_upto_block 0 with fail
  have HV0 := Lib.hid (show FV w (W2.heap.size + 1) [a, b, c] (.slice (some ⟨W2.heap.size, 0, none⟩) 1 1) [nm] ((W2.alloc (.cells #[.string nm] 9)).alloc (.cells #[.string a, .string b, .string c] 9)) from
   ⟨World.ownsRow.alloc (Blk.own (xs := strV [nm]) (heap_alloc_new W2 _) rfl (show 1 ≤ maxLen by unfold maxLen; decide) HW2.out.size) _, by have := heap_alloc_new (W2.alloc (.cells #[.string nm] 9)) (.cells #[.string a, .string b, .string c] 9); rwa [World.size_alloc] at this,
    fun e => by simp [Value.ownBlock] at e, fun s hs => by simp at hs; rw [hs]; exact HNS.out,
    (HW2.out.alloc HW2.out.size _).alloc (by have := HW2.out.size; simp; omega) _, by have := HW2.out.size; omega⟩)
  generalize (W2.alloc (.cells #[.string nm] 9)).alloc (.cells #[.string a, .string b, .string c] 9) = W3 at HV0 ⊢
  generalize W2.heap.size + 1 = B at HV0 ⊢
  generalize hv : (Value.slice (some ⟨W2.heap.size, 0, none⟩) 1 1) = v0 at HV0 ⊢
  go_wp2_with fail
  go_loopw [6, 27] (fun v i wr => ∃ (q : Nat) (acc : List ByteArray), q ≤ 3 ∧ i = .int .i64 q ∧ acc.length ≤ q + 1 ∧ FV w B [a, b, c] v acc wr) (fun _ i _ => 3 - (intOf i).toNat)
  case atStart => exact ⟨0, [nm], by omega, rfl, by simp, HV0.out⟩
  case round =>
   obtain ⟨q, acc, hq, rfl, hal, hV⟩ := hrel
   have HV := Lib.hid hV
   clear hV
   obtain ⟨p1, cap1, rfl, hcap1, hsl⟩ := strs_slice HV.out.own
   have HSL := Lib.hid hsl
   clear hsl
   by_cases hq3 : q < 3
   ·obtain ⟨x, hx, hxs⟩ : ∃ x : ByteArray, wr.cell? ⟨B, q, none⟩ = some (.string x) ∧ x.size ≤ 1048576 := by
     have h0 : q = 0 ∨ q = 1 ∨ q = 2 := by omega
     rcases h0 with rfl | rfl | rfl
     ·exact ⟨a, HV.out.blk.cell (j := 0) (show 0 < 3 by decide), ha⟩
     ·exact ⟨b, HV.out.blk.cell (j := 1) (show 1 < 3 by decide), hb⟩
     ·exact ⟨c, HV.out.blk.cell (j := 2) (show 2 < 3 by decide), hc⟩
    have e0 : (0 : Int) ≤ (q : Int) := by omega
    have e1 : (q : Int) < 3 := by omega
    by_cases h0 : 0 < x.size
    ·have hse := empty_no h0
     go_upto_region 10 with (at_builtin; refine appS (w := wr) rfl _ _ rfl rfl HV.out.own rfl rfl (by omega) HV.out.bl.size ?_; intro g cap w5 hown5 hgr5 hat5)
     have HV5 := Lib.hid (HV.out.app hxs hown5 hgr5 hat5)
     clear hown5 hgr5 hat5
     go_wp2_with fail
     go_roundw
     case rel => exact ⟨q + 1, acc ++ [x], by omega, by go_num, by rw [List.length_append]; show _ + 1 ≤ _; omega, HV5.out⟩
     case measure => simp [intOf]; omega
    ·have hr0 := size0 (r := x) (by omega)
     subst hr0
     go_wp2_with fail
     go_roundw
     case rel => exact ⟨q + 1, acc, by omega, by go_num, by omega, HV.out⟩
     case measure => simp [intOf]; omega
   ·have e1 : ¬ ((q : Int) < 3) := by omega
    go_wp2_with (go_at_call 133; refine (HJ.out p1 acc.length cap1 acc _ rfl (by omega) hcap1 HV.out.sz HSL.out).mono ?_; rintro e w6 ⟨s6, rfl, hb6⟩)
    go_ret2
    exact ⟨_, _, rfl, HV.out.bl.trans (hb6.mono HV.out.bl.size)⟩
end Go.Proofs.YtnaglmigkbbljaaGreatDoor
/-
  TopTransferred: store.Parse answers some operation.
-/
namespace Go.Proofs.YtnaglmigkbbljaaGreatDoor
open Go Go.RowKit
structure PL (w : World) (Bw bm bi : Nat) (ws : List ByteArray) (seen : Array Nat) (W : World) : Prop where
 wb : Blk W Bw 9 (strV ws)
 mb : W.heap[bm]? = some (.map formES 6)
 ib : W.heap[bi]? = some (.mapIter (some bm) 6 seen 6)
 rb : Blk W w.heap.size 89 [.int .i64 0, .string ⟨#[]⟩, .string ⟨#[]⟩, .string ⟨#[]⟩]
 bl : Below w.heap.size w W
 h1 : w.heap.size < Bw
 h2 : Bw < bm
 h3 : bm < bi
section
variable {w : World} {Bw bm bi : Nat} {ws : List ByteArray} {seen : Array Nat} {W W' : World}
theorem PL.lt (h : PL w Bw bm bi ws seen W) : bi < W.heap.size := (Array.getElem?_eq_some_iff.mp h.ib).1
theorem PL.below (h : PL w Bw bm bi ws seen W) (hb : Below W.heap.size W W') : PL w Bw bm bi ws seen W' := by
 have h0 := h.lt
 have h1 := h.h1; have h2 := h.h2; have h3 := h.h3
 exact ⟨h.wb.below hb, (hb.block _ (by omega)).trans h.mb, (hb.block _ h0).trans h.ib, h.rb.below hb, h.bl.trans (hb.mono h.bl.size), h1, h2, h3⟩
theorem PL.step (h : PL w Bw bm bi ws seen W) {seen' : Array Nat} (ho : OnlyB bi W W') (hi : W'.heap[bi]? = some (.mapIter (some bm) 6 seen' 6)) : PL w Bw bm bi ws seen' W' := by
 have h1 := h.h1; have h2 := h.h2; have h3 := h.h3
 refine ⟨?_, (ho.block _ (by omega)).trans h.mb, hi, ?_, h.bl.trans (ho.below (by omega)), h1, h2, h3⟩
 ·exact (ho.block _ (by omega)).trans h.wb
 ·exact (ho.block _ (by omega)).trans h.rb
end
def ParseRet (w : World) (e : Ending) (w' : World) : Prop :=
 ∃ k a b c er, e = .returned (.tuple #[opV k a b c, .int .i64 er]) ∧ a.size ≤ 1048576 ∧ b.size ≤ 1048576 ∧ c.size ≤ 1048576 ∧ Below w.heap.size w w'
theorem iterSeen_eq {W : World} {r a b c : Nat} {s : Array Nat} (h : W.heap[r]? = some (.mapIter (some a) b s c)) : W.iterSeen r = s := by
 unfold World.iterSeen
 rw [h]
theorem Tryz.info89 : (Tryz.prog.info? 89).map (·.size) = some 4 := by kernel_rfl
structure RL (w : World) (Bw bm bi : Nat) (ws : List ByteArray) (seen : Array Nat) (b6 b7 b8 : Nat) (nm : ByteArray) (x1 x2 x3 : Bool) (k : Int) (a b c : ByteArray) (l : List ByteArray) (W : World) : Prop where
 pl : PL w Bw bm bi ws seen W
 fb : Blk W b6 157 [.string nm, .bool x1, .bool x2, .bool x3]
 ob : Blk W b7 89 [.int .i64 k, .string a, .string b, .string c]
 vb : VarS W b8 l
 sz : SzL 1048576 l
 len : l.length ≤ 1048577
 h6 : bi < b6
 h7 : b6 < b7
 h8 : b6 < b8
 h78 : b7 ≠ b8
section
variable {w : World} {Bw bm bi b6 b7 b8 : Nat} {ws : List ByteArray} {seen : Array Nat} {nm : ByteArray} {x1 x2 x3 : Bool} {k : Int} {a b c : ByteArray} {l : List ByteArray} {W W' : World}
theorem rl_mk {q : Option Addr} {m : Nat} {V : World} (hP : PL w Bw bm bi ws seen W) (hF : W.heap[b6]? = some (.cells #[.string nm, .bool x1, .bool x2, .bool x3] 157 (0, 0))) (hS : StrL W q l) (hm : m = l.length) (hq : q.map (·.block) = some Bw) (hz : SzL 1048576 l) (hl : l.length ≤ 1048577) (h6 : bi < b6)
  (hV : Below W.heap.size W V) (ho : Blk V b7 89 [.int .i64 k, .string a, .string b, .string c]) (hv : Blk V b8 35 [.slice q m m]) (h7 : W.heap.size ≤ b7) (h8 : W.heap.size ≤ b8) (h78 : b7 ≠ b8) : RL w Bw bm bi ws seen b6 b7 b8 nm x1 x2 x3 k a b c l V := by
 have hlt := (Array.getElem?_eq_some_iff.mp hF).1
 have hw := hP.wb.lt
 subst hm
 exact ⟨hP.below hV, (show Blk W b6 157 _ from hF).below hV, ho, ⟨q, l.length, Nat.le_refl _, hv, hS.below hV, by rw [hq]; intro e; injection e; omega⟩, hz, hl, h6, by omega, by omega, h78⟩
theorem RL.step (h : RL w Bw bm bi ws seen b6 b7 b8 nm x1 x2 x3 k a b c l W) {l' : List ByteArray} (ho : OnlyB b8 W W') (hv : VarS W' b8 l') (hs : ∀ y ∈ l', y ∈ l) (hl : l'.length ≤ 1048577) : RL w Bw bm bi ws seen b6 b7 b8 nm x1 x2 x3 k a b c l' W' := by
 have h6 := h.h6; have h7 := h.h7; have h8 := h.h8; have h78 := h.h78
 have h1 := h.pl.h1; have h2 := h.pl.h2; have h3 := h.pl.h3
 refine ⟨⟨(ho.block _ (by omega)).trans h.pl.wb, (ho.block _ (by omega)).trans h.pl.mb, (ho.block _ (by omega)).trans h.pl.ib, (ho.block _ (by omega)).trans h.pl.rb, h.pl.bl.trans (ho.below (by omega)), h1, h2, h3⟩, (ho.block _ (by omega)).trans h.fb, (ho.block _ (by omega)).trans h.ob, hv, fun y hy => h.sz y (hs y hy), hl, h6, h7, h8, h78⟩
theorem RL.cells (h : RL w Bw bm bi ws seen b6 b7 b8 nm x1 x2 x3 k a b c l W) : W.cell? ⟨b6, 1, none⟩ = some (.bool x1) ∧ W.cell? ⟨b6, 2, none⟩ = some (.bool x2) ∧ W.cell? ⟨b6, 3, none⟩ = some (.bool x3) :=
 ⟨h.fb.cell (j := 1) (show 1 < 4 by decide), h.fb.cell (j := 2) (show 2 < 4 by decide), h.fb.cell (j := 3) (show 3 < 4 by decide)⟩
theorem cells_set {v : Value} {j : Nat} (hne : b6 ≠ b7) (h : W.cell? ⟨b6, 1, none⟩ = some (.bool x1) ∧ W.cell? ⟨b6, 2, none⟩ = some (.bool x2) ∧ W.cell? ⟨b6, 3, none⟩ = some (.bool x3)) :
  (W.setCell ⟨b7, j, none⟩ v).cell? ⟨b6, 1, none⟩ = some (.bool x1) ∧ (W.setCell ⟨b7, j, none⟩ v).cell? ⟨b6, 2, none⟩ = some (.bool x2) ∧ (W.setCell ⟨b7, j, none⟩ v).cell? ⟨b6, 3, none⟩ = some (.bool x3) := by
 have e : ∀ o, (W.setCell ⟨b7, j, none⟩ v).cell? ⟨b6, o, none⟩ = W.cell? ⟨b6, o, none⟩ := fun o => by
  have e : (W.setCell ⟨b7, j, none⟩ v).heap[b6]? = W.heap[b6]? := Below.heap_setCell _ _ _ _ hne
  simp only [World.cell?, e]
 rw [e, e, e]
 exact h
structure RO (w : World) (Bw bm bi : Nat) (ws : List ByteArray) (seen : Array Nat) (b7 : Nat) (k : Int) (a b c : ByteArray) (W : World) : Prop where
 pl : PL w Bw bm bi ws seen W
 ob : Blk W b7 89 [.int .i64 k, .string a, .string b, .string c]
 h7 : bi < b7
theorem RO.setc (h : RO w Bw bm bi ws seen b7 k a b c W) {v : Value} {j : Nat} {a' b' c' : ByteArray} (hv : [Value.int .i64 k, .string a, .string b, .string c].set j v = [.int .i64 k, .string a', .string b', .string c']) : RO w Bw bm bi ws seen b7 k a' b' c' (W.setCell ⟨b7, j, none⟩ v) := by
 have h7 := h.h7
 have h1 := h.pl.h1; have h2 := h.pl.h2; have h3 := h.pl.h3
 have e : ∀ B, B ≠ b7 → (W.setCell ⟨b7, j, none⟩ v).heap[B]? = W.heap[B]? := fun B hB => Below.heap_setCell _ _ _ _ hB
 exact ⟨⟨(e _ (by omega)).trans h.pl.wb, (e _ (by omega)).trans h.pl.mb, (e _ (by omega)).trans h.pl.ib, (e _ (by omega)).trans h.pl.rb, below_set h.pl.bl (by show _ ≤ b7; omega) v, h1, h2, h3⟩, by rw [← hv]; exact h.ob.set j v, h7⟩
theorem RO.below (h : RO w Bw bm bi ws seen b7 k a b c W) (hb : Below W.heap.size W W') : RO w Bw bm bi ws seen b7 k a b c W' := ⟨h.pl.below hb, h.ob.below hb, h.h7⟩
theorem RL.below (h : RL w Bw bm bi ws seen b6 b7 b8 nm x1 x2 x3 k a b c l W) (hb : Below W.heap.size W W') : RL w Bw bm bi ws seen b6 b7 b8 nm x1 x2 x3 k a b c l W' :=
 ⟨h.pl.below hb, h.fb.below hb, h.ob.below hb, h.vb.below hb, h.sz, h.len, h.h6, h.h7, h.h8, h.h78⟩
end
theorem parse_any (s : ByteArray) (w : World) (hs : s.size ≤ 1048576) (hG : GL w) : Calls Tryz.prog 30 #[.string s] w (ParseRet w) := by
  have HSP := Lib.hid (fun W (hb : Below w.heap.size w W) => split_ex s W hs (hG.below hb))
  have HZ := Lib.hid (splitB_sz spS (Lib.countB s spS) s)
  have hwl : 1 ≤ (words s).length := by rw [words_len]; omega
  have hwl2 : (words s).length ≤ 1048577 := by have := words_count s; rw [words_len]; omega
  unfold SplitRet at HSP
  clear hG
  obtain ⟨ws, hws⟩ : ∃ ws, ws = words s := ⟨_, rfl⟩
  have HZ := Lib.hid (show SzL 1048576 ws by rw [hws]; intro x hx; exact Nat.le_trans (HZ.out x hx) hs)
  rw [← hws] at HSP hwl hwl2
  clear hws
  obtain ⟨n, hn⟩ : ∃ n, n = ws.length := ⟨_, rfl⟩
  rw [← hn] at HSP hwl hwl2
  have HN := Lib.hid hn
  clear hn
  go_enter Tryz.func30, Tryz.ntmps30
  go_upto_region 1 with fail
  have HR0 := Lib.hid (heap_alloc_new w (.cells #[.int .i64 0, .string ⟨#[]⟩, .string ⟨#[]⟩, .string ⟨#[]⟩] 89))
  have HW0 := Lib.hid ((Below.refl _ w).alloc (Nat.le_refl _) (.cells #[.int .i64 0, .string ⟨#[]⟩, .string ⟨#[]⟩, .string ⟨#[]⟩] 89))
  have hsz : (w.alloc (.cells #[.int .i64 0, .string ⟨#[]⟩, .string ⟨#[]⟩, .string ⟨#[]⟩] 89)).heap.size = w.heap.size + 1 := by simp
  generalize w.alloc (.cells #[.int .i64 0, .string ⟨#[]⟩, .string ⟨#[]⟩, .string ⟨#[]⟩] 89) = W0 at HR0 HW0 hsz ⊢
  go_upto_region 2 with (go_at_call 75; refine (HSP.out _ HW0.out).mono ?_; rintro e w1 ⟨rfl, hB1, hb1⟩; have HB1 := Lib.hid hB1; have HW1 := Lib.hid (HW0.out.trans (hb1.mono HW0.out.size)); have HR1 := Lib.hid ((hb1.block _ (Array.getElem?_eq_some_iff.mp HR0.out).1).trans HR0.out); clear hB1 hb1)
  have hrg := run_range_map (P := Tryz.prog) (w1.alloc (.map formES 6)) 154 3 157 w1.heap.size formES 6 und154 (heap_alloc_new w1 _)
  simp only [World.size_alloc] at hrg
  go_upto_block 0 with (go_at_call 76; refine (forms_ex _).mono ?_; rintro e w2 ⟨rfl, hw2⟩; obtain rfl := hw2.symm)
  have HP0 := Lib.hid (show PL w W0.heap.size w1.heap.size (w1.heap.size + 1) ws #[] ((w1.alloc (.map formES 6)).alloc (.mapIter (some w1.heap.size) 6 #[] 6)) by
    have k1 := (Below.refl w1.heap.size w1).alloc (Nat.le_refl _) (.map formES 6)
    have k2 : Below w1.heap.size w1 ((w1.alloc (.map formES 6)).alloc (.mapIter (some w1.heap.size) 6 #[] 6)) := k1.alloc (by simp) _
    refine ⟨HB1.out.below k2, (heap_alloc_old _ _ (by simp)).trans (heap_alloc_new w1 _), ?_, (show Blk w1 w.heap.size 89 _ from HR1.out).below k2, HW1.out.trans (k2.mono HW1.out.size), by omega, HB1.out.lt, by omega⟩
    have := heap_alloc_new (w1.alloc (.map formES 6)) (.mapIter (some w1.heap.size) 6 #[] 6)
    rwa [World.size_alloc] at this)
  generalize (w1.alloc (.map formES 6)).alloc (.mapIter (some w1.heap.size) 6 #[] 6) = W3 at HP0 ⊢
  generalize w1.heap.size = bm at HP0 ⊢
  generalize bm + 1 = bi at HP0 ⊢
  rw [hsz] at HP0
  generalize w.heap.size + 1 = Bw at HP0 ⊢
  clear hrg hsz HB1 HW1 HR1 HW0 HR0 HSP
  clear W0 w1
  go_wp2_with fail
  go_loopw [16] (fun _ wr => ∃ seen, PL w Bw bm bi ws seen wr) (fun _ wr => (leftOf formES (wr.iterSeen bi)).size)
  case atStart => exact ⟨#[], HP0.out⟩
  case round =>
    obtain ⟨seen, hP⟩ := hrel
    have HP := Lib.hid hP
    clear hP HP0
    rcases run_next_at wr bi bm 6 6 seen formES 6 HP.out.ib HP.out.mb forms_old (Nat.le_refl _) with ⟨hl0, hnx⟩ | ⟨en, hen, W4, ho, hi4, hnx⟩
    · have r0 := HP.out.rb.frozen 0; have r1 := HP.out.rb.frozen 1; have r2 := HP.out.rb.frozen 2; have r3 := HP.out.rb.frozen 3
      have q0 := HP.out.rb.cell (j := 0) (show 0 < 4 by decide); have q1 := HP.out.rb.cell (j := 1) (show 1 < 4 by decide); have q2 := HP.out.rb.cell (j := 2) (show 2 < 4 by decide); have q3 := HP.out.rb.cell (j := 3) (show 3 < 4 by decide)
      go_wp2_with fail
      refine bodyPost_ret (results_row_tmp rfl _ _ w.heap.size 89 _ (0, 0) _ rfl (beg_blk HP.out.rb) Tryz.underlying89 rfl Tryz.info89) rfl ?_
      exact ⟨0, ⟨#[]⟩, ⟨#[]⟩, ⟨#[]⟩, 2, rfl, by decide, by decide, by decide, below_set (below_set (below_set (below_set HP.out.bl (Nat.le_refl _) _) (Nat.le_refl _) _) (Nat.le_refl _) _) (Nat.le_refl _) _⟩
    · have hmem := (mem_left hen).1
      have hent := run_entry_at W4 bi bm 6 seen formES 6 en hi4 ((ho.block _ (by have := HP.out.h3; omega)).trans HP.out.mb) hmem forms_nodup
      obtain ⟨k, nm, x1, x2, x3, hk, hv⟩ := forms_all en hmem
      unfold formV at hv
      rw [hk, hv] at hnx hent
      have HP4 := Lib.hid (HP.out.step ho hi4)
      have HS4 := Lib.hid (left_shrinks formES seen en hen)
      have HI := Lib.hid (iterSeen_eq HP.out.ib)
      generalize hsn : seen.push en.born = seen' at HP4 HS4
      clear hsn hk hv hen hmem ho hi4
      go_upto_region 5 with fail
      have HB4 := Lib.hid (heap_alloc_new W4 (.cells #[.string nm, .bool x1, .bool x2, .bool x3] 157))
      have HP5 := Lib.hid (HP4.out.below ((Below.refl _ W4).alloc (Nat.le_refl _) (.cells #[.string nm, .bool x1, .bool x2, .bool x3] 157)))
      have hBw : Bw < W4.heap.size := HP4.out.wb.lt
      have HB66 : bi < W4.heap.size := HP4.out.lt
      generalize W4.heap.size = b6 at HB4 hBw HB66 ⊢
      generalize W4.alloc (.cells #[.string nm, .bool x1, .bool x2, .bool x3] 157) = W5 at HB4 HP5 ⊢
      clear hnx hent
      have f0 := cellOf (v := .string nm) HB4.out (j := 0) rfl
      obtain ⟨x0, t0, hwse⟩ : ∃ x0 t0, ws = x0 :: t0 := by
        cases ws with
        | nil => have := HN.out; simp at this; omega
        | cons x t => exact ⟨x, t, rfl⟩
      have w0 : W5.cell? ⟨Bw, 0, none⟩ = some (.string x0) := by
        have := HP5.out.wb.cell (j := 0) (by rw [strV_len, ← HN.out]; omega)
        subst hwse
        exact this
      have HT0 := Lib.hid (show SzL 1048576 t0 from fun y hy => HZ.out y (by rw [hwse]; exact List.mem_cons_of_mem _ hy))
      have HSL := Lib.hid (show StrL W5 (some ⟨Bw, 0, none⟩) (x0 :: t0) from (hwse ▸ HP5.out.wb).cl)
      have htl : n = t0.length + 1 := by rw [HN.out, hwse]; rfl
      have HTL := Lib.hid htl
      clear hwse htl
      have n0 : (0 : Int) < (n : Int) := by omega
      by_cases hq : nm = x0
      · have hbq := beq_str hq
        clear hq
        go_quiet (fail)
        have HP6 := Lib.hid (show PL w Bw bm bi ws seen' (W5.drewN nq) from HP5.out.below (below_drewN (Below.refl _ _) nq))
        have HB6 := Lib.hid (show (W5.drewN nq).heap[b6]? = _ from HB4.out)
        have HSL6 := Lib.hid (show StrL (W5.drewN nq) (some ⟨Bw, 0, none⟩) (x0 :: t0) from HSL.out.below (below_drewN (Below.refl _ _) nq))
        generalize W5.drewN nq = W6 at HP6 HB6 HSL6 ⊢
        have n1 : ¬ ((n : Int) < 1) := by omega
        have hTl := HSL6.out.tail' (c := n) (by rw [HTL.out]; exact Nat.le_refl _)
        have HTl := Lib.hid hTl
        have hn1e : n - 1 = t0.length := by have := HTL.out; omega
        have HN1 := Lib.hid hn1e
        clear hTl hn1e f0 w0 hbq
        obtain ⟨q, hq⟩ : ∃ q, q = (if n = 1 then (some ⟨Bw, 0, none⟩ : Option Addr) else some ⟨Bw, 1, none⟩) := ⟨_, rfl⟩
        rw [Nat.zero_add, ← hq] at HTl
        have HQ := Lib.hid (show q.map (·.block) = some Bw by rw [hq]; split <;> rfl)
        go_upto_region 6 with fail
        by_cases hn1 : n = 1
        · subst hn1
          rw [if_pos rfl] at hq
          subst hq
          go_region
          all_goals
            first
              | (obtain ⟨W7, hW7⟩ : ∃ W7, W7 = ((W6.alloc (.cells #[.int .i64 k, .string ⟨#[]⟩, .string ⟨#[]⟩, .string ⟨#[]⟩] 89)).alloc (.cells #[.slice (some ⟨Bw, 0, none⟩) 0 0] 35)).drew := ⟨_, rfl⟩
                 rw [← hW7]
                 have HR := Lib.hid (show RL w Bw bm bi ws seen' b6 W6.heap.size (W6.heap.size + 1) nm x1 x2 x3 k ⟨#[]⟩ ⟨#[]⟩ ⟨#[]⟩ t0 W7 by
                   rw [hW7]
                   exact rl_mk (q := some ⟨Bw, 0, none⟩) (m := 0) HP6.out HB6.out HTl.out HN1.out HQ.out HT0.out (by have := HTL.out; omega) HB66 (below_drewN (((Below.refl _ W6).alloc (Nat.le_refl _) _).alloc (by simp) _) 1) (show Blk ((W6.alloc (.cells #[.int .i64 k, .string ⟨#[]⟩, .string ⟨#[]⟩, .string ⟨#[]⟩] 89)).alloc (.cells #[.slice (some ⟨Bw, 0, none⟩) 0 0] 35)) W6.heap.size 89 _ from (heap_alloc_old _ _ (by simp)).trans (heap_alloc_new W6 _)) (show Blk ((W6.alloc (.cells #[.int .i64 k, .string ⟨#[]⟩, .string ⟨#[]⟩, .string ⟨#[]⟩] 89)).alloc (.cells #[.slice (some ⟨Bw, 0, none⟩) 0 0] 35)) (W6.heap.size + 1) 35 _ from (by have := heap_alloc_new (W6.alloc (.cells #[.int .i64 k, .string ⟨#[]⟩, .string ⟨#[]⟩, .string ⟨#[]⟩] 89)) (.cells #[.slice (some ⟨Bw, 0, none⟩) 0 0] 35); rwa [World.size_alloc] at this)) (by omega) (by omega) (by omega))
                 generalize (W6.heap.size + 1) = b8 at HR ⊢
                 generalize W6.heap.size = b7 at HR ⊢
                 clear hW7)
              | (obtain ⟨W7, hW7⟩ : ∃ W7, W7 = ((W6.alloc (.cells #[.slice (some ⟨Bw, 0, none⟩) 0 0] 35)).alloc (.cells #[.int .i64 k, .string ⟨#[]⟩, .string ⟨#[]⟩, .string ⟨#[]⟩] 89)).drew := ⟨_, rfl⟩
                 rw [← hW7]
                 have HR := Lib.hid (show RL w Bw bm bi ws seen' b6 (W6.heap.size + 1) W6.heap.size nm x1 x2 x3 k ⟨#[]⟩ ⟨#[]⟩ ⟨#[]⟩ t0 W7 by
                   rw [hW7]
                   exact rl_mk (q := some ⟨Bw, 0, none⟩) (m := 0) HP6.out HB6.out HTl.out HN1.out HQ.out HT0.out (by have := HTL.out; omega) HB66 (below_drewN (((Below.refl _ W6).alloc (Nat.le_refl _) _).alloc (by simp) _) 1) (show Blk ((W6.alloc (.cells #[.slice (some ⟨Bw, 0, none⟩) 0 0] 35)).alloc (.cells #[.int .i64 k, .string ⟨#[]⟩, .string ⟨#[]⟩, .string ⟨#[]⟩] 89)) (W6.heap.size + 1) 89 _ from (by have := heap_alloc_new (W6.alloc (.cells #[.slice (some ⟨Bw, 0, none⟩) 0 0] 35)) (.cells #[.int .i64 k, .string ⟨#[]⟩, .string ⟨#[]⟩, .string ⟨#[]⟩] 89); rwa [World.size_alloc] at this)) (show Blk ((W6.alloc (.cells #[.slice (some ⟨Bw, 0, none⟩) 0 0] 35)).alloc (.cells #[.int .i64 k, .string ⟨#[]⟩, .string ⟨#[]⟩, .string ⟨#[]⟩] 89)) W6.heap.size 35 _ from (heap_alloc_old _ _ (by simp)).trans (heap_alloc_new W6 _)) (by omega) (by omega) (by omega))
                 generalize (W6.heap.size + 1) = b7 at HR ⊢
                 generalize W6.heap.size = b8 at HR ⊢
                 clear hW7)
            go_upto_region 8 with fail
            have HRd := Lib.hid (HR.out.below (below_drew W7))
            have hSd := HRd.out.cells
            have h67 : b6 ≠ b7 := by have := HR.out.h7; omega
            clear HR
            go_region_held3 (fun W => W.cell? ⟨b6, 1, none⟩ = some (.bool x1) ∧ W.cell? ⟨b6, 2, none⟩ = some (.bool x2) ∧ W.cell? ⟨b6, 3, none⟩ = some (.bool x3))
              (first | exact hSd | exact hS1 | exact hS2 | exact hS3 | exact cells_set h67 hS3 | exact cells_set h67 (cells_set h67 hS3) | exact cells_set h67 (cells_set h67 (cells_set h67 hS3)))
              (first
                | (go_at_call 77; (with_reducible refine (take_ex x1 b8 t0 _ (by have := HRd.out.len; omega) HRd.out.vb).mono ?_); rintro e w8 ⟨s1, l1, rfl, hs1, hl1, hn1, hv1, ho1⟩; have HR1 := Lib.hid (HRd.out.step ho1 hv1 hl1 (Nat.le_trans hn1 HRd.out.len)); have hS1 := HR1.out.cells; clear hv1 ho1 hl1)
                | (go_at_call 77; (with_reducible refine (take_ex x2 b8 l1 _ (by have := HR1.out.len; omega) HR1.out.vb).mono ?_); rintro e w9 ⟨s2, l2, rfl, hs2, hl2, hn2, hv2, ho2⟩; have HR2 := Lib.hid (HR1.out.step ho2 hv2 hl2 (Nat.le_trans hn2 HR1.out.len)); have hS2 := HR2.out.cells; clear hv2 ho2 hl2)
                | (go_at_call 77; (with_reducible refine (take_ex x3 b8 l2 _ (by have := HR2.out.len; omega) HR2.out.vb).mono ?_); rintro e w10 ⟨s3, l3, rfl, hs3, hl3, hn3, hv3, ho3⟩; have HR3 := Lib.hid (HR2.out.step ho3 hv3 hl3 (Nat.le_trans hn3 HR2.out.len)); have hS3 := HR3.out.cells; have z1 := HR3.out.ob.frozen 1; have z2 := HR3.out.ob.frozen 2; have z3 := HR3.out.ob.frozen 3; have y1 : w10.cell? ⟨b7, 1, none⟩ = some (.string ⟨#[]⟩) := HR3.out.ob.cell (j := 1) (show 1 < 4 by decide); have y2 : w10.cell? ⟨b7, 2, none⟩ = some (.string ⟨#[]⟩) := HR3.out.ob.cell (j := 2) (show 2 < 4 by decide); have y3 : w10.cell? ⟨b7, 3, none⟩ = some (.string ⟨#[]⟩) := HR3.out.ob.cell (j := 3) (show 3 < 4 by decide); clear hv3 ho3 hl3))
            all_goals
              have HO := Lib.hid (RO.setc (j := 3) (RO.setc (j := 2) (RO.setc (j := 1) (RO.mk HR3.out.pl HR3.out.ob (Nat.lt_trans HR3.out.h6 HR3.out.h7)) (v := .string s1) rfl) (v := .string s2) rfl) (v := .string s3) rfl)
              have hz1 : s1.size ≤ 1048576 := by
                rcases hs1 with e | e
                · rw [e]; decide
                · exact HRd.out.sz _ e
              have hz2 : s2.size ≤ 1048576 := by
                rcases hs2 with e | e
                · rw [e]; decide
                · exact HR1.out.sz _ e
              have hz3 : s3.size ≤ 1048576 := by
                rcases hs3 with e | e
                · rw [e]; decide
                · exact HR2.out.sz _ e
              have HFm := Lib.hid (fun W => format_any k s1 s2 s3 W hz1 hz2 hz3)
              unfold opV FmtRet at HFm
              clear hS3 hS2 hS1 hSd z1 z2 z3 y1 y2 y3 HR3 HR2 HR1 HRd hs1 hs2 hs3
              generalize (((w10.setCell ⟨b7, 1, none⟩ (.string s1)).setCell ⟨b7, 2, none⟩ (.string s2)).setCell ⟨b7, 3, none⟩ (.string s3)) = W11 at HO ⊢
              have d0 : W11.cell? ⟨b7, 0, none⟩ = some (.int .i64 k) := HO.out.ob.cell (j := 0) (show 0 < 4 by decide)
              have d1 : W11.cell? ⟨b7, 1, none⟩ = some (.string s1) := HO.out.ob.cell (j := 1) (show 1 < 4 by decide)
              have d2 : W11.cell? ⟨b7, 2, none⟩ = some (.string s2) := HO.out.ob.cell (j := 2) (show 2 < 4 by decide)
              have d3 : W11.cell? ⟨b7, 3, none⟩ = some (.string s3) := HO.out.ob.cell (j := 3) (show 3 < 4 by decide)
              go_upto_region 10 with (go_at_call 78; refine (HFm.out _).mono ?_; rintro e w12 ⟨s4, er, rfl, hb12⟩; have HO2 := Lib.hid (HO.out.below (hb12.mono (Nat.le_refl _))); clear hb12)
              clear d0 d1 d2 d3
              have d0 : w12.cell? ⟨b7, 0, none⟩ = some (.int .i64 k) := HO2.out.ob.cell (j := 0) (show 0 < 4 by decide)
              have d1 : w12.cell? ⟨b7, 1, none⟩ = some (.string s1) := HO2.out.ob.cell (j := 1) (show 1 < 4 by decide)
              have d2 : w12.cell? ⟨b7, 2, none⟩ = some (.string s2) := HO2.out.ob.cell (j := 2) (show 2 < 4 by decide)
              have d3 : w12.cell? ⟨b7, 3, none⟩ = some (.string s3) := HO2.out.ob.cell (j := 3) (show 3 < 4 by decide)
              by_cases he : er = 0
              · subst he
                by_cases hss : s4 = s
                · have hbq := beq_str hss
                  have r0 := HO2.out.pl.rb.frozen 0; have r1 := HO2.out.pl.rb.frozen 1; have r2 := HO2.out.pl.rb.frozen 2; have r3 := HO2.out.pl.rb.frozen 3
                  have q0 := HO2.out.pl.rb.cell (j := 0) (show 0 < 4 by decide); have q1 := HO2.out.pl.rb.cell (j := 1) (show 1 < 4 by decide); have q2 := HO2.out.pl.rb.cell (j := 2) (show 2 < 4 by decide); have q3 := HO2.out.pl.rb.cell (j := 3) (show 3 < 4 by decide)
                  go_wp2_with fail
                  refine bodyPost_ret (results_row_tmp rfl _ _ w.heap.size 89 _ (0, 0) _ rfl (beg_blk HO2.out.pl.rb) Tryz.underlying89 rfl Tryz.info89) rfl ?_
                  exact ⟨k, s1, s2, s3, 0, rfl, hz1, hz2, hz3, below_set (below_set (below_set (below_set HO2.out.pl.bl (Nat.le_refl _) _) (Nat.le_refl _) _) (Nat.le_refl _) _) (Nat.le_refl _) _⟩
                · have hbq := bne_str hss
                  go_wp2_with fail
                  go_roundw
                  case rel => exact ⟨seen', HO2.out.pl⟩
                  case measure =>
                    rw [iterSeen_eq HO2.out.pl.ib, HI.out]
                    exact HS4.out
              · have heq : (er == 0) = false := by simp [he]
                go_wp2_with fail
                go_roundw
                case rel => exact ⟨seen', HO2.out.pl⟩
                case measure =>
                  rw [iterSeen_eq HO2.out.pl.ib, HI.out]
                  exact HS4.out
        · have h1n : (1 : Int) ≤ (n : Int) := by omega
          rw [if_neg hn1] at hq
          subst hq
          go_region
          all_goals
            first
              | (obtain ⟨W7, hW7⟩ : ∃ W7, W7 = ((W6.alloc (.cells #[.int .i64 k, .string ⟨#[]⟩, .string ⟨#[]⟩, .string ⟨#[]⟩] 89)).alloc (.cells #[.slice (some ⟨Bw, 1, none⟩) (n - 1) (n - 1)] 35)).drew := ⟨_, rfl⟩
                 rw [← hW7]
                 have HR := Lib.hid (show RL w Bw bm bi ws seen' b6 W6.heap.size (W6.heap.size + 1) nm x1 x2 x3 k ⟨#[]⟩ ⟨#[]⟩ ⟨#[]⟩ t0 W7 by
                   rw [hW7]
                   exact rl_mk (q := some ⟨Bw, 1, none⟩) (m := n - 1) HP6.out HB6.out HTl.out HN1.out HQ.out HT0.out (by have := HTL.out; omega) HB66 (below_drewN (((Below.refl _ W6).alloc (Nat.le_refl _) _).alloc (by simp) _) 1) (show Blk ((W6.alloc (.cells #[.int .i64 k, .string ⟨#[]⟩, .string ⟨#[]⟩, .string ⟨#[]⟩] 89)).alloc (.cells #[.slice (some ⟨Bw, 1, none⟩) (n - 1) (n - 1)] 35)) W6.heap.size 89 _ from (heap_alloc_old _ _ (by simp)).trans (heap_alloc_new W6 _)) (show Blk ((W6.alloc (.cells #[.int .i64 k, .string ⟨#[]⟩, .string ⟨#[]⟩, .string ⟨#[]⟩] 89)).alloc (.cells #[.slice (some ⟨Bw, 1, none⟩) (n - 1) (n - 1)] 35)) (W6.heap.size + 1) 35 _ from (by have := heap_alloc_new (W6.alloc (.cells #[.int .i64 k, .string ⟨#[]⟩, .string ⟨#[]⟩, .string ⟨#[]⟩] 89)) (.cells #[.slice (some ⟨Bw, 1, none⟩) (n - 1) (n - 1)] 35); rwa [World.size_alloc] at this)) (by omega) (by omega) (by omega))
                 generalize (W6.heap.size + 1) = b8 at HR ⊢
                 generalize W6.heap.size = b7 at HR ⊢
                 clear hW7)
              | (obtain ⟨W7, hW7⟩ : ∃ W7, W7 = ((W6.alloc (.cells #[.slice (some ⟨Bw, 1, none⟩) (n - 1) (n - 1)] 35)).alloc (.cells #[.int .i64 k, .string ⟨#[]⟩, .string ⟨#[]⟩, .string ⟨#[]⟩] 89)).drew := ⟨_, rfl⟩
                 rw [← hW7]
                 have HR := Lib.hid (show RL w Bw bm bi ws seen' b6 (W6.heap.size + 1) W6.heap.size nm x1 x2 x3 k ⟨#[]⟩ ⟨#[]⟩ ⟨#[]⟩ t0 W7 by
                   rw [hW7]
                   exact rl_mk (q := some ⟨Bw, 1, none⟩) (m := n - 1) HP6.out HB6.out HTl.out HN1.out HQ.out HT0.out (by have := HTL.out; omega) HB66 (below_drewN (((Below.refl _ W6).alloc (Nat.le_refl _) _).alloc (by simp) _) 1) (show Blk ((W6.alloc (.cells #[.slice (some ⟨Bw, 1, none⟩) (n - 1) (n - 1)] 35)).alloc (.cells #[.int .i64 k, .string ⟨#[]⟩, .string ⟨#[]⟩, .string ⟨#[]⟩] 89)) (W6.heap.size + 1) 89 _ from (by have := heap_alloc_new (W6.alloc (.cells #[.slice (some ⟨Bw, 1, none⟩) (n - 1) (n - 1)] 35)) (.cells #[.int .i64 k, .string ⟨#[]⟩, .string ⟨#[]⟩, .string ⟨#[]⟩] 89); rwa [World.size_alloc] at this)) (show Blk ((W6.alloc (.cells #[.slice (some ⟨Bw, 1, none⟩) (n - 1) (n - 1)] 35)).alloc (.cells #[.int .i64 k, .string ⟨#[]⟩, .string ⟨#[]⟩, .string ⟨#[]⟩] 89)) W6.heap.size 35 _ from (heap_alloc_old _ _ (by simp)).trans (heap_alloc_new W6 _)) (by omega) (by omega) (by omega))
                 generalize (W6.heap.size + 1) = b7 at HR ⊢
                 generalize W6.heap.size = b8 at HR ⊢
                 clear hW7)
            go_upto_region 8 with fail
            have HRd := Lib.hid (HR.out.below (below_drew W7))
            have hSd := HRd.out.cells
            have h67 : b6 ≠ b7 := by have := HR.out.h7; omega
            clear HR
            go_region_held3 (fun W => W.cell? ⟨b6, 1, none⟩ = some (.bool x1) ∧ W.cell? ⟨b6, 2, none⟩ = some (.bool x2) ∧ W.cell? ⟨b6, 3, none⟩ = some (.bool x3))
              (first | exact hSd | exact hS1 | exact hS2 | exact hS3 | exact cells_set h67 hS3 | exact cells_set h67 (cells_set h67 hS3) | exact cells_set h67 (cells_set h67 (cells_set h67 hS3)))
              (first
                | (go_at_call 77; (with_reducible refine (take_ex x1 b8 t0 _ (by have := HRd.out.len; omega) HRd.out.vb).mono ?_); rintro e w8 ⟨s1, l1, rfl, hs1, hl1, hn1, hv1, ho1⟩; have HR1 := Lib.hid (HRd.out.step ho1 hv1 hl1 (Nat.le_trans hn1 HRd.out.len)); have hS1 := HR1.out.cells; clear hv1 ho1 hl1)
                | (go_at_call 77; (with_reducible refine (take_ex x2 b8 l1 _ (by have := HR1.out.len; omega) HR1.out.vb).mono ?_); rintro e w9 ⟨s2, l2, rfl, hs2, hl2, hn2, hv2, ho2⟩; have HR2 := Lib.hid (HR1.out.step ho2 hv2 hl2 (Nat.le_trans hn2 HR1.out.len)); have hS2 := HR2.out.cells; clear hv2 ho2 hl2)
                | (go_at_call 77; (with_reducible refine (take_ex x3 b8 l2 _ (by have := HR2.out.len; omega) HR2.out.vb).mono ?_); rintro e w10 ⟨s3, l3, rfl, hs3, hl3, hn3, hv3, ho3⟩; have HR3 := Lib.hid (HR2.out.step ho3 hv3 hl3 (Nat.le_trans hn3 HR2.out.len)); have hS3 := HR3.out.cells; have z1 := HR3.out.ob.frozen 1; have z2 := HR3.out.ob.frozen 2; have z3 := HR3.out.ob.frozen 3; have y1 : w10.cell? ⟨b7, 1, none⟩ = some (.string ⟨#[]⟩) := HR3.out.ob.cell (j := 1) (show 1 < 4 by decide); have y2 : w10.cell? ⟨b7, 2, none⟩ = some (.string ⟨#[]⟩) := HR3.out.ob.cell (j := 2) (show 2 < 4 by decide); have y3 : w10.cell? ⟨b7, 3, none⟩ = some (.string ⟨#[]⟩) := HR3.out.ob.cell (j := 3) (show 3 < 4 by decide); clear hv3 ho3 hl3))
            all_goals
              have HO := Lib.hid (RO.setc (j := 3) (RO.setc (j := 2) (RO.setc (j := 1) (RO.mk HR3.out.pl HR3.out.ob (Nat.lt_trans HR3.out.h6 HR3.out.h7)) (v := .string s1) rfl) (v := .string s2) rfl) (v := .string s3) rfl)
              have hz1 : s1.size ≤ 1048576 := by
                rcases hs1 with e | e
                · rw [e]; decide
                · exact HRd.out.sz _ e
              have hz2 : s2.size ≤ 1048576 := by
                rcases hs2 with e | e
                · rw [e]; decide
                · exact HR1.out.sz _ e
              have hz3 : s3.size ≤ 1048576 := by
                rcases hs3 with e | e
                · rw [e]; decide
                · exact HR2.out.sz _ e
              have HFm := Lib.hid (fun W => format_any k s1 s2 s3 W hz1 hz2 hz3)
              unfold opV FmtRet at HFm
              clear hS3 hS2 hS1 hSd z1 z2 z3 y1 y2 y3 HR3 HR2 HR1 HRd hs1 hs2 hs3
              generalize (((w10.setCell ⟨b7, 1, none⟩ (.string s1)).setCell ⟨b7, 2, none⟩ (.string s2)).setCell ⟨b7, 3, none⟩ (.string s3)) = W11 at HO ⊢
              have d0 : W11.cell? ⟨b7, 0, none⟩ = some (.int .i64 k) := HO.out.ob.cell (j := 0) (show 0 < 4 by decide)
              have d1 : W11.cell? ⟨b7, 1, none⟩ = some (.string s1) := HO.out.ob.cell (j := 1) (show 1 < 4 by decide)
              have d2 : W11.cell? ⟨b7, 2, none⟩ = some (.string s2) := HO.out.ob.cell (j := 2) (show 2 < 4 by decide)
              have d3 : W11.cell? ⟨b7, 3, none⟩ = some (.string s3) := HO.out.ob.cell (j := 3) (show 3 < 4 by decide)
              go_upto_region 10 with (go_at_call 78; refine (HFm.out _).mono ?_; rintro e w12 ⟨s4, er, rfl, hb12⟩; have HO2 := Lib.hid (HO.out.below (hb12.mono (Nat.le_refl _))); clear hb12)
              clear d0 d1 d2 d3
              have d0 : w12.cell? ⟨b7, 0, none⟩ = some (.int .i64 k) := HO2.out.ob.cell (j := 0) (show 0 < 4 by decide)
              have d1 : w12.cell? ⟨b7, 1, none⟩ = some (.string s1) := HO2.out.ob.cell (j := 1) (show 1 < 4 by decide)
              have d2 : w12.cell? ⟨b7, 2, none⟩ = some (.string s2) := HO2.out.ob.cell (j := 2) (show 2 < 4 by decide)
              have d3 : w12.cell? ⟨b7, 3, none⟩ = some (.string s3) := HO2.out.ob.cell (j := 3) (show 3 < 4 by decide)
              by_cases he : er = 0
              · subst he
                by_cases hss : s4 = s
                · have hbq := beq_str hss
                  have r0 := HO2.out.pl.rb.frozen 0; have r1 := HO2.out.pl.rb.frozen 1; have r2 := HO2.out.pl.rb.frozen 2; have r3 := HO2.out.pl.rb.frozen 3
                  have q0 := HO2.out.pl.rb.cell (j := 0) (show 0 < 4 by decide); have q1 := HO2.out.pl.rb.cell (j := 1) (show 1 < 4 by decide); have q2 := HO2.out.pl.rb.cell (j := 2) (show 2 < 4 by decide); have q3 := HO2.out.pl.rb.cell (j := 3) (show 3 < 4 by decide)
                  go_wp2_with fail
                  refine bodyPost_ret (results_row_tmp rfl _ _ w.heap.size 89 _ (0, 0) _ rfl (beg_blk HO2.out.pl.rb) Tryz.underlying89 rfl Tryz.info89) rfl ?_
                  exact ⟨k, s1, s2, s3, 0, rfl, hz1, hz2, hz3, below_set (below_set (below_set (below_set HO2.out.pl.bl (Nat.le_refl _) _) (Nat.le_refl _) _) (Nat.le_refl _) _) (Nat.le_refl _) _⟩
                · have hbq := bne_str hss
                  go_wp2_with fail
                  go_roundw
                  case rel => exact ⟨seen', HO2.out.pl⟩
                  case measure =>
                    rw [iterSeen_eq HO2.out.pl.ib, HI.out]
                    exact HS4.out
              · have heq : (er == 0) = false := by simp [he]
                go_wp2_with fail
                go_roundw
                case rel => exact ⟨seen', HO2.out.pl⟩
                case measure =>
                  rw [iterSeen_eq HO2.out.pl.ib, HI.out]
                  exact HS4.out
      · have hbq := bne_str hq
        go_quiet (fail)
        go_wp2_with fail
        go_roundw
        case rel => exact ⟨seen', HP5.out.below (below_drewN (Below.refl _ _) nq)⟩
        case measure =>
          rw [iterSeen_eq (show (W5.drewN nq).heap[bi]? = _ from HP5.out.ib), HI.out]
          exact HS4.out
end Go.Proofs.YtnaglmigkbbljaaGreatDoor
