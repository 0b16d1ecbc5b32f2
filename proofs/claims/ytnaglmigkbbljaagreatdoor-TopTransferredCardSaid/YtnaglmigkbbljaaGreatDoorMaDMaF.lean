/-
  TopTransferred: merkle.ProveRange, merkle.Prove, exactly.
-/
import Derived.Test.YtnaglmigkbbljaaGreatDoorSaAMaC
set_option maxHeartbeats 6400000
set_option maxRecDepth 1000000
namespace Go.Proofs.YtnaglmigkbbljaaGreatDoor
open Go Go.RowKit
def DigL (l : List ByteArray) : Prop := ∀ s ∈ l, ∃ t, s = hexF t
theorem DigL.size {l : List ByteArray} (h : DigL l) : SzL 64 l := fun s hs => by
 obtain ⟨t, rfl⟩ := h s hs
 rw [hexF_size]
 exact Nat.le_refl _
theorem dig_leaf (l : List ByteArray) : DigL (l.map leafH) := fun s hs => by
 obtain ⟨x, _, rfl⟩ := List.mem_map.mp hs
 exact ⟨_, rfl⟩
theorem dig_above {l : List ByteArray} (h : DigL l) : DigL (aboveH l) := by
 intro s hs
 obtain ⟨j, hj, rfl⟩ := List.getElem_of_mem hs
 have hj2 : j < (l.length + 1) / 2 := by rw [← aboveH_len]; exact hj
 by_cases h2 : 2 * j + 1 < l.length
 ·have := (List.getElem?_eq_some_iff.mp (aboveH_two l h2)).2
  rw [this]
  exact ⟨_, rfl⟩
 ·have := (List.getElem?_eq_some_iff.mp (aboveH_one l h2 (by omega))).2
  rw [this]
  exact h _ (List.getElem_mem _)
def proofH (l : List ByteArray) (i k : Nat) : List ByteArray := Mk.proofR nodeH l.length (l.map leafH) i k
def Apart (v : Value) (p : Option Addr) : Prop := ∀ b off s, p = some ⟨b, off, s⟩ → v.ownBlock ≠ some b
theorem apart_nil (p : Option Addr) : Apart (.slice none 0 0) p := fun _ _ _ _ h => by cases h
theorem StrL.cell {W : World} {b off : Nat} {l : List ByteArray} (h : StrL W (some ⟨b, off, none⟩) l) {j : Nat} (hj : j < l.length) : W.cell? ⟨b, off + j, none⟩ = some (.string l[j]) := by
 obtain ⟨b', off', h1, _, h3⟩ := h.at hj
 injection h1 with h1
 injection h1 with h4 h5
 subst h4 h5
 exact h3 j hj
theorem StrL.grown {W W' : World} {p : Option Addr} {l : List ByteArray} {v : Value} (h : StrL W p l) (hg : W.grownBy W' v.ownBlock) (ha : Apart v p) : StrL W' p l := by
 rcases h with h | ⟨b, off, h1, h2, h3⟩
 ·exact .inl h
 ·refine .inr ⟨b, off, h1, Nat.lt_of_lt_of_le h2 hg.size, fun i hi => ?_⟩
  exact (World.cell?_of_block (a := ⟨b, off + i, none⟩) (hg.block b h2 (fun e => ha b off none h1 e.symm))).trans (h3 i hi)
theorem own_size {w : World} {base e sz n : Nat} {v : Value} {xs : List Value} (h : w.ownsRow base e sz v n xs) : ∀ b, v.ownBlock = some b → b < w.heap.size := fun b hb => (h.lt b hb).2
theorem apart_new {w W : World} {base e n n' : Nat} {v : Value} {p : Option Addr} {c : Nat} {xs xs' : List Value} (hv : w.ownsRow base e 1 v n xs) (hp : W.ownsRow w.heap.size e 1 (.slice p n' c) n' xs') : Apart v p := by
 intro b off s hb he
 have h1 := own_size hv b he
 rcases hp.2 with ⟨h0, _⟩ | ⟨g, cap, cur, h2, hg, _⟩
 ·injection h0 with h0 _ _
  rw [h0] at hb
  cases hb
 ·injection h2 with h2 _ _
  rw [h2] at hb
  injection hb with hb
  injection hb with hb
  omega
theorem apart_grown {W : World} {v : Value} {g n c : Nat} {p : Option Addr} {l : List ByteArray} (ha : Apart v p) (hp : StrL W p l) (hl : l ≠ []) (hat : v.ownBlock = some g ∨ g = W.heap.size + 1) : Apart (.slice (some ⟨g, 0, none⟩) n c) p := by
 intro b off s hb he
 have he : g = b := by simpa [Value.ownBlock] using he
 subst he
 rcases hat with h | h
 ·exact ha g off s hb h
 ·rcases hp with h0 | ⟨b', off', h1, h2, _⟩
  ·exact hl (by cases l with | nil => rfl | cons a t => simp [strV] at h0)
  ·rw [h1] at hb
   injection hb with hb
   injection hb with hb
   omega
theorem appS {ops : Array Oper} {rest : List Oper} {o : Oper} {a : Act} {Q : Exit → Act → World → Prop} {w : World} {base : Nat} {v : Value} {acc : List ByteArray} {n : Nat} {x : ByteArray} (hgd : o.guard = none) (s y : Operand)
  (ho : o.op = .call { callee := .builtin .append, args := #[s, y], argTypes := #[35, 35] }) (hs : a.eval s = v) (hown : w.ownsRow base 9 1 v n (strV acc)) (hy : a.eval y = .slice (some ⟨w.heap.size, 0, none⟩) 1 1) (hn : acc.length = n) (hb : n ≤ 4000000) (hbase : base ≤ w.heap.size)
  (h : ∀ g cap w', w'.ownsRow base 9 1 (.slice (some ⟨g, 0, none⟩) (n + 1) cap) (n + 1) (strV (acc ++ [x])) → w.grownBy w' v.ownBlock → (v.ownBlock = some g ∨ g = w.heap.size + 1) → wpList Tryz.prog ops Q rest (a.put o.dst (.slice (some ⟨g, 0, none⟩) (n + 1) cap)) w') :
  wpList Tryz.prog ops Q (o :: rest) a (w.alloc (.cells #[.string x] 9)) := by
 obtain ⟨i0, hi, hz0, hz1, hz2⟩ := info_parts Tryz.info9
 refine wpList_append_lies _ hgd s y 35 ho base 9 i0 (.string ⟨#[]⟩) 1 16 Tryz.underlying35 hi hz0 hz1 hz2 rfl (by decide) v n (strV acc) hs (hown.alloc _) ⟨w.heap.size, 0, none⟩ 1 1 [.string x] hy rfl (one_new _ _ _) (by intro u hu; simp at hu; subst hu; rfl) (by omega) (by unfold maxLen; omega) (by omega) (by simp; omega) (w.heap.size + 1) (by simp) ?_
 intro g cap w' h1 h2 h3 h4
 rw [strV_snoc] at h1
 exact h g cap w' h1 ((World.grownBy_alloc w _ _).trans h2) h3
theorem proofR_step {f : Nat} {l : List ByteArray} {i k : Nat} (h : ¬ l.length ≤ 1) : Mk.proofR nodeH (f + 1) l i k = (if i % 2 = 1 then (l[i - 1]?).toList else []) ++ ((if k % 2 = 1 ∧ k < l.length then (l[k]?).toList else []) ++ Mk.proofR nodeH f (aboveH l) (i / 2) ((k + 1) / 2)) := by
 rw [Mk.proofR, if_neg h]
 rfl
theorem proofR_one (f : Nat) {l : List ByteArray} {i k : Nat} (h : l.length ≤ 1) : Mk.proofR nodeH f l i k = [] := by
 cases f with
 | zero => rfl
 | succ f => rw [Mk.proofR, if_pos h]
def ProofRet (l : List ByteArray) (w : World) (e : Ending) (w' : World) : Prop := ∃ v, e = .returned (.tuple #[v, .int .i64 0]) ∧ w'.ownsRow w.heap.size 9 1 v l.length (strV l) ∧ Below w.heap.size w w'
structure PV (w : World) (P R : List ByteArray) (n : Nat) (v : Value) (p : Option Addr) (acc lv : List ByteArray) (W : World) : Prop where
 all : acc ++ R = P
 len : lv.length = n
 dig : DigL lv
 own : W.ownsRow w.heap.size 9 1 v acc.length (strV acc)
 lvl : StrL W p lv
 apart : Apart v p
 bl : Below w.heap.size w W
theorem below_own {w W W' : World} {base e sz n : Nat} {v : Value} {xs : List Value} (h : Below w.heap.size w W) (ho : W.ownsRow base e sz v n xs) (hb : w.heap.size ≤ base) (hg : W.grownBy W' v.ownBlock) : Below w.heap.size w W' :=
 ⟨hg.os.trans h.os, hg.tape.trans h.tape, hg.output.trans h.output, Nat.le_trans h.size hg.size, fun i hi => (hg.block i (by have := h.size; omega) (fun e => by have := (ho.lt i e.symm).1; omega)).trans (h.block i hi)⟩
theorem PV.app {w W W' : World} {P R : List ByteArray} {n : Nat} {v : Value} {p : Option Addr} {acc lv : List ByteArray} {x : ByteArray} {g c : Nat} (h : PV w P (x :: R) n v p acc lv W) (hl : lv ≠ [])
  (ho : W'.ownsRow w.heap.size 9 1 (.slice (some ⟨g, 0, none⟩) (acc.length + 1) c) (acc.length + 1) (strV (acc ++ [x]))) (hg : W.grownBy W' v.ownBlock) (hat : v.ownBlock = some g ∨ g = W.heap.size + 1) :
  PV w P R n (.slice (some ⟨g, 0, none⟩) (acc.length + 1) c) p (acc ++ [x]) lv W' :=
 ⟨by rw [List.append_assoc]; exact h.all, h.len, h.dig, by rw [List.length_append]; exact ho, h.lvl.grown hg h.apart, apart_grown h.apart h.lvl hl hat, below_own h.bl h.own (Nat.le_refl _) hg⟩
theorem PV.next {w W W' : World} {P R : List ByteArray} {n c' : Nat} {v : Value} {p p' : Option Addr} {acc lv la : List ByteArray} (h : PV w P R n v p acc lv W) (hd : DigL la) (ho : W'.ownsRow W.heap.size 9 1 (.slice p' la.length c') la.length (strV la)) (hb : Below W.heap.size W W') : PV w P R la.length v p' acc la W' := by
 obtain ⟨p2, c2, h1, _, h3⟩ := strs_slice ho
 injection h1 with h1 _ _
 subst h1
 exact ⟨h.all, rfl, hd, own_below h.own hb, h3, apart_new h.own ho, h.bl.trans (hb.mono h.bl.size)⟩
theorem proveRange_ex (p : Option Addr) (n cap : Nat) (l : List ByteArray) (i k : Nat) (w : World) (hl : l.length = n) (hn : n ≤ 1048576) (hik : i < k) (hk : k ≤ n) (hz : SzL 1000000 l) (h : StrL w p l) : Calls Tryz.prog 11 #[.slice p n cap, .int .i64 i, .int .i64 k] w (ProofRet (proofH l i k) w) := by
 obtain ⟨i0, hi, hz0, hz1, hz2⟩ := info_parts Tryz.info9
 have HF := Lib.hid (first_ex p n cap l w hl hn hz h)
 have hml : (l.map leafH).length = n := by rw [List.length_map, hl]
 have HD := Lib.hid (dig_leaf l)
 obtain ⟨P, hP⟩ : ∃ P, P = proofH l i k := ⟨_, rfl⟩
 have HPE := Lib.hid hP
 have HP0 := Lib.hid (show Mk.proofR nodeH n (l.map leafH) i k = P by rw [hP]; unfold proofH; rw [hl])
 clear hP hl hz h
 generalize l.map leafH = q at HF hml HD HP0
 have a0 : ¬ (i : Int) < 0 := by omega
 have a1 : ¬ (i : Int) ≥ (k : Int) := by omega
 have a2 : ¬ (k : Int) > (n : Int) := by omega
 go_enter Tryz.func11, Tryz.ntmps11
 go_upto_block 0 with (go_at_call 37; refine HF.out.mono ?_; rintro e w1 ⟨v1, rfl, ho1, hb1⟩; obtain ⟨p1, c1, rfl, hc1, hp1⟩ := strs_slice ho1)
 have HW1 := Lib.hid (show PV w P (Mk.proofR nodeH n q i k) n (.slice none 0 0) p1 [] q w1 from ⟨HP0.out, hml, HD.out, World.ownsRow_nil _ _ _ _, hp1, apart_nil _, hb1⟩)
 clear ho1 hp1 hb1 HF HD HP0
 go_wp2_with fail
 clear a0 a1 a2
 go_loopw [1, 2, 8, 9] (fun x1 x2 x8 x9 wr => ∃ (f i k n : Nat) (p' : Option Addr) (c' : Nat) (acc lv : List ByteArray), x1 = .int .i64 i ∧ x2 = .int .i64 k ∧ x9 = .slice p' n c' ∧ i < k ∧ k ≤ n ∧ n ≤ 1048576 ∧ n ≤ f + 1 ∧ acc.length ≤ 2 * (1048576 - n) ∧ PV w P (Mk.proofR nodeH f lv i k) n x8 p' acc lv wr) (fun _ _ _ x9 _ => lenOfV x9)
 case atStart => exact ⟨n, i, k, n, p1, c1, [], q, rfl, rfl, rfl, hik, hk, hn, by omega, by simp, HW1.out⟩
 case round =>
  clear HW1 hml
  obtain ⟨f, i, k, n, p', c', acc, lv, rfl, rfl, rfl, hik, hk, hn, hf, hal, hV⟩ := hrel
  have HV := Lib.hid hV
  have hln := hV.len
  clear hV
  by_cases h1 : 1 < n
  ·obtain ⟨f2, rfl⟩ : ∃ f2, f = f2 + 1 := ⟨f - 1, by omega⟩
   have HR := Lib.hid (proofR_step (f := f2) (l := lv) (i := i) (k := k) (by omega))
   have HV2 := HV.out
   rw [HR.out] at HV2
   obtain ⟨b, off, rfl, hbb, hc⟩ := HV.out.lvl.at (j := 0) (by omega)
   have hne : lv ≠ [] := by intro e; rw [e] at hln; simp at hln; omega
   have HD2 := Lib.hid (dig_above HV.out.dig)
   have HAB := Lib.hid (fun W (h : StrL W (some ⟨b, off, none⟩) lv) => above_ex (some ⟨b, off, none⟩) n c' lv W hln hn (HV.out.dig.size.mono (by omega)) h)
   have hal2 : (aboveH lv).length = (n + 1) / 2 := by rw [aboveH_len, hln]
   clear hc HR HV
   have e1 : (1 : Int) < (n : Int) := by omega
   by_cases hi2 : i % 2 = 1
   ·obtain ⟨a, ha⟩ : ∃ a, a = i - 1 := ⟨_, rfl⟩
    have hail : a < lv.length := by omega
    have hca := HV2.lvl.cell hail
    have hbs := HV2.bl.size
    have ei : (i : Int) % 2 = 1 := by omega
    have ew : IntKind.i64.wrap ((i : Int) - 1) = (a : Int) := by rw [IntKind.wrap_i64]; omega
    have ea0 : (0 : Int) ≤ (a : Int) := by omega
    have ea1 : (a : Int) < (n : Int) := by omega
    rw [if_pos hi2, ← ha, List.getElem?_eq_getElem hail] at HV2
    have HV3 := Lib.hid (show PV w P (lv[a] :: ((if k % 2 = 1 ∧ k < lv.length then (lv[k]?).toList else []) ++ Mk.proofR nodeH f2 (aboveH lv) (i / 2) ((k + 1) / 2))) n u8 (some ⟨b, off, none⟩) acc lv wr from HV2)
    generalize lv[a] = x at hca HV3
    clear HV2 ha
    go_upto_region 9 with (at_builtin; refine appS (w := wr) rfl _ _ rfl rfl HV3.out.own rfl rfl (by omega) hbs ?_; intro g5 c5 w5 hown5 hgr5 hat5)
    have HV5 := Lib.hid (PV.app HV3.out hne hown5 hgr5 hat5)
    clear hown5 hgr5 hat5 HV3 hca hbs
    by_cases hk2 : k % 2 = 1 ∧ k < n
    ·have hkl : k < lv.length := by omega
     have hck := HV5.out.lvl.cell hkl
     have hb1 : Below w.heap.size w w5 := HV5.out.bl
     have hbs := hb1.size
     have ek : (k : Int) % 2 = 1 := by omega
     have ek0 : (0 : Int) ≤ (k : Int) := by omega
     have ek1 : (k : Int) < (n : Int) := by omega
     have HV6 := HV5.out
     rw [if_pos (show k % 2 = 1 ∧ k < lv.length from ⟨hk2.1, by omega⟩), List.getElem?_eq_getElem hkl] at HV6
     have HV6 := Lib.hid (show PV w P (lv[k] :: Mk.proofR nodeH f2 (aboveH lv) (i / 2) ((k + 1) / 2)) n (.slice (some ⟨g5, 0, none⟩) (acc.length + 1) c5) (some ⟨b, off, none⟩) _ lv w5 from HV6)
     generalize lv[k] = y at hck HV6
     go_upto_region 11 with (at_builtin; refine appS (w := w5) rfl _ _ rfl rfl HV6.out.own rfl rfl (by rw [List.length_append]; show _ + 1 ≤ _; omega) hbs ?_; intro g7 c7 w7 hown7 hgr7 hat7)
     have HV7 := Lib.hid (PV.app HV6.out hne hown7 hgr7 hat7)
     clear hown7 hgr7 hat7 HV6 hck HV5
     go_wp2_with (go_at_call 38; refine (HAB.out _ HV7.out.lvl).mono ?_; rintro e w8 ⟨v8, rfl, ho8, hb8⟩; obtain ⟨p8, c8, rfl, hc8, hp8⟩ := strs_slice ho8)
     go_roundw
     case rel =>
      have h9 := PV.next HV7.out HD2.out ho8 hb8
      rw [hal2] at h9
      simp only [List.length_append, List.length_cons, List.length_nil, Nat.zero_add] at h9
      exact ⟨f2, i / 2, (k + 1) / 2, (n + 1) / 2, p8, c8, acc ++ [x] ++ [y], aboveH lv, by go_num, by go_num, rfl, by omega, by omega, by omega, by omega, by simp only [List.length_append, List.length_cons, List.length_nil]; omega, h9⟩
     case measure => simp [lenOfV]; omega
    ·have HV6 := HV5.out
     rw [if_neg (show ¬ (k % 2 = 1 ∧ k < lv.length) from fun e => hk2 ⟨e.1, by omega⟩), List.nil_append] at HV6
     have HV7 := Lib.hid HV6
     clear HV6 HV5
     by_cases hko : k % 2 = 1
     ·have ek : (k : Int) % 2 = 1 := by omega
      have ek1 : ¬ (k : Int) < (n : Int) := by omega
      go_upto_region 11 with fail
      go_wp2_with (go_at_call 38; refine (HAB.out _ HV7.out.lvl).mono ?_; rintro e w8 ⟨v8, rfl, ho8, hb8⟩; obtain ⟨p8, c8, rfl, hc8, hp8⟩ := strs_slice ho8)
      go_roundw
      case rel =>
       have h9 := PV.next HV7.out HD2.out ho8 hb8
       rw [hal2] at h9
       exact ⟨f2, i / 2, (k + 1) / 2, (n + 1) / 2, p8, c8, _, aboveH lv, by go_num, by go_num, rfl, by omega, by omega, by omega, by omega, by rw [List.length_append]; show _ + 1 ≤ _; omega, h9⟩
      case measure => simp [lenOfV]; omega
     ·have ek : ¬ (k : Int) % 2 = 1 := by omega
      go_upto_region 11 with fail
      go_wp2_with (go_at_call 38; refine (HAB.out _ HV7.out.lvl).mono ?_; rintro e w8 ⟨v8, rfl, ho8, hb8⟩; obtain ⟨p8, c8, rfl, hc8, hp8⟩ := strs_slice ho8)
      go_roundw
      case rel =>
       have h9 := PV.next HV7.out HD2.out ho8 hb8
       rw [hal2] at h9
       exact ⟨f2, i / 2, (k + 1) / 2, (n + 1) / 2, p8, c8, _, aboveH lv, by go_num, by go_num, rfl, by omega, by omega, by omega, by omega, by rw [List.length_append]; show _ + 1 ≤ _; omega, h9⟩
      case measure => simp [lenOfV]; omega
   ·have ei : ¬ (i : Int) % 2 = 1 := by omega
    rw [if_neg hi2, List.nil_append] at HV2
    have HV5 := Lib.hid HV2
    clear HV2
    go_upto_region 9 with fail
    by_cases hk2 : k % 2 = 1 ∧ k < n
    ·have hkl : k < lv.length := by omega
     have hck := HV5.out.lvl.cell hkl
     have hb1 : Below w.heap.size w wr := HV5.out.bl
     have hbs := hb1.size
     have ek : (k : Int) % 2 = 1 := by omega
     have ek0 : (0 : Int) ≤ (k : Int) := by omega
     have ek1 : (k : Int) < (n : Int) := by omega
     have HV6 := HV5.out
     rw [if_pos (show k % 2 = 1 ∧ k < lv.length from ⟨hk2.1, by omega⟩), List.getElem?_eq_getElem hkl] at HV6
     have HV6 := Lib.hid (show PV w P (lv[k] :: Mk.proofR nodeH f2 (aboveH lv) (i / 2) ((k + 1) / 2)) n u8 (some ⟨b, off, none⟩) _ lv wr from HV6)
     generalize lv[k] = y at hck HV6
     go_upto_region 11 with (at_builtin; refine appS (w := wr) rfl _ _ rfl rfl HV6.out.own rfl rfl (by omega) hbs ?_; intro g7 c7 w7 hown7 hgr7 hat7)
     have HV7 := Lib.hid (PV.app HV6.out hne hown7 hgr7 hat7)
     clear hown7 hgr7 hat7 HV6 hck HV5
     go_wp2_with (go_at_call 38; refine (HAB.out _ HV7.out.lvl).mono ?_; rintro e w8 ⟨v8, rfl, ho8, hb8⟩; obtain ⟨p8, c8, rfl, hc8, hp8⟩ := strs_slice ho8)
     go_roundw
     case rel =>
      have h9 := PV.next HV7.out HD2.out ho8 hb8
      rw [hal2] at h9
      exact ⟨f2, i / 2, (k + 1) / 2, (n + 1) / 2, p8, c8, acc ++ [y], aboveH lv, by go_num, by go_num, rfl, by omega, by omega, by omega, by omega, by simp only [List.length_append, List.length_cons, List.length_nil]; omega, h9⟩
     case measure => simp [lenOfV]; omega
    ·have HV6 := HV5.out
     rw [if_neg (show ¬ (k % 2 = 1 ∧ k < lv.length) from fun e => hk2 ⟨e.1, by omega⟩), List.nil_append] at HV6
     have HV7 := Lib.hid HV6
     clear HV6 HV5
     by_cases hko : k % 2 = 1
     ·have ek : (k : Int) % 2 = 1 := by omega
      have ek1 : ¬ (k : Int) < (n : Int) := by omega
      go_upto_region 11 with fail
      go_wp2_with (go_at_call 38; refine (HAB.out _ HV7.out.lvl).mono ?_; rintro e w8 ⟨v8, rfl, ho8, hb8⟩; obtain ⟨p8, c8, rfl, hc8, hp8⟩ := strs_slice ho8)
      go_roundw
      case rel =>
       have h9 := PV.next HV7.out HD2.out ho8 hb8
       rw [hal2] at h9
       exact ⟨f2, i / 2, (k + 1) / 2, (n + 1) / 2, p8, c8, _, aboveH lv, by go_num, by go_num, rfl, by omega, by omega, by omega, by omega, by omega, h9⟩
      case measure => simp [lenOfV]; omega
     ·have ek : ¬ (k : Int) % 2 = 1 := by omega
      go_upto_region 11 with fail
      go_wp2_with (go_at_call 38; refine (HAB.out _ HV7.out.lvl).mono ?_; rintro e w8 ⟨v8, rfl, ho8, hb8⟩; obtain ⟨p8, c8, rfl, hc8, hp8⟩ := strs_slice ho8)
      go_roundw
      case rel =>
       have h9 := PV.next HV7.out HD2.out ho8 hb8
       rw [hal2] at h9
       exact ⟨f2, i / 2, (k + 1) / 2, (n + 1) / 2, p8, c8, _, aboveH lv, by go_num, by go_num, rfl, by omega, by omega, by omega, by omega, by omega, h9⟩
      case measure => simp [lenOfV]; omega
  ·have hP : acc = P := by
    have h2 := HV.out.all
    rw [proofR_one f (by omega), List.append_nil] at h2
    exact h2
   have HV2 := Lib.hid (show wr.ownsRow w.heap.size 9 1 u8 P.length (strV P) by rw [← hP]; exact HV.out.own)
   have HB := Lib.hid HV.out.bl
   have e1 : ¬ (1 : Int) < (n : Int) := by omega
   clear HV hP
   go_wp2_with fail
   go_ret2
   exact ⟨u8, rfl, HPE.out ▸ HV2.out, HB.out⟩
end Go.Proofs.YtnaglmigkbbljaaGreatDoor
/-
  TopTransferred: merkle.areDigests at digests.
-/
namespace Go.Proofs.YtnaglmigkbbljaaGreatDoor
open Go Go.RowKit
def AllIn (W : World) (b : Nat) (r : ByteArray) : Prop := ∀ x ∈ r.data.toList, W.cell? ⟨b, x.toNat, none⟩ = some (.bool true)
theorem mem_data {r : ByteArray} {i : Nat} (h : i < r.size) : r[i] ∈ r.data.toList := by
 have h2 : i < r.data.toList.length := by simpa using h
 have : r[i] = r.data.toList[i] := by simp; rfl
 rw [this]
 exact List.getElem_mem _
theorem AllIn.extract {W : World} {b : Nat} {r : ByteArray} (h : AllIn W b r) (i k : Nat) : AllIn W b (r.extract i k) := by
 intro x hx
 refine h x ?_
 rw [ByteArray.data_extract, Array.toList_extract] at hx
 exact List.mem_of_mem_drop (List.mem_of_mem_take hx)
theorem size0 {r : ByteArray} (h : r.size = 0) : r = ⟨#[]⟩ := by
 have : r.data = #[] := Array.eq_empty_of_size_eq_zero h
 cases r
 simpa using this
theorem trimRight_all (s : ByteArray) (b : Nat) (w : World) (hs : s.size ≤ 1048576) (h : AllIn w b s) : Calls Tryz.prog 191 #[.string s, .pointer (some ⟨b, 0, none⟩)] w (SameS ⟨#[]⟩ w) := by
 have H := Lib.hid h
 clear h
 go_enter Tryz.func191, Tryz.ntmps191
 go_wp2_with fail
 go_loopw [0] (fun v wr => ∃ r : ByteArray, v = .string r ∧ r.size ≤ 1048576 ∧ AllIn w b r ∧ wr = w) (fun v _ => match v with | .string r => r.size | _ => 0)
 case atStart => exact ⟨s, rfl, hs, H.out, rfl⟩
 case round =>
  obtain ⟨r, rfl, hr, hA, rfl⟩ := hrel
  have HA := Lib.hid hA
  clear hA
  by_cases h0 : 0 < r.size
  ·obtain ⟨a, ha⟩ : ∃ a, a = r.size - 1 := ⟨_, rfl⟩
   have e0 : (0 : Int) < (r.size : Int) := by omega
   have ew : IntKind.i64.wrap ((r.size : Int) - 1) = (a : Int) := by rw [IntKind.wrap_i64]; omega
   have e1 : (0 : Int) ≤ (a : Int) := by omega
   have e2 : (a : Int) < (r.size : Int) := by omega
   have e3 : (a : Int) ≤ (r.size : Int) := by omega
   have hal : a < r.size := by omega
   have hc := HA.out _ (mem_data hal)
   have HE := Lib.hid (HA.out.extract 0 a)
   have hes : (r.extract 0 a).size = a := by rw [ByteArray.size_extract]; omega
   clear ha
   go_wp2_with (go_at_call 235; refine (Tryz.asciiSet_contains b r[a] true _ hc).mono ?_; rintro e w1 ⟨rfl, rfl⟩)
   go_roundw
   case rel => exact ⟨_, rfl, by omega, HE.out, by first | rfl | trivial⟩
   case measure => show (r.extract 0 a).size < r.size; omega
  ·have hr0 := size0 (r := r) (by omega)
   subst hr0
   go_wp2_with fail
   go_ret
   exact ⟨rfl, rfl⟩
theorem trimLeft_none (p : Value) (w : World) : Calls Tryz.prog 190 #[.string ⟨#[]⟩, p] w (SameS ⟨#[]⟩ w) := by
 go_enter Tryz.func190, Tryz.ntmps190
 go_wp2_with fail
 go_loopw [0] (fun v wr => v = .string ⟨#[]⟩ ∧ wr = w) (fun _ _ => 0)
 case atStart => exact ⟨rfl, rfl⟩
 case round =>
  obtain ⟨rfl, rfl⟩ := hrel
  go_wp2_with fail
  go_ret
  exact ⟨rfl, rfl⟩
theorem empty_no {s : ByteArray} (h : 0 < s.size) : s.toList.isEmpty = false := by
 rw [ByteArray.toList_eq]
 cases hs : s.data.toList with
 | nil =>
  have : s.data.toList.length = 0 := by rw [hs]; rfl
  have h2 : s.data.toList.length = s.size := by simp
  omega
 | cons a t => rfl
theorem Tryz.info279 : (Tryz.prog.info? 279).map (·.size) = some 256 := by kernel_rfl
theorem zc279 : Tryz.zeroCells279.size = 256 := by kernel_rfl
theorem zero279 : ∀ w, (zeroValue 279).run Tryz.prog w = .ok (.agg (Array.replicate 256 (.bool false))) w := fun w => by kernel_rfl
theorem trim_all (s : ByteArray) (w : World) (h0 : 0 < s.size) (hs : s.size ≤ 1048576) (h : ∀ d ∈ s.data.toList, (hexS.data.toList.contains d) = true) : Calls Tryz.prog 146 #[.string s, .string hexS] w (IsS ⟨#[]⟩ w) := by
 have H := Lib.hid h
 have HS := Lib.hid (Tryz.strings_makeASCIISet zero279 hexS w (by decide) (fun j b hb => by
  have : (hexS.data.toList.all fun b => decide (b.toNat < 128)) = true := by decide
  simpa using List.all_eq_true.mp this b (List.mem_of_getElem? hb)))
 have hsc : (Lib.setCells hexS.data.toList).size = 256 := by simp [Lib.setCells_size]
 generalize hq : Lib.setCells hexS.data.toList = q at HS hsc
 clear h
 have hne : ¬ s = ⟨#[]⟩ := fun e => by rw [e] at h0; exact absurd h0 (by decide)
 have hse : s.toList.isEmpty = false := empty_no h0
 have hhe : hexS.toList.isEmpty = false := empty_no (by decide)
 have hhs : hexS.size = 16 := rfl
 go_enter Tryz.func146, Tryz.ntmps146
 have HZ := Lib.hid (show ((w.alloc (.cells q 279)).alloc (.cells Tryz.zeroCells279 279)).heap[w.heap.size + 1]? = some (.cells Tryz.zeroCells279 279 (0, 0)) by
  have := heap_alloc_new (w.alloc (.cells q 279)) (.cells Tryz.zeroCells279 279)
  rwa [World.size_alloc] at this)
 have hzs : Tryz.zeroCells279.size = q.size := by rw [hsc]; exact zc279
 have hqo : q.all (·.oneCell') = true := by rw [← hq]; exact Lib.setCells_one _
 have HQ := Lib.hid hq
 clear hq
 go_upto_region 6 with (first
  | (go_at_call 189; refine HS.out.mono ?_; rintro e w1 ⟨rfl, rfl⟩)
  | (refine wpList_store_row rfl 279 (.tmp 5) (.tmp 32) rfl (w.heap.size + 1) q rfl rfl 279 _ HZ.out (by rw [hsc]; exact Tryz.info279) hzs hqo ?_))
 have HW := Lib.hid (setRow_heap _ _ _ q _ _ HZ.out)
 have HB := Lib.hid (show Below w.heap.size w (((w.alloc (.cells q 279)).alloc (.cells Tryz.zeroCells279 279)).setRow (w.heap.size + 1) q) from
  ⟨rfl, rfl, rfl, by simp; omega, fun i hi => (setRow_other _ _ _ _ (by omega)).trans (((((Below.refl _ w).alloc (Nat.le_refl _) (.cells q 279))).alloc (by simp) (.cells Tryz.zeroCells279 279)).block i hi)⟩)
 generalize ((w.alloc (.cells q 279)).alloc (.cells Tryz.zeroCells279 279)).setRow (w.heap.size + 1) q = w2 at HW HB ⊢
 have HA := Lib.hid (show AllIn w2 (w.heap.size + 1) s from fun x hx => cellOf HW.out (by rw [← HQ.out, Lib.setCells_at, H.out x hx]))
 go_wp2_with (first
  | (go_at_call 191; refine (trimRight_all s (w.heap.size + 1) _ hs HA.out).mono ?_; rintro e w3 ⟨rfl, rfl⟩)
  | (go_at_call 190; refine (trimLeft_none _ _).mono ?_; rintro e w4 ⟨rfl, rfl⟩))
 go_ret
 exact ⟨rfl, HB.out⟩
theorem isDigest_yes (t : ByteArray) (w : World) : Calls Tryz.prog 97 #[.string (hexF t)] w (IsB true w) := by
 have HT := Lib.hid (trim_all (hexF t) w (by rw [hexF_size]; decide) (by rw [hexF_size]; decide) (hexF_hex t))
 have hs := hexF_size t
 generalize hexF t = s at HT hs
 go_enter Tryz.func97, Tryz.ntmps97
 go_wp2_with (go_at_call 146; refine HT.out.mono ?_; rintro e w1 ⟨rfl, hb1⟩)
 go_ret
 exact ⟨rfl, hb1⟩
theorem notDigest_no (t : ByteArray) (w : World) : Calls Tryz.prog 96 #[.string (hexF t)] w (IsB false w) := by
 have HT := Lib.hid (isDigest_yes t w)
 generalize hexF t = s at HT
 go_enter Tryz.func96, Tryz.ntmps96
 go_wp2_with (go_at_call 97; refine HT.out.mono ?_; rintro e w1 ⟨rfl, hb1⟩)
 go_ret
 exact ⟨rfl, hb1⟩
theorem indexFunc_none (p : Option Addr) (n cap : Nat) (l : List ByteArray) (w : World) (hl : l.length = n) (hn : n ≤ 4000000) (hd : DigL l) (h : StrL w p l) : Calls Tryz.prog 145 #[.slice p n cap, .func (.func 96) #[] #[]] w (fun e w' => e = .returned (.int .i64 (-1)) ∧ Below w.heap.size w w') := by
 have HL := Lib.hid h
 have HD := Lib.hid hd
 clear h hd
 go_enter Tryz.func145, Tryz.ntmps145
 go_wp2_with fail
 go_loopw [8] (fun v wr => ∃ k : Nat, k ≤ n ∧ v = .int .i64 k ∧ Below w.heap.size w wr) (fun v _ => n - (intOf v).toNat)
 case atStart => exact ⟨0, by omega, rfl, Below.refl _ _⟩
 case round =>
  obtain ⟨k, hk, rfl, hb⟩ := hrel
  have HB := Lib.hid hb
  clear hb
  by_cases hkn : k < n
  ·have hkl : k < l.length := by omega
   obtain ⟨b, off, rfl, hbb, hc⟩ := HL.out.at hkl
   have hck := (HB.out.cell (p := ⟨b, off + k, none⟩) hbb).trans (hc k hkl)
   obtain ⟨t, ht⟩ := HD.out _ (List.getElem_mem hkl)
   rw [ht] at hck
   have HN := Lib.hid (fun W => notDigest_no t W)
   clear hc ht
   generalize hexF t = s at hck HN
   have e0 : (0 : Int) ≤ (k : Int) := by omega
   have e1 : (k : Int) < (n : Int) := by omega
   go_wp2_with (go_at_call 96; refine (HN.out _).mono ?_; rintro e w1 ⟨rfl, hb1⟩)
   go_roundw
   case rel => exact ⟨k + 1, by omega, by go_num, HB.out.trans (hb1.mono HB.out.size)⟩
   case measure => simp [intOf]; omega
  ·go_wp2_with fail
   go_ret
   exact ⟨rfl, HB.out⟩
theorem areDigests_yes (p : Option Addr) (n cap : Nat) (l : List ByteArray) (w : World) (hl : l.length = n) (hn : n ≤ 4000000) (hd : DigL l) (h : StrL w p l) : Calls Tryz.prog 44 #[.slice p n cap] w (IsB true w) := by
 have HI := Lib.hid (indexFunc_none p n cap l w hl hn hd h)
 have HC := Lib.hid (show Calls Tryz.prog 95 #[.slice p n cap, .func (.func 96) #[] #[]] w (IsB false w) by
  clear h hd hl
  go_enter Tryz.func95, Tryz.ntmps95
  go_wp2_with (go_at_call 145; refine HI.out.mono ?_; rintro e w1 ⟨rfl, hb1⟩)
  go_ret
  exact ⟨rfl, hb1⟩)
 clear h hd hl HI
 go_enter Tryz.func44, Tryz.ntmps44
 go_wp2_with (go_at_call 95; refine HC.out.mono ?_; rintro e w1 ⟨rfl, hb1⟩)
 go_ret
 exact ⟨rfl, hb1⟩
end Go.Proofs.YtnaglmigkbbljaaGreatDoor
/-
  TopTransferred: merkle.VerifyRange, exactly.
-/
namespace Go.Proofs.YtnaglmigkbbljaaGreatDoor
open Go Go.RowKit
def verH (f size i : Nat) (lv pf : List ByteArray) : Option (List ByteArray × List ByteArray) := Mk.verify nodeH f size i lv pf
def verR (f size i : Nat) (lv pf : List ByteArray) : Option (List ByteArray × List ByteArray) :=
 if (i + lv.length) % 2 = 1 ∧ i + lv.length < size then (match pf with | [] => none | q :: r => verH f ((size + 1) / 2) (i / 2) (aboveH (lv ++ [q])) r) else verH f ((size + 1) / 2) (i / 2) (aboveH lv) pf
theorem verH_odd0 {f size i : Nat} {lv : List ByteArray} (hs : 1 < size) (hi : i % 2 = 1) : verH (f + 1) size i lv [] = none := by
 unfold verH Mk.verify Mk.step
 rw [if_neg (by omega), if_pos hi]
theorem verH_odd {f size i : Nat} {lv : List ByteArray} {p : ByteArray} {r : List ByteArray} (hs : 1 < size) (hi : i % 2 = 1) : verH (f + 1) size i lv (p :: r) = verR f size (i - 1) (p :: lv) r := by
 unfold verH verR Mk.verify Mk.step
 rw [if_neg (by omega), if_pos hi]
 have e1 : i - i % 2 = i - 1 := by omega
 have e2 : (i - 1) / 2 = i / 2 := by omega
 simp only [e1, e2]
 by_cases hc : (i - 1 + (p :: lv).length) % 2 = 1 ∧ i - 1 + (p :: lv).length < size
 ·rw [if_pos hc, if_pos hc]
  cases r with
  | nil => rfl
  | cons a t => rfl
 ·rw [if_neg hc, if_neg hc]
  rfl
theorem verH_even {f size i : Nat} {lv pf : List ByteArray} (hs : 1 < size) (hi : ¬ i % 2 = 1) : verH (f + 1) size i lv pf = verR f size i lv pf := by
 unfold verH verR Mk.verify Mk.step
 rw [if_neg (by omega), if_neg hi]
 have e1 : i - i % 2 = i := by omega
 simp only [e1]
 by_cases hc : (i + lv.length) % 2 = 1 ∧ i + lv.length < size
 ·rw [if_pos hc, if_pos hc]
  cases pf with
  | nil => rfl
  | cons a t => rfl
 ·rw [if_neg hc, if_neg hc]
  rfl
theorem verH_end {f size i : Nat} {lv pf : List ByteArray} (hs : ¬ 1 < size) : verH f size i lv pf = some (lv, pf) := by
 unfold verH
 cases f with
 | zero => rfl
 | succ f => unfold Mk.verify; rw [if_pos (by omega)]
def finB (root : ByteArray) (n : Nat) : Option (List ByteArray × List ByteArray) → Bool
 | some (lv, []) => decide (hexF (rootT n (lv.headD ByteArray.empty)) = root)
 | _ => false
def verifyB (root : ByteArray) (n i : Nat) (leaves pf : List ByteArray) : Bool := finB root n (verH n n i (leaves.map leafH) pf)
theorem own_base {w : World} {base base' e sz n : Nat} {v : Value} {xs : List Value} (h : w.ownsRow base e sz v n xs) (hb : base' ≤ base) : w.ownsRow base' e sz v n xs := by
 refine ⟨h.1, ?_⟩
 rcases h.2 with h0 | ⟨g, cap, cur, h1, h2, h3⟩
 ·exact .inl h0
 ·exact .inr ⟨g, cap, cur, h1, by omega, h3⟩
theorem beqB (a b : ByteArray) : (a.toList == b.toList) = decide (a = b) := by
 by_cases h : a = b
 ·rw [decide_eq_true h]
  exact (Lib.bytes_beq_iff a b).mpr h
 ·rw [decide_eq_false h]
  exact (Lib.bytes_beq_false_iff a b).mpr h
structure VV (w : World) (R : Bool) (root : ByteArray) (N : Nat) (o : Option (List ByteArray × List ByteArray)) (v : Value) (p q : Option Addr) (m c : Nat) (lv pf : List ByteArray) (W : World) : Prop where
 res : finB root N o = R
 dig : DigL lv
 digp : DigL pf
 vp : v = .slice p lv.length c
 own : W.ownsRow w.heap.size 9 1 v lv.length (strV lv)
 lvl : StrL W p lv
 prf : StrL w q pf
 len : pf.length = m
 bl : Below w.heap.size w W
theorem appL {ops : Array Oper} {rest : List Oper} {o : Oper} {a : Act} {Q : Exit → Act → World → Prop} {w : World} {lv : List ByteArray} {b off m c : Nat} {x : ByteArray} (hgd : o.guard = none) (s y : Operand)
  (ho : o.op = .call { callee := .builtin .append, args := #[s, y], argTypes := #[35, 35] }) (hs : a.eval s = .slice (some ⟨w.heap.size, 0, none⟩) 1 1) (hy : a.eval y = .slice (some ⟨b, off, none⟩) m c) (hc : StrL w (some ⟨b, off, none⟩) lv) (hm : lv.length = m) (h0 : 0 < m) (hb : m ≤ 4000000)
  (h : ∀ g cap w', w'.ownsRow w.heap.size 9 1 (.slice (some ⟨g, 0, none⟩) (1 + m) cap) (1 + m) (strV (x :: lv)) → Below w.heap.size w w' → wpList Tryz.prog ops Q rest (a.put o.dst (.slice (some ⟨g, 0, none⟩) (1 + m) cap)) w') :
  wpList Tryz.prog ops Q (o :: rest) a (w.alloc (.cells #[.string x] 9)) := by
 obtain ⟨i0, hi, hz0, hz1, hz2⟩ := info_parts Tryz.info9
 have hown : (w.alloc (.cells #[.string x] 9)).ownsRow w.heap.size 9 1 (.slice (some ⟨w.heap.size, 0, none⟩) 1 1) 1 [.string x] := ⟨rfl, .inr ⟨_, _, _, rfl, Nat.le_refl _, heap_alloc_new w _, Nat.le_refl _, by unfold maxLen; omega, rfl, rfl⟩⟩
 have hcl := hc.below ((Below.refl _ w).alloc (Nat.le_refl _) (.cells #[.string x] 9))
 refine wpList_append_lies _ hgd s y 35 ho w.heap.size 9 i0 (.string ⟨#[]⟩) 1 16 Tryz.underlying35 hi hz0 hz1 hz2 rfl (by decide) _ 1 [.string x] hs hown ⟨b, off, none⟩ m c (strV lv) hy (by rw [strV_len, hm]; omega) (fun j u hu => ?_) (by intro u hu; obtain ⟨z, _, rfl⟩ := List.mem_map.mp hu; rfl) h0 (by unfold maxLen; omega) (by omega) (by simp) (w.heap.size + 1) (by simp) ?_
 ·have hj : j < lv.length := by have := (List.getElem?_eq_some_iff.mp hu).1; rwa [strV_len] at this
  have hadd : (⟨b, off, none⟩ : Addr).add j = ⟨b, off + j, none⟩ := by unfold Addr.add; split <;> simp_all
  rw [hadd, hcl.cell hj, ← hu]
  simp [strV, hj]
 ·intro g cap w' h1 h2 _ _
  refine h g cap w' h1 ⟨h2.os, h2.tape, h2.output, by have := h2.size; simp at this; omega, fun i hi => ?_⟩
  exact (h2.block i (by simp; omega) (fun e => by simp [Value.ownBlock] at e; omega)).trans (((Below.refl _ w).alloc (Nat.le_refl _) (.cells #[.string x] 9)).block i hi)
theorem StrL.tail {W : World} {b off : Nat} {x : ByteArray} {l : List ByteArray} (h : StrL W (some ⟨b, off, none⟩) (x :: l)) : StrL W (some ⟨b, off + 1, none⟩) l := CL.drop h 1
theorem StrL.tail' {W : World} {b off c : Nat} {x : ByteArray} {l : List ByteArray} (h : StrL W (some ⟨b, off, none⟩) (x :: l)) (hc : l.length + 1 ≤ c) : StrL W (if c = 1 then some ⟨b, off, none⟩ else some ⟨b, off + 1, none⟩) l := by
 by_cases h1 : c = 1
 ·have : l = [] := List.eq_nil_of_length_eq_zero (by omega)
  subst this
  exact .inl rfl
 ·rw [if_neg h1]
  exact h.tail
theorem VV.left {w W W' : World} {R : Bool} {root : ByteArray} {N f size i m mq c c' g : Nat} {v : Value} {p : Option Addr} {qb qo : Nat} {x : ByteArray} {lv r : List ByteArray} (h : VV w R root N (verH (f + 1) size i lv (x :: r)) v p (some ⟨qb, qo, none⟩) mq c lv (x :: r) W) (hs : 1 < size) (hi : i % 2 = 1)
  (ho : W'.ownsRow W.heap.size 9 1 (.slice (some ⟨g, 0, none⟩) (1 + m) c') (1 + m) (strV (x :: lv))) (hb : Below W.heap.size W W') (hm : lv.length = m) {cq : Nat} (hcq : mq ≤ cq) :
  VV w R root N (verR f size (i - 1) (x :: lv) r) (.slice (some ⟨g, 0, none⟩) (1 + m) c') (some ⟨g, 0, none⟩) (if cq = 1 then some ⟨qb, qo, none⟩ else some ⟨qb, qo + 1, none⟩) (mq - 1) c' (x :: lv) r W' := by
 have e : (x :: lv).length = 1 + m := by rw [List.length_cons, hm]; omega
 obtain ⟨p2, c2, h1, _, h3⟩ := strs_slice ho
 injection h1 with h1 _ _
 subst h1
 refine ⟨by rw [← verH_odd hs hi]; exact h.res, fun s hs => ?_, fun s hs => h.digp s (List.mem_cons_of_mem _ hs), by rw [e], by rw [e]; exact own_base ho h.bl.size, h3, h.prf.tail' (by have := h.len; rw [List.length_cons] at this; omega), ?_, h.bl.trans (hb.mono h.bl.size)⟩
 ·rcases List.mem_cons.mp hs with rfl | hs
  ·exact h.digp _ (List.mem_cons_self ..)
  ·exact h.dig s hs
 ·have := h.len
  rw [List.length_cons] at this
  omega
theorem verify_ex (root : ByteArray) (n i : Nat) (p : Option Addr) (m cap : Nat) (l : List ByteArray) (q : Option Addr) (mq cq : Nat) (pf : List ByteArray) (w : World) (hn : n ≤ 1048576) (hi : i < n) (hl : l.length = m) (h1 : 1 ≤ m) (hm : m ≤ n - i) (hz : SzL 1000000 l) (h : StrL w p l)
  (hq : pf.length = mq) (hmq : mq ≤ 4000000) (hmc : mq ≤ cq) (hdq : DigL pf) (hp : StrL w q pf) (hG : GL w) : Calls Tryz.prog 40 #[.string root, .int .i64 n, .int .i64 i, .slice p m cap, .slice q mq cq] w (IsB (verifyB root n i l pf) w) := by
 have HF := Lib.hid (fun W (hb : Below w.heap.size w W) => first_ex p m cap l W hl (by omega) hz (h.below hb))
 have hml : (l.map leafH).length = m := by rw [List.length_map, hl]
 have HD := Lib.hid (dig_leaf l)
 obtain ⟨R, hR⟩ : ∃ R, R = verifyB root n i l pf := ⟨_, rfl⟩
 have HRE := Lib.hid hR
 have HR0 := Lib.hid (show finB root n (verH n n i (l.map leafH) pf) = R by rw [hR]; rfl)
 have HAD := Lib.hid (areDigests_yes q mq cq pf w hq hmq hdq hp)
 have HG := Lib.hid hG
 have HDQ := Lib.hid hdq
 have HP := Lib.hid hp
 clear hR hl hz h hdq hp hG
 generalize l.map leafH = lv at HF hml HD HR0
 have a0 : ¬ (n : Int) < 1 := by omega
 have a1 : ¬ (n : Int) > 1048576 := by omega
 have a2 : ¬ (i : Int) < 0 := by omega
 have a3 : ¬ (i : Int) ≥ (n : Int) := by omega
 have a4 : ¬ (m : Int) < 1 := by omega
 have a5 : IntKind.i64.wrap ((n : Int) - (i : Int)) = (n : Int) - (i : Int) := by rw [IntKind.wrap_i64]; omega
 have a6 : ¬ (m : Int) > (n : Int) - (i : Int) := by omega
 go_enter Tryz.func40, Tryz.ntmps40
 go_upto_block 0 with (first
  | (go_at_call 44; refine HAD.out.mono ?_; rintro e w1 ⟨rfl, hb1⟩)
  | (go_at_call 37; refine (HF.out _ hb1).mono ?_; rintro e w2 ⟨v2, rfl, ho2, hb2⟩; obtain ⟨p2, c2, rfl, hc2, hp2⟩ := strs_slice ho2))
 have HW2 := Lib.hid (show VV w R root n (verH n n i lv pf) (.slice p2 m c2) p2 q mq c2 lv pf w2 from
  ⟨HR0.out, HD.out, HDQ.out, by rw [hml], by rw [hml]; have := ho2; rw [hml] at this; exact own_base this hb1.size, hp2, HP.out, hq, hb1.trans (hb2.mono hb1.size)⟩)
 clear ho2 hp2 hb2 hb1 HF HD HR0 HAD HDQ HP
 go_wp2_with fail
 clear a0 a1 a2 a3 a4 a5 a6
 go_loopw [2, 4, 11, 12] (fun x2 x4 x11 x12 wr => ∃ (f i size m c mq cq : Nat) (p' q' : Option Addr) (lv pf : List ByteArray), x2 = .int .i64 i ∧ x4 = .slice q' mq cq ∧ x11 = .slice p' m c ∧ x12 = .int .i64 size ∧ lv.length = m ∧ size ≤ f + 1 ∧ i < size ∧ i + m ≤ size ∧ 1 ≤ m ∧ size ≤ n ∧ mq ≤ cq ∧ mq ≤ 4000000 ∧ VV w R root n (verH f size i lv pf) x11 p' q' mq c lv pf wr) (fun _ _ _ x12 _ => (intOf x12).toNat)
 case atStart => exact ⟨n, i, n, m, c2, mq, cq, p2, q, lv, pf, rfl, rfl, rfl, rfl, hml, by omega, hi, by omega, h1, by omega, hmc, hmq, HW2.out⟩
 case round =>
  clear HW2 hml hq hmq hmc
  obtain ⟨f, i, size, m, c, mq, cq, p', q', lv, pf, rfl, rfl, rfl, rfl, hlv, hf, hi, him, h1, hsz, hmc, hmq, hV⟩ := hrel
  have HV := Lib.hid hV
  clear hV
  by_cases h2 : 1 < size
  ·obtain ⟨f2, rfl⟩ : ∃ f2, f = f2 + 1 := ⟨f - 1, by omega⟩
   have e1 : (1 : Int) < (size : Int) := by omega
   by_cases hi2 : i % 2 = 1
   ·have ei : (i : Int) % 2 = 1 := by omega
    cases pf with
    | nil =>
     have hm0 : mq = 0 := by have := HV.out.len; simpa using this.symm
     subst hm0
     have hRf : R = false := by have := HV.out.res; rw [verH_odd0 h2 hi2] at this; exact this.symm
     have HB := Lib.hid HV.out.bl
     have HRF := Lib.hid hRf
     clear HV hRf
     go_wp2_with fail
     go_ret
     exact ⟨by rw [← HRE.out, HRF.out]; rfl, HB.out⟩
    | cons x r =>
     have hmq1 : mq = r.length + 1 := by have := HV.out.len; simpa using this.symm
     have ep : ((mq : Int) == 0) = false := by simp; omega
     have ep1 : (0 : Int) < (mq : Int) := by omega
     have ep2 : (1 : Int) ≤ (mq : Int) := by omega
     have ep3 : (mq : Int) ≤ (cq : Int) := by omega
     obtain ⟨qb, qo, rfl, hqb, hqc⟩ := HV.out.prf.at (j := 0) (by simp)
     have hq0 : w.cell? ⟨qb, qo, none⟩ = some (.string x) := hqc 0 (by simp)
     have hq1 := (HV.out.bl.cell (p := ⟨qb, qo, none⟩) hqb).trans hq0
     obtain ⟨pb, po, rfl, _⟩ := HV.out.lvl.at (j := 0) (by omega)
     clear hqc hq0
     have hbs := HV.out.bl.size
     obtain ⟨i1, hi1⟩ : ∃ i1, i1 = i - 1 := ⟨_, rfl⟩
     have ew : IntKind.i64.wrap ((i : Int) - 1) = (i1 : Int) := by rw [IntKind.wrap_i64]; omega
     have HI1 := Lib.hid hi1
     have HMQ := Lib.hid hmq1
     clear hi1 hmq1
     go_upto_region 12 with (at_builtin; refine appL (w := wr) (x := x) rfl _ _ rfl rfl rfl HV.out.lvl hlv (by omega) (by omega) ?_; intro g5 c1 w5 hown5 hb5)
     have HV5 := Lib.hid (VV.left HV.out h2 hi2 hown5 hb5 hlv hmc)
     clear hown5 hb5 HV hq1 ep ep1 ep2 ep3
     rw [← HI1.out] at HV5
     obtain ⟨q2, hq2⟩ : ∃ q2, q2 = (if cq = 1 then some (⟨qb, qo, none⟩ : Addr) else some ⟨qb, qo + 1, none⟩) := ⟨_, rfl⟩
     obtain ⟨mq2, hmq2⟩ : ∃ k, k = mq - 1 := ⟨_, rfl⟩
     obtain ⟨cq2, hcq2⟩ : ∃ k, k = cq - 1 := ⟨_, rfl⟩
     obtain ⟨m1, hm1⟩ : ∃ k, k = 1 + m := ⟨_, rfl⟩
     have hmc2 : mq2 ≤ cq2 := by omega
     have hmq3 : mq2 ≤ 4000000 := by omega
     rw [← hq2, ← hmq2, ← hm1] at HV5
     rw [← hq2, ← hmq2, ← hcq2, ← hm1]
     have hlv1 : (x :: lv).length = m1 := by rw [List.length_cons, hlv]; omega
     generalize x :: lv = lv1 at HV5 hlv1
     have h1m : 1 ≤ m1 := by omega
     have hi1 := HI1.out
     have hs1 : i1 + m1 ≤ size := by omega
     have hev : i1 % 2 = 0 := by omega
     have hi1s : i1 < size := by omega
     obtain ⟨p1, hp1⟩ : ∃ p1, p1 = some (⟨g5, 0, none⟩ : Addr) := ⟨_, rfl⟩
     rw [← hp1] at HV5
     rw [← hp1]
     clear hq2 hmq2 hcq2 hm1 ei ew hi1 HI1 HMQ hp1
     obtain ⟨pf1, hpf1⟩ : ∃ pf1, pf1 = r := ⟨_, rfl⟩
     rw [← hpf1] at HV5
     clear hpf1
     have hbs5 := HV5.out.bl.size
     have hm14 : m1 ≤ 1048577 := by omega
     obtain ⟨kk, hkk⟩ : ∃ kk, kk = i1 + m1 := ⟨_, rfl⟩
     have ekw : (i1 : Int) + (m1 : Int) = (kk : Int) := by omega
     by_cases hk2 : kk % 2 = 1 ∧ kk < size
     ·have ek : (kk : Int) % 2 = 1 := by omega
      have ek1 : (kk : Int) < (size : Int) := by omega
      have hcond : (i1 + lv1.length) % 2 = 1 ∧ i1 + lv1.length < size := by rw [hlv1, ← hkk]; exact hk2
      cases pf1 with
      | nil =>
       have hRf : R = false := by have := HV5.out.res; unfold verR at this; rw [if_pos hcond] at this; exact this.symm
       have hm0 : mq2 = 0 := by have := HV5.out.len; simpa using this.symm
       have HB := Lib.hid HV5.out.bl
       have HRF := Lib.hid hRf
       clear HV5 hRf
       subst hm0
       clear hkk
       go_wp2_with fail
       go_ret
       exact ⟨by rw [← HRE.out, HRF.out]; rfl, HB.out⟩
      | cons y s =>
       have hms : mq2 = s.length + 1 := by have := HV5.out.len; simpa using this.symm
       have ep : ((mq2 : Int) == 0) = false := by simp; omega
       have ep1 : (0 : Int) < (mq2 : Int) := by omega
       have ep2 : (1 : Int) ≤ (mq2 : Int) := by omega
       have ep3 : (mq2 : Int) ≤ (cq2 : Int) := by omega
       obtain ⟨qb2, qo2, rfl, hqb2, hqc2⟩ := HV5.out.prf.at (j := 0) (by simp)
       have hqe2 : w.cell? ⟨qb2, qo2, none⟩ = some (.string y) := hqc2 0 (by simp)
       have hqe3 := (HV5.out.bl.cell (p := ⟨qb2, qo2, none⟩) hqb2).trans hqe2
       have HOW := Lib.hid (show w5.ownsRow w.heap.size 9 1 (.slice p1 m1 c1) m1 (strV lv1) by have := HV5.out.own; rwa [hlv1] at this)
       have HMS := Lib.hid hms
       have HKK := Lib.hid hkk
       clear hms hkk hqc2 hqe2
       go_upto_region 17 with (at_builtin; refine appS (w := w5) rfl _ _ rfl rfl HOW.out rfl hlv1 (by omega) hbs5 ?_; intro g7 c7 w7 hown7 hgr7 hat7)
       have HB7 := Lib.hid (below_own HV5.out.bl HOW.out (Nat.le_refl _) hgr7)
       have HRES := Lib.hid (show finB root n (verH f2 ((size + 1) / 2) (i1 / 2) (aboveH (lv1 ++ [y])) s) = R by have := HV5.out.res; unfold verR at this; rw [if_pos hcond] at this; exact this)
       have HDL := Lib.hid (show DigL (lv1 ++ [y]) from fun z hz => by
        rcases List.mem_append.mp hz with h | h
        ·exact HV5.out.dig z h
        ·rw [List.mem_singleton] at h
         subst h
         exact HV5.out.digp _ (List.mem_cons_self ..))
       have HDP := Lib.hid (show DigL s from fun z hz => HV5.out.digp z (List.mem_cons_of_mem _ hz))
       have hll : (lv1 ++ [y]).length = m1 + 1 := by rw [List.length_append, hlv1]; rfl
       have hal : (aboveH (lv1 ++ [y])).length = (m1 + 1 + 1) / 2 := by rw [aboveH_len, hll]
       have HPR := Lib.hid (HV5.out.prf.tail' (c := cq2) (by have := HMS.out; omega))
       have HPL := Lib.hid (show s.length = mq2 - 1 by have := HMS.out; omega)
       have HST := Lib.hid (show StrL w7 (some ⟨g7, 0, none⟩) (lv1 ++ [y]) by obtain ⟨p9, c9, h9, _, h10⟩ := strs_slice hown7; injection h9 with h9 _ _; subst h9; exact h10)
       clear hown7 hgr7 hat7 HOW HV5 hqe3
       go_upto_region 18 with fail
       have HKI := HKK.out
       clear ep ep1 ep2 ep3 ek ek1 ekw
       obtain ⟨q3, hq3⟩ : ∃ q3, q3 = (if cq2 = 1 then some (⟨qb2, qo2, none⟩ : Addr) else some ⟨qb2, qo2 + 1, none⟩) := ⟨_, rfl⟩
       obtain ⟨mq3, hq3m⟩ : ∃ k, k = mq2 - 1 := ⟨_, rfl⟩
       obtain ⟨cq3, hcq3⟩ : ∃ k, k = cq2 - 1 := ⟨_, rfl⟩
       rw [← hq3] at HPR
       rw [← hq3m] at HPL
       rw [← hq3, ← hq3m, ← hcq3]
       clear hq3
       obtain ⟨m7, hm7⟩ : ∃ k, k = m1 + 1 := ⟨_, rfl⟩
       rw [← hm7] at hll hal
       rw [← hm7]
       obtain ⟨L7, hL7⟩ : ∃ l, l = lv1 ++ [y] := ⟨_, rfl⟩
       rw [← hL7] at hll hal HRES HDL HST
       clear hL7
       have HM7 := Lib.hid (show m7 = m1 + 1 ∧ mq3 = mq2 - 1 ∧ cq3 = cq2 - 1 from ⟨hm7, hq3m, hcq3⟩)
       have hm7b : m7 ≤ 1048576 := by have := HKK.out; omega
       clear hm7 hq3m hcq3 HKI
       go_wp2_with (go_at_call 38; refine (above_ex _ m7 _ L7 _ hll (by omega) (HDL.out.size.mono (by omega)) HST.out).mono ?_; rintro e w8 ⟨v8, rfl, ho8, hb8⟩; obtain ⟨p8, c8, rfl, hc8, hp8⟩ := strs_slice ho8)
       have z0 := HKK.out
       obtain ⟨z1, z2, z3⟩ := HM7.out
       go_roundw
       case rel =>
        refine ⟨f2, i1 / 2, (size + 1) / 2, (m7 + 1) / 2, c8, mq3, cq3, p8, q3, aboveH L7, s, by go_num, rfl, rfl, by go_num, hal, by omega, by omega, by omega, by omega, by omega, by omega, by omega, ?_⟩
        refine ⟨HRES.out, dig_above HDL.out, HDP.out, by rw [hal], ?_, hp8, HPR.out, HPL.out, HB7.out.trans (hb8.mono HB7.out.size)⟩
        have ho9 := own_base ho8 HB7.out.size
        rw [hal] at ho9 ⊢
        exact ho9
       case measure => simp [intOf]; omega
     ·have HRES := Lib.hid (show finB root n (verH f2 ((size + 1) / 2) (i1 / 2) (aboveH lv1) pf1) = R by
       have := HV5.out.res
       unfold verR at this
       rw [if_neg (by rw [hlv1, ← hkk]; exact hk2)] at this
       exact this)
      have HB7 := Lib.hid HV5.out.bl
      have HDL := Lib.hid HV5.out.dig
      have HDP := Lib.hid HV5.out.digp
      have HPR := Lib.hid HV5.out.prf
      have HPL := Lib.hid HV5.out.len
      have HST := Lib.hid HV5.out.lvl
      have hal : (aboveH lv1).length = (m1 + 1) / 2 := by rw [aboveH_len, hlv1]
      have HKK := Lib.hid hkk
      have hfit : i1 + m1 ≤ size := hs1
      clear HV5
      by_cases hko : kk % 2 = 1
      ·have ek : (kk : Int) % 2 = 1 := by omega
       have ek1 : ¬ (kk : Int) < (size : Int) := by omega
       clear hkk
       go_upto_region 18 with fail
       clear ek ek1 ekw
       have hkk := HKK.out
       go_wp2_with (go_at_call 38; refine (above_ex _ m1 _ lv1 _ hlv1 (by omega) (HDL.out.size.mono (by omega)) HST.out).mono ?_; rintro e w8 ⟨v8, rfl, ho8, hb8⟩; obtain ⟨p8, c8, rfl, hc8, hp8⟩ := strs_slice ho8)
       go_roundw
       case rel =>
        refine ⟨f2, i1 / 2, (size + 1) / 2, (m1 + 1) / 2, c8, mq2, cq2, p8, q2, aboveH lv1, pf1, by go_num, rfl, rfl, by go_num, hal, by omega, by omega, by omega, by omega, by omega, by omega, by omega, ?_⟩
        refine ⟨HRES.out, dig_above HDL.out, HDP.out, by rw [hal], ?_, hp8, HPR.out, HPL.out, HB7.out.trans (hb8.mono HB7.out.size)⟩
        have ho9 := own_base ho8 HB7.out.size
        rw [hal] at ho9 ⊢
        exact ho9
       case measure => simp [intOf]; omega
      ·have ek : ¬ (kk : Int) % 2 = 1 := by omega
       clear hkk
       go_upto_region 18 with fail
       clear ek ekw
       have hkk := HKK.out
       go_wp2_with (go_at_call 38; refine (above_ex _ m1 _ lv1 _ hlv1 (by omega) (HDL.out.size.mono (by omega)) HST.out).mono ?_; rintro e w8 ⟨v8, rfl, ho8, hb8⟩; obtain ⟨p8, c8, rfl, hc8, hp8⟩ := strs_slice ho8)
       go_roundw
       case rel =>
        refine ⟨f2, i1 / 2, (size + 1) / 2, (m1 + 1) / 2, c8, mq2, cq2, p8, q2, aboveH lv1, pf1, by go_num, rfl, rfl, by go_num, hal, by omega, by omega, by omega, by omega, by omega, by omega, by omega, ?_⟩
        refine ⟨HRES.out, dig_above HDL.out, HDP.out, by rw [hal], ?_, hp8, HPR.out, HPL.out, HB7.out.trans (hb8.mono HB7.out.size)⟩
        have ho9 := own_base ho8 HB7.out.size
        rw [hal] at ho9 ⊢
        exact ho9
       case measure => simp [intOf]; omega
   ·have ei : ¬ (i : Int) % 2 = 1 := by omega
    have HV5 := Lib.hid (show VV w R root n (verR f2 size i lv pf) (.slice p' m c) p' q' mq c lv pf wr from ⟨by rw [← verH_even h2 hi2]; exact HV.out.res, HV.out.dig, HV.out.digp, HV.out.vp, HV.out.own, HV.out.lvl, HV.out.prf, HV.out.len, HV.out.bl⟩)
    clear HV
    go_upto_region 12 with fail
    clear ei
    have hev : i % 2 = 0 := by omega
    have hmc2 : mq ≤ cq := hmc
    have hmq3 : mq ≤ 4000000 := hmq
    have hlv1 := hlv
    have h1m := h1
    have hs1 := him
    have hi1s := hi
    clear hmc hmq hlv h1 him hi
    revert HV5 hev hmc2 hmq3 hlv1 h1m hs1 hi1s
    generalize i = i1
    generalize m = m1
    generalize c = c1
    generalize p' = p1
    generalize lv = lv1
    generalize pf = pf1
    generalize mq = mq2
    generalize cq = cq2
    generalize q' = q2
    intro HV5 hev hmc2 hmq3 hlv1 h1m hs1 hi1s
    have hbs5 := HV5.out.bl.size
    have hm14 : m1 ≤ 1048577 := by omega
    obtain ⟨kk, hkk⟩ : ∃ kk, kk = i1 + m1 := ⟨_, rfl⟩
    have ekw : (i1 : Int) + (m1 : Int) = (kk : Int) := by omega
    by_cases hk2 : kk % 2 = 1 ∧ kk < size
    ·have ek : (kk : Int) % 2 = 1 := by omega
     have ek1 : (kk : Int) < (size : Int) := by omega
     have hcond : (i1 + lv1.length) % 2 = 1 ∧ i1 + lv1.length < size := by rw [hlv1, ← hkk]; exact hk2
     cases pf1 with
     | nil =>
      have hRf : R = false := by have := HV5.out.res; unfold verR at this; rw [if_pos hcond] at this; exact this.symm
      have hm0 : mq2 = 0 := by have := HV5.out.len; simpa using this.symm
      have HB := Lib.hid HV5.out.bl
      have HRF := Lib.hid hRf
      clear HV5 hRf
      subst hm0
      clear hkk
      go_wp2_with fail
      go_ret
      exact ⟨by rw [← HRE.out, HRF.out]; rfl, HB.out⟩
     | cons y s =>
      have hms : mq2 = s.length + 1 := by have := HV5.out.len; simpa using this.symm
      have ep : ((mq2 : Int) == 0) = false := by simp; omega
      have ep1 : (0 : Int) < (mq2 : Int) := by omega
      have ep2 : (1 : Int) ≤ (mq2 : Int) := by omega
      have ep3 : (mq2 : Int) ≤ (cq2 : Int) := by omega
      obtain ⟨qb2, qo2, rfl, hqb2, hqc2⟩ := HV5.out.prf.at (j := 0) (by simp)
      have hqe2 : w.cell? ⟨qb2, qo2, none⟩ = some (.string y) := hqc2 0 (by simp)
      have hqe3 := (HV5.out.bl.cell (p := ⟨qb2, qo2, none⟩) hqb2).trans hqe2
      have HOW := Lib.hid (show wr.ownsRow w.heap.size 9 1 (.slice p1 m1 c1) m1 (strV lv1) by have := HV5.out.own; rwa [hlv1] at this)
      have HMS := Lib.hid hms
      have HKK := Lib.hid hkk
      clear hms hkk hqc2 hqe2
      go_upto_region 17 with (at_builtin; refine appS (w := wr) rfl _ _ rfl rfl HOW.out rfl hlv1 (by omega) hbs5 ?_; intro g7 c7 w7 hown7 hgr7 hat7)
      have HB7 := Lib.hid (below_own HV5.out.bl HOW.out (Nat.le_refl _) hgr7)
      have HRES := Lib.hid (show finB root n (verH f2 ((size + 1) / 2) (i1 / 2) (aboveH (lv1 ++ [y])) s) = R by have := HV5.out.res; unfold verR at this; rw [if_pos hcond] at this; exact this)
      have HDL := Lib.hid (show DigL (lv1 ++ [y]) from fun z hz => by
       rcases List.mem_append.mp hz with h | h
       ·exact HV5.out.dig z h
       ·rw [List.mem_singleton] at h
        subst h
        exact HV5.out.digp _ (List.mem_cons_self ..))
      have HDP := Lib.hid (show DigL s from fun z hz => HV5.out.digp z (List.mem_cons_of_mem _ hz))
      have hll : (lv1 ++ [y]).length = m1 + 1 := by rw [List.length_append, hlv1]; rfl
      have hal : (aboveH (lv1 ++ [y])).length = (m1 + 1 + 1) / 2 := by rw [aboveH_len, hll]
      have HPR := Lib.hid (HV5.out.prf.tail' (c := cq2) (by have := HMS.out; omega))
      have HPL := Lib.hid (show s.length = mq2 - 1 by have := HMS.out; omega)
      have HST := Lib.hid (show StrL w7 (some ⟨g7, 0, none⟩) (lv1 ++ [y]) by obtain ⟨p9, c9, h9, _, h10⟩ := strs_slice hown7; injection h9 with h9 _ _; subst h9; exact h10)
      clear hown7 hgr7 hat7 HOW HV5 hqe3
      go_upto_region 18 with fail
      have HKI := HKK.out
      clear ep ep1 ep2 ep3 ek ek1 ekw
      obtain ⟨q3, hq3⟩ : ∃ q3, q3 = (if cq2 = 1 then some (⟨qb2, qo2, none⟩ : Addr) else some ⟨qb2, qo2 + 1, none⟩) := ⟨_, rfl⟩
      obtain ⟨mq3, hq3m⟩ : ∃ k, k = mq2 - 1 := ⟨_, rfl⟩
      obtain ⟨cq3, hcq3⟩ : ∃ k, k = cq2 - 1 := ⟨_, rfl⟩
      rw [← hq3] at HPR
      rw [← hq3m] at HPL
      rw [← hq3, ← hq3m, ← hcq3]
      clear hq3
      obtain ⟨m7, hm7⟩ : ∃ k, k = m1 + 1 := ⟨_, rfl⟩
      rw [← hm7] at hll hal
      rw [← hm7]
      obtain ⟨L7, hL7⟩ : ∃ l, l = lv1 ++ [y] := ⟨_, rfl⟩
      rw [← hL7] at hll hal HRES HDL HST
      clear hL7
      have HM7 := Lib.hid (show m7 = m1 + 1 ∧ mq3 = mq2 - 1 ∧ cq3 = cq2 - 1 from ⟨hm7, hq3m, hcq3⟩)
      have hm7b : m7 ≤ 1048576 := by have := HKK.out; omega
      clear hm7 hq3m hcq3 HKI
      go_wp2_with (go_at_call 38; refine (above_ex _ m7 _ L7 _ hll (by omega) (HDL.out.size.mono (by omega)) HST.out).mono ?_; rintro e w8 ⟨v8, rfl, ho8, hb8⟩; obtain ⟨p8, c8, rfl, hc8, hp8⟩ := strs_slice ho8)
      have z0 := HKK.out
      obtain ⟨z1, z2, z3⟩ := HM7.out
      go_roundw
      case rel =>
       refine ⟨f2, i1 / 2, (size + 1) / 2, (m7 + 1) / 2, c8, mq3, cq3, p8, q3, aboveH L7, s, by go_num, rfl, rfl, by go_num, hal, by omega, by omega, by omega, by omega, by omega, by omega, by omega, ?_⟩
       refine ⟨HRES.out, dig_above HDL.out, HDP.out, by rw [hal], ?_, hp8, HPR.out, HPL.out, HB7.out.trans (hb8.mono HB7.out.size)⟩
       have ho9 := own_base ho8 HB7.out.size
       rw [hal] at ho9 ⊢
       exact ho9
      case measure => simp [intOf]; omega
    ·have HRES := Lib.hid (show finB root n (verH f2 ((size + 1) / 2) (i1 / 2) (aboveH lv1) pf1) = R by
      have := HV5.out.res
      unfold verR at this
      rw [if_neg (by rw [hlv1, ← hkk]; exact hk2)] at this
      exact this)
     have HB7 := Lib.hid HV5.out.bl
     have HDL := Lib.hid HV5.out.dig
     have HDP := Lib.hid HV5.out.digp
     have HPR := Lib.hid HV5.out.prf
     have HPL := Lib.hid HV5.out.len
     have HST := Lib.hid HV5.out.lvl
     have hal : (aboveH lv1).length = (m1 + 1) / 2 := by rw [aboveH_len, hlv1]
     have HKK := Lib.hid hkk
     have hfit : i1 + m1 ≤ size := hs1
     clear HV5
     by_cases hko : kk % 2 = 1
     ·have ek : (kk : Int) % 2 = 1 := by omega
      have ek1 : ¬ (kk : Int) < (size : Int) := by omega
      clear hkk
      go_upto_region 18 with fail
      clear ek ek1 ekw
      have hkk := HKK.out
      go_wp2_with (go_at_call 38; refine (above_ex _ m1 _ lv1 _ hlv1 (by omega) (HDL.out.size.mono (by omega)) HST.out).mono ?_; rintro e w8 ⟨v8, rfl, ho8, hb8⟩; obtain ⟨p8, c8, rfl, hc8, hp8⟩ := strs_slice ho8)
      go_roundw
      case rel =>
       refine ⟨f2, i1 / 2, (size + 1) / 2, (m1 + 1) / 2, c8, mq2, cq2, p8, q2, aboveH lv1, pf1, by go_num, rfl, rfl, by go_num, hal, by omega, by omega, by omega, by omega, by omega, by omega, by omega, ?_⟩
       refine ⟨HRES.out, dig_above HDL.out, HDP.out, by rw [hal], ?_, hp8, HPR.out, HPL.out, HB7.out.trans (hb8.mono HB7.out.size)⟩
       have ho9 := own_base ho8 HB7.out.size
       rw [hal] at ho9 ⊢
       exact ho9
      case measure => simp [intOf]; omega
     ·have ek : ¬ (kk : Int) % 2 = 1 := by omega
      clear hkk
      go_upto_region 18 with fail
      clear ek ekw
      have hkk := HKK.out
      go_wp2_with (go_at_call 38; refine (above_ex _ m1 _ lv1 _ hlv1 (by omega) (HDL.out.size.mono (by omega)) HST.out).mono ?_; rintro e w8 ⟨v8, rfl, ho8, hb8⟩; obtain ⟨p8, c8, rfl, hc8, hp8⟩ := strs_slice ho8)
      go_roundw
      case rel =>
       refine ⟨f2, i1 / 2, (size + 1) / 2, (m1 + 1) / 2, c8, mq2, cq2, p8, q2, aboveH lv1, pf1, by go_num, rfl, rfl, by go_num, hal, by omega, by omega, by omega, by omega, by omega, by omega, by omega, ?_⟩
       refine ⟨HRES.out, dig_above HDL.out, HDP.out, by rw [hal], ?_, hp8, HPR.out, HPL.out, HB7.out.trans (hb8.mono HB7.out.size)⟩
       have ho9 := own_base ho8 HB7.out.size
       rw [hal] at ho9 ⊢
       exact ho9
      case measure => simp [intOf]; omega
  ·have hs1 : size = 1 := by omega
   have hm1 : m = 1 := by omega
   subst hs1 hm1
   have e1 : ¬ (1 : Int) < ((1 : Nat) : Int) := by omega
   match lv, hlv with
   | [x], _ =>
    have hres := HV.out.res
    rw [verH_end (by omega)] at hres
    obtain ⟨b, off, rfl, hbb, hc⟩ := HV.out.lvl.at (j := 0) (by simp)
    have hc0 : wr.cell? ⟨b, off, none⟩ = some (.string x) := hc 0 (by simp)
    have HB := Lib.hid HV.out.bl
    have hxs : x.size ≤ 64 := HV.out.dig.size x (by simp)
    have hpl := HV.out.len
    by_cases hq0 : mq = 0
    ·have hpf0 : pf = [] := List.eq_nil_of_length_eq_zero (by omega)
     subst hq0 hpf0
     have HG1 := Lib.hid (HG.out.below HB.out)
     have HRT := Lib.hid (rootText_ex n x wr hn (by omega) HG1.out)
     have hrs := rootT_size n x hn (by omega)
     have HXE := Lib.hid (fun W => hex_ex (rootT n x) W (by omega))
     have HRS := Lib.hid (show decide (hexF (rootT n x) = root) = R from hres)
     clear hres hc HV hpl
     generalize rootT n x = rt at HRT hrs HXE HRS
     generalize hexF rt = H at HXE HRS
     go_wp2_with (first
      | (go_at_call 72; refine HRT.out.mono ?_; rintro e w3 ⟨rfl, hb3⟩)
      | (go_at_call 15; refine (HXE.out _).mono ?_; rintro e w4 ⟨rfl, hb4⟩))
     go_ret
     exact ⟨by rw [← HRE.out, ← HRS.out, ← beqB]; rfl, HB.out.trans ((hb3.trans (hb4.mono hb3.size)).mono HB.out.size)⟩
    ·have hR : R = false := by
      cases pf with
      | nil => exact absurd hpl.symm hq0
      | cons a t => exact hres.symm
     have HRF := Lib.hid hR
     have ep : ((mq : Int) == 0) = false := by simp; omega
     clear hres hc HV hpl hR
     go_wp2_with fail
     go_ret
     exact ⟨by rw [← HRE.out, HRF.out]; rfl, HB.out⟩
end Go.Proofs.YtnaglmigkbbljaaGreatDoor
