/-
  TopTransferred: the order of keys; valid lists of pairs and sessions; one element set, one inserted.
-/
import Derived.Test.YtnaglmigkbbljaaGreatDoorStCStE
set_option maxHeartbeats 6400000
set_option maxRecDepth 1000000
set_option linter.unusedVariables false
set_option linter.unusedSimpArgs false
namespace Go.Proofs.YtnaglmigkbbljaaGreatDoor
open Go Go.RowKit
theorem cmp_cases : ∀ (a b : List UInt8), (Lib.compareBytes a b = 0 ∧ a = b) ∨ (Lib.compareBytes a b = -1 ∧ Lib.compareBytes b a = 1 ∧ a ≠ b) ∨ (Lib.compareBytes a b = 1 ∧ Lib.compareBytes b a = -1 ∧ a ≠ b)
 | [], [] => .inl ⟨rfl, rfl⟩
 | [], _ :: _ => .inr (.inl ⟨rfl, rfl, by simp⟩)
 | _ :: _, [] => .inr (.inr ⟨rfl, rfl, by simp⟩)
 | a :: p, b :: q => by
  simp only [Lib.compareBytes]
  by_cases h1 : a < b
  ·have h2 : ¬ b < a := UInt8.lt_asymm h1
   right; left
   rw [if_pos h1, if_neg h2, if_pos h1]
   exact ⟨rfl, rfl, fun e => by injection e with e; subst e; exact UInt8.lt_irrefl _ h1⟩
  ·by_cases h2 : b < a
   ·right; right
    rw [if_neg h1, if_pos h2, if_pos h2]
    exact ⟨rfl, rfl, fun e => by injection e with e; subst e; exact UInt8.lt_irrefl _ h2⟩
   ·have hab : a = b := by
     apply UInt8.le_antisymm
     ·exact UInt8.not_lt.mp h2
     ·exact UInt8.not_lt.mp h1
    subst hab
    rw [if_neg h1, if_neg h1, if_neg h1, if_neg h1]
    rcases cmp_cases p q with ⟨h, e⟩ | ⟨h, h', e⟩ | ⟨h, h', e⟩
    ·exact .inl ⟨h, by rw [e]⟩
    ·exact .inr (.inl ⟨h, h', fun x => e (by injection x)⟩)
    ·exact .inr (.inr ⟨h, h', fun x => e (by injection x)⟩)
theorem cmp_trans : ∀ (a b c : List UInt8), Lib.compareBytes a b = -1 → Lib.compareBytes b c = -1 → Lib.compareBytes a c = -1
 | [], [], _, h, _ => by simp [Lib.compareBytes] at h
 | [], _ :: _, [], _, h => by simp [Lib.compareBytes] at h
 | [], _ :: _, _ :: _, _, _ => rfl
 | _ :: _, [], _, h, _ => by simp [Lib.compareBytes] at h
 | _ :: _, _ :: _, [], _, h => by simp [Lib.compareBytes] at h
 | a :: p, b :: q, c :: r, h1, h2 => by
  simp only [Lib.compareBytes] at h1 h2 ⊢
  by_cases ab : a < b
  ·by_cases bc : b < c
   ·rw [if_pos (UInt8.lt_trans ab bc)]
   ·rw [if_neg bc] at h2
    by_cases cb : c < b
    ·rw [if_pos cb] at h2; simp at h2
    ·have : b = c := UInt8.le_antisymm (UInt8.not_lt.mp cb) (UInt8.not_lt.mp bc)
     subst this
     rw [if_pos ab]
  ·rw [if_neg ab] at h1
   by_cases ba : b < a
   ·rw [if_pos ba] at h1; simp at h1
   ·have : a = b := UInt8.le_antisymm (UInt8.not_lt.mp ba) (UInt8.not_lt.mp ab)
    subst this
    rw [if_neg ba] at h1
    by_cases ac : a < c
    ·rw [if_pos ac]
    ·rw [if_neg ac] at h2 ⊢
     by_cases ca : c < a
     ·rw [if_pos ca] at h2; simp at h2
     ·rw [if_neg ca] at h2 ⊢
      exact cmp_trans p q r h1 h2
theorem bytes_ext {a b : ByteArray} (h : a.data.toList = b.data.toList) : a = b := by
 cases a with | mk a => cases b with | mk b =>
 simp at h
 rw [h]
def kLt (a b : ByteArray) : Prop := Lib.compareBytes a.data.toList b.data.toList = -1
theorem kLt_trans {a b c : ByteArray} (h1 : kLt a b) (h2 : kLt b c) : kLt a c := cmp_trans _ _ _ h1 h2
theorem kLt_of {a b : ByteArray} (h : Lib.compareBytes a.data.toList b.data.toList < 0) : kLt a b := by
 rcases cmp_cases a.data.toList b.data.toList with ⟨e, _⟩ | ⟨e, _⟩ | ⟨e, _⟩
 ·omega
 ·exact e
 ·omega
theorem kLt_gt {a b : ByteArray} (h : 0 ≤ Lib.compareBytes a.data.toList b.data.toList) (hne : Lib.compareBytes a.data.toList b.data.toList ≠ 0) : kLt b a := by
 rcases cmp_cases a.data.toList b.data.toList with ⟨e, _⟩ | ⟨e, _⟩ | ⟨_, e, _⟩
 ·exact absurd e hne
 ·omega
 ·exact e
theorem key_eq {a b : ByteArray} (h : Lib.compareBytes a.data.toList b.data.toList = 0) : a = b := by
 rcases cmp_cases a.data.toList b.data.toList with ⟨_, e⟩ | ⟨e, _⟩ | ⟨e, _⟩
 ·exact bytes_ext e
 ·omega
 ·omega
def okP (x : Par) : Prop := grB x.k 64 = true ∧ grB x.v 256 = true ∧ 1 ≤ x.ver ∧ x.ver ≤ 1000000000000
def VP (L : List Par) : Prop := L.Pairwise (fun x y => kLt x.k y.k) ∧ ∀ x ∈ L, okP x
def okS (x : Ses) : Prop := x.c ≤ 5 ∧ 1 ≤ x.n ∧ x.n ≤ 1000000 ∧ x.r.size ≤ 400
def VS (L : List Ses) : Prop := L.Pairwise (fun x y => x.c < y.c) ∧ ∀ x ∈ L, okS x
theorem pw_get {α : Type} {R : α → α → Prop} : ∀ {L : List α}, L.Pairwise R → ∀ {i j : Nat} {x y : α}, L[i]? = some x → L[j]? = some y → i < j → R x y
 | [], _, i, j, x, y, h, _, _ => by simp at h
 | a :: t, h, 0, j + 1, x, y, hx, hy, _ => by
  simp at hx hy
  subst hx
  exact (List.pairwise_cons.mp h).1 y (List.mem_of_getElem? hy)
 | a :: t, h, i + 1, j + 1, x, y, hx, hy, hij => by
  simp at hx hy
  exact pw_get (List.pairwise_cons.mp h).2 hx hy (by omega)
 | a :: t, h, i, 0, x, y, _, _, hij => by omega
theorem mono_par {L : List Par} (h : L.Pairwise fun x y => kLt x.k y.k) (t : ByteArray) : Mono (cfPar t) L := fun i j x y hx hy hij hlt => by
 by_cases e : i = j
 ·subst e; rw [hx] at hy; cases hy; exact hlt
 ·have h1 := pw_get h hx hy (by omega)
  have h2 := kLt_trans h1 (kLt_of hlt)
  unfold kLt at h2
  show Lib.compareBytes _ _ < 0
  rw [h2]; decide
theorem mono_ses {L : List Ses} (h : L.Pairwise fun x y => x.c < y.c) (t : Int) : Mono (cfSes t) L := fun i j x y hx hy hij hlt => by
 by_cases e : i = j
 ·subst e; rw [hx] at hy; cases hy; exact hlt
 ·have h1 := pw_get h hx hy (by omega)
  unfold cfSes at *
  omega
theorem pw_insert {α : Type} {R : α → α → Prop} {L : List α} {i : Nat} {x : α} (h : L.Pairwise R) (h1 : ∀ k y, L[k]? = some y → k < i → R y x) (h2 : ∀ k y, L[k]? = some y → i ≤ k → R x y) : (L.take i ++ x :: L.drop i).Pairwise R := by
 have h0 : (L.take i ++ L.drop i).Pairwise R := by rw [List.take_append_drop]; exact h
 rw [List.pairwise_append] at h0
 rw [List.pairwise_append, List.pairwise_cons]
 refine ⟨h0.1, ⟨fun y hy => ?_, h0.2.1⟩, fun a ha b hb => ?_⟩
 ·obtain ⟨k, hk, rfl⟩ := List.getElem_of_mem hy
  rw [List.getElem_drop]
  rw [List.length_drop] at hk
  exact h2 (i + k) _ (List.getElem?_eq_getElem (by omega)) (by omega)
 ·rcases List.mem_cons.mp hb with rfl | hb
  ·obtain ⟨k, hk, rfl⟩ := List.getElem_of_mem ha
   rw [List.getElem_take]
   rw [List.length_take] at hk
   exact h1 k _ (List.getElem?_eq_getElem (by omega)) (by omega)
  ·exact h0.2.2 a ha b hb
theorem pw_set {α : Type} {R : α → α → Prop} {L : List α} {i : Nat} {x z : α} (h : L.Pairwise R) (hz : L[i]? = some z) (h1 : ∀ y, R y z → R y x) (h2 : ∀ y, R z y → R x y) : (L.set i x).Pairwise R := by
 rw [List.pairwise_iff_getElem] at h ⊢
 intro a b ha hb hab
 simp only [List.length_set] at ha hb
 have h3 := h a b ha hb hab
 obtain ⟨hi, rfl⟩ := List.getElem?_eq_some_iff.mp hz
 rw [List.getElem_set, List.getElem_set]
 by_cases e1 : i = a
 ·subst e1
  rw [if_pos rfl, if_neg (by omega)]
  exact h2 _ h3
 ·rw [if_neg e1]
  by_cases e2 : i = b
  ·subst e2
   rw [if_pos rfl]
   exact h1 _ h3
  ·rw [if_neg e2]
   exact h3
theorem pw_erase {α : Type} {R : α → α → Prop} {L : List α} {i : Nat} (h : L.Pairwise R) : (L.take i ++ L.drop (i + 1)).Pairwise R := by
 refine List.Pairwise.sublist ?_ h
 have : L = L.take i ++ L.drop i := (List.take_append_drop i L).symm
 conv => rhs; rw [this]
 refine List.Sublist.append (List.Sublist.refl _) ?_
 rw [← List.drop_drop, ]
 exact List.drop_sublist 1 _
theorem flat_set {α : Type} {enc : α → List Value} (h : Enc3 enc) {L : List α} {i j : Nat} {x x' : α} {u : Value} (hx : L[i]? = some x) (hj : j < 3) (he : enc x' = (enc x).set j u) : (flat enc L).set (i * 3 + j) u = flat enc (L.set i x') := by
 obtain ⟨hi, rfl⟩ := List.getElem?_eq_some_iff.mp hx
 have e1 : L = L.take i ++ L[i] :: L.drop (i + 1) := by rw [List.getElem_cons_drop, List.take_append_drop]
 have hl : (flat enc (L.take i)).length = i * 3 := by rw [flat_length h, List.length_take]; omega
 have e2 : flat enc L = flat enc (L.take i) ++ (enc L[i] ++ flat enc (L.drop (i + 1))) := by
  conv => lhs; rw [e1]
  rw [flat_append]
  rfl
 have e3 : L.set i x' = L.take i ++ x' :: L.drop (i + 1) := by rw [List.set_eq_take_append_cons_drop, if_pos hi]
 rw [e2, e3, flat_append, List.set_append_right _ _ (by omega), hl, show i * 3 + j - i * 3 = j by omega, List.set_append_left _ _ (by rw [h.len]; exact hj), ← he]
 simp [flat]
theorem own_cell {α : Type} {enc : α → List Value} (h : Enc3 enc) {w : World} {base n cap g i j : Nat} {T : TypeId} {L : List α} {x x' : α} {u : Value} (ho : w.ownsRow base T 3 (.slice (some ⟨g, 0, none⟩) n cap) n (flat enc L)) (hx : L[i]? = some x) (hj : j < 3) (he : enc x' = (enc x).set j u) :
  (w.setCell ⟨g, i * 3 + j, none⟩ u).ownsRow base T 3 (.slice (some ⟨g, 0, none⟩) n cap) n (flat enc (L.set i x')) ∧ w.cell? ⟨g, i * 3 + j, none⟩ = (enc x)[j]? ∧ w.frozen? ⟨g, i * 3 + j, none⟩ = false ∧ base ≤ g := by
 rcases ho.2 with ⟨h1, _⟩ | ⟨g', cap', cur, h1, hb, hc, hcap, hmax, hsz, hxs⟩
 ·cases h1
 ·injection h1 with h1 _ h2
  injection h1 with h1
  injection h1 with h1
  subst h1; subst h2
  have hi : i < L.length := (List.getElem?_eq_some_iff.mp hx).1
  have hn : L.length = n := by have := ho.1; rw [flat_length h] at this; omega
  have hcell : cur.toList[i * 3 + j]? = (enc x)[j]? := by
   rw [← flat_get h hx hj, ← hxs, List.getElem?_take, if_pos (by omega)]
  refine ⟨⟨by rw [flat_length h, List.length_set, hn], .inr ⟨g, cap, cur.setIfInBounds (i * 3 + j) u, rfl, hb, ?_, hcap, hmax, by simp [hsz], ?_⟩⟩, ?_, frozenOf hc, hb⟩
  ·unfold World.setCell
   simp only [Array.getElem?_modify, hc, if_true, Option.map_some]
   rfl
  ·rw [Array.toList_setIfInBounds, List.take_set, hxs]
   exact flat_set h hx hj he
  ·rw [← hcell]
   unfold World.cell?
   rw [hc]
   simp
theorem ok_set {α : Type} {p : α → Prop} {L : List α} {i : Nat} {x : α} (h : ∀ y ∈ L, p y) (hx : p x) : ∀ y ∈ L.set i x, p y := fun y hy => by
 rcases List.mem_or_eq_of_mem_set hy with h1 | rfl
 ·exact h y h1
 ·exact hx
theorem ok_insert {α : Type} {p : α → Prop} {L : List α} {i : Nat} {x : α} (h : ∀ y ∈ L, p y) (hx : p x) : ∀ y ∈ L.take i ++ x :: L.drop i, p y := fun y hy => by
 rcases List.mem_append.mp hy with h1 | h1
 ·exact h y (List.mem_of_mem_take h1)
 ·rcases List.mem_cons.mp h1 with rfl | h1
  ·exact hx
  ·exact h y (List.mem_of_mem_drop h1)
theorem ok_erase {α : Type} {p : α → Prop} {L : List α} {i : Nat} (h : ∀ y ∈ L, p y) : ∀ y ∈ L.take i ++ L.drop (i + 1), p y := fun y hy => by
 rcases List.mem_append.mp hy with h1 | h1
 ·exact h y (List.mem_of_mem_take h1)
 ·exact h y (List.mem_of_mem_drop h1)
end Go.Proofs.YtnaglmigkbbljaaGreatDoor
/-
  TopTransferred: store.put keeps a store valid.
-/
namespace Go.Proofs.YtnaglmigkbbljaaGreatDoor
open Go Go.RowKit
def PrV (W : World) (v : Value) (L : List Par) : Prop := ∃ p c, v = .slice p L.length c ∧ L.length ≤ c ∧ FL encP W p L ∧ (p = none ∨ ∃ b off, p = some ⟨b, off, none⟩ ∧ b < W.heap.size)
theorem PrV.below {W W' : World} {v : Value} {L : List Par} (h : PrV W v L) (hb : Below W.heap.size W W') : PrV W' v L := by
 obtain ⟨p, c, h1, h2, h3, h4⟩ := h
 refine ⟨p, c, h1, h2, h3.below hb, ?_⟩
 rcases h4 with h4 | ⟨b, off, h4, h5⟩
 ·exact .inl h4
 ·exact .inr ⟨b, off, h4, Nat.lt_of_lt_of_le h5 hb.size⟩
theorem prv_of_own {w : World} {base n : Nat} {v : Value} {L : List Par} (h : w.ownsRow base 115 3 v n (flat encP L)) : PrV w v L := by
 have hn : L.length = n := by have := h.1; rw [flat_length encP3] at this; omega
 obtain ⟨p, cap, rfl, hc, hf⟩ := fl_of_own h
 subst hn
 refine ⟨p, cap, rfl, hc, hf, ?_⟩
 rcases h.2 with ⟨h1, _⟩ | ⟨g, cap', cur, h1, _, h2, _⟩
 ·injection h1 with h1; exact .inl h1
 ·injection h1 with h1; exact .inr ⟨g, 0, h1, (Array.getElem?_eq_some_iff.mp h2).1⟩
def PairsRet (m : Nat) (w : World) (e : Ending) (w' : World) : Prop :=
 ∃ v L s, e = .returned (.tuple #[v, .string s]) ∧ PrV w' v L ∧ VP L ∧ L.length ≤ m ∧ s.size ≤ 400 ∧ Below w.heap.size w w'
theorem own_some {w : World} {base n : Nat} {T : TypeId} {v : Value} {xs : List Value} (h : w.ownsRow base T 3 v n xs) (hn : 0 < n) : ∃ g cap, v = .slice (some ⟨g, 0, none⟩) n cap := by
 rcases h.2 with ⟨_, h0⟩ | ⟨g, cap, cur, h1, _⟩
 ·omega
 ·exact ⟨g, cap, h1⟩
theorem min_ver (v : Nat) (hv : v ≤ 1000000000000) : ∃ m : Nat, 1 ≤ m ∧ m ≤ 1000000000000 ∧ min ((v : Int) + 1) 1000000000000 = (m : Int) := by
 by_cases h : v + 1 ≤ 1000000000000
 ·refine ⟨v + 1, Nat.succ_pos v, h, ?_⟩
  rw [Int.min_eq_left (by omega)]
  omega
 ·refine ⟨1000000000000, by decide, Nat.le_refl _, ?_⟩
  rw [Int.min_eq_right (by omega)]
  rfl
theorem put_any (pv : Value) (L : List Par) (k v : ByteArray) (w : World) (hP : PrV w pv L) (hL : VP L) (hn : L.length ≤ 60) (hk : grB k 64 = true) (hv : grB v 256 = true) (hG : GL w) : Calls Tryz.prog 81 #[pv, .string k, .string v] w (PairsRet (L.length + 1) w) := by
 obtain ⟨p, c, rfl, hc, hF, hp⟩ := hP
 obtain ⟨n, hN⟩ : ∃ n, n = L.length := ⟨_, rfl⟩
 have HF := Lib.hid hF
 have HFI := Lib.hid (findPar_ex p n c L k w hN (by omega) (mono_par hL.1 k) hF)
 unfold BsPar at HFI
 have HCL := Lib.hid (fun W (hb : Below w.heap.size w W) => clonePar_ex p n c L W hN.symm (by omega) (hF.below hb) (fun _ => by rcases hp with h | ⟨b, off, h, _⟩; exact .inl h; exact .inr ⟨b, off, h⟩))
 have HLV := Lib.hid hL
 have HGB := Lib.hid (fun W (hb : Below w.heap.size w W) => hG.below hb)
 have hn60 : n ≤ 60 := by omega
 rw [← hN] at hc hn ⊢
 have HN := Lib.hid hN
 clear hF hp hL hG hN
 have HIT := Lib.hid (fun (m : Nat) (hm : m ≤ 1000000000000) W (hb : Below w.heap.size w W) => itoa_ex m W ⟨by omega, by omega⟩ (HGB.out W hb))
 have hn64 : ¬ ((64 : Int) ≤ (n : Int)) := by omega
 go_enter Tryz.func81, Tryz.ntmps81
 go_upto_region 2 with (go_at_call 80; refine HFI.out.mono ?_; rintro e w1 ⟨i, hcut, rfl, hb1⟩)
 have HC := Lib.hid hcut
 have HB1 := Lib.hid hb1
 have hi : i ≤ n := by rw [HN.out]; exact hcut.2.1
 clear hcut hb1
 cases hf : foundPar L k i with
 | true =>
  obtain ⟨x, hx, hxk⟩ : ∃ x, L[i]? = some x ∧ x.k = k := by
   unfold foundPar at hf
   cases hx : L[i]? with
   | none => rw [hx] at hf; simp at hf
   | some x => rw [hx] at hf; exact ⟨x, rfl, key_eq (of_decide_eq_true hf)⟩
  go_upto_region 7 with (go_at_call 83; refine (HCL.out _ HB1.out).mono ?_; rintro e w2 ⟨v2, rfl, ho2, hb2⟩)
  have HW2 := Lib.hid (HB1.out.trans (hb2.mono HB1.out.size))
  rw [← HN.out] at ho2
  have hver : x.ver ≤ 1000000000000 := (HLV.out.2 x (List.mem_of_getElem? hx)).2.2.2
  have hfin : ∀ m : Nat, 1 ≤ m ∧ m ≤ 1000000000000 → VP (L.set i ⟨x.k, v, m⟩) := fun m hm =>
   ⟨pw_set HLV.out.1 hx (fun y hy => hy) (fun y hy => hy), ok_set HLV.out.2 ⟨by rw [hxk]; exact hk, hv, hm.1, hm.2⟩⟩
  have hlen : L.length ≤ n + 1 := by have := HN.out; omega
  have him : i < n := by have := (List.getElem?_eq_some_iff.mp hx).1; have := HN.out; omega
  obtain ⟨L2, hL2⟩ : ∃ L2, L2 = L := ⟨_, rfl⟩
  obtain ⟨n2, hn2⟩ : ∃ n2, n2 = n := ⟨_, rfl⟩
  rw [← hL2] at ho2 hx hfin hlen
  rw [← hn2] at ho2 him ⊢
  clear hL2 hn2
  have HL2 := Lib.hid hx
  have hwb : w.heap.size ≤ w1.heap.size := HB1.out.size
  obtain ⟨g, cap, rfl⟩ := own_some ho2 (by omega)
  obtain ⟨o3, y1, z1, hbg⟩ := own_cell encP3 ho2 hx (j := 1) (x' := ⟨x.k, v, x.ver⟩) (u := .string v) (by decide) rfl
  replace y1 : w2.cell? ⟨g, i * 3 + 1, none⟩ = some (.string x.v) := y1
  have e0 : (0 : Int) ≤ (i : Int) := by omega
  have e1 : (i : Int) < (n2 : Int) := by omega
  have HO3 := Lib.hid o3
  have HW3 := Lib.hid (below_set HW2.out (p := ⟨g, i * 3 + 1, none⟩) (Nat.le_trans hwb hbg) (.string v))
  clear ho2 o3
  go_upto_region 8 with fail
  clear y1 z1
  generalize w2.setCell ⟨g, i * 3 + 1, none⟩ (.string v) = W3 at HO3 HW3 ⊢
  obtain ⟨m', hm0, hm1, hmm⟩ := min_ver x.ver hver
  have HM1 := Lib.hid (And.intro hm0 hm1)
  clear hm0 hm1
  have hx1 : (L2.set i ⟨x.k, v, x.ver⟩)[i]? = some ⟨x.k, v, x.ver⟩ := by rw [List.getElem?_set_self (List.getElem?_eq_some_iff.mp hx).1]
  obtain ⟨o4, y2, z2, _⟩ := own_cell encP3 HO3.out hx1 (j := 2) (x' := ⟨x.k, v, m'⟩) (u := .int .i64 m') (by decide) rfl
  replace y2 : W3.cell? ⟨g, i * 3 + 2, none⟩ = some (.int .i64 x.ver) := y2
  have HO4 := Lib.hid o4
  have HW4 := Lib.hid (below_set HW3.out (p := ⟨g, i * 3 + 2, none⟩) (Nat.le_trans hwb hbg) (.int .i64 m'))
  clear o4
  have ew : IntKind.i64.wrap ((x.ver : Int) + 1) = (x.ver : Int) + 1 := by rw [IntKind.wrap_i64]; omega
  clear hver
  go_upto_region 9 with fail
  have y3 : (W3.setCell ⟨g, i * 3 + 2, none⟩ (.int .i64 m')).cell? ⟨g, i * 3 + 2, none⟩ = some (.int .i64 m') := by
   have hx2 : ((L2.set i ⟨x.k, v, x.ver⟩).set i ⟨x.k, v, m'⟩)[i]? = some ⟨x.k, v, m'⟩ := by rw [List.getElem?_set_self (by rw [List.length_set]; exact (List.getElem?_eq_some_iff.mp hx).1)]
   exact (own_cell encP3 HO4.out hx2 (j := 2) (x' := ⟨x.k, v, m'⟩) (u := .int .i64 m') (by decide) rfl).2.1
  clear y2 z2 hmm ew
  generalize W3.setCell ⟨g, i * 3 + 2, none⟩ (.int .i64 m') = W4 at HO4 HW4 y3 ⊢
  have HI4 := Lib.hid (HIT.out m' HM1.out.2 W4 HW4.out)
  have his := itoaB_size (n := (m' : Int)) ⟨by omega, by have := HM1.out.2; omega⟩
  generalize itoaB (m' : Int) = sm at HI4 his
  go_wp2_with (go_at_call 34; refine HI4.out.mono ?_; rintro e w5 ⟨rfl, hb5⟩)
  go_ret2
  refine ⟨_, _, _, rfl, (prv_of_own HO4.out).below (hb5.mono (Nat.le_refl _)), ?_, ?_, ?_, HW4.out.trans (hb5.mono HW4.out.size)⟩
  ·rw [List.set_set]
   exact hfin m' HM1.out
  ·rw [List.length_set, List.length_set]; exact hlen
  ·rw [ByteArray.size_append]; show 3 + _ ≤ _; omega
 | false =>
  go_upto_region 6 with (go_at_call 83; refine (HCL.out _ HB1.out).mono ?_; rintro e w2 ⟨v2, rfl, ho2, hb2⟩)
  have HW2a := Lib.hid (HB1.out.trans (hb2.mono HB1.out.size))
  rw [← HN.out] at ho2
  obtain ⟨p2, cap2, rfl, _, _⟩ := fl_of_own ho2
  have hnvb : p2.map (·.block) ≠ some w2.heap.size := fun e => by
   rcases ho2.2 with ⟨h1, _⟩ | ⟨g, cap', cur, h1, _, h2, _⟩
   ·injection h1 with h1; rw [h1] at e; cases e
   ·injection h1 with h1; rw [h1] at e; injection e with e
    have := (Array.getElem?_eq_some_iff.mp h2).1
    simp at e
    omega
  have HINS := Lib.hid (insPar_ex w1.heap.size n i w2.heap.size p2 cap2 L ⟨k, ⟨#[]⟩, 0⟩ (w2.alloc (.cells #[.string k, .string ⟨#[]⟩, .int .i64 0] 115)) hi (by omega) (ho2.alloc _) hnvb (heap_alloc_new w2 _) (by have := hb2.size; simp; omega))
  have HWA := Lib.hid (HW2a.out.alloc HW2a.out.size (.cells #[.string k, .string ⟨#[]⟩, .int .i64 0] 115))
  clear ho2 hnvb
  go_upto_region 7 with (go_at_call 138; refine HINS.out.mono ?_; rintro e w3 ⟨v3, rfl, ho3, hb3⟩)
  have hl2 : (L.take i ++ (⟨k, ⟨#[]⟩, 0⟩ : Par) :: L.drop i).length = n + 1 := by
   have := HN.out
   simp
   omega
  rw [hl2] at ho3
  have hfin : ∀ m : Nat, 1 ≤ m ∧ m ≤ 1000000000000 → VP ((L.take i ++ (⟨k, ⟨#[]⟩, 0⟩ : Par) :: L.drop i).set i ⟨k, v, m⟩) := fun m hm => by
   have e : (L.take i ++ (⟨k, ⟨#[]⟩, 0⟩ : Par) :: L.drop i).set i ⟨k, v, m⟩ = L.take i ++ ⟨k, v, m⟩ :: L.drop i := by
    have hl : (L.take i).length = i := by have := HN.out; rw [List.length_take]; omega
    rw [List.set_append_right _ _ (by omega), hl, Nat.sub_self]
    rfl
   rw [e]
   refine ⟨pw_insert HLV.out.1 (fun j y hy hj => ?_) (fun j y hy hj => ?_), ok_insert HLV.out.2 ⟨hk, hv, hm.1, hm.2⟩⟩
   ·exact kLt_of (HC.out.2.2.1 j y hy hj)
   ·refine kLt_gt (HC.out.2.2.2 j y hy hj) (fun h0 => ?_)
    have h1 := HC.out.2.2.2 j y hy hj
    have hne : ∃ z, L[i]? = some z := ⟨_, List.getElem?_eq_getElem (by have := (List.getElem?_eq_some_iff.mp hy).1; omega)⟩
    obtain ⟨z, hz⟩ := hne
    have hz0 : cfPar k z ≠ 0 := fun h => by
     unfold foundPar at hf
     rw [hz] at hf
     simp [h] at hf
    by_cases hij : i = j
    ·subst hij
     rw [hz] at hy
     cases hy
     exact hz0 h0
    ·have h2 := pw_get HLV.out.1 hz hy (by omega)
     have h3 : y.k = k := key_eq h0
     rw [h3] at h2
     have h4 := HC.out.2.2.2 i z hz (Nat.le_refl _)
     unfold kLt at h2
     unfold cfPar at h4
     omega
  have him : i < n + 1 := by omega
  have hlen : (L.take i ++ (⟨k, ⟨#[]⟩, 0⟩ : Par) :: L.drop i).length ≤ n + 1 := by omega
  obtain ⟨x, hxe⟩ : ∃ x : Par, x = ⟨k, ⟨#[]⟩, 0⟩ := ⟨_, rfl⟩
  have hx : (L.take i ++ (⟨k, ⟨#[]⟩, 0⟩ : Par) :: L.drop i)[i]? = some x := by
   have hl : (L.take i).length = i := by have := HN.out; rw [List.length_take]; omega
   rw [List.getElem?_append_right (by omega), hl, Nat.sub_self, hxe]
   rfl
  have hver : x.ver ≤ 1000000000000 := by rw [hxe]; exact Nat.zero_le _
  have hxk : x.k = k := by rw [hxe]
  rw [← hxk] at hfin
  have HW2 := Lib.hid (HWA.out.trans (hb3.mono (by have := HB1.out.size; omega)))
  clear hxe hl2
  obtain ⟨L2, hL2⟩ : ∃ L2, L2 = L.take i ++ (⟨k, ⟨#[]⟩, 0⟩ : Par) :: L.drop i := ⟨_, rfl⟩
  obtain ⟨n2, hn2⟩ : ∃ n2, n2 = n + 1 := ⟨_, rfl⟩
  rw [← hL2] at ho3 hx hlen
  rw [hxk, ← hL2, ← hxk] at hfin
  rw [← hn2] at ho3 him
  clear hL2 hn2 HINS HWA HW2a
  have HL2 := Lib.hid hx
  have hwb : w.heap.size ≤ w1.heap.size := HB1.out.size
  obtain ⟨g, cap, rfl⟩ := own_some ho3 (by omega)
  obtain ⟨o3, y1, z1, hbg⟩ := own_cell encP3 ho3 hx (j := 1) (x' := ⟨x.k, v, x.ver⟩) (u := .string v) (by decide) rfl
  replace y1 : w3.cell? ⟨g, i * 3 + 1, none⟩ = some (.string x.v) := y1
  have e0 : (0 : Int) ≤ (i : Int) := by omega
  have e1 : (i : Int) < (n2 : Int) := by omega
  have HO3 := Lib.hid o3
  have HW3 := Lib.hid (below_set HW2.out (p := ⟨g, i * 3 + 1, none⟩) (Nat.le_trans hwb hbg) (.string v))
  clear ho3 o3
  go_upto_region 8 with fail
  clear y1 z1
  generalize w3.setCell ⟨g, i * 3 + 1, none⟩ (.string v) = W3 at HO3 HW3 ⊢
  obtain ⟨m', hm0, hm1, hmm⟩ := min_ver x.ver hver
  have HM1 := Lib.hid (And.intro hm0 hm1)
  clear hm0 hm1
  have hx1 : (L2.set i ⟨x.k, v, x.ver⟩)[i]? = some ⟨x.k, v, x.ver⟩ := by rw [List.getElem?_set_self (List.getElem?_eq_some_iff.mp hx).1]
  obtain ⟨o4, y2, z2, _⟩ := own_cell encP3 HO3.out hx1 (j := 2) (x' := ⟨x.k, v, m'⟩) (u := .int .i64 m') (by decide) rfl
  replace y2 : W3.cell? ⟨g, i * 3 + 2, none⟩ = some (.int .i64 x.ver) := y2
  have HO4 := Lib.hid o4
  have HW4 := Lib.hid (below_set HW3.out (p := ⟨g, i * 3 + 2, none⟩) (Nat.le_trans hwb hbg) (.int .i64 m'))
  clear o4
  have ew : IntKind.i64.wrap ((x.ver : Int) + 1) = (x.ver : Int) + 1 := by rw [IntKind.wrap_i64]; omega
  clear hver
  go_upto_region 9 with fail
  have y3 : (W3.setCell ⟨g, i * 3 + 2, none⟩ (.int .i64 m')).cell? ⟨g, i * 3 + 2, none⟩ = some (.int .i64 m') := by
   have hx2 : ((L2.set i ⟨x.k, v, x.ver⟩).set i ⟨x.k, v, m'⟩)[i]? = some ⟨x.k, v, m'⟩ := by rw [List.getElem?_set_self (by rw [List.length_set]; exact (List.getElem?_eq_some_iff.mp hx).1)]
   exact (own_cell encP3 HO4.out hx2 (j := 2) (x' := ⟨x.k, v, m'⟩) (u := .int .i64 m') (by decide) rfl).2.1
  clear y2 z2 hmm ew
  generalize W3.setCell ⟨g, i * 3 + 2, none⟩ (.int .i64 m') = W4 at HO4 HW4 y3 ⊢
  have HI4 := Lib.hid (HIT.out m' HM1.out.2 W4 HW4.out)
  have his := itoaB_size (n := (m' : Int)) ⟨by omega, by have := HM1.out.2; omega⟩
  generalize itoaB (m' : Int) = sm at HI4 his
  go_wp2_with (go_at_call 34; refine HI4.out.mono ?_; rintro e w5 ⟨rfl, hb5⟩)
  go_ret2
  refine ⟨_, _, _, rfl, (prv_of_own HO4.out).below (hb5.mono (Nat.le_refl _)), ?_, ?_, ?_, HW4.out.trans (hb5.mono HW4.out.size)⟩
  ·rw [List.set_set]
   exact hfin m' HM1.out
  ·rw [List.length_set, List.length_set]; exact hlen
  ·rw [ByteArray.size_append]; show 3 + _ ≤ _; omega
end Go.Proofs.YtnaglmigkbbljaaGreatDoor
/-
  TopTransferred: slices.Delete of one pair.
-/
namespace Go.Proofs.YtnaglmigkbbljaaGreatDoor
open Go Go.RowKit
def zPar : List Value := [.string ⟨#[]⟩, .string ⟨#[]⟩, .int .i64 0]
theorem run_clear_row {P : Program} (w : World) (t e ty T : TypeId) (z : Value) (zs : List Value) (ht : P.underlying t = some (.slice e)) (hv : ∀ w, (zeroValue e).run P w = .ok z w) (hz : z.cells = zs.toArray) (h1 : ∀ u ∈ zs, u.oneCell' = true)
  (g k c : Nat) (cur : Array Value) (hg : w.heap[g]? = some (.cells cur T (0, 0))) (hfit : k + zs.length ≤ cur.size) :
  (Builtin.clear_ #[t] ty #[.slice (some ⟨g, k, none⟩) 1 c]).run P w = .ok (.tuple #[]) (w.setRow g (cur.toList.take k ++ zs ++ cur.toList.drop (k + zs.length)).toArray) := by
 have hzc : (Builtin.zeroCells z.cells 1).toList = zs := by
  rw [hz]
  apply List.ext_getElem
  ·simp [Builtin.zeroCells]
  ·intro i h1 h2
   simp [Builtin.zeroCells]
   have : i % zs.length = i := Nat.mod_eq_of_lt h2
   simp [this, List.getElem?_eq_getElem h2]
 have hst := run_storeCells_at P g k T zs 0 cur w hg (by simpa using hfit) h1
 simp only [Nat.add_zero] at hst
 simp [Builtin.clear_, run_underlying ht, hv, hzc, hst]
theorem take_pre {α : Type} {A B : List α} {k : Nat} (h : A.length = k) : (A ++ B).take k = A := by rw [← h, List.take_left]
theorem own_rows {w : World} {base T n cap g : Nat} {xs : List Value} {s : Nat} (h : w.ownsRow base T s (.slice (some ⟨g, 0, none⟩) n cap) n xs) :
  ∃ cur : Array Value, w.heap[g]? = some (.cells cur T (0, 0)) ∧ n ≤ cap ∧ cap ≤ maxLen ∧ cur.size = cap * s ∧ cur.toList.take (n * s) = xs ∧ base ≤ g := by
 rcases h.2 with ⟨h1, _⟩ | ⟨g', cap', cur, h1, hb, hc, hcap, hmax, hsz, hx⟩
 ·cases h1
 ·injection h1 with h1 _ h2
  injection h1 with h1
  injection h1 with h1
  subst h1; subst h2
  exact ⟨cur, hc, hcap, hmax, hsz, hx, hb⟩
theorem delPar_ex (base n i g cap : Nat) (L : List Par) (w : World) (hi : i < n) (hn : n ≤ 1000) (hown : w.ownsRow base 115 3 (.slice (some ⟨g, 0, none⟩) n cap) n (flat encP L)) (hbase : base ≤ w.heap.size) :
  Calls Tryz.prog 82 #[.slice (some ⟨g, 0, none⟩) n cap, .int .i64 i, .int .i64 ((i + 1 : Nat) : Int)] w (FRet encP 115 base (L.take i ++ L.drop (i + 1)) w) := by
 obtain ⟨i0, hi0, hz0, hz1, hz2⟩ := info_parts Tryz.info115
 obtain ⟨cur, hg, hnc, hcm, hcs, hx, hbg⟩ := own_rows hown
 have hl : n = L.length := by have := hown.1; rw [flat_length encP3] at this; omega
 clear hown
 have hdl : (flat encP (L.drop (i + 1))).length = (n - (i + 1)) * 3 := by rw [flat_length encP3, List.length_drop, hl]
 obtain ⟨row1, hrow1⟩ : ∃ row1, row1 = (cur.toList.take (i * 3) ++ flat encP (L.drop (i + 1)) ++ cur.toList.drop (i * 3 + (flat encP (L.drop (i + 1))).length)) := ⟨_, rfl⟩
 have hr1 : row1.length = cap * 3 := by rw [hrow1]; simp [hdl, hcs]; omega
 have happ : ∀ (W : World), W.heap = w.heap → ∀ ty a c, ((n - (i + 1) = 0) ∨ a = ⟨g, (i + 1) * 3, none⟩) →
   (Builtin.append_ #[26, 26] ty #[.slice (some ⟨g, 0, none⟩) i cap, .slice (some a) (n - (i + 1)) c]).run Tryz.prog W = .ok (.slice (some ⟨g, 0, none⟩) (n - 1) cap) (W.setRow g row1.toArray) := fun W hW ty a c ha => by
  have hnews : ∀ j u, (flat encP (L.drop (i + 1)))[j]? = some u → W.cell? (a.add j) = some u := fun j u hj => by
   rcases ha with h0 | rfl
   ·have := (List.getElem?_eq_some_iff.mp hj).1
    omega
   ·rw [Addr.add_lit]
    rw [← flat_drop encP3 L (i + 1) (by omega), List.getElem?_drop, ← hx, List.getElem?_take] at hj
    split at hj
    ·unfold World.cell?
     rw [hW, hg]
     simpa using hj
    ·cases hj
  have h := run_append_room (P := Tryz.prog) W 26 ty 115 i0 Tryz.underlying26 hi0 g i cap cur (by rw [hW]; exact hg) a (n - (i + 1)) c (flat encP (L.drop (i + 1))) (by rw [hz1]; exact hdl) hnews (flat_one encP3 _) (by omega) (by rw [hz1, hdl, hcs]; omega)
  rw [hz1, ← hrow1, show i + (n - (i + 1)) = n - 1 by omega] at h
  exact h
 have hld : ∀ (W : World), W.heap = w.heap → Sem.run Tryz.prog (loadCellsFrom ⟨g, (i + 1) * 3, none⟩ 0 ((n - (i + 1)) * 3) #[]) W = .ok (flat encP (L.drop (i + 1))).toArray W := fun W hW => by
  have h := run_firstCells_some (P := Tryz.prog) W 3 (n - (i + 1)) ⟨g, (i + 1) * 3, none⟩ (n - (i + 1)) 0 (flat encP (L.drop (i + 1))) hdl (fun j u hj => by
   rw [Addr.add_lit]
   rw [← flat_drop encP3 L (i + 1) (by omega), List.getElem?_drop, ← hx, List.getElem?_take] at hj
   split at hj
   ·unfold World.cell?
    rw [hW, hg]
    simpa using hj
   ·cases hj)
  simpa [Builtin.firstCells, loadCells] using h
 have hst : ∀ (W : World), W.heap = w.heap → Sem.run Tryz.prog (storeCells ⟨g, i * 3, none⟩ (flat encP (L.drop (i + 1)))) W = .ok () (W.setRow g row1.toArray) := fun W hW => by
  have h := run_storeCells_at Tryz.prog g (i * 3) 115 (flat encP (L.drop (i + 1))) 0 cur W (by rw [hW]; exact hg) (by rw [hdl, hcs]; omega) (flat_one encP3 _)
  simp only [Nat.add_zero] at h
  rw [← hrow1] at h
  exact h
 have htk : row1.take ((n - 1) * 3) = flat encP (L.take i ++ L.drop (i + 1)) := by
  have e1 : cur.toList.take (i * 3) = flat encP (L.take i) := by
   rw [← flat_take encP3 L i (by omega), ← hx, List.take_take, Nat.min_eq_left (by omega)]
  rw [hrow1, e1, ← flat_append]
  have e2 : (flat encP (L.take i ++ L.drop (i + 1))).length = (n - 1) * 3 := by
   rw [flat_length encP3, List.length_append, List.length_take, List.length_drop]
   omega
  rw [← e2, List.take_left]
 have hclr : ∀ (W : World), W.heap[g]? = some (.cells row1.toArray 115 (0, 0)) → ∀ ty c, (Builtin.clear_ #[26] ty #[.slice (some ⟨g, (n - 1) * 3, none⟩) 1 c]).run Tryz.prog W = .ok (.tuple #[]) (W.setRow g (row1.take ((n - 1) * 3) ++ zPar ++ row1.drop ((n - 1) * 3 + 3)).toArray) := fun W hW ty c =>
  run_clear_row (P := Tryz.prog) W 26 115 ty 115 (.agg zPar.toArray) zPar Tryz.underlying26 Tryz.zeroValue115 rfl (by simp [zPar, Value.oneCell']) g ((n - 1) * 3) c row1.toArray hW (by simp [hr1, zPar]; omega)
 have HAP := Lib.hid happ
 have HLD := Lib.hid hld
 have HST := Lib.hid hst
 have HCL := Lib.hid hclr
 have HTK := Lib.hid htk
 have HR0 := Lib.hid (show n = i + 1 → row1.toArray = cur from fun h0 => by
  have e : flat encP (L.drop (i + 1)) = [] := List.eq_nil_of_length_eq_zero (by rw [hdl]; omega)
  rw [hrow1, e]
  simp)
 have HG := Lib.hid hg
 have HL := Lib.hid hl
 have HR1 := Lib.hid hr1
 clear hld hst happ hclr htk hg hl hrow1 hr1 hx hcs hdl
 unfold maxLen at hcm
 have mixed : Tryz.prog.follows Departure.mixedOrders = true := by kernel_rfl
 have b1 : (i : Int) ≤ ((i + 1 : Nat) : Int) := by omega
 have b2 : ((i + 1 : Nat) : Int) ≤ (n : Int) := by omega
 have b3 : ¬ ((i : Int) = ((i + 1 : Nat) : Int)) := by omega
 have b4 : (0 : Int) ≤ ((i + 1 : Nat) : Int) := by omega
 have ew : IntKind.i64.wrap ((i : Int) + 1) = (i : Int) + 1 := by rw [IntKind.wrap_i64]; omega
 have b5 : (i : Int) ≤ (cap : Int) := by omega
 have b6 : (i : Int) ≤ (n : Int) := by omega
 have b7 : ((n - 1 : Nat) : Int) ≤ (n : Int) := by omega
 have b8 : (n : Int) ≤ (cap : Int) := by omega
 have b9 : ¬ (cap = n - 1) := by omega
 have b10 : n - (n - 1) = 1 := by omega
 have c1 : (0 : Int) ≤ (i : Int) + 1 := by omega
 have c2 : (i : Int) + 1 ≤ (n : Int) := by omega
 by_cases hci : cap = i + 1
 ·have hE := HAP.out w.drew rfl 26 ⟨g, 0, none⟩ 0 (.inl (by omega))
  have hni : n = i + 1 := by omega
  have HG3 := Lib.hid (show w.drew.heap[g]? = some (.cells row1.toArray 115 (0, 0)) by rw [HR0.out hni]; exact HG.out)
  have HB3 := Lib.hid (show Below base w w.drew from ⟨rfl, rfl, rfl, Nat.le_refl _, fun _ _ => rfl⟩)
  have HNI := Lib.hid hni
  clear hni
  subst hci
  have c3 : (i : Int) ≤ (i : Int) + 1 := by omega
  have c4 : (i : Int) + 1 ≤ (i : Int) + 1 := by omega
  go_enter Tryz.func82, Tryz.ntmps82
  go_wp2
  go_region
  generalize w.drew = W3 at HG3 HB3 ⊢
  have hE2 := HCL.out W3 HG3.out 0 1
  have hn1 : n - 1 = i := by have := HNI.out; omega
  rw [hn1] at hE2
  have h7 : n - i = 1 := by have := HNI.out; omega
  have HN1 := Lib.hid hn1
  clear hn1
  go_wp2
  go_ret
  have hll : (L.take i ++ L.drop (i + 1)).length = i := by
   have := HL.out
   rw [List.length_append, List.length_take, List.length_drop]
   omega
  have hg4 := setRow_heap W3 g _ (row1.take ((n - 1) * 3) ++ zPar ++ row1.drop ((n - 1) * 3 + 3)).toArray _ _ HG3.out
  have hr1 := HR1.out
  refine ⟨_, rfl, ?_, HB3.out.trans ⟨rfl, rfl, rfl, by simp [World.setRow], fun k hk => setRow_other W3 g k _ (by omega)⟩⟩
  rw [hll]
  refine ⟨by rw [flat_length encP3, hll], .inr ⟨g, i + 1, (row1.take ((n - 1) * 3) ++ zPar ++ row1.drop ((n - 1) * 3 + 3)).toArray, rfl, hbg, ?_, by omega, by unfold maxLen; omega, ?_, ?_⟩⟩
  ·rw [← hg4]
   rw [HN1.out]
   simp
  ·simp [zPar]
   omega
  ·have e : (row1.take ((n - 1) * 3)).length = i * 3 := by rw [List.length_take]; omega
   show List.take _ (row1.take ((n - 1) * 3) ++ zPar ++ row1.drop ((n - 1) * 3 + 3)) = _
   rw [List.append_assoc]
   exact (take_pre e).trans HTK.out
 ·have hL := HLD.out w.drew rfl
  have hS := HST.out w.drew rfl
  have hR : i + (n - (i + 1)) ≤ cap := by omega
  have hQ : i + (n - (i + 1)) = n - 1 := by omega
  have HG3 := Lib.hid (setRow_heap w.drew g _ row1.toArray _ _ HG.out)
  have HB3 := Lib.hid (show Below base w (w.drew.setRow g row1.toArray) from ⟨rfl, rfl, rfl, by simp [World.setRow], fun k hk => setRow_other w.drew g k _ (by omega)⟩)
  go_enter Tryz.func82, Tryz.ntmps82
  go_wp2
  go_region
  generalize w.drew.setRow g row1.toArray = W3 at HG3 HB3 ⊢
  have hE2 := HCL.out W3 HG3.out 0 (cap - (n - 1))
  go_wp2
  go_ret
  have hll : (L.take i ++ L.drop (i + 1)).length = (n - 1) := by
   have := HL.out
   rw [List.length_append, List.length_take, List.length_drop]
   omega
  have hg4 := setRow_heap W3 g _ (row1.take ((n - 1) * 3) ++ zPar ++ row1.drop ((n - 1) * 3 + 3)).toArray _ _ HG3.out
  have hr1 := HR1.out
  refine ⟨_, rfl, ?_, HB3.out.trans ⟨rfl, rfl, rfl, by simp [World.setRow], fun k hk => setRow_other W3 g k _ (by omega)⟩⟩
  rw [hll]
  refine ⟨by rw [flat_length encP3, hll], .inr ⟨g, cap, (row1.take ((n - 1) * 3) ++ zPar ++ row1.drop ((n - 1) * 3 + 3)).toArray, rfl, hbg, ?_, by omega, by unfold maxLen; omega, ?_, ?_⟩⟩
  ·rw [← hg4]
   simp
  ·simp [zPar]
   omega
  ·have e : (row1.take ((n - 1) * 3)).length = (n - 1) * 3 := by rw [List.length_take]; omega
   show List.take _ (row1.take ((n - 1) * 3) ++ zPar ++ row1.drop ((n - 1) * 3 + 3)) = _
   rw [List.append_assoc]
   exact (take_pre e).trans HTK.out
end Go.Proofs.YtnaglmigkbbljaaGreatDoor
