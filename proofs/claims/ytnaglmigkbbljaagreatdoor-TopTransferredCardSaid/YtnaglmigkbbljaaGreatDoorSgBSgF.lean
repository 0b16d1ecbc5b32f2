/-
  TopTransferred: plain words: a byte found in a string, a line cut at its blanks, a number's text read again.
-/
import Derived.Test.YtnaglmigkbbljaaGreatDoorSfASfC
import Derived.Test.YtnaglmigkbbljaaGreatDoorSfD
set_option maxHeartbeats 6400000
set_option maxRecDepth 1000000
set_option linter.unusedVariables false
set_option linter.unusedSimpArgs false
namespace Go.Proofs.YtnaglmigkbbljaaGreatDoor
open Go Go.RowKit
theorem idx_app : ∀ (a r : List UInt8) (c : UInt8), c ∉ a → Lib.indexByte (a ++ c :: r) c = (a.length : Int)
 | [], r, c, _ => by simp [Lib.indexByte]
 | x :: a, r, c, h => by
  have hx : (x == c) = false := by
   rw [beq_eq_false_iff_ne]
   exact fun e => h (by rw [e]; exact List.mem_cons_self ..)
  have ih := idx_app a r c (fun hm => h (List.mem_cons_of_mem _ hm))
  simp only [List.cons_append, Lib.indexByte, hx, Bool.false_eq_true, if_false, ih]
  have h1 : ((a.length : Int) == -1) = false := by rw [beq_eq_false_iff_ne]; omega
  rw [h1]
  simp
theorem idx_none : ∀ (a : List UInt8) (c : UInt8), c ∉ a → Lib.indexByte a c = -1
 | [], c, _ => rfl
 | x :: a, c, h => by
  have hx : (x == c) = false := by
   rw [beq_eq_false_iff_ne]
   exact fun e => h (by rw [e]; exact List.mem_cons_self ..)
  have ih := idx_none a c (fun hm => h (List.mem_cons_of_mem _ hm))
  simp only [Lib.indexByte, hx, Bool.false_eq_true, if_false, ih]
  rfl
theorem bl_app (a b : ByteArray) : (a ++ b).data.toList = a.data.toList ++ b.data.toList := by simp [ByteArray.data_append]
theorem bl_ext (a : ByteArray) (i k : Nat) : (a.extract i k).data.toList = (a.data.toList.drop i).take (k - i) := by simp [ByteArray.data_extract]
theorem bl_len (a : ByteArray) : a.data.toList.length = a.size := by simp
theorem ext_pre (a r : ByteArray) : (a ++ r).extract 0 a.size = a := by
 apply bytes_ext
 rw [bl_ext, bl_app, List.drop_zero, Nat.sub_zero, ← bl_len a, List.take_left]
theorem ext_post (a r : ByteArray) {k m : Nat} (hk : k = a.size) (hm : m = (a ++ r).size) : (a ++ r).extract k m = r := by
 apply bytes_ext
 subst hk hm
 rw [bl_ext, bl_app, ← bl_len a, List.drop_left, ByteArray.size_append, ← bl_len a, ← bl_len r, Nat.add_sub_cancel_left, List.take_length]
theorem ext_post2 (a b r : ByteArray) {k m : Nat} (hk : k = a.size + b.size) (hm : m = (a ++ (b ++ r)).size) : (a ++ (b ++ r)).extract k m = r := by
 rw [← ByteArray.append_assoc]
 exact ext_post (a ++ b) r (by rw [ByteArray.size_append, hk]) (by rw [hm, ByteArray.append_assoc])
theorem idxB_hit (a r : ByteArray) (c : UInt8) (h : c ∉ a.data.toList) : Lib.indexB (a ++ (⟨#[c]⟩ ++ r)) ⟨#[c]⟩ = (a.size : Int) := by
 show Lib.index _ [c] = _
 rw [Lib.index_one, bl_app, bl_app]
 have := idx_app a.data.toList r.data.toList c h
 rw [← bl_len a]
 exact this
theorem idxB_miss (a : ByteArray) (c : UInt8) (h : c ∉ a.data.toList) : Lib.indexB a ⟨#[c]⟩ = -1 := by
 show Lib.index _ [c] = _
 rw [Lib.index_one]
 exact idx_none _ _ h
theorem words_three (a b c : ByteArray) (ha : 32 ∉ a.data.toList) (hb : 32 ∉ b.data.toList) (hc : 32 ∉ c.data.toList) : words (a ++ (spS ++ (b ++ (spS ++ c)))) = [a, b, c] := by
 have e1 : Lib.indexB (a ++ (spS ++ (b ++ (spS ++ c)))) spS = (a.size : Int) := idxB_hit a (b ++ (spS ++ c)) 32 ha
 have e2 : Lib.indexB (b ++ (spS ++ c)) spS = (b.size : Int) := idxB_hit b c 32 hb
 have e3 : Lib.indexB c spS = -1 := idxB_miss c 32 hc
 have x1 := ext_post2 a spS (b ++ (spS ++ c)) (k := a.size + spS.size) rfl rfl
 have x2 := ext_post2 b spS c (k := b.size + spS.size) rfl rfl
 have n1 : Lib.countB (a ++ (spS ++ (b ++ (spS ++ c)))) spS = 2 := by
  rw [Lib.countB_hit _ spS a.size (by decide) e1, x1, Lib.countB_hit _ spS b.size (by decide) e2, x2, Lib.countB_miss _ _ e3]
 unfold words
 rw [n1, Lib.splitB_hit spS 0 1 _ a.size e1, x1, Lib.splitB_hit spS 0 0 _ b.size e2, x2, Lib.splitB_zero, Nat.add_zero, Nat.add_zero, ext_pre, ext_pre]
/-! ### numbers -/
theorem dec_digit (u : Nat) : ∀ b ∈ Lib.decDigits u, 48 ≤ b.toNat ∧ b.toNat ≤ 57 := by
 induction u using Nat.strongRecOn with
 | _ u ih =>
  intro b hb
  rw [Lib.decDigits] at hb
  split at hb
  ·simp only [List.mem_cons, List.not_mem_nil, or_false] at hb
   subst hb
   rw [UInt8.toNat_ofNat']
   omega
  ·rcases List.mem_append.mp hb with h | h
   ·exact ih (u / 10) (by omega) b h
   ·simp only [List.mem_cons, List.not_mem_nil, or_false] at h
    subst h
    rw [UInt8.toNat_ofNat']
    omega
theorem dec_parse (u : Nat) : ∀ r, u ≤ 1000000000000000 → Lib.parseUint10 0 (Lib.decDigits u ++ r) = Lib.parseUint10 u r := by
 induction u using Nat.strongRecOn with
 | _ u ih =>
  intro r hu
  rw [Lib.decDigits]
  have step : ∀ (acc d : Nat) (t : List UInt8), acc ≤ 1000000000000000 → d < 10 → Lib.parseUint10 acc (UInt8.ofNat (48 + d) :: t) = Lib.parseUint10 (acc * 10 + d) t := fun acc d t ha hd => by
   have e : (UInt8.ofNat (48 + d)).toNat = 48 + d := by rw [UInt8.toNat_ofNat']; omega
   rw [Lib.parseUint10, if_pos (by rw [e]; omega), if_neg (by omega), if_neg (by rw [e]; omega), e, Nat.add_sub_cancel_left]
  split
  ·rename_i h
   show Lib.parseUint10 0 (UInt8.ofNat (48 + u) :: r) = _
   rw [step 0 u r (by omega) h, Nat.zero_mul, Nat.zero_add]
  ·rename_i h
   rw [List.append_assoc, ih (u / 10) (by omega) _ (by omega)]
   show Lib.parseUint10 (u / 10) (UInt8.ofNat (48 + u % 10) :: r) = _
   rw [step _ _ r (by omega) (by omega)]
   congr 1
   omega
theorem dec_ne (u : Nat) : Lib.decDigits u ≠ [] := fun e => by
 have := Lib.decDigits_length u
 rw [e] at this
 have := Lib.nDigits_pos u
 simp at *
 omega
theorem itoa_nat (n : Nat) : (itoaB (n : Int)).data.toList = Lib.decDigits n := by
 show (Lib.itoa (n : Int)).toArray.toList = _
 rw [Lib.itoa_nonneg]
theorem atoi_itoa (n : Nat) (hn : n ≤ 1000000000000000) : Lib.atoiAll (itoaB (n : Int)).data.toList = .ok (n : Int) := by
 rw [itoa_nat]
 have h1 := dec_digit n
 have h2 := dec_parse n [] hn
 rw [List.append_nil] at h2
 cases h : Lib.decDigits n with
 | nil => exact absurd h (dec_ne n)
 | cons c r =>
  have h3 := h1 c (by rw [h]; exact List.mem_cons_self ..)
  rw [h] at h2
  unfold Lib.atoiAll
  have h4 : ¬ (c.toNat = 43 ∨ c.toNat = 45) := by omega
  have h5 : ¬ c.toNat = 45 := by omega
  have h6 : Lib.parseMag (c :: r) = .ok n := by
   unfold Lib.parseMag
   rw [if_neg (by simp), h2]
   rfl
  dsimp only
  rw [if_neg h4, h6]
  dsimp only
  rw [if_neg (by omega), if_neg (by omega), if_neg h5]
theorem itoa_mem {n : Nat} {x : UInt8} (h : x ∈ (itoaB (n : Int)).data.toList) : 48 ≤ x.toNat ∧ x.toNat ≤ 57 := by
 rw [itoa_nat] at h
 exact dec_digit n x h
theorem itoa_digits (n : Nat) (hn : n ≤ 1000000000000) : (itoaB (n : Int)).size ≤ 13 := by
 rw [← bl_len, itoa_nat, Lib.decDigits_length]
 have h : ∀ k u : Nat, u < 10 ^ (k + 1) → Lib.nDigits u ≤ k + 1 := by
  intro k
  induction k with
  | zero => intro u hu; rw [Lib.nDigits_small (by simpa using hu)]; omega
  | succ k ih =>
   intro u hu
   by_cases h : u < 10
   ·rw [Lib.nDigits_small h]; omega
   ·rw [Lib.nDigits_big h]
    have := ih (u / 10) (by rw [Nat.pow_succ] at hu; omega)
    omega
 exact h 12 n (by omega)
/-! ### lines -/
def nlS : ByteArray := ⟨#[10]⟩
def lineP (x : Par) : ByteArray := x.k ++ spS ++ itoaB x.ver ++ spS ++ x.v ++ nlS
def bodyP (x : Par) : ByteArray := x.k ++ (spS ++ (itoaB x.ver ++ (spS ++ x.v)))
theorem line_body (x : Par) : lineP x = bodyP x ++ nlS := by
 unfold lineP bodyP
 simp only [ByteArray.append_assoc]
theorem gr_mem {s : ByteArray} {m : Nat} (h : grB s m = true) {x : UInt8} (hx : x ∈ s.data.toList) : 33 ≤ x.toNat ∧ x.toNat ≤ 126 := by
 unfold grB at h
 rw [Bool.and_eq_true] at h
 have := List.all_eq_true.mp h.1 x hx
 simpa [grX] using this
theorem gr_no {s : ByteArray} {m : Nat} (h : grB s m = true) (c : UInt8) (hc : c.toNat < 33) : c ∉ s.data.toList := fun hx => by
 have := gr_mem h hx
 omega
theorem itoa_no (n : Nat) (c : UInt8) (hc : c.toNat < 33) : c ∉ (itoaB (n : Int)).data.toList := fun hx => by
 have := itoa_mem hx
 omega
theorem gr_size {s : ByteArray} {m : Nat} (h : grB s m = true) : 0 < s.size ∧ s.size ≤ m := by
 unfold grB at h
 simp only [Bool.and_eq_true, decide_eq_true_eq] at h
 exact h.2
theorem body_no {x : Par} (h : okP x) : (10 : UInt8) ∉ (bodyP x).data.toList := by
 unfold bodyP
 simp only [bl_app, List.mem_append, not_or]
 exact ⟨gr_no h.1 10 (by decide), by decide, itoa_no _ 10 (by decide), by decide, gr_no h.2.1 10 (by decide)⟩
theorem body_words {x : Par} (h : okP x) : words (bodyP x) = [x.k, itoaB x.ver, x.v] := words_three _ _ _ (gr_no h.1 32 (by decide)) (itoa_no _ 32 (by decide)) (gr_no h.2.1 32 (by decide))
theorem line_trim (x : Par) : (⟨(Lib.trimSuffix (lineP x).data.toList nlS.data.toList).toArray⟩ : ByteArray) = bodyP x := by
 rw [line_body, Lib.trimSuffix_hit _ _ (by rw [ByteArray.size_append]; omega)]
 ·rw [ByteArray.size_append, Nat.add_sub_cancel]
  exact ext_pre _ _
 ·rw [ext_post (bodyP x) nlS (by rw [ByteArray.size_append]; omega) rfl]
  exact beq_self_eq_true _
theorem line_size {x : Par} (h : okP x) : (lineP x).size ≤ 340 := by
 have h1 := gr_size h.1
 have h2 := gr_size h.2.1
 have h3 := itoa_digits x.ver h.2.2.2
 unfold lineP
 simp only [ByteArray.size_append]
 have e1 : spS.size = 1 := rfl
 have e2 : nlS.size = 1 := rfl
 omega
def catB (l : List ByteArray) : ByteArray := l.foldl (· ++ ·) ⟨#[]⟩
theorem catB_from (l : List ByteArray) : ∀ s : ByteArray, l.foldl (· ++ ·) s = s ++ catB l := by
 unfold catB
 induction l with
 | nil => intro s; apply bytes_ext; rw [List.foldl_nil, List.foldl_nil, bl_app]; simp
 | cons x t ih =>
  intro s
  rw [List.foldl_cons, List.foldl_cons, ih (s ++ x), ih (⟨#[]⟩ ++ x)]
  apply bytes_ext
  simp
theorem catB_cons (x : ByteArray) (t : List ByteArray) : catB (x :: t) = x ++ catB t := by
 unfold catB
 rw [List.foldl_cons, catB_from]
 apply bytes_ext
 simp [catB]
theorem catB_snoc (l : List ByteArray) (x : ByteArray) : catB (l ++ [x]) = catB l ++ x := by
 unfold catB
 rw [List.foldl_append]
 rfl
end Go.Proofs.YtnaglmigkbbljaaGreatDoor
/-
  TopTransferred: plain words: the code of a list of strings (wire.PutList) and how it is read; the sessions' list; the chunks of a store.
-/
namespace Go.Proofs.YtnaglmigkbbljaaGreatDoor
open Go Go.RowKit
def varL (n : Nat) : List UInt8 := if n < 128 then [UInt8.ofNat n] else [UInt8.ofNat (n % 128 + 128), UInt8.ofNat (n / 128)]
def varB (n : Nat) : ByteArray := ⟨(varL n).toArray⟩
def strB (s : ByteArray) : ByteArray := varB s.size ++ s
def putB (l : List ByteArray) : ByteArray := varB l.length ++ catB (l.map strB)
theorem varB_size (n : Nat) : (varB n).size = if n < 128 then 1 else 2 := by
 unfold varB varL
 split <;> rfl
theorem varB_size2 (n : Nat) : 1 ≤ (varB n).size ∧ (varB n).size ≤ 2 := by
 rw [varB_size]
 split <;> omega
def sesS (x : Ses) : List ByteArray := [itoaB x.c, itoaB x.n, x.r]
def sesL (l : List Ses) : List ByteArray := (l.map sesS).flatten
theorem sesL_cons (x : Ses) (l : List Ses) : sesL (x :: l) = itoaB x.c :: itoaB x.n :: x.r :: sesL l := rfl
theorem sesL_snoc (l : List Ses) (x : Ses) : sesL (l ++ [x]) = sesL l ++ [itoaB x.c, itoaB x.n, x.r] := by
 unfold sesL
 rw [List.map_append, List.flatten_append]
 rfl
theorem sesL_len (l : List Ses) : (sesL l).length = l.length * 3 := by
 induction l with
 | nil => rfl
 | cons x t ih => rw [sesL_cons]; simp only [List.length_cons, ih]; omega
theorem sesL_at (l : List Ses) (i : Nat) (x : Ses) (h : l[i]? = some x) : (sesL l)[i * 3]? = some (itoaB x.c) ∧ (sesL l)[i * 3 + 1]? = some (itoaB x.n) ∧ (sesL l)[i * 3 + 2]? = some x.r := by
 induction l generalizing i with
 | nil => simp at h
 | cons y t ih =>
  rw [sesL_cons]
  cases i with
  | zero =>
   simp at h
   subst h
   exact ⟨rfl, rfl, rfl⟩
  | succ i =>
   have := ih i (by simpa using h)
   rw [show (i + 1) * 3 = i * 3 + 1 + 1 + 1 by omega, show i * 3 + 1 + 1 + 1 + 1 = (i * 3 + 1) + 1 + 1 + 1 by omega, show i * 3 + 1 + 1 + 1 + 2 = (i * 3 + 2) + 1 + 1 + 1 by omega]
   simpa using this
theorem sesL_size {l : List Ses} (h : ∀ x ∈ l, okS x) : SzL 400 (sesL l) := fun s hs => by
 unfold sesL at hs
 rw [List.mem_flatten] at hs
 obtain ⟨q, hq, hs⟩ := hs
 obtain ⟨x, hx, rfl⟩ := List.mem_map.mp hq
 have hk := h x hx
 simp only [sesS, List.mem_cons, List.not_mem_nil, or_false] at hs
 rcases hs with rfl | rfl | rfl
 ·have := itoa_digits x.c (by have := hk.1; omega)
  omega
 ·have := itoa_digits x.n (by have := hk.2.2.1; omega)
  omega
 ·exact hk.2.2.2
def headB (l : List Ses) : ByteArray := putB (sesL l)
def partsP : Nat → List Par → List (List Par)
 | 0, _ => []
 | f + 1, L => if L = [] then [] else L.take 8 :: partsP f (L.drop 8)
def chunkP (L : List Par) : ByteArray := catB (L.map lineP)
def storeL (L : List Par) : List ByteArray := (partsP L.length L).map chunkP
def chunksL (S : List Ses) (L : List Par) : List ByteArray := headB S :: storeL L
theorem partsP_cat : ∀ (f : Nat) (L : List Par), L.length ≤ f → (partsP f L).flatten = L
 | 0, L, h => by
  have : L = [] := List.length_eq_zero_iff.mp (by omega)
  subst this
  rfl
 | f + 1, L, h => by
  unfold partsP
  by_cases h0 : L = []
  ·subst h0; rfl
  ·rw [if_neg h0, List.flatten_cons, partsP_cat f (L.drop 8) (by
    have : L.length ≠ 0 := fun e => h0 (List.length_eq_zero_iff.mp e)
    rw [List.length_drop]; omega), List.take_append_drop]
theorem partsP_at : ∀ (f : Nat) (L : List Par) (i : Nat), L.length ≤ f → i * 8 < L.length → (partsP f L)[i]? = some ((L.drop (i * 8)).take 8)
 | 0, L, i, h, hi => by omega
 | f + 1, L, i, h, hi => by
  unfold partsP
  rw [if_neg (fun e => by subst e; simp at hi)]
  cases i with
  | zero => simp
  | succ i =>
   rw [List.getElem?_cons_succ, partsP_at f (L.drop 8) i (by rw [List.length_drop]; omega) (by rw [List.length_drop]; omega), List.drop_drop]
   congr 3
   omega
theorem partsP_len : ∀ (f : Nat) (L : List Par), L.length ≤ f → (partsP f L).length = (L.length + 7) / 8
 | 0, L, h => by
  have e : L.length = 0 := by omega
  rw [e]; rfl
 | f + 1, L, h => by
  unfold partsP
  by_cases h0 : L = []
  ·subst h0; rfl
  ·have : L.length ≠ 0 := fun e => h0 (List.length_eq_zero_iff.mp e)
   rw [if_neg h0, List.length_cons, partsP_len f (L.drop 8) (by rw [List.length_drop]; omega), List.length_drop]
   omega
theorem storeL_len (L : List Par) : (storeL L).length = (L.length + 7) / 8 := by
 unfold storeL
 rw [List.length_map, partsP_len _ _ (Nat.le_refl _)]
theorem catB_size (n : Nat) : ∀ l : List ByteArray, SzL n l → (catB l).size ≤ l.length * n
 | [], _ => (Nat.zero_le _ : (0 : Nat) ≤ _)
 | x :: t, h => by
  rw [catB_cons, ByteArray.size_append, List.length_cons]
  have h1 := h x (List.mem_cons_self ..)
  have h2 := catB_size n t (fun y hy => h y (List.mem_cons_of_mem _ hy))
  rw [Nat.succ_mul]
  omega
theorem flat_mem_len {α : Type} : ∀ (l : List (List α)) (q : List α), q ∈ l → q.length ≤ l.flatten.length
 | [], q, h => by simp at h
 | x :: t, q, h => by
  rw [List.flatten_cons, List.length_append]
  rcases List.mem_cons.mp h with rfl | h
  ·omega
  ·have := flat_mem_len t q h
   omega
theorem chunks_size {S : List Ses} {L : List Par} (hS : VS S) (hL : VP L) (h1 : S.length ≤ 64) (h2 : L.length ≤ 64) : SzL 100000 (chunksL S L) := fun s hs => by
 rcases List.mem_cons.mp hs with rfl | hs
 ·have h3 := sesL_size hS.2
  have h4 := catB_size 402 ((sesL S).map strB) (fun y hy => by
   obtain ⟨x, hx, rfl⟩ := List.mem_map.mp hy
   have := h3 x hx
   have := varB_size2 x.size
   unfold strB
   rw [ByteArray.size_append]
   omega)
  rw [List.length_map, sesL_len] at h4
  have := varB_size2 (sesL S).length
  show (varB _ ++ _).size ≤ _
  rw [ByteArray.size_append]
  omega
 ·obtain ⟨q, hq, rfl⟩ := List.mem_map.mp hs
  have h3 : q.length ≤ L.length ∧ ∀ x ∈ q, okP x := by
   have h4 := partsP_cat L.length L (Nat.le_refl _)
   refine ⟨?_, fun x hx => hL.2 x (by rw [← h4]; exact List.mem_flatten.mpr ⟨q, hq, hx⟩)⟩
   have : q.length ≤ (partsP L.length L).flatten.length := by
    exact flat_mem_len _ _ hq
   rwa [h4] at this
  have h4 := catB_size 340 (q.map lineP) (fun y hy => by
   obtain ⟨x, hx, rfl⟩ := List.mem_map.mp hy
   exact line_size (h3.2 x hx))
  rw [List.length_map] at h4
  show (catB _).size ≤ _
  have := h3.1
  omega
end Go.Proofs.YtnaglmigkbbljaaGreatDoor
/-
  TopTransferred: store.line, exactly (printed by mkSgF.py).
-/
namespace Go.Proofs.YtnaglmigkbbljaaGreatDoor
open Go Go.RowKit
theorem line_ex (x : Par) (w : World) (hx : okP x) (hG : GL w) : Calls Tryz.prog 89 #[.agg #[.string x.k, .string x.v, .int .i64 x.ver]] w (IsS (lineP x) w) := by
 have HI := Lib.hid (fun W (hb : Below w.heap.size w W) => itoa_ex x.ver W ⟨by omega, by have := hx.2.2.2; omega⟩ (hG.below hb))
 have HLN := Lib.hid (show lineP x = x.k ++ ⟨#[32]⟩ ++ itoaB x.ver ++ ⟨#[32]⟩ ++ x.v ++ ⟨#[10]⟩ from rfl)
 have hs1 := gr_size hx.1
 have hs2 := gr_size hx.2.1
 have hs3 := itoa_digits x.ver hx.2.2.2
 unfold IsS
 generalize lineP x = ln at HLN ⊢
 generalize itoaB (x.ver : Int) = sv at HI HLN hs3
 have q1 : ¬ (9223372036854775807 < x.k.size + 1) := by omega
 have q2 : ¬ (9223372036854775807 < x.k.size + 1 + sv.size) := by omega
 have q3 : ¬ (9223372036854775807 < x.k.size + 1 + sv.size + 1) := by omega
 have q4 : ¬ (9223372036854775807 < x.k.size + 1 + sv.size + 1 + x.v.size) := by omega
 have q5 : ¬ (9223372036854775807 < x.k.size + 1 + sv.size + 1 + x.v.size + 1) := by omega
 clear hG
 go_enter Tryz.func89, Tryz.ntmps89
 go_upto_region 1 with fail
 have HB0 := Lib.hid (heap_alloc_new w (.cells #[.string x.k, .string x.v, .int .i64 x.ver] 115))
 have HW0 := Lib.hid ((Below.refl _ w).alloc (Nat.le_refl _) (.cells #[.string x.k, .string x.v, .int .i64 x.ver] 115))
 generalize w.alloc (.cells #[.string x.k, .string x.v, .int .i64 x.ver] 115) = W0 at HB0 HW0 ⊢
 have hSd : W0.drew.cell? ⟨w.heap.size, 0, none⟩ = some (.string x.k) ∧ W0.drew.cell? ⟨w.heap.size, 1, none⟩ = some (.string x.v) ∧ W0.drew.cell? ⟨w.heap.size, 2, none⟩ = some (.int .i64 x.ver) ∧ Below w.heap.size w W0.drew := ⟨cellOf HB0.out (j := 0) rfl, cellOf HB0.out (j := 1) rfl, cellOf HB0.out (j := 2) rfl, below_drewN HW0.out 1⟩
 refine wp_region_noPanic ?_
 refine wp_region_held_drew (S := fun W => W.cell? ⟨w.heap.size, 0, none⟩ = some (.string x.k) ∧ W.cell? ⟨w.heap.size, 1, none⟩ = some (.string x.v) ∧ W.cell? ⟨w.heap.size, 2, none⟩ = some (.int .i64 x.ver) ∧ Below w.heap.size w W) (by kernel_rfl) ?_ (fun hHeld => ?_)
 ·exact hSd
 refine wpAnyH_take (i := 0) (oi := { dst := some 3, op := _, type := _, pos := _, after := _, guard := _ }) (v := ?_) rfl (by kernel_rfl) (by kernel_rfl) (by kernel_rfl) (fun _ _ _ h => h) (Or.inl ⟨by rfl, ?_⟩) (by assumption) ?_
 rotate_left
 ·intro w hSw
  try dsimp only at hSw
  go_simp
  try with_reducible rfl
 try simp only [Act.put, List.setIfInBounds_toArray, List.set_cons_zero, List.set_cons_succ]
 refine wpAnyH_take (i := 1) (oi := { dst := some 4, op := _, type := _, pos := _, after := _, guard := _ }) (v := ?_) rfl (by kernel_rfl) (by kernel_rfl) (by kernel_rfl) (fun _ _ _ h => h) (Or.inl ⟨by rfl, ?_⟩) (by assumption) ?_
 rotate_left
 ·intro w hSw
  try dsimp only at hSw
  go_simp
  try with_reducible rfl
 try simp only [Act.put, List.setIfInBounds_toArray, List.set_cons_zero, List.set_cons_succ]
 refine wpAnyH_take (i := 2) (oi := { dst := some 5, op := _, type := _, pos := _, after := _, guard := _ }) (v := ?_) rfl (by kernel_rfl) (by kernel_rfl) (by kernel_rfl) (fun _ _ _ h => h) (Or.inl ⟨by rfl, ?_⟩) (by assumption) ?_
 rotate_left
 ·intro w hSw
  try dsimp only at hSw
  go_simp
  try with_reducible rfl
 try simp only [Act.put, List.setIfInBounds_toArray, List.set_cons_zero, List.set_cons_succ]
 refine wpAnyH_take (i := 3) (oi := { dst := some 6, op := _, type := _, pos := _, after := _, guard := _ }) (v := ?_) rfl (by kernel_rfl) (by kernel_rfl) (by kernel_rfl) (fun _ _ _ h => h) (Or.inl ⟨by rfl, ?_⟩) (by assumption) ?_
 rotate_left
 ·intro w hSw
  try dsimp only at hSw
  go_simp
  try with_reducible rfl
 try simp only [Act.put, List.setIfInBounds_toArray, List.set_cons_zero, List.set_cons_succ]
 refine wpAnyH_take (i := 4) (oi := { dst := some 7, op := _, type := _, pos := _, after := _, guard := _ }) (v := ?_) rfl (by kernel_rfl) (by kernel_rfl) (by kernel_rfl) (fun _ _ _ h => h) (Or.inl ⟨by rfl, ?_⟩) (by assumption) ?_
 rotate_left
 ·intro w hSw
  try dsimp only at hSw
  go_simp
  try with_reducible rfl
 try simp only [Act.put, List.setIfInBounds_toArray, List.set_cons_zero, List.set_cons_succ]
 refine wpAnyH_take (i := 8) (oi := { dst := some 11, op := _, type := _, pos := _, after := _, guard := _ }) (v := ?_) rfl (by kernel_rfl) (by kernel_rfl) (by kernel_rfl) (fun _ _ _ h => h) (Or.inl ⟨by rfl, ?_⟩) (by assumption) ?_
 rotate_left
 ·intro w hSw
  try dsimp only at hSw
  go_simp
  try with_reducible rfl
 try simp only [Act.put, List.setIfInBounds_toArray, List.set_cons_zero, List.set_cons_succ]
 refine wpAnyH_take (i := 9) (oi := { dst := some 12, op := _, type := _, pos := _, after := _, guard := _ }) (v := ?_) rfl (by kernel_rfl) (by kernel_rfl) (by kernel_rfl) (fun _ _ _ h => h) (Or.inl ⟨by rfl, ?_⟩) (by assumption) ?_
 rotate_left
 ·intro w hSw
  try dsimp only at hSw
  go_simp
  try with_reducible rfl
 try simp only [Act.put, List.setIfInBounds_toArray, List.set_cons_zero, List.set_cons_succ]
 refine wpAnyH_ready (rs := [5]) (by kernel_rfl) (by simp) ?_
 refine AllReadyH.cons (o := { dst := some 8, op := _, type := _, pos := _, after := _, guard := _ }) rfl (fun K hK => ?_) ?_
 ·go_simp
  go_at_call 34
  (with_reducible refine (HI.out _ hHeld.2.2.2).mono ?_)
  rintro e w5 ⟨rfl, hb5⟩
  have hlt := cell_lt hHeld.1
  have hS5 : w5.cell? ⟨w.heap.size, 0, none⟩ = some (.string x.k) ∧ w5.cell? ⟨w.heap.size, 1, none⟩ = some (.string x.v) ∧ w5.cell? ⟨w.heap.size, 2, none⟩ = some (.int .i64 x.ver) ∧ Below w.heap.size w w5 := ⟨(hb5.cell (p := ⟨w.heap.size, 0, none⟩) hlt).trans hHeld.1, (hb5.cell (p := ⟨w.heap.size, 1, none⟩) hlt).trans hHeld.2.1, (hb5.cell (p := ⟨w.heap.size, 2, none⟩) hlt).trans hHeld.2.2.1, hHeld.2.2.2.trans (hb5.mono hHeld.2.2.2.size)⟩
  clear hb5 hlt
  go_simp
  refine hK.out _ _ ?_ (fun hHeld => ?_)
  ·exact hS5
  clear hK K
  try simp only [Act.put, List.setIfInBounds_toArray, List.set_cons_zero, List.set_cons_succ]
  refine wpAnyH_take (i := 6) (oi := { dst := some 9, op := _, type := _, pos := _, after := _, guard := _ }) (v := ?_) rfl (by kernel_rfl) (by kernel_rfl) (by kernel_rfl) (fun _ _ _ h => h) (Or.inl ⟨by rfl, ?_⟩) (by assumption) ?_
  rotate_left
  ·intro w hSw
   try dsimp only at hSw
   go_simp
   try with_reducible rfl
  try simp only [Act.put, List.setIfInBounds_toArray, List.set_cons_zero, List.set_cons_succ]
  refine wpAnyH_take (i := 7) (oi := { dst := some 10, op := _, type := _, pos := _, after := _, guard := _ }) (v := ?_) rfl (by kernel_rfl) (by kernel_rfl) (by kernel_rfl) (fun _ _ _ h => h) (Or.inl ⟨by rfl, ?_⟩) (by assumption) ?_
  rotate_left
  ·intro w hSw
   try dsimp only at hSw
   go_simp
   try with_reducible rfl
  try simp only [Act.put, List.setIfInBounds_toArray, List.set_cons_zero, List.set_cons_succ]
  refine wpAnyH_take (i := 10) (oi := { dst := some 13, op := _, type := _, pos := _, after := _, guard := _ }) (v := ?_) rfl (by kernel_rfl) (by kernel_rfl) (by kernel_rfl) (fun _ _ _ h => h) (Or.inl ⟨by rfl, ?_⟩) (by assumption) ?_
  rotate_left
  ·intro w hSw
   try dsimp only at hSw
   go_simp
   try with_reducible rfl
  try simp only [Act.put, List.setIfInBounds_toArray, List.set_cons_zero, List.set_cons_succ]
  refine wpAnyH_take (i := 11) (oi := { dst := some 14, op := _, type := _, pos := _, after := _, guard := _ }) (v := ?_) rfl (by kernel_rfl) (by kernel_rfl) (by kernel_rfl) (fun _ _ _ h => h) (Or.inl ⟨by rfl, ?_⟩) (by assumption) ?_
  rotate_left
  ·intro w hSw
   try dsimp only at hSw
   go_simp
   try with_reducible rfl
  try simp only [Act.put, List.setIfInBounds_toArray, List.set_cons_zero, List.set_cons_succ]
  refine wpAnyH_take (i := 12) (oi := { dst := some 2, op := _, type := _, pos := _, after := _, guard := _ }) (v := ?_) rfl (by kernel_rfl) (by kernel_rfl) (by kernel_rfl) (fun _ _ _ h => h) (Or.inl ⟨by rfl, ?_⟩) (by assumption) ?_
  rotate_left
  ·intro w hSw
   try dsimp only at hSw
   go_simp
   try with_reducible rfl
  try simp only [Act.put, List.setIfInBounds_toArray, List.set_cons_zero, List.set_cons_succ]
  refine wpAnyH_done (by kernel_rfl) ?_ _
  refine NoPanic.normal ?_
  go_wp2_with fail
  go_ret
  exact ⟨by rw [HLN.out]; rfl, hHeld.2.2.2⟩
 exact AllReadyH.nil
end Go.Proofs.YtnaglmigkbbljaaGreatDoor
