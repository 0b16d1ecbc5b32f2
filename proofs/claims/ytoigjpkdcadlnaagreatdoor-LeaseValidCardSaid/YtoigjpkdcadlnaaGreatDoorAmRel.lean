/-
  How the abstract machine's memory stands to the model's: a row of the one lies in a block of the other.
-/
import Derived.Test.YtoigjpkdcadlnaaGreatDoorAmDefs
import Derived.Calls
import Derived.Below
import Derived.Orders
namespace Go.AM
open Go Go.RowKit

theorem T.get_nil {α : Type} (n : Nat) : (T.nil : T α).get n = none := rfl

theorem beq0 (n m : Nat) : Nat.beq n m = decide (n = m) := by
  by_cases h : n = m
  · subst h; simp
  · rw [decide_eq_false h]
    cases hb : Nat.beq n m with
    | false => rfl
    | true => exact absurd (Nat.eq_of_beq_eq_true hb) h

theorem brec {α : Type} (a b : α) (c : Bool) : Bool.rec (motive := fun _ => α) a b c = if c = true then b else a := by cases c <;> rfl

theorem T.get_node {α : Type} (l : T α) (v : Option α) (r : T α) (n : Nat) :
    (T.node l v r).get n = if n = 0 then v else if n % 2 = 1 then l.get (n / 2) else r.get (n / 2 - 1) := by
  have e : (T.node l v r).get n = Bool.rec (motive := fun _ => Option α) (Bool.rec (motive := fun _ => Option α) (r.get (Nat.pred (Nat.div n 2))) (l.get (Nat.div n 2)) (Nat.beq (Nat.mod n 2) 1)) v (Nat.beq n 0) := rfl
  rw [e, brec, brec, beq0, beq0]
  by_cases h : n = 0
  · simp [h]
  · have h1 : Nat.mod n 2 = n % 2 := rfl
    have h2 : Nat.pred (Nat.div n 2) = n / 2 - 1 := rfl
    have h3 : Nat.div n 2 = n / 2 := rfl
    rw [h1, h2, h3]
    by_cases h4 : n % 2 = 1 <;> simp [h, h4]

theorem T.one_succ {α : Type} (x : α) (f n : Nat) : T.one x (f + 1) n =
    if n = 0 then .node .nil (some x) .nil else if n % 2 = 1 then .node (T.one x f (n / 2)) none .nil else .node .nil none (T.one x f (n / 2 - 1)) := by
  have e : T.one x (f + 1) n = Bool.rec (motive := fun _ => T α) (Bool.rec (motive := fun _ => T α) (T.node .nil none (T.one x f (Nat.pred (Nat.div n 2)))) (.node (T.one x f (Nat.div n 2)) none .nil) (Nat.beq (Nat.mod n 2) 1)) (.node .nil (some x) .nil) (Nat.beq n 0) := rfl
  rw [e, brec, brec, beq0, beq0]
  by_cases h : n = 0
  · simp [h]
  · have h1 : Nat.mod n 2 = n % 2 := rfl
    have h2 : Nat.pred (Nat.div n 2) = n / 2 - 1 := rfl
    have h3 : Nat.div n 2 = n / 2 := rfl
    rw [h1, h2, h3]
    by_cases h4 : n % 2 = 1 <;> simp [h, h4]

theorem T.set_node {α : Type} (x : α) (l : T α) (v : Option α) (r : T α) (n : Nat) : T.set x (.node l v r) n =
    if n = 0 then .node l (some x) r else if n % 2 = 1 then .node (T.set x l (n / 2)) v r else .node l v (T.set x r (n / 2 - 1)) := by
  have e : T.set x (.node l v r) n = Bool.rec (motive := fun _ => T α) (Bool.rec (motive := fun _ => T α) (T.node l v (T.set x r (Nat.pred (Nat.div n 2)))) (.node (T.set x l (Nat.div n 2)) v r) (Nat.beq (Nat.mod n 2) 1)) (.node l (some x) r) (Nat.beq n 0) := rfl
  rw [e, brec, brec, beq0, beq0]
  by_cases h : n = 0
  · simp [h]
  · have h1 : Nat.mod n 2 = n % 2 := rfl
    have h2 : Nat.pred (Nat.div n 2) = n / 2 - 1 := rfl
    have h3 : Nat.div n 2 = n / 2 := rfl
    rw [h1, h2, h3]
    by_cases h4 : n % 2 = 1 <;> simp [h, h4]

theorem T.get_one {α : Type} (x : α) : ∀ (f n m : Nat), n < f → (T.one x f n).get m = if m = n then some x else none := by
  intro f
  induction f with
  | zero => intro n m h; omega
  | succ f ih =>
    intro n m hn
    rw [T.one_succ]
    by_cases h : n = 0
    · subst h
      rw [if_pos rfl, T.get_node]
      by_cases hm : m = 0
      · simp [hm]
      · simp [hm, T.get_nil]
    · rw [if_neg h]
      by_cases h1 : n % 2 = 1
      · rw [if_pos h1, T.get_node]
        by_cases hm : m = 0
        · simp [hm, show (0 : Nat) ≠ n by omega]
        · rw [if_neg hm]
          by_cases h2 : m % 2 = 1
          · rw [if_pos h2, ih _ _ (by omega)]
            by_cases he : m = n
            · subst he; simp
            · rw [if_neg he, if_neg (by omega)]
          · rw [if_neg h2, if_neg (by omega)]; rfl
      · rw [if_neg h1, T.get_node]
        by_cases hm : m = 0
        · simp [hm, show (0 : Nat) ≠ n by omega]
        · rw [if_neg hm]
          by_cases h2 : m % 2 = 1
          · rw [if_pos h2, if_neg (by omega)]; rfl
          · rw [if_neg h2, ih _ _ (by omega)]
            by_cases he : m = n
            · subst he; simp
            · rw [if_neg he, if_neg (by omega)]

theorem T.get_set {α : Type} (x : α) : ∀ (t : T α) (n m : Nat), (T.set x t n).get m = if m = n then some x else t.get m := by
  intro t
  induction t with
  | nil => intro n m; exact T.get_one x _ n m (Nat.lt_succ_self n)
  | node l v r ihl ihr =>
    intro n m
    rw [T.set_node, T.get_node]
    by_cases h : n = 0
    · subst h
      rw [if_pos rfl, T.get_node]
      by_cases hm : m = 0 <;> simp [hm]
    · rw [if_neg h]
      by_cases h1 : n % 2 = 1
      · rw [if_pos h1, T.get_node]
        by_cases hm : m = 0
        · simp [hm, show (0 : Nat) ≠ n by omega]
        · rw [if_neg hm, if_neg hm]
          by_cases h2 : m % 2 = 1
          · rw [if_pos h2, if_pos h2, ihl]
            by_cases he : m = n
            · subst he; simp
            · rw [if_neg he, if_neg (by omega)]
          · rw [if_neg h2, if_neg h2, if_neg (by omega)]
      · rw [if_neg h1, T.get_node]
        by_cases hm : m = 0
        · simp [hm, show (0 : Nat) ≠ n by omega]
        · rw [if_neg hm, if_neg hm]
          by_cases h2 : m % 2 = 1
          · rw [if_pos h2, if_pos h2, if_neg (by omega)]
          · rw [if_neg h2, if_neg h2, ihr]
            by_cases he : m = n
            · subst he; simp
            · rw [if_neg he, if_neg (by omega)]

theorem T.get_set_same {α : Type} (x : α) (t : T α) (n : Nat) : (T.set x t n).get n = some x := by rw [T.get_set, if_pos rfl]
theorem T.get_set_ne {α : Type} (x : α) (t : T α) {n m : Nat} (h : m ≠ n) : (T.set x t n).get m = t.get m := by rw [T.get_set, if_neg h]

/-! lists side by side -/
def LR {α β : Type} (R : α → β → Prop) : List α → List β → Prop
  | [], [] => True
  | a :: as, b :: bs => R a b ∧ LR R as bs
  | _, _ => False

section
variable {α β : Type} {R R' : α → β → Prop}
theorem LR.mono (h : ∀ a b, R a b → R' a b) : ∀ {as : List α} {bs : List β}, LR R as bs → LR R' as bs
  | [], [], _ => trivial
  | _ :: _, _ :: _, ⟨h1, h2⟩ => ⟨h _ _ h1, LR.mono h h2⟩
  | [], _ :: _, h => h.elim
  | _ :: _, [], h => h.elim
theorem LR.length : ∀ {as : List α} {bs : List β}, LR R as bs → as.length = bs.length
  | [], [], _ => rfl
  | _ :: _, _ :: _, ⟨_, h2⟩ => by simp [LR.length h2]
  | [], _ :: _, h => h.elim
  | _ :: _, [], h => h.elim
theorem LR.append : ∀ {as as' : List α} {bs bs' : List β}, LR R as bs → LR R as' bs' → LR R (as ++ as') (bs ++ bs')
  | [], _, [], _, _, h => h
  | _ :: _, _, _ :: _, _, ⟨h1, h2⟩, h => ⟨h1, LR.append h2 h⟩
  | [], _, _ :: _, _, h, _ => h.elim
  | _ :: _, _, [], _, h, _ => h.elim
theorem LR.take : ∀ (n : Nat) {as : List α} {bs : List β}, LR R as bs → LR R (as.take n) (bs.take n)
  | 0, _, _, _ => by simp [LR]
  | _ + 1, [], [], _ => by simp [LR]
  | n + 1, _ :: _, _ :: _, ⟨h1, h2⟩ => by simpa [LR] using ⟨h1, LR.take n h2⟩
  | _ + 1, [], _ :: _, h => h.elim
  | _ + 1, _ :: _, [], h => h.elim
theorem LR.drop : ∀ (n : Nat) {as : List α} {bs : List β}, LR R as bs → LR R (as.drop n) (bs.drop n)
  | 0, _, _, h => by simpa using h
  | _ + 1, [], [], _ => by simp [LR]
  | n + 1, _ :: _, _ :: _, ⟨_, h2⟩ => by simpa using LR.drop n h2
  | _ + 1, [], _ :: _, h => h.elim
  | _ + 1, _ :: _, [], h => h.elim
theorem LR.get : ∀ {as : List α} {bs : List β} (i : Nat) (a : α), LR R as bs → as[i]? = some a → ∃ b, bs[i]? = some b ∧ R a b
  | [], [], _, _, _, h => by simp at h
  | _ :: _, _ :: _, 0, _, ⟨h1, _⟩, h => by simp at h; subst h; exact ⟨_, by simp, h1⟩
  | _ :: _, _ :: _, i + 1, a, ⟨_, h2⟩, h => by simpa using LR.get i a h2 (by simpa using h)
  | [], _ :: _, _, _, h, _ => h.elim
  | _ :: _, [], _, _, h, _ => h.elim
theorem LR.of_get : ∀ {as : List α} {bs : List β}, as.length = bs.length → (∀ (i : Nat) (a : α) (b : β), as[i]? = some a → bs[i]? = some b → R a b) → LR R as bs
  | [], [], _, _ => trivial
  | a :: as, b :: bs, hl, h => ⟨h 0 a b (by simp) (by simp), LR.of_get (by simpa using hl) fun i x y hx hy => h (i + 1) x y (by simpa using hx) (by simpa using hy)⟩
  | [], _ :: _, h, _ => by simp at h
  | _ :: _, [], h, _ => by simp at h
theorem LR.nil_left {bs : List β} (h : LR R [] bs) : bs = [] := by cases bs <;> simp_all [LR]
theorem LR.cons_left {a : α} {as : List α} {bs : List β} (h : LR R (a :: as) bs) : ∃ b bs', bs = b :: bs' ∧ R a b ∧ LR R as bs' := by
  cases bs with
  | nil => exact h.elim
  | cons b bs' => exact ⟨b, bs', rfl, h.1, h.2⟩
end

/-! values side by side -/
abbrev Mp := Nat → Nat → Option (Nat × Nat)

def Ext (μ μ' : Mp) : Prop := ∀ b g x, μ b g = some x → μ' b g = some x
theorem Ext.refl (μ : Mp) : Ext μ μ := fun _ _ _ h => h
theorem Ext.trans {μ μ' μ'' : Mp} (h : Ext μ μ') (h' : Ext μ' μ'') : Ext μ μ'' := fun b g x hx => h' b g x (h b g x hx)

def AR (μ : Mp) (a : AA) (c : Addr) : Prop := ∃ blk n, μ a.b a.g = some (blk, n) ∧ c = ⟨blk, a.off, none⟩

def SR (μ : Mp) : AV → Value → Prop
  | .bool b, v => v = .bool b
  | .int k n, v => v = .int k n
  | .str s, v => v = .string ⟨s.toArray⟩
  | .nilPtr, v => v = .pointer none
  | .ptr a, v => ∃ c, AR μ a c ∧ v = .pointer (some c)
  | _, _ => False

def CR (μ : Mp) : AV → Value → Prop
  | .nilSlice, v => v = .slice none 0 0
  | .empty, v => ∃ a cap, v = .slice (some a) 0 cap
  | .slice a n esz, v => ∃ blk m cap, μ a.b a.g = some (blk, m) ∧ v = .slice (some ⟨blk, a.off, none⟩) n cap ∧ n ≤ cap ∧ a.off + cap * esz ≤ m
  | .nilFunc, v => v = .nilFunc
  | .func f caps, v => ∃ cs, LR (AR μ) caps cs ∧ v = .func (.func f) #[] (cs.map fun c => Value.pointer (some c)).toArray
  | .nilIface, v => v = .nilIface
  | .iface t x, v => ∃ y, SR μ x y ∧ v = .iface t y
  | x, v => SR μ x v

def V1 (μ : Mp) : AV → Value → Prop
  | .agg cs, v => ∃ vs, LR (CR μ) cs vs ∧ v = .agg vs.toArray
  | x, v => CR μ x v

def VR (μ : Mp) : AV → Value → Prop
  | .tuple xs, v => ∃ vs, LR (V1 μ) xs vs ∧ v = .tuple vs.toArray
  | x, v => V1 μ x v

section
variable {μ μ' : Mp}
theorem AR.mono (h : Ext μ μ') {a : AA} {c : Addr} : AR μ a c → AR μ' a c := fun ⟨blk, n, h1, h2⟩ => ⟨blk, n, h _ _ _ h1, h2⟩
theorem SR.mono (h : Ext μ μ') {x : AV} {v : Value} (hx : SR μ x v) : SR μ' x v := by
  cases x <;> simp only [SR] at hx ⊢ <;> first | exact hx | (obtain ⟨c, h1, h2⟩ := hx; exact ⟨c, h1.mono h, h2⟩)
theorem CR.mono (h : Ext μ μ') {x : AV} {v : Value} (hx : CR μ x v) : CR μ' x v := by
  cases x <;> simp only [CR] at hx ⊢
  case slice a n esz => obtain ⟨blk, m, cap, h1, h2⟩ := hx; exact ⟨blk, m, cap, h _ _ _ h1, h2⟩
  case func f caps => obtain ⟨cs, h1, h2⟩ := hx; exact ⟨cs, h1.mono fun _ _ => AR.mono h, h2⟩
  case iface t x => obtain ⟨y, h1, h2⟩ := hx; exact ⟨y, h1.mono h, h2⟩
  all_goals first | exact hx | exact SR.mono h hx
theorem V1.mono (h : Ext μ μ') {x : AV} {v : Value} (hx : V1 μ x v) : V1 μ' x v := by
  cases x <;> simp only [V1] at hx ⊢
  case agg cs => obtain ⟨vs, h1, h2⟩ := hx; exact ⟨vs, h1.mono fun _ _ => CR.mono h, h2⟩
  all_goals exact CR.mono h hx
theorem VR.mono (h : Ext μ μ') {x : AV} {v : Value} (hx : VR μ x v) : VR μ' x v := by
  cases x <;> simp only [VR] at hx ⊢
  case tuple xs => obtain ⟨vs, h1, h2⟩ := hx; exact ⟨vs, h1.mono fun _ _ => V1.mono h, h2⟩
  all_goals exact V1.mono h hx
theorem VR.und : VR μ und undef := ⟨[], trivial, rfl⟩
end

/-! values that name rows below a bound alone -/
def okS (N : Nat) : AV → Prop
  | .ptr a => a.b < N
  | _ => True
def okC (N : Nat) : AV → Prop
  | .slice a _ _ => a.b < N
  | .func _ caps => ∀ c ∈ caps, c.b < N
  | .iface _ x => okS N x
  | x => okS N x
theorem okS.mono {N M : Nat} (h : N ≤ M) {x : AV} (hx : okS N x) : okS M x := by
  cases x <;> first | exact trivial | exact Nat.lt_of_lt_of_le hx h
theorem okC.mono {N M : Nat} (h : N ≤ M) {x : AV} (hx : okC N x) : okC M x := by
  cases x
  case slice a n e => exact Nat.lt_of_lt_of_le hx h
  case func f caps => exact fun c hc => Nat.lt_of_lt_of_le (hx c hc) h
  case iface t y => exact okS.mono h (x := y) hx
  case ptr a => exact Nat.lt_of_lt_of_le hx h
  all_goals trivial
theorem SR.ok {μ : Mp} {N : Nat} (hd : ∀ b g x, μ b g = some x → b < N) {x : AV} {v : Value} (h : SR μ x v) : okS N x := by
  cases x
  case ptr a => obtain ⟨c, ⟨_, _, h, _⟩, _⟩ := h; exact hd _ _ _ h
  all_goals trivial
theorem CR.ok {μ : Mp} {N : Nat} (hd : ∀ b g x, μ b g = some x → b < N) {x : AV} {v : Value} (h : CR μ x v) : okC N x := by
  cases x
  case slice a n e => obtain ⟨_, _, _, h, _⟩ := h; exact hd _ _ _ h
  case func f caps =>
    obtain ⟨cs, h, hz⟩ := h
    clear hz
    intro c hc
    induction caps generalizing cs with
    | nil => cases hc
    | cons q r ih =>
      obtain ⟨c', cs', rfl, ⟨_, _, h1, _⟩, h2⟩ := h.cons_left
      rcases List.mem_cons.1 hc with rfl | hc
      · exact hd _ _ _ h1
      · exact ih _ h2 hc
  case iface t y => obtain ⟨u, h, _⟩ := h; exact SR.ok hd h
  case ptr a => exact SR.ok (x := .ptr a) hd h
  all_goals trivial
theorem LR.ok {μ : Mp} {N : Nat} (hd : ∀ b g x, μ b g = some x → b < N) : ∀ {xs : List AV} {vs : List Value}, LR (CR μ) xs vs → ∀ x ∈ xs, okC N x
  | [], _, _, _, h => by cases h
  | y :: ys, [], h, _, _ => h.elim
  | y :: ys, v :: vs, ⟨h1, h2⟩, x, hx => by
    rcases List.mem_cons.1 hx with rfl | hx
    · exact CR.ok hd h1
    · exact LR.ok hd h2 x hx

def WF (h : T Row) (N : Nat) : Prop := ∀ b r, h.get b = some r → ∀ x ∈ r.cells, okC N x
theorem WF.mono {h : T Row} {N M : Nat} (hN : N ≤ M) (hw : WF h N) : WF h M := fun b r hr x hx => okC.mono hN (hw b r hr x hx)
theorem WF.set {h : T Row} {N : Nat} (hw : WF h N) {r : Row} (hr : ∀ x ∈ r.cells, okC N x) (b : Nat) : WF (T.set r h b) N := fun b' r' hg x hx => by
  rw [T.get_set] at hg
  by_cases hb : b' = b
  · rw [if_pos hb] at hg
    injection hg with hg
    subst hg
    exact hr x hx
  · rw [if_neg hb] at hg
    exact hw b' r' hg x hx

/-! memory side by side -/
structure RowOk (base : Nat) (μ : Mp) (w : World) (r : Row) (g blk n : Nat) : Prop where
  len : r.len = r.cells.length
  gens : r.minGen ≤ r.gen
  at_ : ∃ cs fz, w.heap[blk]? = some (.cells cs r.elem fz) ∧ cs.size = n ∧
    (∀ m, extent r g = some m → m ≤ n ∧ m ≤ r.len ∧ LR (CR μ) (r.cells.take m) (cs.toList.take m)) ∧
    (g = r.gen → r.own = true → (∀ i, r.fz ≤ i → i < n → ¬ (fz.1 ≤ i ∧ i < fz.2)) ∧ (r.odd = false → fz.2 ≤ r.fz))
  fzl : r.fz ≤ r.len
  own : if r.own = true then base ≤ blk else blk < base
  gen : g ≤ r.gen

structure Rel (base : Nat) (μ : Mp) (h : T Row) (w : World) : Prop where
  row : ∀ b g blk n, μ b g = some (blk, n) → ∃ r, h.get b = some r ∧ RowOk base μ w r g blk n
  sep : ∀ b g blk n b' g' n' r, μ b g = some (blk, n) → μ b' g' = some (blk, n') → h.get b = some r → r.own = true → b = b'

structure Inv (base : Nat) (μ : Mp) (s : St) (w : World) : Prop where
  rel : Rel base μ s.hp w
  dom : ∀ b g x, μ b g = some x → b < s.nx
  low : s.low ≤ s.nx
  size : base ≤ w.heap.size
  glob : ∀ g, g < s.gl → ∃ n, μ g 0 = some (g, n)
  wf : WF s.hp s.nx

structure Stp (base : Nat) (μ μ' : Mp) (s s' : St) (w w' : World) : Prop where
  ext : Ext μ μ'
  rel : Rel base μ' s'.hp w'
  dom : ∀ b g x, μ' b g = some x → b < s'.nx
  new : ∀ b g blk n, μ' b g = some (blk, n) → μ b g = some (blk, n) ∨ (s.nx ≤ b ∧ w.heap.size ≤ blk) ∨
    (s'.low ≤ b ∧ b < s.nx ∧ (w.heap.size ≤ blk ∨ ∃ g0, μ b g0 = some (blk, n)))
  nx : s.nx ≤ s'.nx
  gl : s'.gl = s.gl
  low : s'.low ≤ s.low
  same : ∀ b, b < s.nx → b < s'.low → s'.hp.get b = s.hp.get b
  fr : ∀ blk, blk < w.heap.size → w'.heap[blk]? = w.heap[blk]? ∨ ∃ b g n, μ b g = some (blk, n) ∧ s'.low ≤ b ∧ base ≤ blk
  size : w.heap.size ≤ w'.heap.size
  os : w'.os = w.os
  tape : w'.tape = w.tape
  output : w'.output = w.output
  wf : WF s'.hp s'.nx

section
variable {base : Nat} {μ μ' μ'' : Mp} {s s' s'' : St} {w w' w'' : World}

theorem RowOk.mono {r : Row} {g blk n : Nat} (h : RowOk base μ w r g blk n) (he : Ext μ μ') (hw : w'.heap[blk]? = w.heap[blk]?) : RowOk base μ' w' r g blk n := by
  obtain ⟨h1, h2, ⟨cs, fz, h3, h4, h5, h6⟩, h7, h8, h9⟩ := h
  exact ⟨h1, h2, ⟨cs, fz, hw.trans h3, h4, fun m hm => ⟨(h5 m hm).1, (h5 m hm).2.1, (h5 m hm).2.2.mono fun _ _ => CR.mono he⟩, h6⟩, h7, h8, h9⟩

theorem Rel.heap {h : T Row} (hr : Rel base μ h w) (hw : w'.heap = w.heap) : Rel base μ h w' :=
  ⟨fun b g blk n hm => let ⟨r, h1, h2⟩ := hr.row b g blk n hm; ⟨r, h1, h2.mono (Ext.refl _) (by rw [hw])⟩, hr.sep⟩

theorem Inv.after (hi : Inv base μ s w) (h : Stp base μ μ' s s' w w') : Inv base μ' s' w' :=
  ⟨h.rel, h.dom, Nat.le_trans h.low (Nat.le_trans hi.low h.nx), Nat.le_trans hi.size h.size, fun g hg => by
    rw [h.gl] at hg
    obtain ⟨n, hn⟩ := hi.glob g hg
    exact ⟨n, h.ext _ _ _ hn⟩, h.wf⟩

theorem Stp.refl (hi : Inv base μ s w) : Stp base μ μ s s w w :=
  ⟨Ext.refl _, hi.rel, hi.dom, fun _ _ _ _ h => .inl h, Nat.le_refl _, rfl, Nat.le_refl _, fun _ _ _ => rfl, fun _ _ => .inl rfl, Nat.le_refl _, rfl, rfl, rfl, hi.wf⟩

theorem Stp.trans (hi : Inv base μ s w) (h : Stp base μ μ' s s' w w') (k : Stp base μ' μ'' s' s'' w' w'') : Stp base μ μ'' s s'' w w'' := by
  refine ⟨h.ext.trans k.ext, k.rel, k.dom, ?_, Nat.le_trans h.nx k.nx, k.gl.trans h.gl, Nat.le_trans k.low h.low, ?_, ?_, Nat.le_trans h.size k.size, k.os.trans h.os, k.tape.trans h.tape, k.output.trans h.output, k.wf⟩
  · intro b g blk n hm
    have h1 := h.size
    have h2 := h.nx
    have h3 := k.low
    rcases k.new b g blk n hm with hm | ⟨hb, hk⟩ | ⟨hl, hb, hk⟩
    · rcases h.new b g blk n hm with hm | ⟨hb, hk⟩ | ⟨hl, hb, hk⟩
      · exact .inl hm
      · exact .inr (.inl ⟨hb, hk⟩)
      · exact .inr (.inr ⟨by omega, hb, hk⟩)
    · exact .inr (.inl ⟨by omega, by omega⟩)
    · by_cases hs : b < s.nx
      · refine .inr (.inr ⟨hl, hs, ?_⟩)
        rcases hk with hk | ⟨g0, hk⟩
        · exact .inl (by omega)
        · rcases h.new b g0 blk n hk with hm | ⟨hb', _⟩ | ⟨_, _, hk⟩
          · exact .inr ⟨g0, hm⟩
          · omega
          · exact hk
      · refine .inr (.inl ⟨by omega, ?_⟩)
        rcases hk with hk | ⟨g0, hk⟩
        · omega
        · rcases h.new b g0 blk n hk with hm | ⟨_, hk⟩ | ⟨_, hb', _⟩
          · have := hi.dom _ _ _ hm; omega
          · exact hk
          · omega
  · intro b hb hl
    have h2 := h.nx
    have h3 := k.low
    rw [k.same b (by omega) hl, h.same b hb (by omega)]
  · intro blk hb
    have h1 := h.size
    have h3 := k.low
    rcases h.fr blk hb with he | ⟨b, g, n, hm, hl, hbase⟩
    · rcases k.fr blk (by omega) with he' | ⟨b, g, n, hm, hl, hbase⟩
      · exact .inl (he'.trans he)
      · rcases h.new b g blk n hm with hm | ⟨_, hk⟩ | ⟨_, _, hk | ⟨g0, hk⟩⟩
        · exact .inr ⟨b, g, n, hm, hl, hbase⟩
        · omega
        · omega
        · exact .inr ⟨b, g0, n, hk, hl, hbase⟩
    · exact .inr ⟨b, g, n, hm, by omega, hbase⟩

/-- what was there below the base is as it was -/
theorem Stp.below (h : Stp base μ μ' s s' w w') (hb : base ≤ w.heap.size) : Below base w w' :=
  ⟨h.os, h.tape, h.output, h.size, fun k hk => by
    rcases h.fr k (by omega) with he | ⟨_, _, _, _, _, hbase⟩
    · exact he
    · omega⟩

/-- a draw -/
theorem Stp.heap (h : Stp base μ μ' s s' w w') (hw : w''.heap = w'.heap) (h1 : w''.os = w'.os) (h2 : w''.tape = w'.tape) (h3 : w''.output = w'.output) : Stp base μ μ' s s' w w'' :=
  ⟨h.ext, h.rel.heap hw, h.dom, h.new, h.nx, h.gl, h.low, h.same, fun blk hb => by rw [hw]; exact h.fr blk hb, by rw [hw]; exact h.size, h1.trans h.os, h2.trans h.tape, h3.trans h.output, h.wf⟩

/-- nothing that was there has been written: every block is as it was -/
theorem Stp.still (hi : Inv base μ s w) (h : Stp base μ μ' s s' w w') (hl : s.nx ≤ s'.low) (blk : Nat) (hb : blk < w.heap.size) : w'.heap[blk]? = w.heap[blk]? := by
  rcases h.fr blk hb with he | ⟨b, g, n, hm, hl', _⟩
  · exact he
  · have := hi.dom _ _ _ hm; omega
end

/-! a new row -/
section
variable {base : Nat} {μ : Mp} {s : St} {w : World}

def Mp.put (μ : Mp) (b g : Nat) (x : Nat × Nat) : Mp := fun b' g' => if b' = b ∧ g' = g then some x else μ b' g'
theorem Mp.put_same (μ : Mp) (b g : Nat) (x : Nat × Nat) : μ.put b g x b g = some x := by simp [Mp.put]
theorem Mp.put_other (μ : Mp) {b g b' g' : Nat} (x : Nat × Nat) (h : ¬ (b' = b ∧ g' = g)) : μ.put b g x b' g' = μ b' g' := by simp [Mp.put, h]

theorem Stp.alloc (hi : Inv base μ s w) (elem : TypeId) (cells : List AV) (odd : Bool) (cs : Array Value) (fz : Nat × Nat)
    (hl : cells.length ≤ cs.size) (hr : LR (CR μ) cells (cs.toList.take cells.length)) (hz : ∀ i, i < cs.size → ¬ (fz.1 ≤ i ∧ i < fz.2)) (hodd : odd = false → fz.2 ≤ 0) :
    Stp base μ (μ.put s.nx 0 (w.heap.size, cs.size)) s (newRow s elem cells odd).2 w (w.alloc (.cells cs elem fz)) := by
  have hne : ∀ b g x, μ b g = some x → ¬ (b = s.nx ∧ g = 0) := fun b g x hm ⟨hb, _⟩ => by have := hi.dom b g x hm; omega
  have hext : Ext μ (μ.put s.nx 0 (w.heap.size, cs.size)) := fun b g x hm => by rw [Mp.put_other _ _ (hne b g x hm)]; exact hm
  have hsz : (w.alloc (.cells cs elem fz)).heap.size = w.heap.size + 1 := Array.size_push _
  have hold : ∀ blk, blk < w.heap.size → (w.alloc (.cells cs elem fz)).heap[blk]? = w.heap[blk]? := fun blk hb => Below.heap_alloc w _ blk hb
  have hnewb : (w.alloc (.cells cs elem fz)).heap[w.heap.size]? = some (.cells cs elem fz) := Array.getElem?_push_size
  have hlt : ∀ b g blk n, μ b g = some (blk, n) → blk < w.heap.size := fun b g blk n hm => by
    obtain ⟨r, _, hr⟩ := hi.rel.row b g blk n hm
    obtain ⟨cs, fz, h, _⟩ := hr.at_
    exact (Array.getElem?_eq_some_iff.1 h).1
  refine ⟨hext, ⟨?_, ?_⟩, ?_, ?_, Nat.le_succ _, rfl, Nat.le_refl _, ?_, fun blk hb => .inl (hold blk hb), by omega, rfl, rfl, rfl, (hi.wf.mono (Nat.le_succ _)).set (fun x hx => okC.mono (Nat.le_succ _) (hr.ok hi.dom x hx)) _⟩
  · intro b g blk n hm
    by_cases hc : b = s.nx ∧ g = 0
    · obtain ⟨rfl, rfl⟩ := hc
      rw [Mp.put_same] at hm
      injection hm with hm
      injection hm with h1 h2
      subst h1; subst h2
      refine ⟨_, T.get_set_same _ _ _, rfl, Nat.le_refl _, ⟨cs, fz, hnewb, rfl, ?_, fun _ _ => ⟨fun i _ hi => hz i hi, hodd⟩⟩, Nat.zero_le _, ?_, Nat.le_refl _⟩
      · intro m hm
        simp [extent] at hm
        subst hm
        exact ⟨hl, Nat.le_refl _, by simpa using hr.mono fun _ _ => CR.mono hext⟩
      · simpa using hi.size
    · rw [Mp.put_other _ _ hc] at hm
      obtain ⟨r, h1, h2⟩ := hi.rel.row b g blk n hm
      refine ⟨r, ?_, h2.mono hext (hold _ (hlt _ _ _ _ hm))⟩
      show (T.set _ s.hp s.nx).get b = _
      rw [T.get_set_ne _ _ (by have := hi.dom _ _ _ hm; omega)]
      exact h1
  · intro b g blk n b' g' n' r hm hm' hg ho
    by_cases hc : b = s.nx ∧ g = 0
    · by_cases hc' : b' = s.nx ∧ g' = 0
      · rw [hc.1, hc'.1]
      · rw [Mp.put_other _ _ hc'] at hm'
        obtain ⟨rfl, rfl⟩ := hc
        rw [Mp.put_same] at hm
        injection hm with hm
        injection hm with h1 h2
        subst h1
        have := hlt _ _ _ _ hm'
        omega
    · rw [Mp.put_other _ _ hc] at hm
      have hbn : b ≠ s.nx := by have := hi.dom _ _ _ hm; omega
      by_cases hc' : b' = s.nx ∧ g' = 0
      · obtain ⟨rfl, rfl⟩ := hc'
        rw [Mp.put_same] at hm'
        injection hm' with hm'
        injection hm' with h1 h2
        subst h1
        have := hlt _ _ _ _ hm
        omega
      · rw [Mp.put_other _ _ hc'] at hm'
        refine hi.rel.sep b g blk n b' g' n' r hm hm' ?_ ho
        have : (T.set _ s.hp s.nx).get b = some r := hg
        rw [T.get_set_ne _ _ hbn] at this
        exact this
  · intro b g x hm
    show b < s.nx + 1
    by_cases hc : b = s.nx ∧ g = 0
    · omega
    · rw [Mp.put_other _ _ hc] at hm
      have := hi.dom _ _ _ hm
      omega
  · intro b g blk n hm
    by_cases hc : b = s.nx ∧ g = 0
    · obtain ⟨rfl, rfl⟩ := hc
      rw [Mp.put_same] at hm
      injection hm with hm
      injection hm with h1 h2
      exact .inr (.inl ⟨Nat.le_refl _, by omega⟩)
    · rw [Mp.put_other _ _ hc] at hm
      exact .inl hm
  · intro b hb _
    show (T.set _ s.hp s.nx).get b = _
    rw [T.get_set_ne _ _ (by omega)]

end
end Go.AM
