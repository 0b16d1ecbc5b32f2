/-
  A quicker form of the machine for the kernel: the check of a region that draws its order.
-/
import Derived.Test.YtoigjpkdcadlnaaGreatDoorAmFast1
namespace Go.AM
open Go
noncomputable section

def nthN (n : Nat) : List Nat → Nat :=
  Nat.rec (motive := fun _ => List Nat → Nat) (fun l => List.rec (motive := fun _ => Nat) 0 (fun a _ _ => a) l) (fun _ ih l => List.rec (motive := fun _ => Nat) 0 (fun _ t _ => ih t) l) n
theorem nthN_eq : ∀ (n : Nat) (l : List Nat), nthN n l = l.getD n 0
  | 0, [] => rfl
  | 0, _ :: _ => rfl
  | _ + 1, [] => rfl
  | n + 1, _ :: l => nthN_eq n l

/-! the order that the edges force -/
def edgeM (bl : List Nat) (l : List Edge) : Nat → Nat :=
  List.rec (motive := fun _ => Nat → Nat) (fun s => s) (fun e _ ih s => Bool.rec (motive := fun _ => Nat) (ih s) (gNat (Nat.lor (Nat.lor s (Nat.pow 2 e.on)) (nthN e.on bl)) fun s => ih s) (Region.binds .any e)) l
theorem edgeM_eq (bl : List Nat) : ∀ (l : List Edge) (s : Nat), edgeM bl l s = l.foldl (fun s e => if Region.binds .any e then s ||| 2 ^ e.on ||| bl.getD e.on 0 else s) s
  | [], _ => rfl
  | e :: l, s => by
    show Bool.rec (motive := fun _ => Nat) (edgeM bl l s) (gNat (Nat.lor (Nat.lor s (Nat.pow 2 e.on)) (nthN e.on bl)) fun s => edgeM bl l s) (Region.binds .any e) = _
    rw [gNat_eq, nthN_eq, List.foldl_cons, edgeM_eq bl l, edgeM_eq bl l]
    cases Region.binds .any e <;> rfl

def bfG {β : Type} (l : List Oper) : List Nat → (List Nat → β) → β :=
  List.rec (motive := fun _ => List Nat → (List Nat → β) → β) (fun bl k => k bl) (fun o _ ih bl k => gNat (edgeM bl o.after.toList 0) fun m => gList (bl ++ [m]) fun bl => ih bl k) l
theorem bfG_eq {β : Type} : ∀ (l : List Oper) (acc : Array Nat) (k : List Nat → β), bfG l acc.toList k =
    k (l.foldl (fun acc o => acc.push (o.after.foldl (fun s e => if Region.binds .any e then s ||| 2 ^ e.on ||| acc.getD e.on 0 else s) 0)) acc).toList
  | [], _, _ => rfl
  | o :: l, acc, k => by
    show gNat (edgeM acc.toList o.after.toList 0) (fun m => gList (acc.toList ++ [m]) fun bl => bfG l bl k) = _
    rw [gNat_eq, gList_eq, edgeM_eq, List.foldl_cons]
    have h := bfG_eq l (acc.push (o.after.foldl (fun s e => if Region.binds .any e then s ||| 2 ^ e.on ||| acc.getD e.on 0 else s) 0)) k
    rw [← h, Array.toList_push, ← Array.foldl_toList]
    simp only [Array.getD_eq_getD_getElem?, List.getD_eq_getElem?_getD, Array.getElem?_toList]
theorem bf_before {β : Type} (ops : Array Oper) (k : List Nat → β) : bfG ops.toList [] k = k (Region.before ops).toList := by
  have h := bfG_eq ops.toList #[] k
  rw [show (#[] : Array Nat).toList = [] from rfl] at h
  rw [h, Region.before, ← Array.foldl_toList]

/-! bits -/
def tb (m i : Nat) : Bool := Nat.beq (Nat.mod (Nat.div m (Nat.pow 2 i)) 2) 1
theorem tb_eq (m i : Nat) : tb m i = m.testBit i := by
  unfold tb
  rw [nbeq, Nat.testBit_eq_decide_div_mod_eq]
  rfl
def odd (m : Nat) : Bool := Nat.beq (Nat.mod m 2) 1
theorem odd_eq (m : Nat) : odd m = m.testBit 0 := by
  unfold odd
  rw [nbeq, Nat.testBit_zero]
  rfl

def maskL (l : List Nat) : Nat → Nat := List.rec (motive := fun _ => Nat → Nat) (fun s => s) (fun t _ ih s => gNat (Nat.lor s (Nat.pow 2 t)) fun s => ih s) l
theorem maskL_bit : ∀ (l : List Nat) (s d : Nat), (maskL l s).testBit d = (s.testBit d || l.contains d)
  | [], s, d => by show s.testBit d = _; simp
  | t :: l, s, d => by
    show (maskL l (s ||| 2 ^ t)).testBit d = _
    rw [maskL_bit l, Nat.testBit_or, Nat.testBit_two_pow, List.contains_cons]
    have : (d == t) = decide (t = d) := by
      by_cases h : t = d
      · subst h; simp
      · simp [h]; exact fun e => h e.symm
    rw [this, Bool.or_assoc]

def unionM (bl : List Nat) (l : List Edge) : Nat → Nat :=
  List.rec (motive := fun _ => Nat → Nat) (fun s => s) (fun e _ ih s => Bool.rec (motive := fun _ => Nat) (ih s) (gNat (Nat.lor s (Nat.lor (Nat.pow 2 e.on) (Nat.mod (nthN e.on bl) (Nat.pow 2 e.on)))) fun s => ih s) (Region.binds .any e)) l
theorem unionM_bit (bl : List Nat) (i : Nat) : ∀ (l : List Edge) (s : Nat), (unionM bl l s).testBit i = (s.testBit i || l.any fun e => Region.binds .any e && (Nat.beq e.on i || (Nat.blt i e.on && (bl.getD e.on 0).testBit i)))
  | [], s => by show s.testBit i = _; simp
  | e :: l, s => by
    show (Bool.rec (motive := fun _ => Nat) (unionM bl l s) (unionM bl l (s ||| (2 ^ e.on ||| nthN e.on bl % 2 ^ e.on))) (Region.binds .any e)).testBit i = _
    rw [List.any_cons]
    cases Region.binds .any e with
    | false =>
      show (unionM bl l s).testBit i = _
      rw [unionM_bit bl i l]; simp
    | true =>
      show (unionM bl l (s ||| (2 ^ e.on ||| nthN e.on bl % 2 ^ e.on))).testBit i = _
      rw [unionM_bit bl i l, Nat.testBit_or, Nat.testBit_or, Nat.testBit_two_pow, Nat.testBit_mod_two_pow, nthN_eq, nbeq, nblt, Bool.true_and, Bool.or_assoc]

/-! operations that name different temporaries -/
structure OI where
  d : Option Nat
  l : Nat
def apartM (a b : OI) : Bool :=
  and (Option.rec (motive := fun _ => Bool) true (fun d => and (Bool.not (tb b.l d)) (Option.rec (motive := fun _ => Bool) true (fun d' => Bool.not (Nat.beq d' d)) b.d)) a.d)
    (Option.rec (motive := fun _ => Bool) true (fun d => Bool.not (tb a.l d)) b.d)
def oi (ops : Array Oper) (o : Oper) : OI := ⟨o.dst, maskL (o.looksAt ops) 0⟩
theorem apartM_eq (ops : Array Oper) (x y : Oper) : apartM (oi ops x) (oi ops y) = x.apart ops y := by
  unfold apartM oi Oper.apart
  have h : ∀ (o : Oper) d, tb (maskL (o.looksAt ops) 0) d = (o.looksAt ops).contains d := fun o d => by
    rw [tb_eq, maskL_bit]; simp
  simp only [h]
  cases x.dst with
  | none => cases y.dst <;> rfl
  | some d => cases y.dst with
    | none => simp
    | some d' =>
      have : Nat.beq d' d = (some d' == some d) := by
        rw [nbeq]
        by_cases e : d' = d
        · subst e; simp
        · simp [e]
      simp only [this]
      rfl
def oisG {β : Type} (ops : Array Oper) (l : List Oper) : (List OI → β) → β :=
  List.rec (motive := fun _ => (List OI → β) → β) (fun k => k []) (fun o _ ih k => gNat (maskL (o.looksAt ops) 0) fun m => ih fun r => k (⟨o.dst, m⟩ :: r)) l
theorem oisG_eq {β : Type} (ops : Array Oper) : ∀ (l : List Oper) (k : List OI → β), oisG ops l k = k (l.map (oi ops))
  | [], _ => rfl
  | o :: l, k => by
    show gNat (maskL (o.looksAt ops) 0) (fun m => oisG ops l fun r => k (⟨o.dst, m⟩ :: r)) = _
    rw [gNat_eq, oisG_eq ops l]
    rfl

/-- the pairs of an operation with those before it -/
def prL (y : OI) (j : Nat) : List OI → Nat → Nat → Bool :=
  Nat.rec (motive := fun _ => List OI → Nat → Nat → Bool) (fun _ _ _ => true)
    (fun _ ih l b u => List.rec (motive := fun _ => Bool) true (fun x r _ => Bool.rec (motive := fun _ => Bool) false (ih r (Nat.div b 2) (Nat.div u 2)) (Bool.rec (motive := fun _ => Bool) (apartM x y) (odd u) (odd b))) l) j
theorem prL_iff (y : OI) : ∀ (j : Nat) (l : List OI) (b u : Nat), prL y j l b u = true ↔ ∀ i x, i < j → l[i]? = some x → (if b.testBit i then u.testBit i else apartM x y) = true
  | 0, _, _, _ => ⟨fun _ _ _ h => absurd h (Nat.not_lt_zero _), fun _ => rfl⟩
  | j + 1, [], _, _ => ⟨fun _ i x _ h => by simp at h, fun _ => rfl⟩
  | j + 1, x :: r, b, u => by
    have e : prL y (j + 1) (x :: r) b u = Bool.rec (motive := fun _ => Bool) false (prL y j r (b / 2) (u / 2)) (Bool.rec (motive := fun _ => Bool) (apartM x y) (odd u) (odd b)) := rfl
    have e2 : (Bool.rec (motive := fun _ => Bool) (apartM x y) (odd u) (odd b) : Bool) = if b.testBit 0 then u.testBit 0 else apartM x y := by
      rw [odd_eq, odd_eq]; cases b.testBit 0 <;> rfl
    rw [e, e2]
    have ih := prL_iff y j r (b / 2) (u / 2)
    constructor
    · intro h i z hi hz
      cases hc : (if b.testBit 0 then u.testBit 0 else apartM x y : Bool) with
      | false => rw [hc] at h; cases h
      | true =>
        rw [hc] at h
        cases i with
        | zero => simp at hz; subst hz; exact hc
        | succ i =>
          have := ih.mp h i z (by omega) (by simpa using hz)
          rw [Nat.testBit_succ, Nat.testBit_succ]
          exact this
    · intro h
      have h0 := h 0 x (by omega) rfl
      rw [h0]
      refine ih.mpr fun i z hi hz => ?_
      have := h (i + 1) z (by omega) (by simpa using hz)
      rw [Nat.testBit_succ, Nat.testBit_succ] at this
      exact this

def notSel : Op → Bool
  | .select _ _ => false
  | _ => true
def edgesOk (j : Nat) (l : List Edge) : Bool := List.rec (motive := fun _ => Bool) true (fun e _ ih => Bool.rec (motive := fun _ => Bool) false ih (or (Bool.not (Region.binds .any e)) (Nat.blt e.on j))) l
theorem edgesOk_eq (j : Nat) : ∀ l, edgesOk j l = l.all fun e => !Region.binds .any e || Nat.blt e.on j
  | [] => rfl
  | e :: l => by
    show Bool.rec (motive := fun _ => Bool) false (edgesOk j l) (or (Bool.not (Region.binds .any e)) (Nat.blt e.on j)) = _
    rw [edgesOk_eq j l, List.all_cons]
    cases (!Region.binds .any e || Nat.blt e.on j) <;> rfl

def okJ (bl : List Nat) (ois : List OI) (j : Nat) (o : Oper) (y : OI) : Bool :=
  and (edgesOk j o.after.toList) (and (notSel o.op) (prL y j ois (nthN j bl) (unionM bl o.after.toList 0)))
def okL (bl : List Nat) (all : List OI) (l : List Oper) : Nat → List OI → Bool :=
  List.rec (motive := fun _ => Nat → List OI → Bool) (fun _ _ => true)
    (fun o _ ih j ys => List.rec (motive := fun _ => Bool) true (fun y ys _ => Bool.rec (motive := fun _ => Bool) false (gNat (Nat.succ j) fun j => ih j ys) (okJ bl all j o y)) ys) l
theorem okL_iff (bl : List Nat) (all : List OI) (ops : Array Oper) : ∀ (l : List Oper) (j : Nat), okL bl all l j (l.map (oi ops)) = true ↔ ∀ i o, l[i]? = some o → okJ bl all (j + i) o (oi ops o) = true
  | [], _ => ⟨fun _ i o h => by simp at h, fun _ => rfl⟩
  | o :: l, j => by
    have e : okL bl all (o :: l) j ((o :: l).map (oi ops)) = Bool.rec (motive := fun _ => Bool) false (okL bl all l (j + 1) (l.map (oi ops))) (okJ bl all j o (oi ops o)) := rfl
    have ih := okL_iff bl all ops l (j + 1)
    rw [e]
    constructor
    · intro h i x hx
      cases hc : okJ bl all j o (oi ops o) with
      | false => rw [hc] at h; cases h
      | true =>
        rw [hc] at h
        cases i with
        | zero => simp at hx; subst hx; exact hc
        | succ i =>
          have := ih.mp h i x (by simpa using hx)
          rwa [Nat.add_right_comm, Nat.add_assoc] at this
    · intro h
      have h0 := h 0 o rfl
      rw [Nat.add_zero] at h0
      rw [h0]
      refine ih.mpr fun i x hx => ?_
      have := h (i + 1) x (by simpa using hx)
      rwa [← Nat.add_assoc, Nat.add_right_comm] at this

def okRegionF (ops : Array Oper) : Bool := bfG ops.toList [] fun bl => oisG ops ops.toList fun ois => okL bl ois ops.toList 0 ois

theorem okRegionF_eq (ops : Array Oper) : okRegionF ops = okRegion ops := by
  unfold okRegionF
  rw [bf_before, oisG_eq, Bool.eq_iff_iff, okL_iff]
  unfold okRegion
  rw [List.all_eq_true]
  have hget : ∀ (i : Nat), ops.toList[i]? = ops[i]? := fun i => Array.getElem?_toList
  have hord : ∀ i j, i < j → ordered ops i j = (nthN j (Region.before ops).toList).testBit i := by
    intro i j h
    unfold ordered
    rw [nthN_eq, Nat.max_eq_right (by omega), Nat.min_eq_left (by omega), Array.getD_eq_getD_getElem?, List.getD_eq_getElem?_getD, Array.getElem?_toList]
  have key : ∀ j oj, ops[j]? = some oj → (okJ (Region.before ops).toList (ops.toList.map (oi ops)) j oj (oi ops oj) = true ↔
      (oj.after.all (fun e => !Region.binds .any e || Nat.blt e.on j) &&
      ((match oj.op with | .select _ _ => false | _ => true) &&
      (List.range j).all fun i => match ops[i]? with
        | none => false
        | some oi => match ordered ops i j with
          | true => oj.after.any fun e => Region.binds .any e && (Nat.beq e.on i || (Nat.blt i e.on && ordered ops i e.on))
          | false => oi.apart ops oj)) = true) := by
    intro j oj hj
    have hjn : j < ops.size := by
      by_cases h : j < ops.size
      · exact h
      · rw [Array.getElem?_eq_none (by omega)] at hj; cases hj
    unfold okJ
    rw [edgesOk_eq, Array.all_toList, Bool.and_eq_true, Bool.and_eq_true, Bool.and_eq_true, Bool.and_eq_true, prL_iff, List.all_eq_true]
    refine and_congr Iff.rfl (and_congr Iff.rfl ?_)
    constructor
    · intro h i hi
      have hi : i < j := by simpa using hi
      have hsome : ops[i]? = some ops[i] := Array.getElem?_eq_getElem (by omega)
      have := h i (oi ops ops[i]) hi (by rw [List.getElem?_map, hget, hsome]; rfl)
      rw [hsome]
      simp only
      rw [hord i j hi]
      cases hb : (nthN j (Region.before ops).toList).testBit i with
      | true =>
        rw [hb, if_pos rfl, unionM_bit] at this
        simp only [Nat.zero_testBit, Bool.false_or] at this
        simp only
        rw [← Array.any_toList, ← this]
        congr 1
        funext e
        by_cases he : i < e.on
        · rw [hord i e.on he, nthN_eq]
        · have : Nat.blt i e.on = false := by rw [nblt]; simp [he]
          rw [this]; rfl
      | false =>
        rw [hb] at this
        simp only [Bool.false_eq_true, if_false] at this
        rw [apartM_eq] at this
        exact this
    · intro h i x hi hx
      have := h i (by simpa using hi)
      have hsome : ops[i]? = some ops[i] := Array.getElem?_eq_getElem (by omega)
      rw [List.getElem?_map, hget, hsome] at hx
      cases hx
      rw [hsome] at this
      simp only at this
      rw [hord i j hi] at this
      cases hb : (nthN j (Region.before ops).toList).testBit i with
      | true =>
        rw [hb] at this
        rw [if_pos rfl, unionM_bit]
        simp only [Nat.zero_testBit, Bool.false_or]
        simp only at this
        rw [← Array.any_toList] at this
        rw [← this]
        congr 1
        funext e
        by_cases he : i < e.on
        · rw [hord i e.on he, nthN_eq]
        · have : Nat.blt i e.on = false := by rw [nblt]; simp [he]
          rw [this]; rfl
      | false =>
        rw [hb] at this
        simp only [Bool.false_eq_true, if_false]
        rw [apartM_eq]
        exact this
  constructor
  · intro h j hj
    have hj : j < ops.size := by simpa using hj
    have hsome : ops[j]? = some ops[j] := Array.getElem?_eq_getElem hj
    have := h j ops[j] (by rw [hget, hsome])
    rw [Nat.zero_add] at this
    rw [hsome]
    exact (key j _ hsome).mp this
  · intro h j o hjo
    rw [hget] at hjo
    have hjn : j < ops.size := by
      by_cases h : j < ops.size
      · exact h
      · rw [Array.getElem?_eq_none (by omega)] at hjo; cases hjo
    have := h j (by simpa using hjn)
    rw [hjo] at this
    rw [Nat.zero_add]
    exact (key j o hjo).mpr this
end
end Go.AM
