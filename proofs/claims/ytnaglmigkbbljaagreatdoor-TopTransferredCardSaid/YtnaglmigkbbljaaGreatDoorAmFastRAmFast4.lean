/-
  A quicker form of the machine for the kernel: the check of a region that draws its order.
-/
import Derived.Test.YtnaglmigkbbljaaGreatDoorAmFast1AmFast3
set_option maxHeartbeats 6400000
set_option maxRecDepth 1000000
namespace Go.AM
open Go
noncomputable section
def nthN (n : Nat) : List Nat → Nat :=
 Nat.rec (motive := fun _ => List Nat → Nat) (fun l => List.rec (motive := fun _ => Nat) 0 (fun a _ _ => a) l) (fun _ ih l => List.rec (motive := fun _ => Nat) 0 (fun _ t _ => ih t) l) n
theorem nthN_eq : ∀ (n : Nat) (l : List Nat), nthN n l = l.getD n 0
 | 0, [] => rfl
 | 0, _ :: _ => rfl
 | _ + 1, [] => rfl
 | n + 1, _ :: l => nthN_eq n l
/-! the order that the edges force -/
def edgeM (bl : List Nat) (l : List Edge) : Nat → Nat :=
 List.rec (motive := fun _ => Nat → Nat) (fun s => s) (fun e _ ih s => Bool.rec (motive := fun _ => Nat) (ih s) (gNat (Nat.lor (Nat.lor s (Nat.pow 2 e.on)) (nthN e.on bl)) fun s => ih s) (Region.binds .any e)) l
theorem edgeM_eq (bl : List Nat) : ∀ (l : List Edge) (s : Nat), edgeM bl l s = l.foldl (fun s e => if Region.binds .any e then s ||| 2 ^ e.on ||| bl.getD e.on 0 else s) s
 | [], _ => rfl
 | e :: l, s => by
  show Bool.rec (motive := fun _ => Nat) (edgeM bl l s) (gNat (Nat.lor (Nat.lor s (Nat.pow 2 e.on)) (nthN e.on bl)) fun s => edgeM bl l s) (Region.binds .any e) = _
  rw [gNat_eq, nthN_eq, List.foldl_cons, edgeM_eq bl l, edgeM_eq bl l]
  cases Region.binds .any e <;> rfl
def bfG {β : Type} (l : List Oper) : List Nat → (List Nat → β) → β :=
 List.rec (motive := fun _ => List Nat → (List Nat → β) → β) (fun bl k => k bl) (fun o _ ih bl k => gNat (edgeM bl o.after.toList 0) fun m => gList (bl ++ [m]) fun bl => ih bl k) l
theorem bfG_eq {β : Type} : ∀ (l : List Oper) (acc : Array Nat) (k : List Nat → β), bfG l acc.toList k =
  k (l.foldl (fun acc o => acc.push (o.after.foldl (fun s e => if Region.binds .any e then s ||| 2 ^ e.on ||| acc.getD e.on 0 else s) 0)) acc).toList
 | [], _, _ => rfl
 | o :: l, acc, k => by
  show gNat (edgeM acc.toList o.after.toList 0) (fun m => gList (acc.toList ++ [m]) fun bl => bfG l bl k) = _
  rw [gNat_eq, gList_eq, edgeM_eq, List.foldl_cons]
  have h := bfG_eq l (acc.push (o.after.foldl (fun s e => if Region.binds .any e then s ||| 2 ^ e.on ||| acc.getD e.on 0 else s) 0)) k
  rw [← h, Array.toList_push, ← Array.foldl_toList]
  simp only [Array.getD_eq_getD_getElem?, List.getD_eq_getElem?_getD, Array.getElem?_toList]
theorem bf_before {β : Type} (ops : Array Oper) (k : List Nat → β) : bfG ops.toList [] k = k (Region.before ops).toList := by
 have h := bfG_eq ops.toList #[] k
 rw [show (#[] : Array Nat).toList = [] from rfl] at h
 rw [h, Region.before, ← Array.foldl_toList]
/-! bits -/
def tb (m i : Nat) : Bool := Nat.beq (Nat.mod (Nat.div m (Nat.pow 2 i)) 2) 1
theorem tb_eq (m i : Nat) : tb m i = m.testBit i := by
 unfold tb
 rw [nbeq, Nat.testBit_eq_decide_div_mod_eq]
 rfl
def odd (m : Nat) : Bool := Nat.beq (Nat.mod m 2) 1
theorem odd_eq (m : Nat) : odd m = m.testBit 0 := by
 unfold odd
 rw [nbeq, Nat.testBit_zero]
 rfl
def maskL (l : List Nat) : Nat → Nat := List.rec (motive := fun _ => Nat → Nat) (fun s => s) (fun t _ ih s => gNat (Nat.lor s (Nat.pow 2 t)) fun s => ih s) l
theorem maskL_bit : ∀ (l : List Nat) (s d : Nat), (maskL l s).testBit d = (s.testBit d || l.contains d)
 | [], s, d => by show s.testBit d = _; simp
 | t :: l, s, d => by
  show (maskL l (s ||| 2 ^ t)).testBit d = _
  rw [maskL_bit l, Nat.testBit_or, Nat.testBit_two_pow, List.contains_cons]
  have : (d == t) = decide (t = d) := by
   by_cases h : t = d
   ·subst h; simp
   ·simp [h]; exact fun e => h e.symm
  rw [this, Bool.or_assoc]
def unionM (bl : List Nat) (l : List Edge) : Nat → Nat :=
 List.rec (motive := fun _ => Nat → Nat) (fun s => s) (fun e _ ih s => Bool.rec (motive := fun _ => Nat) (ih s) (gNat (Nat.lor s (Nat.lor (Nat.pow 2 e.on) (Nat.mod (nthN e.on bl) (Nat.pow 2 e.on)))) fun s => ih s) (Region.binds .any e)) l
theorem unionM_bit (bl : List Nat) (i : Nat) : ∀ (l : List Edge) (s : Nat), (unionM bl l s).testBit i = (s.testBit i || l.any fun e => Region.binds .any e && (Nat.beq e.on i || (Nat.blt i e.on && (bl.getD e.on 0).testBit i)))
 | [], s => by show s.testBit i = _; simp
 | e :: l, s => by
  show (Bool.rec (motive := fun _ => Nat) (unionM bl l s) (unionM bl l (s ||| (2 ^ e.on ||| nthN e.on bl % 2 ^ e.on))) (Region.binds .any e)).testBit i = _
  rw [List.any_cons]
  cases Region.binds .any e with
  | false =>
   show (unionM bl l s).testBit i = _
   rw [unionM_bit bl i l]; simp
  | true =>
   show (unionM bl l (s ||| (2 ^ e.on ||| nthN e.on bl % 2 ^ e.on))).testBit i = _
   rw [unionM_bit bl i l, Nat.testBit_or, Nat.testBit_or, Nat.testBit_two_pow, Nat.testBit_mod_two_pow, nthN_eq, nbeq, nblt, Bool.true_and, Bool.or_assoc]
/-! operations that name different temporaries -/
structure OI where
 d : Option Nat
 l : Nat
def apartM (a b : OI) : Bool :=
 and (Option.rec (motive := fun _ => Bool) true (fun d => and (Bool.not (tb b.l d)) (Option.rec (motive := fun _ => Bool) true (fun d' => Bool.not (Nat.beq d' d)) b.d)) a.d)
  (Option.rec (motive := fun _ => Bool) true (fun d => Bool.not (tb a.l d)) b.d)
def oi (ops : Array Oper) (o : Oper) : OI := ⟨o.dst, maskL (o.looksAt ops) 0⟩
theorem apartM_eq (ops : Array Oper) (x y : Oper) : apartM (oi ops x) (oi ops y) = x.apart ops y := by
 unfold apartM oi Oper.apart
 have h : ∀ (o : Oper) d, tb (maskL (o.looksAt ops) 0) d = (o.looksAt ops).contains d := fun o d => by
  rw [tb_eq, maskL_bit]; simp
 simp only [h]
 cases x.dst with
 | none => cases y.dst <;> rfl
 | some d => cases y.dst with
  | none => simp
  | some d' =>
   have : Nat.beq d' d = (some d' == some d) := by
    rw [nbeq]
    by_cases e : d' = d
    ·subst e; simp
    ·simp [e]
   simp only [this]
   rfl
def oisG {β : Type} (ops : Array Oper) (l : List Oper) : (List OI → β) → β :=
 List.rec (motive := fun _ => (List OI → β) → β) (fun k => k []) (fun o _ ih k => gNat (maskL (o.looksAt ops) 0) fun m => ih fun r => k (⟨o.dst, m⟩ :: r)) l
theorem oisG_eq {β : Type} (ops : Array Oper) : ∀ (l : List Oper) (k : List OI → β), oisG ops l k = k (l.map (oi ops))
 | [], _ => rfl
 | o :: l, k => by
  show gNat (maskL (o.looksAt ops) 0) (fun m => oisG ops l fun r => k (⟨o.dst, m⟩ :: r)) = _
  rw [gNat_eq, oisG_eq ops l]
  rfl
def prL (y : OI) (j : Nat) : List OI → Nat → Nat → Bool :=
 Nat.rec (motive := fun _ => List OI → Nat → Nat → Bool) (fun _ _ _ => true)
  (fun _ ih l b u => List.rec (motive := fun _ => Bool) true (fun x r _ => Bool.rec (motive := fun _ => Bool) false (ih r (Nat.div b 2) (Nat.div u 2)) (Bool.rec (motive := fun _ => Bool) (apartM x y) (odd u) (odd b))) l) j
theorem prL_iff (y : OI) : ∀ (j : Nat) (l : List OI) (b u : Nat), prL y j l b u = true ↔ ∀ i x, i < j → l[i]? = some x → (if b.testBit i then u.testBit i else apartM x y) = true
 | 0, _, _, _ => ⟨fun _ _ _ h => absurd h (Nat.not_lt_zero _), fun _ => rfl⟩
 | j + 1, [], _, _ => ⟨fun _ i x _ h => by simp at h, fun _ => rfl⟩
 | j + 1, x :: r, b, u => by
  have e : prL y (j + 1) (x :: r) b u = Bool.rec (motive := fun _ => Bool) false (prL y j r (b / 2) (u / 2)) (Bool.rec (motive := fun _ => Bool) (apartM x y) (odd u) (odd b)) := rfl
  have e2 : (Bool.rec (motive := fun _ => Bool) (apartM x y) (odd u) (odd b) : Bool) = if b.testBit 0 then u.testBit 0 else apartM x y := by
   rw [odd_eq, odd_eq]; cases b.testBit 0 <;> rfl
  rw [e, e2]
  have ih := prL_iff y j r (b / 2) (u / 2)
  constructor
  ·intro h i z hi hz
   cases hc : (if b.testBit 0 then u.testBit 0 else apartM x y : Bool) with
   | false => rw [hc] at h; cases h
   | true =>
    rw [hc] at h
    cases i with
    | zero => simp at hz; subst hz; exact hc
    | succ i =>
     have := ih.mp h i z (by omega) (by simpa using hz)
     rw [Nat.testBit_succ, Nat.testBit_succ]
     exact this
  ·intro h
   have h0 := h 0 x (by omega) rfl
   rw [h0]
   refine ih.mpr fun i z hi hz => ?_
   have := h (i + 1) z (by omega) (by simpa using hz)
   rw [Nat.testBit_succ, Nat.testBit_succ] at this
   exact this
def notSel : Op → Bool
 | .select _ _ => false
 | _ => true
def edgesOk (j : Nat) (l : List Edge) : Bool := List.rec (motive := fun _ => Bool) true (fun e _ ih => Bool.rec (motive := fun _ => Bool) false ih (or (Bool.not (Region.binds .any e)) (Nat.blt e.on j))) l
theorem edgesOk_eq (j : Nat) : ∀ l, edgesOk j l = l.all fun e => !Region.binds .any e || Nat.blt e.on j
 | [] => rfl
 | e :: l => by
  show Bool.rec (motive := fun _ => Bool) false (edgesOk j l) (or (Bool.not (Region.binds .any e)) (Nat.blt e.on j)) = _
  rw [edgesOk_eq j l, List.all_cons]
  cases (!Region.binds .any e || Nat.blt e.on j) <;> rfl
def okJ (bl : List Nat) (ois : List OI) (j : Nat) (o : Oper) (y : OI) : Bool :=
 and (edgesOk j o.after.toList) (and (notSel o.op) (prL y j ois (nthN j bl) (unionM bl o.after.toList 0)))
def okL (bl : List Nat) (all : List OI) (l : List Oper) : Nat → List OI → Bool :=
 List.rec (motive := fun _ => Nat → List OI → Bool) (fun _ _ => true)
  (fun o _ ih j ys => List.rec (motive := fun _ => Bool) true (fun y ys _ => Bool.rec (motive := fun _ => Bool) false (gNat (Nat.succ j) fun j => ih j ys) (okJ bl all j o y)) ys) l
theorem okL_iff (bl : List Nat) (all : List OI) (ops : Array Oper) : ∀ (l : List Oper) (j : Nat), okL bl all l j (l.map (oi ops)) = true ↔ ∀ i o, l[i]? = some o → okJ bl all (j + i) o (oi ops o) = true
 | [], _ => ⟨fun _ i o h => by simp at h, fun _ => rfl⟩
 | o :: l, j => by
  have e : okL bl all (o :: l) j ((o :: l).map (oi ops)) = Bool.rec (motive := fun _ => Bool) false (okL bl all l (j + 1) (l.map (oi ops))) (okJ bl all j o (oi ops o)) := rfl
  have ih := okL_iff bl all ops l (j + 1)
  rw [e]
  constructor
  ·intro h i x hx
   cases hc : okJ bl all j o (oi ops o) with
   | false => rw [hc] at h; cases h
   | true =>
    rw [hc] at h
    cases i with
    | zero => simp at hx; subst hx; exact hc
    | succ i =>
     have := ih.mp h i x (by simpa using hx)
     rwa [Nat.add_right_comm, Nat.add_assoc] at this
  ·intro h
   have h0 := h 0 o rfl
   rw [Nat.add_zero] at h0
   rw [h0]
   refine ih.mpr fun i x hx => ?_
   have := h (i + 1) x (by simpa using hx)
   rwa [← Nat.add_assoc, Nat.add_right_comm] at this
def okRegionF (ops : Array Oper) : Bool := bfG ops.toList [] fun bl => oisG ops ops.toList fun ois => okL bl ois ops.toList 0 ois
theorem okRegionF_eq (ops : Array Oper) : okRegionF ops = okRegion ops := by
 unfold okRegionF
 rw [bf_before, oisG_eq, Bool.eq_iff_iff, okL_iff]
 unfold okRegion
 rw [List.all_eq_true]
 have hget : ∀ (i : Nat), ops.toList[i]? = ops[i]? := fun i => Array.getElem?_toList
 have hord : ∀ i j, i < j → ordered ops i j = (nthN j (Region.before ops).toList).testBit i := by
  intro i j h
  unfold ordered
  rw [nthN_eq, Nat.max_eq_right (by omega), Nat.min_eq_left (by omega), Array.getD_eq_getD_getElem?, List.getD_eq_getElem?_getD, Array.getElem?_toList]
 have key : ∀ j oj, ops[j]? = some oj → (okJ (Region.before ops).toList (ops.toList.map (oi ops)) j oj (oi ops oj) = true ↔
   (oj.after.all (fun e => !Region.binds .any e || Nat.blt e.on j) &&
   ((match oj.op with | .select _ _ => false | _ => true) &&
   (List.range j).all fun i => match ops[i]? with
    | none => false
    | some oi => match ordered ops i j with
     | true => oj.after.any fun e => Region.binds .any e && (Nat.beq e.on i || (Nat.blt i e.on && ordered ops i e.on))
     | false => oi.apart ops oj)) = true) := by
  intro j oj hj
  have hjn : j < ops.size := by
   by_cases h : j < ops.size
   ·exact h
   ·rw [Array.getElem?_eq_none (by omega)] at hj; cases hj
  unfold okJ
  rw [edgesOk_eq, Array.all_toList, Bool.and_eq_true, Bool.and_eq_true, Bool.and_eq_true, Bool.and_eq_true, prL_iff, List.all_eq_true]
  refine and_congr Iff.rfl (and_congr Iff.rfl ?_)
  constructor
  ·intro h i hi
   have hi : i < j := by simpa using hi
   have hsome : ops[i]? = some ops[i] := Array.getElem?_eq_getElem (by omega)
   have := h i (oi ops ops[i]) hi (by rw [List.getElem?_map, hget, hsome]; rfl)
   rw [hsome]
   simp only
   rw [hord i j hi]
   cases hb : (nthN j (Region.before ops).toList).testBit i with
   | true =>
    rw [hb, if_pos rfl, unionM_bit] at this
    simp only [Nat.zero_testBit, Bool.false_or] at this
    simp only
    rw [← Array.any_toList, ← this]
    congr 1
    funext e
    by_cases he : i < e.on
    ·rw [hord i e.on he, nthN_eq]
    ·have : Nat.blt i e.on = false := by rw [nblt]; simp [he]
     rw [this]; rfl
   | false =>
    rw [hb] at this
    simp only [Bool.false_eq_true, if_false] at this
    rw [apartM_eq] at this
    exact this
  ·intro h i x hi hx
   have := h i (by simpa using hi)
   have hsome : ops[i]? = some ops[i] := Array.getElem?_eq_getElem (by omega)
   rw [List.getElem?_map, hget, hsome] at hx
   cases hx
   rw [hsome] at this
   simp only at this
   rw [hord i j hi] at this
   cases hb : (nthN j (Region.before ops).toList).testBit i with
   | true =>
    rw [hb] at this
    rw [if_pos rfl, unionM_bit]
    simp only [Nat.zero_testBit, Bool.false_or]
    simp only at this
    rw [← Array.any_toList] at this
    rw [← this]
    congr 1
    funext e
    by_cases he : i < e.on
    ·rw [hord i e.on he, nthN_eq]
    ·have : Nat.blt i e.on = false := by rw [nblt]; simp [he]
     rw [this]; rfl
   | false =>
    rw [hb] at this
    simp only [Bool.false_eq_true, if_false]
    rw [apartM_eq]
    exact this
 constructor
 ·intro h j hj
  have hj : j < ops.size := by simpa using hj
  have hsome : ops[j]? = some ops[j] := Array.getElem?_eq_getElem hj
  have := h j ops[j] (by rw [hget, hsome])
  rw [Nat.zero_add] at this
  rw [hsome]
  exact (key j _ hsome).mp this
 ·intro h j o hjo
  rw [hget] at hjo
  have hjn : j < ops.size := by
   by_cases h : j < ops.size
   ·exact h
   ·rw [Array.getElem?_eq_none (by omega)] at hjo; cases hjo
  have := h j (by simpa using hjn)
  rw [hjo] at this
  rw [Nat.zero_add]
  exact (key j o hjo).mpr this
end
end Go.AM
/-
  A quicker form of the machine for the kernel: it is the machine.
-/
namespace Go.AM
open Go
noncomputable section
section
variable (P : Program) (same : FuncId → Bool) (known : FuncId → List AV → Option AV) (call : FuncId → List AV → St → Option (AV × St))
theorem idxAddr_eq (t : TypeId) (v : AV) (i : AV) : (match natO i with | some i => idxAddr P t v i | none => none) = indexAddrO P t v i := by
 unfold indexAddrO
 cases natO i with
 | none => rfl
 | some i =>
  simp only
  unfold idxAddr ixI
  cases P.underlying t with
  | none => rfl
  | some u =>
   cases u
   case array n e =>
    cases hz : sizeT P e with
    | none => cases v <;> simp only [hz]
    | some z =>
     cases v
     case ptr a => simp only [hz, gNat_eq]; cases Nat.blt i n <;> rfl
     all_goals simp only [hz, gNat_eq]
   case slice e =>
    cases hz : sizeT P e with
    | none => cases v <;> simp only [hz]
    | some z =>
     cases v
     case slice a n esz => simp only [hz, gNat_eq]; cases Nat.blt i n <;> rfl
     all_goals simp only [hz, gNat_eq]
   all_goals rfl
theorem faI_eq (t : TypeId) (v : AV) (f : Nat) : fieldAddrO P t v f = match v with
  | .ptr a => match faI P t f with
   | some o => some (.ptr (addOff a o))
   | none => none
  | _ => none := by
 unfold fieldAddrO faI
 cases P.underlying t with
 | none => cases v <;> rfl
 | some u =>
  cases u
  case struct fs =>
   simp only
   cases v
   case ptr a =>
    simp only
    cases fs[f]? with
    | none => rfl
    | some fd =>
     simp only
     cases sizeT P fd.type with
     | none => rfl
     | some n => cases n <;> rfl
   all_goals rfl
  all_goals (cases v <;> rfl)
theorem opF_eq (f : Fr) (gl : Nat) (s : St) (o : Op) : opF P same known call f.tm gl s o = opO ⟨P, same, known, call⟩ (ev f gl) s o := by
 have hev := evF_eq f gl
 have hfun := evF_fun f gl
 cases o
 case move x => show pair s (evF f.tm gl x) = pairO s (ev f gl x); rw [pair_eq, evF_eq]
 case assign x => show pair s (evF f.tm gl x) = pairO s (ev f gl x); rw [pair_eq, evF_eq]
 case pick c a b =>
  show opPick f.tm gl s c a b = _
  unfold opPick opO
  simp only [hev, pair_eq]
  rfl
 case alloc e =>
  show opAlloc P s e = _
  unfold opAlloc opO
  simp only [allocF_eq]
  rfl
 case box e x =>
  show opBox f.tm gl s e x = _
  unfold opBox opO
  simp only [hev, allocF_eq]
  rfl
 case build t ps =>
  show opBuild P f.tm gl s t ps = _
  unfold opBuild opO
  simp only [hfun, pair_eq]
  rfl
 case buildSlice t n ps =>
  show opBuildSlice P f.tm gl s t n ps = _
  unfold opBuildSlice opO
  simp only [hfun, newG_eq, gNat_eq]
  rfl
 case load t x =>
  show opLoad P f.tm gl s t x = _
  unfold opLoad opO
  simp only [hev, pair_eq, loadF_eq]
  rfl
 case store t x v =>
  show opStore P f.tm gl s t x v = _
  unfold opStore opO
  simp only [hev, storeF_eq]
  cases ev f gl x with
  | none => rfl
  | some a => cases a <;> (cases ev f gl v <;> rfl)
 case nilCheck x =>
  show opNil f.tm gl s x = _
  unfold opNil opO
  simp only [hev]
  rfl
 case binOp op t x y yt =>
  show opBin P f.tm gl s op t x y = _
  unfold opBin opO
  simp only [hev, pair_eq, binF_eq]
  cases ev f gl x with
  | none => rfl
  | some a => cases ev f gl y <;> rfl
 case unOp op t x =>
  show opUn f.tm gl s op x = _
  unfold opUn opO
  simp only [hev, pair_eq]
  rfl
 case convert src dst x =>
  show opConv P f.tm gl s src dst x = _
  unfold opConv opO
  simp only [hev, convF_eq]
  rfl
 case makeInterface t x => show opCold P same known call f.tm gl s _ = _; unfold opCold; rw [hfun]
 case makeFunc a b c => show opCold P same known call f.tm gl s _ = _; unfold opCold; rw [hfun]
 case makeSlice t l c =>
  show opMakeSlice P f.tm gl s t l c = _
  unfold opMakeSlice opO
  simp only [hev, natF_eq, newG_eq, gNat_eq]
  rfl
 case slice t x lo hi m =>
  cases m with
  | some m => rfl
  | none =>
   show opSlice P f.tm gl s t x lo hi = _
   unfold opSlice opO
   simp only [hev, pair_eq]
   rfl
 case fieldAddr t x n =>
  show opFieldAddr P f.tm gl s t x n = _
  unfold opFieldAddr opO
  simp only [hev, faI_eq]
  cases ev f gl x with
  | none => rfl
  | some v =>
   cases v
   case ptr a => simp only; cases faI P t n <;> rfl
   all_goals rfl
 case field t x n =>
  show opField P f.tm gl s t x n = _
  unfold opField opO
  simp only [hev, pair_eq]
  rfl
 case indexAddr t x i =>
  show opIndexAddr P f.tm gl s t x i = _
  unfold opIndexAddr opO
  simp only [hev, pair_eq, natF_eq]
  cases ev f gl x with
  | none => cases ev f gl i with
   | none => rfl
   | some j => simp only; cases natO j <;> rfl
  | some v => cases ev f gl i with
   | none => rfl
   | some j =>
    simp only [← idxAddr_eq]
    cases natO j <;> rfl
 case index t x i =>
  show opIndex P f.tm gl s t x i = _
  unfold opIndex opO
  simp only [hev, pair_eq]
  rfl
 case extract t i =>
  show opExtract f.tm gl s t i = _
  unfold opExtract opO
  simp only [hev, pair_eq, nthL_eq]
  rfl
 case call c =>
  show opCall P same known call f.tm gl s c = _
  unfold opCall opO
  simp only [hev, builtinF_eq, callF_eq P]
  rfl
 all_goals rfl
def putF (tm : T AV) (nt : Nat) (dst : Option Tmp) (v : AV) (s : St) : Option (Fr × St) :=
 Option.rec (motive := fun _ => Option (Fr × St)) (some (⟨tm, nt⟩, s)) (fun d => Bool.rec (motive := fun _ => Option (Fr × St)) none (setG v tm d fun tm => some (⟨tm, nt⟩, s)) (Nat.blt d nt)) dst
theorem putF_eq (tm : T AV) (nt : Nat) (dst : Option Tmp) (v : AV) (s : St) : putF tm nt dst v s = match put ⟨tm, nt⟩ dst v with
  | some f => some (f, s)
  | none => none := by
 cases dst with
 | none => rfl
 | some d =>
  show Bool.rec (motive := fun _ => Option (Fr × St)) none (setG v tm d fun tm => some (⟨tm, nt⟩, s)) (Nat.blt d nt) = _
  unfold put
  rw [setG_eq]
  simp only
  cases Nat.blt d nt <;> rfl
def finF (tm : T AV) (nt : Nat) (dst : Option Tmp) (o : Option (AV × St)) : Option (Fr × St) :=
 Option.rec (motive := fun _ => Option (Fr × St)) none (fun p => Prod.rec (motive := fun _ => Option (Fr × St)) (fun v s => gVS v fun v => putF tm nt dst v s) p) o
theorem finF_eq (tm : T AV) (nt : Nat) (dst : Option Tmp) (o : Option (AV × St)) : finF tm nt dst o = match o with
  | some (v, s) => match put ⟨tm, nt⟩ dst v with
   | some f => some (f, s)
   | none => none
  | none => none := by
 cases o with
 | none => rfl
 | some p =>
  obtain ⟨v, s⟩ := p
  show gVS v (fun v => putF tm nt dst v s) = _
  rw [gVS_eq, putF_eq]
def oneF (ops : Array Oper) (o : Oper) (f : Fr) (s : St) : Option (Fr × St) :=
 Fr.rec (motive := fun _ => Option (Fr × St)) (fun tm nt => Bool.rec (motive := fun _ => Option (Fr × St)) (putF tm nt o.dst und s) (finF tm nt o.dst (opF P same known call tm s.gl s o.op)) (wantO ⟨tm, nt⟩ ops o)) f
theorem oneF_eq (ops : Array Oper) (o : Oper) (f : Fr) (s : St) : oneF P same known call ops o f s = oneO ⟨P, same, known, call⟩ ops o f s := by
 cases f with
 | mk tm nt =>
  show Bool.rec (motive := fun _ => Option (Fr × St)) (putF tm nt o.dst und s) (finF tm nt o.dst (opF P same known call (Fr.mk tm nt).tm s.gl s o.op)) (wantO ⟨tm, nt⟩ ops o) = _
  unfold oneO
  rw [putF_eq, finF_eq, opF_eq]
  cases wantO ⟨tm, nt⟩ ops o <;> rfl
def opsF (ops : Array Oper) (l : List Oper) : Fr → St → Option (Fr × St) :=
 List.rec (motive := fun _ => Fr → St → Option (Fr × St)) (fun f s => some (f, s))
  (fun o _ ih f s => Option.rec (motive := fun _ => Option (Fr × St)) none (fun p => Prod.rec (motive := fun _ => Option (Fr × St)) (fun f s => ih f s) p) (oneF P same known call ops o f s)) l
theorem opsF_eq (ops : Array Oper) : ∀ (l : List Oper) (f : Fr) (s : St), opsF P same known call ops l f s = opsO ⟨P, same, known, call⟩ ops l f s
 | [], _, _ => rfl
 | o :: r, f, s => by
  show Option.rec (motive := fun _ => Option (Fr × St)) none (fun p => Prod.rec (motive := fun _ => Option (Fr × St)) (fun f s => opsF P same known call ops r f s) p) (oneF P same known call ops o f s) = _
  unfold opsO
  rw [oneF_eq]
  cases oneO ⟨P, same, known, call⟩ ops o f s with
  | none => rfl
  | some p =>
   obtain ⟨f', s'⟩ := p
   exact opsF_eq ops r f' s'
def softF (ops : Array Oper) (o : Oper) (f : Fr) (s : St) (bad : List Nat) : Option (Option Nat × Fr × St) :=
 match wantO f ops o with
 | true => match rowAt (fun x => evF f.tm s.gl x) o.op with
  | some c => match memb c bad with
   | true => none
   | false => match oneF P same known call ops o f s with
    | some (f, s) => some (some c, f, s)
    | none => none
  | none => none
 | false => match put f o.dst und with
  | some f => some (none, f, s)
  | none => none
theorem softF_eq (ops : Array Oper) (o : Oper) (f : Fr) (s : St) (bad : List Nat) : softF P same known call ops o f s bad = softO ⟨P, same, known, call⟩ ops o f s bad := by
 unfold softF softO
 rw [evF_fun, oneF_eq]
 rfl
def lowG {α : Type} (s : St) (low : Nat) (k : St → α) : α := St.rec (motive := fun _ => α) (fun hp nx _ gl => k ⟨hp, nx, low, gl⟩) s
theorem lowG_eq {α : Type} (s : St) (low : Nat) (k : St → α) : lowG s low k = k { s with low := low } := by cases s; rfl
def freshG {α : Type} (s : St) (k : Nat → Nat → St → α) : α := St.rec (motive := fun _ => α) (fun hp nx low gl => k nx low ⟨hp, nx, nx, gl⟩) s
theorem freshG_eq {α : Type} (s : St) (k : Nat → Nat → St → α) : freshG s k = k s.nx s.low { s with low := s.nx } := by cases s; rfl
def drawF (ops : Array Oper) (kind : Nat → Nat) : Nat → List Oper → List Nat → List Nat → Fr → St → Option (Fr × St)
 | _, [], _, _, f, s => some (f, s)
 | i, o :: r, rd, wr, f, s => match kind i with
  | 0 => match oneF P same known call ops o f s with
   | some (f, s) => gNat (Nat.succ i) fun i => drawF ops kind i r rd wr f s
   | none => none
  | 1 => freshG s fun nx low s1 => match oneF P same known call ops o f s1 with
   | some (f, s') => match Nat.ble nx s'.low with
    | true => lowG s' low fun s' => gNat (Nat.succ i) fun i => drawF ops kind i r rd wr f s'
    | false => none
   | none => none
  | 2 => match softF P same known call ops o f s wr with
   | some (c, f, s) => gNat (Nat.succ i) fun i => drawF ops kind i r (consO c rd) wr f s
   | none => none
  | 3 => match softF P same known call ops o f s (rd ++ wr) with
   | some (c, f, s) => gNat (Nat.succ i) fun i => drawF ops kind i r rd (consO c wr) f s
   | none => none
  | 5 => match oneF P same known call ops o f s with
   | some (f, s) => gNat (Nat.succ i) fun i => drawF ops kind i r rd wr f s
   | none => none
  | _ => none
theorem drawF_eq (ops : Array Oper) (kind : Nat → Nat) : ∀ (l : List Oper) (i : Nat) (rd wr : List Nat) (f : Fr) (s : St), drawF P same known call ops kind i l rd wr f s = drawO ⟨P, same, known, call⟩ ops kind i l rd wr f s
 | [], i, rd, wr, f, s => by unfold drawF drawO; rfl
 | o :: r, i, rd, wr, f, s => by
  have ih := drawF_eq ops kind r
  unfold drawF drawO
  simp only [oneF_eq, softF_eq, gNat_eq, lowG_eq, freshG_eq, ih]
  rfl
def resF (tm : T AV) (s : St) (l : List ResultVar) : Option (List AV) := match l with
 | [] => some []
 | .tmp t :: r => match tm.getF t with
  | some v => match isTup v with
   | false => match resF tm s r with
    | some l => some (v :: l)
    | none => none
   | true => none
  | none => none
 | .cell a t :: r => match tm.getF a with
  | some (.ptr a) => match loadF P s t a with
   | some v => match resF tm s r with
    | some l => some (v :: l)
    | none => none
   | none => none
  | _ => none
theorem resF_eq (f : Fr) (s : St) : ∀ l, resF P f.tm s l = resO P f s l
 | [] => by unfold resF resO; rfl
 | .tmp t :: r => by
  unfold resF resO
  rw [resF_eq f s r, T.getF_eq]
  cases f.tm.get t with
  | none => rfl
  | some v => simp only; cases isTup v <;> (cases resO P f s r <;> rfl)
 | .cell a t :: r => by
  unfold resF resO
  rw [resF_eq f s r, T.getF_eq]
  cases f.tm.get a with
  | none => rfl
  | some v =>
   cases v
   case ptr a => simp only [loadF_eq]; cases loadT P s t a <;> (cases resO P f s r <;> rfl)
   all_goals rfl
def tidyG {α : Type} (s s' : St) (v : AV) (k : St → α) : α := match plainV v && Nat.ble s.nx s'.low with
 | true => k s
 | false => St.rec (motive := fun _ => α) (fun hp nx low gl => minG s.low low fun low => k ⟨hp, nx, low, gl⟩) s'
theorem tidyG_eq {α : Type} (s s' : St) (v : AV) (k : St → α) : tidyG s s' v k = k (tidy s s' v) := by
 unfold tidyG tidy
 cases plainV v && Nat.ble s.nx s'.low with
 | true => rfl
 | false =>
  cases s'
  simp only [minG_eq]
def leaveF (fn : Func) (s : St) (f' : Fr) (s' : St) : Option (AV × St) := match resF P f'.tm s' fn.results.toList with
 | some l => gV (oneOf l) fun v => tidyG s s' v fun s => some (v, s)
 | none => none
theorem leaveF_eq (fn : Func) (s : St) (f' : Fr) (s' : St) : leaveF P fn s f' s' = leaveO P fn s f' s' := by
 unfold leaveF leaveO
 rw [resF_eq]
 simp only [gV_eq, tidyG_eq]
 rfl
def argsG {α : Type} : List AV → Nat → T AV → (T AV → α) → α
 | [], _, t, k => k t
 | v :: r, i, t, k => gV v fun v => setG v t i fun t => gNat (Nat.succ i) fun i => argsG r i t k
theorem argsG_eq {α : Type} : ∀ (l : List AV) (i : Nat) (t : T AV) (k : T AV → α), argsG l i t k = k (argsT l i t)
 | [], _, _, _ => by unfold argsG argsT; rfl
 | v :: r, i, t, k => by
  unfold argsG argsT
  rw [gV_eq, setG_eq, gNat_eq, argsG_eq r]
abbrev CRes := Option (Ex × Fr × St)
abbrev CF := Code → Fr → St → CRes
def regF (ops : Array Oper) (f : Fr) (s : St) : CRes := match opsF P same known call ops ops.toList f s with
 | some (f, s) => some (.normal, f, s)
 | none => none
def regD (kind : Array Oper → Nat → Nat) (ops : Array Oper) (f : Fr) (s : St) : CRes := match okRegionF ops with
 | true => match drawF P same known call ops (kind ops) 0 ops.toList [] [] f s with
  | some (f, s) => some (.normal, f, s)
  | none => none
 | false => none
def seqF (rec : CF) (a b : Code) (f : Fr) (s : St) : CRes := match rec a f s with
 | some (.normal, f, s) => rec b f s
 | x => x
def condF (rec : CF) (c : Operand) (a b : Code) (f : Fr) (s : St) : CRes := match evF f.tm s.gl c with
 | some (.bool true) => rec a f s
 | some (.bool false) => rec b f s
 | _ => none
def blockF (rec : CF) (id : Nat) (b : Code) (f : Fr) (s : St) : CRes := match rec b f s with
 | some (.exit i, f, s) => match Nat.beq i id with
  | true => some (.normal, f, s)
  | false => some (.exit i, f, s)
 | x => x
end
abbrev CdR := Program → (FuncId → Bool) → (FuncId → List AV → Option AV) → (FuncId → List AV → St → Option (AV × St)) → (Array Oper → Nat → Nat) → CF → Fr → St → CRes
def stepCF (P : Program) (same : FuncId → Bool) (known : FuncId → List AV → Option AV) (call : FuncId → List AV → St → Option (AV × St)) (kind : Array Oper → Nat → Nat) (rec : CF) (c : Code) (f : Fr) (s : St) : CRes :=
 Code.rec (motive := fun _ => CdR)
  (fun _ _ _ _ _ _ f s => some (.normal, f, s))
  (fun _ ops draw P same known call kind _ f s => Bool.rec (motive := fun _ => CRes) (regF P same known call ops f s) (regD P same known call kind ops f s) draw)
  (fun a b _ _ _ _ _ _ _ rec f s => seqF rec a b f s)
  (fun c a b _ _ _ _ _ _ _ rec f s => condF rec c a b f s)
  (fun id b _ _ _ _ _ _ rec f s => blockF rec id b f s)
  (fun b _ _ _ _ _ _ rec f s => seqF rec b (.loop b) f s)
  (fun _ _ _ _ _ _ _ _ _ _ _ _ _ _ => none)
  (fun id _ _ _ _ _ _ f s => some (.exit id, f, s))
  (fun _ _ _ _ _ _ _ _ _ _ => none)
  (fun _ _ _ _ _ _ _ _ _ => none)
  (fun _ _ _ _ _ _ _ _ _ => none)
  (fun _ _ _ _ _ _ f s => some (.ret, f, s))
  (fun _ _ _ _ _ _ _ _ _ => none) c P same known call kind rec f s
section
variable (P : Program) (same : FuncId → Bool) (known : FuncId → List AV → Option AV) (call : FuncId → List AV → St → Option (AV × St))
theorem stepCF_eq (kind : Array Oper → Nat → Nat) (rec : Code → Fr → St → Option (Ex × Fr × St)) (c : Code) (f : Fr) (s : St) : stepCF P same known call kind rec c f s = stepC ⟨P, same, known, call⟩ kind rec c f s := by
 cases c
 case region id ops draw =>
  cases draw with
  | false =>
   show regF P same known call ops f s = _
   unfold regF stepC
   simp only [opsF_eq]
   rfl
  | true =>
   show regD P same known call kind ops f s = _
   unfold regD stepC
   simp only [drawF_eq, okRegionF_eq]
   rfl
 case cond c a b =>
  show condF rec c a b f s = _
  unfold condF stepC
  simp only [evF_eq]
  rfl
 all_goals rfl
def stepFF (rec : Code → Fr → St → Option (Ex × Fr × St)) (g : FuncId) (args : List AV) (s : St) : Option (AV × St) :=
 match P.funcs[g]? with
 | none => none
 | some fn => match fn.body with
  | none => none
  | some c => match Nat.ble args.length fn.ntmps with
   | false => none
   | true => argsG args 0 .nil fun tm => gNat fn.ntmps fun nt => freshG s fun _ _ s1 => match rec c ⟨tm, nt⟩ s1 with
    | some (.normal, f', s') => leaveF P fn s f' s'
    | some (.ret, f', s') => leaveF P fn s f' s'
    | _ => none
theorem stepFF_eq (rec : Code → Fr → St → Option (Ex × Fr × St)) (g : FuncId) (args : List AV) (s : St) : stepFF P rec g args s = stepF P rec g args s := by
 unfold stepFF stepF
 simp only [argsG_eq, gNat_eq, freshG_eq, leaveF_eq]
 rfl
end
def runF (P : Program) (same : FuncId → Bool) (known : FuncId → List AV → Option AV) (kind : Array Oper → Nat → Nat) (n : Nat) : Rec :=
 Nat.rec (motive := fun _ => Rec) { code := fun _ _ _ => none, call := fun _ _ _ => none }
  (fun _ ih => { code := stepCF P same known ih.call kind ih.code, call := stepFF P ih.code }) n
theorem runF_eq (P : Program) (same : FuncId → Bool) (known : FuncId → List AV → Option AV) (kind : Array Oper → Nat → Nat) : ∀ n, runF P same known kind n = run P same known kind n
 | 0 => rfl
 | n + 1 => by
  have ih := runF_eq P same known kind n
  show Rec.mk (stepCF P same known (runF P same known kind n).call kind (runF P same known kind n).code) (stepFF P (runF P same known kind n).code) = Rec.mk _ _
  rw [ih]
  congr 1
  ·funext c f s
   exact stepCF_eq P same known _ kind _ c f s
  ·funext g args s
   exact stepFF_eq P _ g args s
/-! closed calls -/
def outB (b : Bool) (o : Option (AV × St)) : Bool := match o with
 | some (.bool c, _) => c == b
 | _ => false
def outS (l : List UInt8) (o : Option (AV × St)) : Bool := match o with
 | some (.str m, _) => beqB l m
 | _ => false
theorem outB_some {b : Bool} {o : Option (AV × St)} (h : outB b o = true) : ∃ s, o = some (.bool b, s) := by
 unfold outB at h
 split at h
 ·rename_i c s
  have : c = b := by simpa using h
  subst this
  exact ⟨s, rfl⟩
 ·cases h
theorem outS_some {l : List UInt8} {o : Option (AV × St)} (h : outS l o = true) : ∃ s, o = some (.str l, s) := by
 unfold outS at h
 split at h
 ·rename_i m s
  rw [beqB_eq] at h
  have : l = m := by simpa using h
  subst this
  exact ⟨s, rfl⟩
 ·cases h
end
end Go.AM
