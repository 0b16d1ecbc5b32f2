/-
  A quicker form of the machine for the kernel: the operations.
-/
import Derived.Test.YtoigjpkdcadlnaaGreatDoorAmFast1
namespace Go.AM
open Go
noncomputable section

/-! integers and strings -/
def intBinF (op : BinOp) (k : IntKind) (a b : Int) : Option AV := BinOp.rec (motive := fun _ => IntKind → Int → Int → Option AV)
  (fun k a b => some (.int k (wrapF k (Int.add a b)))) (fun k a b => some (.int k (wrapF k (Int.sub a b)))) (fun k a b => some (.int k (wrapF k (Int.mul a b))))
  (fun k a b => Bool.rec (motive := fun _ => Option AV) (some (.int k (wrapF k (Int.tdiv a b)))) none (ibeq b (Int.ofNat 0)))
  (fun k a b => Bool.rec (motive := fun _ => Option AV) (some (.int k (Int.tmod a b))) none (ibeq b (Int.ofNat 0)))
  (fun k a b => some (.int k (andF k a b))) (fun k a b => some (.int k (orF k a b))) (fun k a b => some (.int k (xorF k a b)))
  (fun _ _ _ => none) (fun _ _ _ => none)
  (fun k a b => some (.int k (andNotF k a b)))
  (fun _ a b => some (.bool (ibeq a b))) (fun _ a b => some (.bool (Bool.not (ibeq a b)))) (fun _ a b => some (.bool (iblt a b))) (fun _ a b => some (.bool (Bool.not (iblt b a)))) (fun _ a b => some (.bool (iblt b a))) (fun _ a b => some (.bool (Bool.not (iblt a b))))
  op k a b

theorem ibeq0 (b : Int) : ibeq b (Int.ofNat 0) = decide (b = 0) := by
  rw [ibeq_eq]
  by_cases h : b = 0
  · subst h; rfl
  · simp [h]

theorem intBinF_eq (op : BinOp) (k : IntKind) (a b : Int) : intBinF op k a b = intBin op k a b := by
  cases op
  · show some (AV.int k (wrapF k (a + b))) = _; rw [wrapF_eq]; rfl
  · show some (AV.int k (wrapF k (a - b))) = _; rw [wrapF_eq]; rfl
  · show some (AV.int k (wrapF k (a * b))) = _; rw [wrapF_eq]; rfl
  · show Bool.rec (motive := fun _ => Option AV) (some (.int k (wrapF k (Int.tdiv a b)))) none (ibeq b (Int.ofNat 0)) = match decide (b = 0) with | true => none | false => some (.int k (k.wrap (a.tdiv b)))
    rw [wrapF_eq, ibeq0]; cases decide (b = 0) <;> rfl
  · show Bool.rec (motive := fun _ => Option AV) (some (.int k (Int.tmod a b))) none (ibeq b (Int.ofNat 0)) = match decide (b = 0) with | true => none | false => some (.int k (a.tmod b))
    rw [ibeq0]; cases decide (b = 0) <;> rfl
  · show some (AV.int k (andF k a b)) = _; rw [andF_eq]; rfl
  · show some (AV.int k (orF k a b)) = _; rw [orF_eq]; rfl
  · show some (AV.int k (xorF k a b)) = _; rw [xorF_eq]; rfl
  · rfl
  · rfl
  · show some (AV.int k (andNotF k a b)) = _; rw [andNotF_eq]; rfl
  · show some (AV.bool (ibeq a b)) = _; rw [ibeq_eq]; rfl
  · show some (AV.bool (Bool.not (ibeq a b))) = _; rw [ibeq_eq]; rfl
  · show some (AV.bool (iblt a b)) = _; rw [iblt_eq]; rfl
  · show some (AV.bool (Bool.not (iblt b a))) = _; rw [ible_eq]; rfl
  · show some (AV.bool (iblt b a)) = _; rw [iblt_eq]; rfl
  · show some (AV.bool (Bool.not (iblt a b))) = _; rw [ible_eq]; rfl

def sameK (k k' : IntKind) (x : Option AV) : Option AV := Bool.rec (motive := fun _ => Option AV) none x (decide (k = k'))
def iiF (op : BinOp) (k : IntKind) (a b : Int) (x : Option AV) : Option AV := BinOp.rec (motive := fun _ => IntKind → Int → Int → Option AV → Option AV)
  (fun _ _ _ x => x) (fun _ _ _ x => x) (fun _ _ _ x => x) (fun _ _ _ x => x) (fun _ _ _ x => x) (fun _ _ _ x => x) (fun _ _ _ x => x) (fun _ _ _ x => x)
  (fun k a b _ => Bool.rec (motive := fun _ => Option AV) (some (.int k (shlF k a b))) none (iblt b (Int.ofNat 0)))
  (fun k a b _ => Bool.rec (motive := fun _ => Option AV) (some (.int k (shrF k a b))) none (iblt b (Int.ofNat 0)))
  (fun _ _ _ x => x) (fun _ _ _ x => x) (fun _ _ _ x => x) (fun _ _ _ x => x) (fun _ _ _ x => x) (fun _ _ _ x => x) (fun _ _ _ x => x) op k a b x

def lenS (l : List UInt8) : Nat := List.rec (motive := fun _ => Nat) 0 (fun _ _ ih => Nat.succ ih) l
theorem lenS_eq : ∀ l, lenS l = l.length
  | [] => rfl
  | _ :: l => congrArg Nat.succ (lenS_eq l)

def strF (op : BinOp) (a b : List UInt8) : Option AV := BinOp.rec (motive := fun _ => List UInt8 → List UInt8 → Option AV)
  (fun a b => Bool.rec (motive := fun _ => Option AV) (some (.str (a ++ b))) none (Nat.blt 9223372036854775807 (Nat.add (lenS a) (lenS b))))
  (fun _ _ => none) (fun _ _ => none) (fun _ _ => none) (fun _ _ => none) (fun _ _ => none) (fun _ _ => none) (fun _ _ => none) (fun _ _ => none) (fun _ _ => none) (fun _ _ => none)
  (fun a b => some (.bool (beqB a b))) (fun a b => some (.bool (Bool.not (beqB a b))))
  (fun a b => strBin .lss a b) (fun a b => strBin .leq a b) (fun a b => strBin .gtr a b) (fun a b => strBin .geq a b) op a b
theorem strF_eq (op : BinOp) (a b : List UInt8) : strF op a b = strBin op a b := by
  cases op
  case add =>
    show Bool.rec (motive := fun _ => Option AV) (some (.str (a ++ b))) none (Nat.blt 9223372036854775807 (lenS a + lenS b)) = match decide (((a.length + b.length : Nat) : Int) > IntKind.i64.max) with | true => none | false => some (.str (a ++ b))
    have e : Nat.blt 9223372036854775807 (lenS a + lenS b) = decide (((a.length + b.length : Nat) : Int) > IntKind.i64.max) := by
      rw [nblt, lenS_eq, lenS_eq]
      have : IntKind.i64.max = 9223372036854775807 := by rfl
      rw [this]
      congr 1
      simp only [eq_iff_iff]; omega
    rw [e]
    cases decide (((a.length + b.length : Nat) : Int) > IntKind.i64.max) <;> rfl
  case eql => show some (AV.bool (beqB a b)) = _; rw [beqB_eq]; rfl
  case neq => show some (AV.bool (Bool.not (beqB a b))) = _; rw [beqB_eq]; rfl
  all_goals rfl

def binA (P : Program) (cst : Bool) (op : BinOp) (t : TypeId) (k : IntKind) (a : Int) (y : AV) : Option AV := match y with
  | .int k' b => iiF op k a b (sameK k k' (intBinF op k a b))
  | y => binO P cst op t (.int k a) y
def binS (P : Program) (cst : Bool) (op : BinOp) (t : TypeId) (a : List UInt8) (y : AV) : Option AV := match y with
  | .str b => strF op a b
  | y => binO P cst op t (.str a) y
def binF (P : Program) (cst : Bool) (op : BinOp) (t : TypeId) (x y : AV) : Option AV :=
  match x with
  | .int k a => binA P cst op t k a y
  | .str a => binS P cst op t a y
  | x => binO P cst op t x y

theorem binF_eq (P : Program) (cst : Bool) (op : BinOp) (t : TypeId) (x y : AV) : binF P cst op t x y = binO P cst op t x y := by
  unfold binF
  split
  · rename_i k a
    unfold binA
    split
    · rename_i k' b
      have h0 : iblt b (Int.ofNat 0) = decide (b < 0) := iblt_eq b 0
      have hs : ∀ op, sameK k k' (intBinF op k a b) = match decide (k = k') with | true => intBin op k a b | false => none := by
        intro op
        unfold sameK
        rw [intBinF_eq]
        cases decide (k = k') <;> rfl
      cases op
      case shl =>
        show Bool.rec (motive := fun _ => Option AV) (some (.int k (shlF k a b))) none (iblt b (Int.ofNat 0)) = match decide (b < 0) with | true => none | false => some (.int k (k.wrap (a * 2 ^ (min b.toNat k.bits))))
        rw [h0, shlF_eq]; cases decide (b < 0) <;> rfl
      case shr =>
        show Bool.rec (motive := fun _ => Option AV) (some (.int k (shrF k a b))) none (iblt b (Int.ofNat 0)) = match decide (b < 0) with | true => none | false => some (.int k (a.fdiv (2 ^ (min b.toNat k.bits))))
        rw [h0, shrF_eq]; cases decide (b < 0) <;> rfl
      all_goals exact hs _
    · rfl
  · rename_i a
    unfold binS
    split
    · rename_i b
      rw [strF_eq]
      cases op <;> rfl
    · rfl
  · rfl

def natF (v : AV) : Option Nat := match v with
  | .int _ n => Int.rec (motive := fun _ => Option Nat) (fun m => some m) (fun _ => none) n
  | _ => none
theorem natF_eq (v : AV) : natF v = natO v := by
  cases v
  case int k n =>
    cases n with
    | ofNat m => show some m = match decide (0 ≤ (m : Int)) with | true => some (m : Int).toNat | false => none
                 rw [decide_eq_true (by omega)]; rfl
    | negSucc m => rfl
  all_goals rfl

/-! memory -/
def minG {α : Type} (a b : Nat) (k : Nat → α) : α := Bool.rec (motive := fun _ => α) (k b) (k a) (Nat.ble a b)
theorem minG_eq {α : Type} (a b : Nat) (k : Nat → α) : minG a b k = k (Nat.min a b) := by
  unfold minG
  have h := minN_eq a b
  unfold minN at h
  have e : Nat.min a b = min a b := rfl
  rw [e, ← h]
  cases Nat.ble a b <;> rfl

def newG {α : Type} (s : St) (elem : TypeId) (cells : List AV) (odd : Bool) (k : AA → St → α) : α :=
  St.rec (motive := fun _ => α) (fun hp nx low gl => gList cells fun cells => gNat cells.length fun len =>
    setG (⟨cells, len, elem, 0, 0, [], 0, true, odd⟩ : Row) hp nx fun hp => gNat (Nat.succ nx) fun nx' => k ⟨nx, 0, 0⟩ ⟨hp, nx', low, gl⟩) s
theorem newG_eq {α : Type} (s : St) (elem : TypeId) (cells : List AV) (odd : Bool) (k : AA → St → α) : newG s elem cells odd k = k (newRow s elem cells odd).1 (newRow s elem cells odd).2 := by
  cases s
  show gList cells _ = _
  rw [gList_eq, gNat_eq, setG_eq]
  rfl

def okW (own : Bool) (gen fz len : Nat) (a : AA) (n : Nat) : Bool := own && (Nat.beq a.g gen && (Nat.ble fz a.off && Nat.ble (a.off + n) len))
def putRow (s : St) (b : Nat) (r : Row) : Option St :=
  St.rec (motive := fun _ => Option St) (fun hp nx low gl => setG r hp b fun hp => minG low b fun low => some ⟨hp, nx, low, gl⟩) s
theorem putRow_eq (s : St) (b : Nat) (r : Row) : putRow s b r = some { hset s b r with low := Nat.min s.low b } := by
  cases s
  show setG r _ b _ = _
  rw [setG_eq, minG_eq]
  rfl

def writeR (s : St) (a : AA) (xs : List AV) (r : Row) : Option St :=
  Row.rec (motive := fun _ => Option St) (fun cells len elem gen _ lens fz own odd => Bool.rec (motive := fun _ => Option St) none
    (spliceG a.off cells xs fun cells => putRow s a.b ⟨cells, len, elem, gen, gen, lens, fz, own, odd⟩) (okW own gen fz len a xs.length)) r
def writeF (s : St) (a : AA) (xs : List AV) : Option St :=
  match xs with
  | [] => some s
  | x :: xs => match s.hp.getF a.b with
    | none => none
    | some r => writeR s a (x :: xs) r
theorem writeF_eq (s : St) (a : AA) (xs : List AV) : writeF s a xs = writeCells s a xs := by
  unfold writeF writeCells
  simp only [T.getF_eq]
  cases xs with
  | nil => rfl
  | cons x xs =>
    simp only
    cases s.hp.get a.b with
    | none => rfl
    | some r =>
      cases r with
      | mk cells len elem gen minGen lens fz own odd =>
        show Bool.rec (motive := fun _ => Option St) none (spliceG a.off cells (x :: xs) fun cells => putRow s a.b ⟨cells, len, elem, gen, gen, lens, fz, own, odd⟩) (own && (Nat.beq a.g gen && (Nat.ble fz a.off && Nat.ble (a.off + (x :: xs).length) len))) = _
        rw [spliceG_eq, putRow_eq]
        simp only
        cases own && (Nat.beq a.g gen && (Nat.ble fz a.off && Nat.ble (a.off + (x :: xs).length) len)) <;> rfl

def szI (P : Program) (t : TypeId) : Option Nat := match sizeT P t with
  | none => none
  | some n => gNat n some
theorem szI_eq (P : Program) (t : TypeId) : szI P t = sizeT P t := by
  unfold szI; split <;> simp_all [gNat_eq]

def storeF (P : Program) (s : St) (t : TypeId) (a : AA) (v : AV) : Option St :=
  match cellsOf v with
  | some l => match szI P t with
    | some n => match Nat.beq l.length n with
      | true => writeF s a l
      | false => none
    | none => none
  | none => none
theorem storeF_eq (P : Program) (s : St) (t : TypeId) (a : AA) (v : AV) : storeF P s t a v = storeT P s t a v := by
  unfold storeF storeT
  rw [szI_eq]
  cases cellsOf v with
  | none => rfl
  | some l =>
    cases sizeT P t with
    | none => rfl
    | some n =>
      simp only
      cases Nat.beq l.length n with
      | false => rfl
      | true => exact writeF_eq s a l

inductive LdI where
  | bad
  | one
  | many (n : Nat)
def ldI (P : Program) (t : TypeId) : LdI := match aggT P t, sizeT P t with
  | some true, some n => gNat n .many
  | some false, _ => .one
  | _, _ => .bad
def load1 (a : AA) (r : Row) : Option AV := match extent r a.g with
  | none => none
  | some m => match Nat.ble (a.off + 1) m with
    | true => nthL a.off r.cells
    | false => none
def loadN (a : AA) (n : Nat) (r : Row) : Option AV := match extent r a.g with
  | none => none
  | some m => match Nat.ble (a.off + n) m with
    | true => some (.agg ((r.cells.drop a.off).take n))
    | false => none
def loadF (P : Program) (s : St) (t : TypeId) (a : AA) : Option AV :=
  match s.hp.getF a.b with
  | none => none
  | some r => match ldI P t with
    | .bad => none
    | .one => load1 a r
    | .many n => loadN a n r
theorem take1 (l : List AV) (n : Nat) : (match (l.drop n).take 1 with | [v] => some v | _ => none) = l[n]? := by
  induction l generalizing n with
  | nil => simp
  | cons a l ih => cases n with
    | zero => simp
    | succ n => simpa using ih n
theorem loadF_eq (P : Program) (s : St) (t : TypeId) (a : AA) : loadF P s t a = loadT P s t a := by
  unfold loadF loadT readCells ldI
  rw [T.getF_eq]
  cases s.hp.get a.b with
  | none => cases aggT P t with
    | none => rfl
    | some b => cases b with
      | false => rfl
      | true => cases sizeT P t <;> rfl
  | some r => cases aggT P t with
    | none => rfl
    | some b => cases b with
      | true => cases sizeT P t with
        | none => rfl
        | some n =>
          show loadN a n r = _
          unfold loadN
          simp only
          cases extent r a.g with
          | none => rfl
          | some m => simp only; cases Nat.ble (a.off + n) m <;> rfl
      | false =>
        show load1 a r = _
        unfold load1
        simp only
        cases extent r a.g with
        | none => rfl
        | some m =>
          simp only
          cases Nat.ble (a.off + 1) m with
          | false => rfl
          | true =>
            show nthL a.off r.cells = _
            rw [nthL_eq, ← take1]
            simp only
            generalize List.take 1 (List.drop a.off r.cells) = l
            cases l with
            | nil => rfl
            | cons v l => cases l <;> rfl
end
end Go.AM
