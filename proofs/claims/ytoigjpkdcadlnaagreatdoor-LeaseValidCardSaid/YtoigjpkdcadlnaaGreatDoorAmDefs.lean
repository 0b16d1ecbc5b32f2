/-
  An abstract machine for Go code in one goroutine: memory as numbered rows, one answer for each call.
  It runs the model's own code; it fails where the answer could hang on an order or on a capacity.
-/
import GoSem.Dispatch
import GoSem.Machine.Return
import Derived.Orders
namespace Go.AM
open Go
noncomputable section

inductive T (α : Type) where
  | nil
  | node (l : T α) (v : Option α) (r : T α)

def T.get {α : Type} (t : T α) : Nat → Option α :=
  T.rec (motive := fun _ => Nat → Option α) (fun _ => none)
    (fun _ v _ gl gr n => Bool.rec (Bool.rec (gr (Nat.pred (Nat.div n 2))) (gl (Nat.div n 2)) (Nat.beq (Nat.mod n 2) 1)) v (Nat.beq n 0)) t

def T.one {α : Type} (x : α) (f : Nat) : Nat → T α :=
  Nat.rec (motive := fun _ => Nat → T α) (fun _ => .nil)
    (fun _ ih n => Bool.rec (Bool.rec (.node .nil none (ih (Nat.pred (Nat.div n 2)))) (.node (ih (Nat.div n 2)) none .nil) (Nat.beq (Nat.mod n 2) 1)) (.node .nil (some x) .nil) (Nat.beq n 0)) f

def T.set {α : Type} (x : α) (t : T α) : Nat → T α :=
  T.rec (motive := fun _ => Nat → T α) (fun n => T.one x (Nat.succ n) n)
    (fun l v r gl gr n => Bool.rec (Bool.rec (.node l v (gr (Nat.pred (Nat.div n 2)))) (.node (gl (Nat.div n 2)) v r) (Nat.beq (Nat.mod n 2) 1)) (.node l (some x) r) (Nat.beq n 0)) t

structure AA where
  b : Nat
  g : Nat
  off : Nat

inductive AV where
  | bool (b : Bool)
  | int (k : IntKind) (n : Int)
  | str (s : List UInt8)
  | nilPtr
  | ptr (a : AA)
  | nilSlice
  | empty
  | slice (a : AA) (len esz : Nat)
  | nilFunc
  | func (f : FuncId) (cap : List AA)
  | nilIface
  | iface (t : TypeId) (v : AV)
  | agg (cs : List AV)
  | tuple (vs : List AV)

def und : AV := .tuple []

structure Row where
  cells : List AV
  len : Nat
  elem : TypeId
  gen : Nat
  minGen : Nat
  lens : List Nat
  fz : Nat
  own : Bool
  odd : Bool

structure St where
  hp : T Row
  nx : Nat
  low : Nat
  gl : Nat

/-! constants -/
def cOf : Value → Option AV
  | .bool b => some (.bool b)
  | .int k n => some (.int k n)
  | .string s => some (.str s.data.toList)
  | .pointer none => some .nilPtr
  | .slice none 0 0 => some .nilSlice
  | .nilFunc => some .nilFunc
  | .nilIface => some .nilIface
  | _ => none

def mapO {α β : Type} (f : α → Option β) : List α → Option (List β)
  | [] => some []
  | a :: r => match f a with
    | none => none
    | some b => match mapO f r with
      | none => none
      | some bs => some (b :: bs)

def vOf : Value → Option AV
  | .agg cs => match mapO cOf cs.toList with
    | some l => some (.agg l)
    | none => none
  | v => cOf v

def cellsOf : AV → Option (List AV)
  | .agg cs => some cs
  | .tuple _ => none
  | v => some [v]

def zeroOf (P : Program) (t : TypeId) : Option AV :=
  match P.info? t with
  | none => none
  | some i => match i.zero with
    | none => none
    | some v => vOf v

def sizeT (P : Program) (t : TypeId) : Option Nat := (P.info? t).map (·.size)

def aggT (P : Program) (t : TypeId) : Option Bool :=
  match P.underlying t with
  | none => none
  | some (.struct _) => some true
  | some (.array _ _) => some true
  | some _ => some false

/-! memory -/
def hset (s : St) (b : Nat) (r : Row) : St := { s with hp := T.set r s.hp b }

def newRow (s : St) (elem : TypeId) (cells : List AV) (odd : Bool := false) : AA × St :=
  (⟨s.nx, 0, 0⟩, { s with hp := T.set { cells, len := cells.length, elem, gen := 0, minGen := 0, lens := [], fz := 0, own := true, odd } s.hp s.nx, nx := s.nx + 1 })

/-- how many cells of a row can be read at a generation -/
def extent (r : Row) (g : Nat) : Option Nat :=
  match Nat.ble r.minGen g, Nat.ble g r.gen with
  | true, true => match Nat.beq g r.gen with
    | true => some r.len
    | false => r.lens[r.gen - g - 1]?
  | _, _ => none

def readCells (s : St) (a : AA) (n : Nat) : Option (List AV) :=
  match s.hp.get a.b with
  | none => none
  | some r => match extent r a.g with
    | none => none
    | some m => match Nat.ble (a.off + n) m with
      | true => some ((r.cells.drop a.off).take n)
      | false => none

def loadT (P : Program) (s : St) (t : TypeId) (a : AA) : Option AV :=
  match aggT P t, sizeT P t with
  | some true, some n => match readCells s a n with
    | some l => some (.agg l)
    | none => none
  | some false, _ => match readCells s a 1 with
    | some [v] => some v
    | _ => none
  | _, _ => none

def splice (l : List AV) (off : Nat) (xs : List AV) : List AV := l.take off ++ (xs ++ l.drop (off + xs.length))

def writeCells (s : St) (a : AA) (xs : List AV) : Option St :=
  match xs with
  | [] => some s
  | _ => match s.hp.get a.b with
    | none => none
    | some r => match r.own && (Nat.beq a.g r.gen && (Nat.ble r.fz a.off && Nat.ble (a.off + xs.length) r.len)) with
      | true => some { hset s a.b { r with cells := splice r.cells a.off xs, minGen := r.gen } with low := Nat.min s.low a.b }
      | false => none

def storeT (P : Program) (s : St) (t : TypeId) (a : AA) (v : AV) : Option St :=
  match cellsOf v, sizeT P t with
  | some l, some n => match Nat.beq l.length n with
    | true => writeCells s a l
    | false => none
  | _, _ => none

/-! values -/
def partOf (P : Program) (t : TypeId) (cs : List AV) (off : Nat) : Option AV :=
  match aggT P t, sizeT P t with
  | some true, some n => match Nat.ble (off + n) cs.length with
    | true => some (.agg ((cs.drop off).take n))
    | false => none
  | some false, _ => cs[off]?
  | _, _ => none

def fillO (place : Nat → Option (Nat × Nat)) : List AV → List (Nat × AV) → Option (List AV)
  | cells, [] => some cells
  | cells, (i, v) :: rest => match place i, cellsOf v with
    | some (off, size), some vs => match Nat.beq vs.length size && Nat.ble (off + vs.length) cells.length with
      | true => fillO place (splice cells off vs) rest
      | false => none
    | _, _ => none

def buildO (P : Program) (t : TypeId) (parts : List (Nat × AV)) : Option AV :=
  match zeroOf P t with
  | some (.agg zero) => match P.underlying t with
    | some (.struct fields) => match mapO (fun f => (sizeT P f.type).map fun n => (f.offset, n)) fields.toList with
      | some places => match fillO (fun i => places[i]?) zero parts with
        | some cs => some (.agg cs)
        | none => none
      | none => none
    | some (.array _ elem) => match sizeT P elem with
      | some size => match fillO (fun i => some (i * size, size)) zero parts with
        | some cs => some (.agg cs)
        | none => none
      | none => none
    | _ => none
  | _ => none

def reps (zero : List AV) : Nat → List AV
  | 0 => []
  | n + 1 => zero ++ reps zero n

def zerosOf (P : Program) (elem : TypeId) (size n : Nat) : Option (List AV) :=
  match zeroOf P elem with
  | none => none
  | some z => match cellsOf z with
    | some zs => match Nat.beq zs.length size with
      | true => some (reps zs n)
      | false => none
    | none => none

def intBin (op : BinOp) (k : IntKind) (a b : Int) : Option AV :=
  match op with
  | .add => some (.int k (k.wrap (a + b)))
  | .sub => some (.int k (k.wrap (a - b)))
  | .mul => some (.int k (k.wrap (a * b)))
  | .quo => match decide (b = 0) with
    | true => none
    | false => some (.int k (k.wrap (a.tdiv b)))
  | .rem => match decide (b = 0) with
    | true => none
    | false => some (.int k (a.tmod b))
  | .and => some (.int k (k.wrap (BitVec.ofInt k.bits a &&& BitVec.ofInt k.bits b).toNat))
  | .or => some (.int k (k.wrap (BitVec.ofInt k.bits a ||| BitVec.ofInt k.bits b).toNat))
  | .xor => some (.int k (k.wrap (BitVec.ofInt k.bits a ^^^ BitVec.ofInt k.bits b).toNat))
  | .andNot => some (.int k (k.wrap (BitVec.ofInt k.bits a &&& ~~~ BitVec.ofInt k.bits b).toNat))
  | .eql => some (.bool (a == b))
  | .neq => some (.bool (a != b))
  | .lss => some (.bool (decide (a < b)))
  | .leq => some (.bool (decide (a ≤ b)))
  | .gtr => some (.bool (decide (a > b)))
  | .geq => some (.bool (decide (a ≥ b)))
  | _ => none

def strBin (op : BinOp) (a b : List UInt8) : Option AV :=
  match op with
  | .add => match decide (((a.length + b.length : Nat) : Int) > IntKind.i64.max) with
    | true => none
    | false => some (.str (a ++ b))
  | .eql => some (.bool (a == b))
  | .neq => some (.bool (!(a == b)))
  | .lss => some (.bool (Op.bytesLess a b))
  | .leq => some (.bool (Op.bytesLess a b || a == b))
  | .gtr => some (.bool (!(Op.bytesLess a b || a == b)))
  | .geq => some (.bool (!Op.bytesLess a b))
  | _ => none

def eqFields (P : Program) (eq : TypeId → AV → AV → Option Bool) (xs ys : List AV) : List Field → Option Bool
  | [] => some true
  | f :: r => match f.name == "_" with
    | true => eqFields P eq xs ys r
    | false => match partOf P f.type xs f.offset, partOf P f.type ys f.offset with
      | some x, some y => match eq f.type x y with
        | some true => eqFields P eq xs ys r
        | some false => some false
        | none => none
      | _, _ => none

def aeq (P : Program) : Nat → TypeId → AV → AV → Option Bool
  | 0, _, _, _ => none
  | d + 1, t, x, y => match P.underlying t, x, y with
    | some .bool, .bool a, .bool b => some (a == b)
    | some (.int _), .int k a, .int k' b => match decide (k = k') with
      | true => some (a == b)
      | false => none
    | some .string, .str a, .str b => some (a == b)
    | some (.pointer _), .nilPtr, .nilPtr => some true
    | some (.pointer _), .nilPtr, .ptr _ => some false
    | some (.pointer _), .ptr _, .nilPtr => some false
    | some (.pointer e), .ptr a, .ptr b => match sizeT P e with
      | some (_ + 1) => match Nat.beq a.b b.b && Nat.beq a.g b.g with
        | true => some (Nat.beq a.off b.off)
        | false => none
      | _ => none
    | some (.interface _), .nilIface, .nilIface => some true
    | some (.interface _), .nilIface, .iface _ _ => some false
    | some (.interface _), .iface _ _, .nilIface => some false
    | some (.struct fields), .agg xs, .agg ys => match P.stoodInHeld t with
      | true => none
      | false => eqFields P (aeq P d) xs ys fields.toList
    | some (.slice _), .nilSlice, .nilSlice => some true
    | some (.slice _), .nilSlice, .slice _ _ _ => some false
    | some (.slice _), .nilSlice, .empty => some false
    | some (.slice _), .slice _ _ _, .nilSlice => some false
    | some (.slice _), .empty, .nilSlice => some false
    | some (.func _ _ _), .nilFunc, .nilFunc => some true
    | some (.func _ _ _), .nilFunc, .func _ _ => some false
    | some (.func _ _ _), .func _ _, .nilFunc => some false
    | _, _, _ => none

def eqOk (P : Program) (cst : Bool) (t : TypeId) (x y : AV) : Bool :=
  match x, y with
  | .nilIface, .nilIface => cst
  | .agg _, .agg _ => !P.eqGuardType P.depth t
  | _, _ => true

def binO (P : Program) (cst : Bool) (op : BinOp) (t : TypeId) (x y : AV) : Option AV :=
  match op, x, y with
  | .shl, .int k a, .int _ b => match decide (b < 0) with
    | true => none
    | false => some (.int k (k.wrap (a * 2 ^ (min b.toNat k.bits))))
  | .shr, .int k a, .int _ b => match decide (b < 0) with
    | true => none
    | false => some (.int k (a.fdiv (2 ^ (min b.toNat k.bits))))
  | op, .int k a, .int k' b => match decide (k = k') with
    | true => intBin op k a b
    | false => none
  | op, .str a, .str b => strBin op a b
  | .eql, x, y => match eqOk P cst t x y with
    | true => match aeq P 12 t x y with
      | some b => some (.bool b)
      | none => none
    | false => none
  | .neq, x, y => match eqOk P cst t x y with
    | true => match aeq P 12 t x y with
      | some b => some (.bool !b)
      | none => none
    | false => none
  | _, _, _ => none

def isConst : Operand → Bool
  | .const _ => true
  | _ => false

def unO (op : UnOp) (x : AV) : Option AV :=
  match op, x with
  | .neg, .int k n => some (.int k (k.wrap (0 - n)))
  | .xor, .int k n => some (.int k (k.wrap (BitVec.ofInt k.bits (if k.signed then -1 else k.max) ^^^ BitVec.ofInt k.bits n).toNat))
  | .not, .bool b => some (.bool !b)
  | _, _ => none

def bytesO : List AV → Option (List UInt8)
  | [] => some []
  | .int .u8 n :: r => match decide (0 ≤ n ∧ n < 256) with
    | true => match bytesO r with
      | some l => some (UInt8.ofNat n.toNat :: l)
      | none => none
    | false => none
  | _ :: _ => none

def ofBytes (s : List UInt8) : List AV := s.map fun b => .int .u8 b.toNat

def convO (P : Program) (s : St) (src dst : TypeId) (x : AV) : Option (AV × St) :=
  match P.underlying src, P.underlying dst, x with
  | some _, some (.int k), .int _ n => some (.int k (k.wrap n), s)
  | some _, some .string, .int _ n => some (.str (Utf8.encode n).data.toList, s)
  | some _, some .string, .str l => some (.str l, s)
  | some _, some (.slice e), .str l => match P.underlying e with
    | some (.int .u8) => match newRow s e (ofBytes l) true with
      | (a, s) => some (.slice a l.length 1, s)
    | _ => none
  | some (.slice e), some .string, x => match P.underlying e with
    | some (.int .u8) => match x with
      | .nilSlice => some (.str [], s)
      | .empty => some (.str [], s)
      | .slice a n 1 => match readCells s a n with
        | some cs => match bytesO cs with
          | some l => some (.str l, s)
          | none => none
        | none => none
      | _ => none
    | _ => none
  | some (.pointer t), some .unsafePointer, .ptr a => match sizeT P t, readCells s a 1 with
    | some (_ + 1), some _ => some (.ptr a, s)
    | _, _ => none
  | some .unsafePointer, some (.pointer u), .ptr a => match s.hp.get a.b with
    | some r => match sizeT P u, Nat.beq r.elem u && (Nat.beq a.off 0 && (Nat.beq a.g 0 && Nat.beq r.gen 0)) with
      | some (n + 1), true => match Nat.beq r.len (n + 1) with
        | true => some (.ptr a, s)
        | false => none
      | _, _ => none
    | none => none
  | _, _, _ => none

def natO : AV → Option Nat
  | .int _ n => match decide (0 ≤ n) with
    | true => some n.toNat
    | false => none
  | _ => none

def bnd (x : Option AV) (dflt : Nat) : Option Nat :=
  match x with
  | none => some dflt
  | some v => natO v

def mkSlice (a : AA) (l n esz : Nat) : AV :=
  match n with
  | 0 => .empty
  | n + 1 => .slice ⟨a.b, a.g, a.off + l * esz⟩ (n + 1) esz

def sliceO (P : Program) (t : TypeId) (x : AV) (lo hi : Option AV) : Option AV :=
  match P.underlying t, x with
  | some .string, .str l => match bnd hi l.length with
    | some h => match bnd lo 0 with
      | some k => match Nat.ble k h && Nat.ble h l.length with
        | true => some (.str ((l.drop k).take (h - k)))
        | false => none
      | none => none
    | none => none
  | some (.slice e), x => match sizeT P e with
    | none => none
    | some z => match x with
      | .slice a n esz => match bnd hi n, bnd lo 0 with
        | some h, some k => match Nat.beq z esz && (Nat.ble k h && Nat.ble h n) with
          | true => some (mkSlice a k (h - k) esz)
          | false => none
        | _, _ => none
      | .nilSlice => match bnd hi 0, bnd lo 0 with
        | some 0, some 0 => some .nilSlice
        | _, _ => none
      | .empty => match bnd hi 0, bnd lo 0 with
        | some 0, some 0 => some .empty
        | _, _ => none
      | _ => none
  | _, _ => none

def addOff (a : AA) (n : Nat) : AA := ⟨a.b, a.g, a.off + n⟩

def fieldAddrO (P : Program) (t : TypeId) (x : AV) (f : Nat) : Option AV :=
  match P.underlying t, x with
  | some (.struct fs), .ptr a => match fs[f]? with
    | some fd => match sizeT P fd.type with
      | some (_ + 1) => some (.ptr (addOff a fd.offset))
      | _ => none
    | none => none
  | _, _ => none

def fieldO (P : Program) (t : TypeId) (x : AV) (f : Nat) : Option AV :=
  match P.underlying t, x with
  | some (.struct fs), .agg cs => match fs[f]? with
    | some fd => partOf P fd.type cs fd.offset
    | none => none
  | _, _ => none

def indexAddrO (P : Program) (t : TypeId) (x i : AV) : Option AV :=
  match natO i with
  | none => none
  | some i => match P.underlying t, x with
    | some (.array n e), .ptr a => match sizeT P e, Nat.blt i n with
      | some esz, true => some (.ptr (addOff a (i * esz)))
      | _, _ => none
    | some (.slice e), .slice a n esz => match sizeT P e, Nat.blt i n with
      | some z, true => match Nat.beq z esz with
        | true => some (.ptr (addOff a (i * esz)))
        | false => none
      | _, _ => none
    | _, _ => none

def indexO (P : Program) (t : TypeId) (x i : AV) : Option AV :=
  match natO i with
  | none => none
  | some i => match P.underlying t, x with
    | some (.array n e), .agg cs => match sizeT P e, Nat.blt i n with
      | some esz, true => partOf P e cs (i * esz)
      | _, _ => none
    | some .string, .str l => match l[i]? with
      | some b => some (.int .u8 b.toNat)
      | none => none
    | _, _ => none

/-! built-in functions -/
def lenO : AV → Option Nat
  | .str l => some l.length
  | .nilSlice => some 0
  | .empty => some 0
  | .slice _ n _ => some n
  | _ => none

/-- the cells of a slice, or the bytes of a string -/
def srcCells (s : St) (esz : Nat) : AV → Option (Nat × List AV)
  | .str l => match Nat.beq esz 1 with
    | true => some (l.length, ofBytes l)
    | false => none
  | .nilSlice => some (0, [])
  | .empty => some (0, [])
  | .slice a n e => match Nat.beq e esz with
    | true => match readCells s a (n * esz) with
      | some cs => some (n, cs)
      | none => none
    | false => none
  | _ => none

def isSliceOrStr (P : Program) (t : TypeId) : Bool :=
  match P.underlying t with
  | some (.slice _) => true
  | some .string => true
  | _ => false

def appendO (P : Program) (s : St) (t xt : TypeId) (x y : AV) : Option (AV × St) :=
  match P.underlying t, isSliceOrStr P xt with
  | some (.slice e), true => match P.info? e with
    | none => none
    | some i => match srcCells s i.size y with
      | none => none
      | some (0, _) => match x with
        | .nilSlice => some (x, s)
        | .empty => some (x, s)
        | .slice _ _ _ => some (x, s)
        | _ => none
      | some (m + 1, cs) => match zerosOf P e i.size 0 with
        | none => none
        | some _ => match x with
          | .nilSlice => match Nat.ble ((m + 1) * i.bytes) 1000000000 && Nat.ble (m + 1) 1000000000 with
            | true => match newRow s e cs with
              | (a, s) => some (.slice a (m + 1) i.size, s)
            | false => none
          | .slice a n esz => match s.hp.get a.b with
            | none => none
            | some r => match (r.own && (Nat.beq r.elem e && (Nat.beq esz i.size && (Nat.beq a.off 0 && (Nat.beq a.g r.gen && Nat.beq (n * esz) r.len))))) &&
                (Nat.ble ((n + (m + 1)) * i.bytes) 1000000000 && Nat.ble (n + (m + 1)) 1000000000) with
              | true => some (.slice ⟨a.b, r.gen + 1, 0⟩ (n + (m + 1)) esz,
                  { hset s a.b { r with cells := r.cells ++ cs, len := r.len + cs.length, gen := r.gen + 1, lens := r.len :: r.lens } with low := Nat.min s.low a.b })
              | false => none
          | _ => none
  | _, _ => none

def foldMin : AV → List AV → Option AV
  | x, [] => some x
  | .int k a, .int _ b :: r => foldMin (.int k (if b < a then b else a)) r
  | _, _ => none
def foldMax : AV → List AV → Option AV
  | x, [] => some x
  | .int k a, .int _ b :: r => foldMax (.int k (if b > a then b else a)) r
  | _, _ => none

def builtinO (P : Program) (s : St) (b : Builtin) (ts : Array TypeId) (args : List AV) : Option (AV × St) :=
  match b, args with
  | .len, [x] => match ts[0]? with
    | some t => match P.underlying t with
      | some (.array n _) => some (.int .i64 n, s)
      | some (.pointer arr) => match P.underlying arr with
        | some (.array n _) => some (.int .i64 n, s)
        | _ => none
      | some (.slice _) => match x with
        | .str _ => none
        | _ => match lenO x with
          | some n => some (.int .i64 n, s)
          | none => none
      | some .string => match x with
        | .str l => some (.int .i64 l.length, s)
        | _ => none
      | _ => none
    | none => none
  | .append, [x, y] => match ts[0]?, ts[1]? with
    | some t, some xt => appendO P s t xt x y
    | _, _ => none
  | .min, x :: r => match foldMin x r with
    | some v => some (v, s)
    | none => none
  | .max, x :: r => match foldMax x r with
    | some v => some (v, s)
    | none => none
  | .unsafeSliceData, [x] => match x with
    | .nilSlice => some (.nilPtr, s)
    | .slice a (_ + 1) _ => some (.ptr a, s)
    | _ => none
  | .unsafeString, [p, .int .i64 n] => match ts.toList with
    | [pt, _] => match p with
      | .nilPtr => match decide (n = 0) with
        | true => some (.str [], s)
        | false => none
      | .ptr a => match natO (.int .i64 n) with
        | some (k + 1) => match readCells s a (k + 1), s.hp.get a.b with
          | some cs, some r => match bytesO cs with
            | some l => match (!r.odd && (r.own && (Nat.beq a.off 0 && (Nat.beq a.g r.gen && Nat.ble (k + 1) 1000000000)))) with
              | true => match P.underlying pt, sizeT P r.elem with
                | some (.pointer u), some 1 => match Nat.beq u r.elem with
                  | true => some (.str l, { hset s a.b { r with fz := Nat.max r.fz (k + 1) } with low := Nat.min s.low a.b })
                  | false => none
                | _, _ => none
              | false => none
            | none => none
          | _, _ => none
        | _ => none
      | _ => none
    | _ => none
  | _, _ => none

/-! operations -/
/-- the temporaries of a call -/
structure Fr where
  tm : T AV
  nt : Nat

def ev (f : Fr) (gl : Nat) : Operand → Option AV
  | .tmp t => match f.tm.get t with
    | some v => some v
    | none => some und
  | .const v => vOf v
  | .global g => match Nat.blt g gl with
    | true => some (.ptr ⟨g, 0, 0⟩)
    | false => none
  | .func f => some (.func f [])

def evs (ρ : Operand → Option AV) : List Operand → Option (List AV)
  | [] => some []
  | x :: r => match ρ x with
    | none => none
    | some v => match evs ρ r with
      | none => none
      | some vs => some (v :: vs)

def evO (ρ : Operand → Option AV) : Option Operand → Option (Option AV)
  | none => some none
  | some x => match ρ x with
    | none => none
    | some v => some (some v)

def evParts (ρ : Operand → Option AV) : List (Nat × Operand) → Option (List (Nat × AV))
  | [] => some []
  | (i, x) :: r => match ρ x with
    | none => none
    | some v => match evParts ρ r with
      | none => none
      | some vs => some ((i, v) :: vs)

def put (f : Fr) (dst : Option Tmp) (v : AV) : Option Fr :=
  match dst with
  | none => some f
  | some d => match Nat.blt d f.nt with
    | true => some { f with tm := T.set v f.tm d }
    | false => none

def addrs : List AV → Option (List AA)
  | [] => some []
  | .ptr a :: r => match addrs r with
    | some l => some (a :: l)
    | none => none
  | _ :: _ => none

def scalar : AV → Bool
  | .bool _ => true
  | .int _ _ => true
  | .str _ => true
  | .ptr _ => true
  | .nilPtr => true
  | _ => false

/-- how a call of a function goes on -/
structure Env where
  P : Program
  /-- functions without a body that hand their one argument back -/
  same : FuncId → Bool
  /-- calls whose answer is known -/
  known : FuncId → List AV → Option AV
  call : FuncId → List AV → St → Option (AV × St)

def pairO (s : St) : Option AV → Option (AV × St)
  | some v => some (v, s)
  | none => none

def callO (E : Env) (s : St) (f : AV) (args : List AV) : Option (AV × St) :=
  match f with
  | .func f cap => match E.same f, args, cap with
    | true, [x], [] => some (x, s)
    | true, _, _ => none
    | false, _, _ => match E.known f (args ++ cap.map .ptr) with
      | some v => some (v, s)
      | none => E.call f (args ++ cap.map .ptr) s
  | _ => none

def opO (E : Env) (ρ : Operand → Option AV) (s : St) (o : Op) : Option (AV × St) :=
  match o with
  | .move x => pairO s (ρ x)
  | .assign x => pairO s (ρ x)
  | .pick c a b => match ρ c with
    | some (.bool true) => pairO s (ρ a)
    | some (.bool false) => pairO s (ρ b)
    | _ => none
  | .alloc e => match zeroOf E.P e with
    | some z => match cellsOf z with
      | some cs => match newRow s e cs with
        | (a, s) => some (.ptr a, s)
      | none => none
    | none => none
  | .box e x => match ρ x with
    | some v => match cellsOf v with
      | some cs => match newRow s e cs with
        | (a, s) => some (.ptr a, s)
      | none => none
    | none => none
  | .build t ps => match evParts ρ ps.toList with
    | some l => pairO s (buildO E.P t l)
    | none => none
  | .buildSlice t n ps => match evParts ρ ps.toList, E.P.underlying t with
    | some l, some (.slice e) => match sizeT E.P e with
      | some size => match Nat.ble (n * size) 16777216, zerosOf E.P e size n with
        | true, some zs => match fillO (fun i => some (i * size, size)) zs l with
          | some cs => match newRow s e cs with
            | (a, s) => some (.slice a n size, s)
          | none => none
        | _, _ => none
      | none => none
    | _, _ => none
  | .load t x => match ρ x with
    | some (.ptr a) => pairO s (loadT E.P s t a)
    | _ => none
  | .store t x v => match ρ x, ρ v with
    | some (.ptr a), some v => match storeT E.P s t a v with
      | some s => some (und, s)
      | none => none
    | _, _ => none
  | .nilCheck x => match ρ x with
    | some (.ptr a) => some (.ptr a, s)
    | some (.func f c) => some (.func f c, s)
    | _ => none
  | .binOp op t x y _ => match ρ x, ρ y with
    | some a, some b => pairO s (binO E.P (isConst x || isConst y) op t a b)
    | _, _ => none
  | .unOp op _ x => match ρ x with
    | some a => pairO s (unO op a)
    | none => none
  | .convert src dst x => match ρ x with
    | some a => convO E.P s src dst a
    | none => none
  | .makeInterface t x => match ρ x, E.P.underlying t with
    | some v, some d => match d, scalar v with
      | .interface _, _ => none
      | _, true => some (.iface t v, s)
      | _, false => none
    | _, _ => none
  | .makeFunc (.func f) first cap => match first.size, evs ρ cap.toList with
    | 0, some vs => match addrs vs with
      | some l => some (.func f l, s)
      | none => none
    | _, _ => none
  | .makeSlice t l c => match ρ l, ρ c, E.P.underlying t with
    | some l, some c, some (.slice e) => match natO l, natO c, E.P.info? e with
      | some l, some c, some i => match Nat.ble l c && (Nat.ble (c * i.bytes) 1000000000 && Nat.ble c 1000000000), zerosOf E.P e i.size c with
        | true, some zs => match Nat.beq l c with
          | true => match newRow s e zs with
            | (a, s) => some (.slice a l i.size, s)
          | false => match l with
            | 0 => match newRow s e [] with
              | (a, s) => some (.slice a 0 i.size, s)
            | _ => none
        | _, _ => none
      | _, _, _ => none
    | _, _, _ => none
  | .slice t x lo hi none => match ρ x, evO ρ lo, evO ρ hi with
    | some v, some l, some h => pairO s (sliceO E.P t v l h)
    | _, _, _ => none
  | .fieldAddr t x f => match ρ x with
    | some v => pairO s (fieldAddrO E.P t v f)
    | none => none
  | .field t x f => match ρ x with
    | some v => pairO s (fieldO E.P t v f)
    | none => none
  | .indexAddr t x i => match ρ x, ρ i with
    | some v, some i => pairO s (indexAddrO E.P t v i)
    | _, _ => none
  | .index t x i => match ρ x, ρ i with
    | some v, some i => pairO s (indexO E.P t v i)
    | _, _ => none
  | .extract t i => match ρ t with
    | some (.tuple vs) => pairO s vs[i]?
    | _ => none
  | .call c => match evs ρ c.args.toList with
    | none => none
    | some args => match c.callee with
      | .value f => match ρ f with
        | some f => callO E s f args
        | none => none
      | .builtin b => builtinO E.P s b c.argTypes args
      | .invoke _ _ => none
  | _ => none

def yieldO (f : Fr) (ops : Array Oper) (j : Nat) : Option Bool :=
  match (ops[j]?).bind (·.dst) with
  | none => none
  | some t => match f.tm.get t with
    | some (.bool b) => some b
    | _ => none

def wantO (f : Fr) (ops : Array Oper) (o : Oper) : Bool :=
  match o.guard with
  | none => true
  | some (j, want) => match yieldO f ops j with
    | some b => b == want
    | none => false

def oneO (E : Env) (ops : Array Oper) (o : Oper) (f : Fr) (s : St) : Option (Fr × St) :=
  match wantO f ops o with
  | true => match opO E (ev f s.gl) s o.op with
    | some (v, s) => match put f o.dst v with
      | some f => some (f, s)
      | none => none
    | none => none
  | false => match put f o.dst und with
    | some f => some (f, s)
    | none => none

/-- operations in the order of the text -/
def opsO (E : Env) (ops : Array Oper) : List Oper → Fr → St → Option (Fr × St)
  | [], f, s => some (f, s)
  | o :: r, f, s => match oneO E ops o f s with
    | some (f, s) => opsO E ops r f s
    | none => none

/-- the row that a load reads or a store writes -/
def rowAt (ρ : Operand → Option AV) : Op → Option Nat
  | .load _ x => match ρ x with
    | some (.ptr a) => some a.b
    | _ => none
  | .store _ x _ => match ρ x with
    | some (.ptr a) => some a.b
    | _ => none
  | _ => none

def memb (n : Nat) : List Nat → Bool
  | [] => false
  | m :: r => match Nat.beq n m with
    | true => true
    | false => memb n r

/-- a load that a store may overtake, a store that a load may overtake: the rows differ -/
def softO (E : Env) (ops : Array Oper) (o : Oper) (f : Fr) (s : St) (bad : List Nat) : Option (Option Nat × Fr × St) :=
  match wantO f ops o with
  | true => match rowAt (ev f s.gl) o.op with
    | some c => match memb c bad with
      | true => none
      | false => match oneO E ops o f s with
        | some (f, s) => some (some c, f, s)
        | none => none
    | none => none
  | false => match put f o.dst und with
    | some f => some (none, f, s)
    | none => none

def consO : Option Nat → List Nat → List Nat
  | some n, l => n :: l
  | none, l => l

/-- a region that draws its order, in the order of the text. An operation of kind 0 meets no other one in an open order; one of kind 1 writes no row that was there; 2: a load, 3: a store, 5: new memory alone -/
def drawO (E : Env) (ops : Array Oper) (kind : Nat → Nat) : Nat → List Oper → List Nat → List Nat → Fr → St → Option (Fr × St)
  | _, [], _, _, f, s => some (f, s)
  | i, o :: r, rd, wr, f, s => match kind i with
    | 0 => match oneO E ops o f s with
      | some (f, s) => drawO E ops kind (i + 1) r rd wr f s
      | none => none
    | 1 => match oneO E ops o f { s with low := s.nx } with
      | some (f, s') => match Nat.ble s.nx s'.low with
        | true => drawO E ops kind (i + 1) r rd wr f { s' with low := s.low }
        | false => none
      | none => none
    | 2 => match softO E ops o f s wr with
      | some (c, f, s) => drawO E ops kind (i + 1) r (consO c rd) wr f s
      | none => none
    | 3 => match softO E ops o f s (rd ++ wr) with
      | some (c, f, s) => drawO E ops kind (i + 1) r rd (consO c wr) f s
      | none => none
    | 5 => match oneO E ops o f s with
      | some (f, s) => drawO E ops kind (i + 1) r rd wr f s
      | none => none
    | _ => none

/-- an operation that touches no memory -/
def isPure : Op → Bool
  | .move _ => true
  | .assign _ => true
  | .pick _ _ _ => true
  | .build _ _ => true
  | .nilCheck _ => true
  | .binOp _ _ _ _ _ => true
  | .unOp _ _ _ => true
  | .makeInterface _ _ => true
  | .makeFunc _ _ _ => true
  | .slice _ _ _ _ _ => true
  | .fieldAddr _ _ _ => true
  | .field _ _ _ => true
  | .indexAddr _ _ _ => true
  | .index _ _ _ => true
  | .extract _ _ => true
  | .call { callee := .builtin .len, .. } => true
  | .call { callee := .builtin .min, .. } => true
  | .call { callee := .builtin .max, .. } => true
  | _ => false

def ordered (ops : Array Oper) (i j : Nat) : Bool := ((Region.before ops).getD (max i j) 0).testBit (min i j)

def isLoad : Op → Bool
  | .load _ _ => true
  | _ => false
def isStore : Op → Bool
  | .store _ _ _ => true
  | _ => false
/-- an operation that makes memory and reads none -/
def isAlloc : Op → Bool
  | .alloc _ => true
  | .box _ _ => true
  | .buildSlice _ _ _ => true
  | .makeSlice _ _ _ => true
  | _ => false

/-- the order that is read off the edges is one that the edges force; what no edge orders names different temporaries -/
def okRegion (ops : Array Oper) : Bool :=
  (List.range ops.size).all fun j => match ops[j]? with
    | none => false
    | some oj => oj.after.all (fun e => !Region.binds .any e || Nat.blt e.on j) &&
      ((match oj.op with | .select _ _ => false | _ => true) &&
      (List.range j).all fun i => match ops[i]? with
        | none => false
        | some oi => match ordered ops i j with
          | true => oj.after.any fun e => Region.binds .any e && (Nat.beq e.on i || (Nat.blt i e.on && ordered ops i e.on))
          | false => oi.apart ops oj)

/-- is there an operation of some sort that touches memory and is not ordered against another one? -/
def meets (ops : Array Oper) (i : Nat) (p : Op → Bool) : Bool :=
  (List.range ops.size).any fun j => j != i && (match ops[j]? with | some o => !isPure o.op && p o.op | none => false) && !ordered ops i j

def kindOf (ops : Array Oper) (i : Nat) : Nat :=
  match ops[i]? with
  | none => 0
  | some o => bif isPure o.op || !meets ops i (fun _ => true) then 0
    else bif isAlloc o.op then 5
    else bif isStore o.op then (bif meets ops i (fun x => !isLoad x && !isStore x && !isAlloc x) then 4 else 3)
    else bif meets ops i isStore then (bif isLoad o.op then 2 else 4)
    else 1

inductive Ex where
  | normal
  | exit (id : Nat)
  | ret

def isTup : AV → Bool
  | .tuple _ => true
  | _ => false

def resO (P : Program) (f : Fr) (s : St) : List ResultVar → Option (List AV)
  | [] => some []
  | .tmp t :: r => match f.tm.get t with
    | some v => match isTup v, resO P f s r with
      | false, some l => some (v :: l)
      | _, _ => none
    | none => none
  | .cell a t :: r => match f.tm.get a with
    | some (.ptr a) => match loadT P s t a, resO P f s r with
      | some v, some l => some (v :: l)
      | _, _ => none
    | _ => none

def oneOf : List AV → AV
  | [v] => v
  | l => .tuple l

def argsT : List AV → Nat → T AV → T AV
  | [], _, t => t
  | v :: r, i, t => argsT r (i + 1) (T.set v t i)

structure Rec where
  code : Code → Fr → St → Option (Ex × Fr × St)
  call : FuncId → List AV → St → Option (AV × St)

def envOf (P : Program) (same : FuncId → Bool) (known : FuncId → List AV → Option AV) (rec : Rec) : Env := { P, same, known, call := rec.call }

/-- a value without addresses -/
def plainC : AV → Bool
  | .bool _ => true
  | .int _ _ => true
  | .str _ => true
  | .nilPtr => true
  | .nilSlice => true
  | .nilFunc => true
  | .nilIface => true
  | _ => false
def allB {α : Type} (f : α → Bool) : List α → Bool
  | [] => true
  | a :: r => match f a with
    | true => allB f r
    | false => false
def plain1 : AV → Bool
  | .agg cs => allB plainC cs
  | v => plainC v
def plainV : AV → Bool
  | .tuple vs => allB plain1 vs
  | v => plain1 v

/-- behind a call that hands back no address and wrote nothing that was there, memory is as it was -/
def tidy (s s' : St) (v : AV) : St :=
  match plainV v && Nat.ble s.nx s'.low with
  | true => s
  | false => { s' with low := Nat.min s.low s'.low }

def leaveO (P : Program) (fn : Func) (s : St) (f' : Fr) (s' : St) : Option (AV × St) :=
  match resO P f' s' fn.results.toList with
  | some l => some (oneOf l, tidy s s' (oneOf l))
  | none => none

def stepC (E : Env) (kind : Array Oper → Nat → Nat) (rec : Code → Fr → St → Option (Ex × Fr × St)) (c : Code) (f : Fr) (s : St) : Option (Ex × Fr × St) :=
  match c with
  | .skip => some (.normal, f, s)
  | .region _ ops false => match opsO E ops ops.toList f s with
    | some (f, s) => some (.normal, f, s)
    | none => none
  | .region _ ops true => match okRegion ops with
    | true => match drawO E ops (kind ops) 0 ops.toList [] [] f s with
      | some (f, s) => some (.normal, f, s)
      | none => none
    | false => none
  | .seq a b => match rec a f s with
    | some (.normal, f, s) => rec b f s
    | x => x
  | .cond c a b => match ev f s.gl c with
    | some (.bool true) => rec a f s
    | some (.bool false) => rec b f s
    | _ => none
  | .block id b => match rec b f s with
    | some (.exit i, f, s) => match Nat.beq i id with
      | true => some (.normal, f, s)
      | false => some (.exit i, f, s)
    | x => x
  | .loop b => match rec b f s with
    | some (.normal, f, s) => rec (.loop b) f s
    | x => x
  | .exit id => some (.exit id, f, s)
  | .ret => some (.ret, f, s)
  | _ => none

def stepF (P : Program) (rec : Code → Fr → St → Option (Ex × Fr × St)) (g : FuncId) (args : List AV) (s : St) : Option (AV × St) :=
  match P.funcs[g]? with
  | none => none
  | some fn => match fn.body with
    | none => none
    | some c => match Nat.ble args.length fn.ntmps with
      | false => none
      | true => match rec c { tm := argsT args 0 .nil, nt := fn.ntmps } { s with low := s.nx } with
        | some (.normal, f', s') => leaveO P fn s f' s'
        | some (.ret, f', s') => leaveO P fn s f' s'
        | _ => none

def run (P : Program) (same : FuncId → Bool) (known : FuncId → List AV → Option AV) (kind : Array Oper → Nat → Nat) : Nat → Rec
  | 0 => { code := fun _ _ _ => none, call := fun _ _ _ => none }
  | n + 1 => { code := stepC (envOf P same known (run P same known kind n)) kind (run P same known kind n).code, call := stepF P (run P same known kind n).code }

end
end Go.AM
