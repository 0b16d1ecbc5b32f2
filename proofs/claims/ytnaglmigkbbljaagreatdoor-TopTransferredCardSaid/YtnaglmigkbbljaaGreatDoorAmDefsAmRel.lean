/-
  An abstract machine for Go code in one goroutine: memory as numbered rows, one answer for each call.
  It runs the model's own code; it fails where the answer could hang on an order or on a capacity.
-/
import GoSem.Dispatch
import GoSem.Machine.Return
import Derived.Orders
import Derived.Calls
import Derived.Below
set_option maxHeartbeats 6400000
set_option maxRecDepth 1000000
namespace Go.AM
open Go
noncomputable section
inductive T (α : Type) where
 | nil
 | node (l : T α) (v : Option α) (r : T α)
def T.get {α : Type} (t : T α) : Nat → Option α :=
 T.rec (motive := fun _ => Nat → Option α) (fun _ => none)
  (fun _ v _ gl gr n => Bool.rec (Bool.rec (gr (Nat.pred (Nat.div n 2))) (gl (Nat.div n 2)) (Nat.beq (Nat.mod n 2) 1)) v (Nat.beq n 0)) t
def T.one {α : Type} (x : α) (f : Nat) : Nat → T α :=
 Nat.rec (motive := fun _ => Nat → T α) (fun _ => .nil)
  (fun _ ih n => Bool.rec (Bool.rec (.node .nil none (ih (Nat.pred (Nat.div n 2)))) (.node (ih (Nat.div n 2)) none .nil) (Nat.beq (Nat.mod n 2) 1)) (.node .nil (some x) .nil) (Nat.beq n 0)) f
def T.set {α : Type} (x : α) (t : T α) : Nat → T α :=
 T.rec (motive := fun _ => Nat → T α) (fun n => T.one x (Nat.succ n) n)
  (fun l v r gl gr n => Bool.rec (Bool.rec (.node l v (gr (Nat.pred (Nat.div n 2)))) (.node (gl (Nat.div n 2)) v r) (Nat.beq (Nat.mod n 2) 1)) (.node l (some x) r) (Nat.beq n 0)) t
structure AA where
 b : Nat
 g : Nat
 off : Nat
inductive AV where
 | bool (b : Bool)
 | int (k : IntKind) (n : Int)
 | str (s : List UInt8)
 | nilPtr
 | ptr (a : AA)
 | nilSlice
 | empty
 | slice (a : AA) (len esz : Nat)
 | nilFunc
 | func (f : FuncId) (cap : List AA)
 | nilIface
 | iface (t : TypeId) (v : AV)
 | agg (cs : List AV)
 | tuple (vs : List AV)
def und : AV := .tuple []
structure Row where
 cells : List AV
 len : Nat
 elem : TypeId
 gen : Nat
 minGen : Nat
 lens : List Nat
 fz : Nat
 own : Bool
 odd : Bool
structure St where
 hp : T Row
 nx : Nat
 low : Nat
 gl : Nat
/-! constants -/
def cOf : Value → Option AV
 | .bool b => some (.bool b)
 | .int k n => some (.int k n)
 | .string s => some (.str s.data.toList)
 | .pointer none => some .nilPtr
 | .slice none 0 0 => some .nilSlice
 | .nilFunc => some .nilFunc
 | .nilIface => some .nilIface
 | _ => none
def mapO {α β : Type} (f : α → Option β) : List α → Option (List β)
 | [] => some []
 | a :: r => match f a with
  | none => none
  | some b => match mapO f r with
   | none => none
   | some bs => some (b :: bs)
def vOf : Value → Option AV
 | .agg cs => match mapO cOf cs.toList with
  | some l => some (.agg l)
  | none => none
 | v => cOf v
def cellsOf : AV → Option (List AV)
 | .agg cs => some cs
 | .tuple _ => none
 | v => some [v]
def zeroOf (P : Program) (t : TypeId) : Option AV :=
 match P.info? t with
 | none => none
 | some i => match i.zero with
  | none => none
  | some v => vOf v
def sizeT (P : Program) (t : TypeId) : Option Nat := (P.info? t).map (·.size)
def aggT (P : Program) (t : TypeId) : Option Bool :=
 match P.underlying t with
 | none => none
 | some (.struct _) => some true
 | some (.array _ _) => some true
 | some _ => some false
/-! memory -/
def hset (s : St) (b : Nat) (r : Row) : St := { s with hp := T.set r s.hp b }
def newRow (s : St) (elem : TypeId) (cells : List AV) (odd : Bool := false) : AA × St :=
 (⟨s.nx, 0, 0⟩, { s with hp := T.set { cells, len := cells.length, elem, gen := 0, minGen := 0, lens := [], fz := 0, own := true, odd } s.hp s.nx, nx := s.nx + 1 })
def extent (r : Row) (g : Nat) : Option Nat :=
 match Nat.ble r.minGen g, Nat.ble g r.gen with
 | true, true => match Nat.beq g r.gen with
  | true => some r.len
  | false => r.lens[r.gen - g - 1]?
 | _, _ => none
def readCells (s : St) (a : AA) (n : Nat) : Option (List AV) :=
 match s.hp.get a.b with
 | none => none
 | some r => match extent r a.g with
  | none => none
  | some m => match Nat.ble (a.off + n) m with
   | true => some ((r.cells.drop a.off).take n)
   | false => none
def loadT (P : Program) (s : St) (t : TypeId) (a : AA) : Option AV :=
 match aggT P t, sizeT P t with
 | some true, some n => match readCells s a n with
  | some l => some (.agg l)
  | none => none
 | some false, _ => match readCells s a 1 with
  | some [v] => some v
  | _ => none
 | _, _ => none
def splice (l : List AV) (off : Nat) (xs : List AV) : List AV := l.take off ++ (xs ++ l.drop (off + xs.length))
def writeCells (s : St) (a : AA) (xs : List AV) : Option St :=
 match xs with
 | [] => some s
 | _ => match s.hp.get a.b with
  | none => none
  | some r => match r.own && (Nat.beq a.g r.gen && (Nat.ble r.fz a.off && Nat.ble (a.off + xs.length) r.len)) with
   | true => some { hset s a.b { r with cells := splice r.cells a.off xs, minGen := r.gen } with low := Nat.min s.low a.b }
   | false => none
def storeT (P : Program) (s : St) (t : TypeId) (a : AA) (v : AV) : Option St :=
 match cellsOf v, sizeT P t with
 | some l, some n => match Nat.beq l.length n with
  | true => writeCells s a l
  | false => none
 | _, _ => none
/-! values -/
def partOf (P : Program) (t : TypeId) (cs : List AV) (off : Nat) : Option AV :=
 match aggT P t, sizeT P t with
 | some true, some n => match Nat.ble (off + n) cs.length with
  | true => some (.agg ((cs.drop off).take n))
  | false => none
 | some false, _ => cs[off]?
 | _, _ => none
def fillO (place : Nat → Option (Nat × Nat)) : List AV → List (Nat × AV) → Option (List AV)
 | cells, [] => some cells
 | cells, (i, v) :: rest => match place i, cellsOf v with
  | some (off, size), some vs => match Nat.beq vs.length size && Nat.ble (off + vs.length) cells.length with
   | true => fillO place (splice cells off vs) rest
   | false => none
  | _, _ => none
def buildO (P : Program) (t : TypeId) (parts : List (Nat × AV)) : Option AV :=
 match zeroOf P t with
 | some (.agg zero) => match P.underlying t with
  | some (.struct fields) => match mapO (fun f => (sizeT P f.type).map fun n => (f.offset, n)) fields.toList with
   | some places => match fillO (fun i => places[i]?) zero parts with
    | some cs => some (.agg cs)
    | none => none
   | none => none
  | some (.array _ elem) => match sizeT P elem with
   | some size => match fillO (fun i => some (i * size, size)) zero parts with
    | some cs => some (.agg cs)
    | none => none
   | none => none
  | _ => none
 | _ => none
def reps (zero : List AV) : Nat → List AV
 | 0 => []
 | n + 1 => zero ++ reps zero n
def zerosOf (P : Program) (elem : TypeId) (size n : Nat) : Option (List AV) :=
 match zeroOf P elem with
 | none => none
 | some z => match cellsOf z with
  | some zs => match Nat.beq zs.length size with
   | true => some (reps zs n)
   | false => none
  | none => none
def intBin (op : BinOp) (k : IntKind) (a b : Int) : Option AV :=
 match op with
 | .add => some (.int k (k.wrap (a + b)))
 | .sub => some (.int k (k.wrap (a - b)))
 | .mul => some (.int k (k.wrap (a * b)))
 | .quo => match decide (b = 0) with
  | true => none
  | false => some (.int k (k.wrap (a.tdiv b)))
 | .rem => match decide (b = 0) with
  | true => none
  | false => some (.int k (a.tmod b))
 | .and => some (.int k (k.wrap (BitVec.ofInt k.bits a &&& BitVec.ofInt k.bits b).toNat))
 | .or => some (.int k (k.wrap (BitVec.ofInt k.bits a ||| BitVec.ofInt k.bits b).toNat))
 | .xor => some (.int k (k.wrap (BitVec.ofInt k.bits a ^^^ BitVec.ofInt k.bits b).toNat))
 | .andNot => some (.int k (k.wrap (BitVec.ofInt k.bits a &&& ~~~ BitVec.ofInt k.bits b).toNat))
 | .eql => some (.bool (a == b))
 | .neq => some (.bool (a != b))
 | .lss => some (.bool (decide (a < b)))
 | .leq => some (.bool (decide (a ≤ b)))
 | .gtr => some (.bool (decide (a > b)))
 | .geq => some (.bool (decide (a ≥ b)))
 | _ => none
def strBin (op : BinOp) (a b : List UInt8) : Option AV :=
 match op with
 | .add => match decide (((a.length + b.length : Nat) : Int) > IntKind.i64.max) with
  | true => none
  | false => some (.str (a ++ b))
 | .eql => some (.bool (a == b))
 | .neq => some (.bool (!(a == b)))
 | .lss => some (.bool (Op.bytesLess a b))
 | .leq => some (.bool (Op.bytesLess a b || a == b))
 | .gtr => some (.bool (!(Op.bytesLess a b || a == b)))
 | .geq => some (.bool (!Op.bytesLess a b))
 | _ => none
def eqFields (P : Program) (eq : TypeId → AV → AV → Option Bool) (xs ys : List AV) : List Field → Option Bool
 | [] => some true
 | f :: r => match f.name == "_" with
  | true => eqFields P eq xs ys r
  | false => match partOf P f.type xs f.offset, partOf P f.type ys f.offset with
   | some x, some y => match eq f.type x y with
    | some true => eqFields P eq xs ys r
    | some false => some false
    | none => none
   | _, _ => none
def aeq (P : Program) : Nat → TypeId → AV → AV → Option Bool
 | 0, _, _, _ => none
 | d + 1, t, x, y => match P.underlying t, x, y with
  | some .bool, .bool a, .bool b => some (a == b)
  | some (.int _), .int k a, .int k' b => match decide (k = k') with
   | true => some (a == b)
   | false => none
  | some .string, .str a, .str b => some (a == b)
  | some (.pointer _), .nilPtr, .nilPtr => some true
  | some (.pointer _), .nilPtr, .ptr _ => some false
  | some (.pointer _), .ptr _, .nilPtr => some false
  | some (.pointer e), .ptr a, .ptr b => match sizeT P e with
   | some (_ + 1) => match Nat.beq a.b b.b && Nat.beq a.g b.g with
    | true => some (Nat.beq a.off b.off)
    | false => none
   | _ => none
  | some (.interface _), .nilIface, .nilIface => some true
  | some (.interface _), .nilIface, .iface _ _ => some false
  | some (.interface _), .iface _ _, .nilIface => some false
  | some (.struct fields), .agg xs, .agg ys => match P.stoodInHeld t with
   | true => none
   | false => eqFields P (aeq P d) xs ys fields.toList
  | some (.slice _), .nilSlice, .nilSlice => some true
  | some (.slice _), .nilSlice, .slice _ _ _ => some false
  | some (.slice _), .nilSlice, .empty => some false
  | some (.slice _), .slice _ _ _, .nilSlice => some false
  | some (.slice _), .empty, .nilSlice => some false
  | some (.func _ _ _), .nilFunc, .nilFunc => some true
  | some (.func _ _ _), .nilFunc, .func _ _ => some false
  | some (.func _ _ _), .func _ _, .nilFunc => some false
  | _, _, _ => none
def eqOk (P : Program) (cst : Bool) (t : TypeId) (x y : AV) : Bool :=
 match x, y with
 | .nilIface, .nilIface => cst
 | .agg _, .agg _ => !P.eqGuardType P.depth t
 | _, _ => true
def binO (P : Program) (cst : Bool) (op : BinOp) (t : TypeId) (x y : AV) : Option AV :=
 match op, x, y with
 | .shl, .int k a, .int _ b => match decide (b < 0) with
  | true => none
  | false => some (.int k (k.wrap (a * 2 ^ (min b.toNat k.bits))))
 | .shr, .int k a, .int _ b => match decide (b < 0) with
  | true => none
  | false => some (.int k (a.fdiv (2 ^ (min b.toNat k.bits))))
 | op, .int k a, .int k' b => match decide (k = k') with
  | true => intBin op k a b
  | false => none
 | op, .str a, .str b => strBin op a b
 | .eql, x, y => match eqOk P cst t x y with
  | true => match aeq P 12 t x y with
   | some b => some (.bool b)
   | none => none
  | false => none
 | .neq, x, y => match eqOk P cst t x y with
  | true => match aeq P 12 t x y with
   | some b => some (.bool !b)
   | none => none
  | false => none
 | _, _, _ => none
def isConst : Operand → Bool
 | .const _ => true
 | _ => false
def unO (op : UnOp) (x : AV) : Option AV :=
 match op, x with
 | .neg, .int k n => some (.int k (k.wrap (0 - n)))
 | .xor, .int k n => some (.int k (k.wrap (BitVec.ofInt k.bits (if k.signed then -1 else k.max) ^^^ BitVec.ofInt k.bits n).toNat))
 | .not, .bool b => some (.bool !b)
 | _, _ => none
def bytesO : List AV → Option (List UInt8)
 | [] => some []
 | .int .u8 n :: r => match decide (0 ≤ n ∧ n < 256) with
  | true => match bytesO r with
   | some l => some (UInt8.ofNat n.toNat :: l)
   | none => none
  | false => none
 | _ :: _ => none
def ofBytes (s : List UInt8) : List AV := s.map fun b => .int .u8 b.toNat
def convO (P : Program) (s : St) (src dst : TypeId) (x : AV) : Option (AV × St) :=
 match P.underlying src, P.underlying dst, x with
 | some _, some (.int k), .int _ n => some (.int k (k.wrap n), s)
 | some _, some .string, .int _ n => some (.str (Utf8.encode n).data.toList, s)
 | some _, some .string, .str l => some (.str l, s)
 | some _, some (.slice e), .str l => match P.underlying e with
  | some (.int .u8) => match newRow s e (ofBytes l) true with
   | (a, s) => some (.slice a l.length 1, s)
  | _ => none
 | some (.slice e), some .string, x => match P.underlying e with
  | some (.int .u8) => match x with
   | .nilSlice => some (.str [], s)
   | .empty => some (.str [], s)
   | .slice a n 1 => match readCells s a n with
    | some cs => match bytesO cs with
     | some l => some (.str l, s)
     | none => none
    | none => none
   | _ => none
  | _ => none
 | some (.pointer t), some .unsafePointer, .ptr a => match sizeT P t, readCells s a 1 with
  | some (_ + 1), some _ => some (.ptr a, s)
  | _, _ => none
 | some .unsafePointer, some (.pointer u), .ptr a => match s.hp.get a.b with
  | some r => match sizeT P u, Nat.beq r.elem u && (Nat.beq a.off 0 && (Nat.beq a.g 0 && Nat.beq r.gen 0)) with
   | some (n + 1), true => match Nat.beq r.len (n + 1) with
    | true => some (.ptr a, s)
    | false => none
   | _, _ => none
  | none => none
 | _, _, _ => none
def natO : AV → Option Nat
 | .int _ n => match decide (0 ≤ n) with
  | true => some n.toNat
  | false => none
 | _ => none
def bnd (x : Option AV) (dflt : Nat) : Option Nat :=
 match x with
 | none => some dflt
 | some v => natO v
def mkSlice (a : AA) (l n esz : Nat) : AV :=
 match n with
 | 0 => .empty
 | n + 1 => .slice ⟨a.b, a.g, a.off + l * esz⟩ (n + 1) esz
def sliceO (P : Program) (t : TypeId) (x : AV) (lo hi : Option AV) : Option AV :=
 match P.underlying t, x with
 | some .string, .str l => match bnd hi l.length with
  | some h => match bnd lo 0 with
   | some k => match Nat.ble k h && Nat.ble h l.length with
    | true => some (.str ((l.drop k).take (h - k)))
    | false => none
   | none => none
  | none => none
 | some (.slice e), x => match sizeT P e with
  | none => none
  | some z => match x with
   | .slice a n esz => match bnd hi n, bnd lo 0 with
    | some h, some k => match Nat.beq z esz && (Nat.ble k h && Nat.ble h n) with
     | true => some (mkSlice a k (h - k) esz)
     | false => none
    | _, _ => none
   | .nilSlice => match bnd hi 0, bnd lo 0 with
    | some 0, some 0 => some .nilSlice
    | _, _ => none
   | .empty => match bnd hi 0, bnd lo 0 with
    | some 0, some 0 => some .empty
    | _, _ => none
   | _ => none
 | _, _ => none
def addOff (a : AA) (n : Nat) : AA := ⟨a.b, a.g, a.off + n⟩
def fieldAddrO (P : Program) (t : TypeId) (x : AV) (f : Nat) : Option AV :=
 match P.underlying t, x with
 | some (.struct fs), .ptr a => match fs[f]? with
  | some fd => match sizeT P fd.type with
   | some (_ + 1) => some (.ptr (addOff a fd.offset))
   | _ => none
  | none => none
 | _, _ => none
def fieldO (P : Program) (t : TypeId) (x : AV) (f : Nat) : Option AV :=
 match P.underlying t, x with
 | some (.struct fs), .agg cs => match fs[f]? with
  | some fd => partOf P fd.type cs fd.offset
  | none => none
 | _, _ => none
def indexAddrO (P : Program) (t : TypeId) (x i : AV) : Option AV :=
 match natO i with
 | none => none
 | some i => match P.underlying t, x with
  | some (.array n e), .ptr a => match sizeT P e, Nat.blt i n with
   | some esz, true => some (.ptr (addOff a (i * esz)))
   | _, _ => none
  | some (.slice e), .slice a n esz => match sizeT P e, Nat.blt i n with
   | some z, true => match Nat.beq z esz with
    | true => some (.ptr (addOff a (i * esz)))
    | false => none
   | _, _ => none
  | _, _ => none
def indexO (P : Program) (t : TypeId) (x i : AV) : Option AV :=
 match natO i with
 | none => none
 | some i => match P.underlying t, x with
  | some (.array n e), .agg cs => match sizeT P e, Nat.blt i n with
   | some esz, true => partOf P e cs (i * esz)
   | _, _ => none
  | some .string, .str l => match l[i]? with
   | some b => some (.int .u8 b.toNat)
   | none => none
  | _, _ => none
/-! built-in functions -/
def lenO : AV → Option Nat
 | .str l => some l.length
 | .nilSlice => some 0
 | .empty => some 0
 | .slice _ n _ => some n
 | _ => none
def srcCells (s : St) (esz : Nat) : AV → Option (Nat × List AV)
 | .str l => match Nat.beq esz 1 with
  | true => some (l.length, ofBytes l)
  | false => none
 | .nilSlice => some (0, [])
 | .empty => some (0, [])
 | .slice a n e => match Nat.beq e esz with
  | true => match readCells s a (n * esz) with
   | some cs => some (n, cs)
   | none => none
  | false => none
 | _ => none
def isSliceOrStr (P : Program) (t : TypeId) : Bool :=
 match P.underlying t with
 | some (.slice _) => true
 | some .string => true
 | _ => false
def appendO (P : Program) (s : St) (t xt : TypeId) (x y : AV) : Option (AV × St) :=
 match P.underlying t, isSliceOrStr P xt with
 | some (.slice e), true => match P.info? e with
  | none => none
  | some i => match srcCells s i.size y with
   | none => none
   | some (0, _) => match x with
    | .nilSlice => some (x, s)
    | .empty => some (x, s)
    | .slice _ _ _ => some (x, s)
    | _ => none
   | some (m + 1, cs) => match zerosOf P e i.size 0 with
    | none => none
    | some _ => match x with
     | .nilSlice => match Nat.ble ((m + 1) * i.bytes) 1000000000 && Nat.ble (m + 1) 1000000000 with
      | true => match newRow s e cs with
       | (a, s) => some (.slice a (m + 1) i.size, s)
      | false => none
     | .slice a n esz => match s.hp.get a.b with
      | none => none
      | some r => match (r.own && (Nat.beq r.elem e && (Nat.beq esz i.size && (Nat.beq a.off 0 && (Nat.beq a.g r.gen && Nat.beq (n * esz) r.len))))) &&
        (Nat.ble ((n + (m + 1)) * i.bytes) 1000000000 && Nat.ble (n + (m + 1)) 1000000000) with
       | true => some (.slice ⟨a.b, r.gen + 1, 0⟩ (n + (m + 1)) esz,
         { hset s a.b { r with cells := r.cells ++ cs, len := r.len + cs.length, gen := r.gen + 1, lens := r.len :: r.lens } with low := Nat.min s.low a.b })
       | false => none
     | _ => none
 | _, _ => none
def foldMin : AV → List AV → Option AV
 | x, [] => some x
 | .int k a, .int _ b :: r => foldMin (.int k (if b < a then b else a)) r
 | _, _ => none
def foldMax : AV → List AV → Option AV
 | x, [] => some x
 | .int k a, .int _ b :: r => foldMax (.int k (if b > a then b else a)) r
 | _, _ => none
def builtinO (P : Program) (s : St) (b : Builtin) (ts : Array TypeId) (args : List AV) : Option (AV × St) :=
 match b, args with
 | .len, [x] => match ts[0]? with
  | some t => match P.underlying t with
   | some (.array n _) => some (.int .i64 n, s)
   | some (.pointer arr) => match P.underlying arr with
    | some (.array n _) => some (.int .i64 n, s)
    | _ => none
   | some (.slice _) => match x with
    | .str _ => none
    | _ => match lenO x with
     | some n => some (.int .i64 n, s)
     | none => none
   | some .string => match x with
    | .str l => some (.int .i64 l.length, s)
    | _ => none
   | _ => none
  | none => none
 | .append, [x, y] => match ts[0]?, ts[1]? with
  | some t, some xt => appendO P s t xt x y
  | _, _ => none
 | .min, x :: r => match foldMin x r with
  | some v => some (v, s)
  | none => none
 | .max, x :: r => match foldMax x r with
  | some v => some (v, s)
  | none => none
 | .unsafeSliceData, [x] => match x with
  | .nilSlice => some (.nilPtr, s)
  | .slice a (_ + 1) _ => some (.ptr a, s)
  | _ => none
 | .unsafeString, [p, .int .i64 n] => match ts.toList with
  | [pt, _] => match p with
   | .nilPtr => match decide (n = 0) with
    | true => some (.str [], s)
    | false => none
   | .ptr a => match natO (.int .i64 n) with
    | some (k + 1) => match readCells s a (k + 1), s.hp.get a.b with
     | some cs, some r => match bytesO cs with
      | some l => match (!r.odd && (r.own && (Nat.beq a.off 0 && (Nat.beq a.g r.gen && Nat.ble (k + 1) 1000000000)))) with
       | true => match P.underlying pt, sizeT P r.elem with
        | some (.pointer u), some 1 => match Nat.beq u r.elem with
         | true => some (.str l, { hset s a.b { r with fz := Nat.max r.fz (k + 1) } with low := Nat.min s.low a.b })
         | false => none
        | _, _ => none
       | false => none
      | none => none
     | _, _ => none
    | _ => none
   | _ => none
  | _ => none
 | _, _ => none
/-! operations -/
structure Fr where
 tm : T AV
 nt : Nat
def ev (f : Fr) (gl : Nat) : Operand → Option AV
 | .tmp t => match f.tm.get t with
  | some v => some v
  | none => some und
 | .const v => vOf v
 | .global g => match Nat.blt g gl with
  | true => some (.ptr ⟨g, 0, 0⟩)
  | false => none
 | .func f => some (.func f [])
def evs (ρ : Operand → Option AV) : List Operand → Option (List AV)
 | [] => some []
 | x :: r => match ρ x with
  | none => none
  | some v => match evs ρ r with
   | none => none
   | some vs => some (v :: vs)
def evO (ρ : Operand → Option AV) : Option Operand → Option (Option AV)
 | none => some none
 | some x => match ρ x with
  | none => none
  | some v => some (some v)
def evParts (ρ : Operand → Option AV) : List (Nat × Operand) → Option (List (Nat × AV))
 | [] => some []
 | (i, x) :: r => match ρ x with
  | none => none
  | some v => match evParts ρ r with
   | none => none
   | some vs => some ((i, v) :: vs)
def put (f : Fr) (dst : Option Tmp) (v : AV) : Option Fr :=
 match dst with
 | none => some f
 | some d => match Nat.blt d f.nt with
  | true => some { f with tm := T.set v f.tm d }
  | false => none
def addrs : List AV → Option (List AA)
 | [] => some []
 | .ptr a :: r => match addrs r with
  | some l => some (a :: l)
  | none => none
 | _ :: _ => none
def scalar : AV → Bool
 | .bool _ => true
 | .int _ _ => true
 | .str _ => true
 | .ptr _ => true
 | .nilPtr => true
 | _ => false
structure Env where
 P : Program
 /-- functions without a body that hand their one argument back -/
 same : FuncId → Bool
 /-- calls whose answer is known -/
 known : FuncId → List AV → Option AV
 call : FuncId → List AV → St → Option (AV × St)
def pairO (s : St) : Option AV → Option (AV × St)
 | some v => some (v, s)
 | none => none
def callO (E : Env) (s : St) (f : AV) (args : List AV) : Option (AV × St) :=
 match f with
 | .func f cap => match E.same f, args, cap with
  | true, [x], [] => some (x, s)
  | true, _, _ => none
  | false, _, _ => match E.known f (args ++ cap.map .ptr) with
   | some v => some (v, s)
   | none => E.call f (args ++ cap.map .ptr) s
 | _ => none
def opO (E : Env) (ρ : Operand → Option AV) (s : St) (o : Op) : Option (AV × St) :=
 match o with
 | .move x => pairO s (ρ x)
 | .assign x => pairO s (ρ x)
 | .pick c a b => match ρ c with
  | some (.bool true) => pairO s (ρ a)
  | some (.bool false) => pairO s (ρ b)
  | _ => none
 | .alloc e => match zeroOf E.P e with
  | some z => match cellsOf z with
   | some cs => match newRow s e cs with
    | (a, s) => some (.ptr a, s)
   | none => none
  | none => none
 | .box e x => match ρ x with
  | some v => match cellsOf v with
   | some cs => match newRow s e cs with
    | (a, s) => some (.ptr a, s)
   | none => none
  | none => none
 | .build t ps => match evParts ρ ps.toList with
  | some l => pairO s (buildO E.P t l)
  | none => none
 | .buildSlice t n ps => match evParts ρ ps.toList, E.P.underlying t with
  | some l, some (.slice e) => match sizeT E.P e with
   | some size => match Nat.ble (n * size) 16777216, zerosOf E.P e size n with
    | true, some zs => match fillO (fun i => some (i * size, size)) zs l with
     | some cs => match newRow s e cs with
      | (a, s) => some (.slice a n size, s)
     | none => none
    | _, _ => none
   | none => none
  | _, _ => none
 | .load t x => match ρ x with
  | some (.ptr a) => pairO s (loadT E.P s t a)
  | _ => none
 | .store t x v => match ρ x, ρ v with
  | some (.ptr a), some v => match storeT E.P s t a v with
   | some s => some (und, s)
   | none => none
  | _, _ => none
 | .nilCheck x => match ρ x with
  | some (.ptr a) => some (.ptr a, s)
  | some (.func f c) => some (.func f c, s)
  | _ => none
 | .binOp op t x y _ => match ρ x, ρ y with
  | some a, some b => pairO s (binO E.P (isConst x || isConst y) op t a b)
  | _, _ => none
 | .unOp op _ x => match ρ x with
  | some a => pairO s (unO op a)
  | none => none
 | .convert src dst x => match ρ x with
  | some a => convO E.P s src dst a
  | none => none
 | .makeInterface t x => match ρ x, E.P.underlying t with
  | some v, some d => match d, scalar v with
   | .interface _, _ => none
   | _, true => some (.iface t v, s)
   | _, false => none
  | _, _ => none
 | .makeFunc (.func f) first cap => match first.size, evs ρ cap.toList with
  | 0, some vs => match addrs vs with
   | some l => some (.func f l, s)
   | none => none
  | _, _ => none
 | .makeSlice t l c => match ρ l, ρ c, E.P.underlying t with
  | some l, some c, some (.slice e) => match natO l, natO c, E.P.info? e with
   | some l, some c, some i => match Nat.ble l c && (Nat.ble (c * i.bytes) 1000000000 && Nat.ble c 1000000000), zerosOf E.P e i.size c with
    | true, some zs => match Nat.beq l c with
     | true => match newRow s e zs with
      | (a, s) => some (.slice a l i.size, s)
     | false => match l with
      | 0 => match newRow s e [] with
       | (a, s) => some (.slice a 0 i.size, s)
      | _ => none
    | _, _ => none
   | _, _, _ => none
  | _, _, _ => none
 | .slice t x lo hi none => match ρ x, evO ρ lo, evO ρ hi with
  | some v, some l, some h => pairO s (sliceO E.P t v l h)
  | _, _, _ => none
 | .fieldAddr t x f => match ρ x with
  | some v => pairO s (fieldAddrO E.P t v f)
  | none => none
 | .field t x f => match ρ x with
  | some v => pairO s (fieldO E.P t v f)
  | none => none
 | .indexAddr t x i => match ρ x, ρ i with
  | some v, some i => pairO s (indexAddrO E.P t v i)
  | _, _ => none
 | .index t x i => match ρ x, ρ i with
  | some v, some i => pairO s (indexO E.P t v i)
  | _, _ => none
 | .extract t i => match ρ t with
  | some (.tuple vs) => pairO s vs[i]?
  | _ => none
 | .call c => match evs ρ c.args.toList with
  | none => none
  | some args => match c.callee with
   | .value f => match ρ f with
    | some f => callO E s f args
    | none => none
   | .builtin b => builtinO E.P s b c.argTypes args
   | .invoke _ _ => none
 | _ => none
def yieldO (f : Fr) (ops : Array Oper) (j : Nat) : Option Bool :=
 match (ops[j]?).bind (·.dst) with
 | none => none
 | some t => match f.tm.get t with
  | some (.bool b) => some b
  | _ => none
def wantO (f : Fr) (ops : Array Oper) (o : Oper) : Bool :=
 match o.guard with
 | none => true
 | some (j, want) => match yieldO f ops j with
  | some b => b == want
  | none => false
def oneO (E : Env) (ops : Array Oper) (o : Oper) (f : Fr) (s : St) : Option (Fr × St) :=
 match wantO f ops o with
 | true => match opO E (ev f s.gl) s o.op with
  | some (v, s) => match put f o.dst v with
   | some f => some (f, s)
   | none => none
  | none => none
 | false => match put f o.dst und with
  | some f => some (f, s)
  | none => none
def opsO (E : Env) (ops : Array Oper) : List Oper → Fr → St → Option (Fr × St)
 | [], f, s => some (f, s)
 | o :: r, f, s => match oneO E ops o f s with
  | some (f, s) => opsO E ops r f s
  | none => none
def rowAt (ρ : Operand → Option AV) : Op → Option Nat
 | .load _ x => match ρ x with
  | some (.ptr a) => some a.b
  | _ => none
 | .store _ x _ => match ρ x with
  | some (.ptr a) => some a.b
  | _ => none
 | _ => none
def memb (n : Nat) : List Nat → Bool
 | [] => false
 | m :: r => match Nat.beq n m with
  | true => true
  | false => memb n r
def softO (E : Env) (ops : Array Oper) (o : Oper) (f : Fr) (s : St) (bad : List Nat) : Option (Option Nat × Fr × St) :=
 match wantO f ops o with
 | true => match rowAt (ev f s.gl) o.op with
  | some c => match memb c bad with
   | true => none
   | false => match oneO E ops o f s with
    | some (f, s) => some (some c, f, s)
    | none => none
  | none => none
 | false => match put f o.dst und with
  | some f => some (none, f, s)
  | none => none
def consO : Option Nat → List Nat → List Nat
 | some n, l => n :: l
 | none, l => l
def drawO (E : Env) (ops : Array Oper) (kind : Nat → Nat) : Nat → List Oper → List Nat → List Nat → Fr → St → Option (Fr × St)
 | _, [], _, _, f, s => some (f, s)
 | i, o :: r, rd, wr, f, s => match kind i with
  | 0 => match oneO E ops o f s with
   | some (f, s) => drawO E ops kind (i + 1) r rd wr f s
   | none => none
  | 1 => match oneO E ops o f { s with low := s.nx } with
   | some (f, s') => match Nat.ble s.nx s'.low with
    | true => drawO E ops kind (i + 1) r rd wr f { s' with low := s.low }
    | false => none
   | none => none
  | 2 => match softO E ops o f s wr with
   | some (c, f, s) => drawO E ops kind (i + 1) r (consO c rd) wr f s
   | none => none
  | 3 => match softO E ops o f s (rd ++ wr) with
   | some (c, f, s) => drawO E ops kind (i + 1) r rd (consO c wr) f s
   | none => none
  | 5 => match oneO E ops o f s with
   | some (f, s) => drawO E ops kind (i + 1) r rd wr f s
   | none => none
  | _ => none
def isPure : Op → Bool
 | .move _ => true
 | .assign _ => true
 | .pick _ _ _ => true
 | .build _ _ => true
 | .nilCheck _ => true
 | .binOp _ _ _ _ _ => true
 | .unOp _ _ _ => true
 | .makeInterface _ _ => true
 | .makeFunc _ _ _ => true
 | .slice _ _ _ _ _ => true
 | .fieldAddr _ _ _ => true
 | .field _ _ _ => true
 | .indexAddr _ _ _ => true
 | .index _ _ _ => true
 | .extract _ _ => true
 | .call { callee := .builtin .len, .. } => true
 | .call { callee := .builtin .min, .. } => true
 | .call { callee := .builtin .max, .. } => true
 | _ => false
def ordered (ops : Array Oper) (i j : Nat) : Bool := ((Region.before ops).getD (max i j) 0).testBit (min i j)
def isLoad : Op → Bool
 | .load _ _ => true
 | _ => false
def isStore : Op → Bool
 | .store _ _ _ => true
 | _ => false
def isAlloc : Op → Bool
 | .alloc _ => true
 | .box _ _ => true
 | .buildSlice _ _ _ => true
 | .makeSlice _ _ _ => true
 | _ => false
def okRegion (ops : Array Oper) : Bool :=
 (List.range ops.size).all fun j => match ops[j]? with
  | none => false
  | some oj => oj.after.all (fun e => !Region.binds .any e || Nat.blt e.on j) &&
   ((match oj.op with | .select _ _ => false | _ => true) &&
   (List.range j).all fun i => match ops[i]? with
    | none => false
    | some oi => match ordered ops i j with
     | true => oj.after.any fun e => Region.binds .any e && (Nat.beq e.on i || (Nat.blt i e.on && ordered ops i e.on))
     | false => oi.apart ops oj)
def meets (ops : Array Oper) (i : Nat) (p : Op → Bool) : Bool :=
 (List.range ops.size).any fun j => j != i && (match ops[j]? with | some o => !isPure o.op && p o.op | none => false) && !ordered ops i j
def kindOf (ops : Array Oper) (i : Nat) : Nat :=
 match ops[i]? with
 | none => 0
 | some o => bif isPure o.op || !meets ops i (fun _ => true) then 0
  else bif isAlloc o.op then 5
  else bif isStore o.op then (bif meets ops i (fun x => !isLoad x && !isStore x && !isAlloc x) then 4 else 3)
  else bif meets ops i isStore then (bif isLoad o.op then 2 else 4)
  else 1
inductive Ex where
 | normal
 | exit (id : Nat)
 | ret
def isTup : AV → Bool
 | .tuple _ => true
 | _ => false
def resO (P : Program) (f : Fr) (s : St) : List ResultVar → Option (List AV)
 | [] => some []
 | .tmp t :: r => match f.tm.get t with
  | some v => match isTup v, resO P f s r with
   | false, some l => some (v :: l)
   | _, _ => none
  | none => none
 | .cell a t :: r => match f.tm.get a with
  | some (.ptr a) => match loadT P s t a, resO P f s r with
   | some v, some l => some (v :: l)
   | _, _ => none
  | _ => none
def oneOf : List AV → AV
 | [v] => v
 | l => .tuple l
def argsT : List AV → Nat → T AV → T AV
 | [], _, t => t
 | v :: r, i, t => argsT r (i + 1) (T.set v t i)
structure Rec where
 code : Code → Fr → St → Option (Ex × Fr × St)
 call : FuncId → List AV → St → Option (AV × St)
def envOf (P : Program) (same : FuncId → Bool) (known : FuncId → List AV → Option AV) (rec : Rec) : Env := { P, same, known, call := rec.call }
def plainC : AV → Bool
 | .bool _ => true
 | .int _ _ => true
 | .str _ => true
 | .nilPtr => true
 | .nilSlice => true
 | .nilFunc => true
 | .nilIface => true
 | _ => false
def allB {α : Type} (f : α → Bool) : List α → Bool
 | [] => true
 | a :: r => match f a with
  | true => allB f r
  | false => false
def plain1 : AV → Bool
 | .agg cs => allB plainC cs
 | v => plainC v
def plainV : AV → Bool
 | .tuple vs => allB plain1 vs
 | v => plain1 v
def tidy (s s' : St) (v : AV) : St :=
 match plainV v && Nat.ble s.nx s'.low with
 | true => s
 | false => { s' with low := Nat.min s.low s'.low }
def leaveO (P : Program) (fn : Func) (s : St) (f' : Fr) (s' : St) : Option (AV × St) :=
 match resO P f' s' fn.results.toList with
 | some l => some (oneOf l, tidy s s' (oneOf l))
 | none => none
def stepC (E : Env) (kind : Array Oper → Nat → Nat) (rec : Code → Fr → St → Option (Ex × Fr × St)) (c : Code) (f : Fr) (s : St) : Option (Ex × Fr × St) :=
 match c with
 | .skip => some (.normal, f, s)
 | .region _ ops false => match opsO E ops ops.toList f s with
  | some (f, s) => some (.normal, f, s)
  | none => none
 | .region _ ops true => match okRegion ops with
  | true => match drawO E ops (kind ops) 0 ops.toList [] [] f s with
   | some (f, s) => some (.normal, f, s)
   | none => none
  | false => none
 | .seq a b => match rec a f s with
  | some (.normal, f, s) => rec b f s
  | x => x
 | .cond c a b => match ev f s.gl c with
  | some (.bool true) => rec a f s
  | some (.bool false) => rec b f s
  | _ => none
 | .block id b => match rec b f s with
  | some (.exit i, f, s) => match Nat.beq i id with
   | true => some (.normal, f, s)
   | false => some (.exit i, f, s)
  | x => x
 | .loop b => match rec b f s with
  | some (.normal, f, s) => rec (.loop b) f s
  | x => x
 | .exit id => some (.exit id, f, s)
 | .ret => some (.ret, f, s)
 | _ => none
def stepF (P : Program) (rec : Code → Fr → St → Option (Ex × Fr × St)) (g : FuncId) (args : List AV) (s : St) : Option (AV × St) :=
 match P.funcs[g]? with
 | none => none
 | some fn => match fn.body with
  | none => none
  | some c => match Nat.ble args.length fn.ntmps with
   | false => none
   | true => match rec c { tm := argsT args 0 .nil, nt := fn.ntmps } { s with low := s.nx } with
    | some (.normal, f', s') => leaveO P fn s f' s'
    | some (.ret, f', s') => leaveO P fn s f' s'
    | _ => none
def run (P : Program) (same : FuncId → Bool) (known : FuncId → List AV → Option AV) (kind : Array Oper → Nat → Nat) : Nat → Rec
 | 0 => { code := fun _ _ _ => none, call := fun _ _ _ => none }
 | n + 1 => { code := stepC (envOf P same known (run P same known kind n)) kind (run P same known kind n).code, call := stepF P (run P same known kind n).code }
end
end Go.AM
/-
  How the abstract machine's memory stands to the model's: a row of the one lies in a block of the other.
-/
namespace Go.AM
open Go Go.RowKit
theorem T.get_nil {α : Type} (n : Nat) : (T.nil : T α).get n = none := rfl
theorem beq0 (n m : Nat) : Nat.beq n m = decide (n = m) := by
 by_cases h : n = m
 ·subst h; simp
 ·rw [decide_eq_false h]
  cases hb : Nat.beq n m with
  | false => rfl
  | true => exact absurd (Nat.eq_of_beq_eq_true hb) h
theorem brec {α : Type} (a b : α) (c : Bool) : Bool.rec (motive := fun _ => α) a b c = if c = true then b else a := by cases c <;> rfl
theorem T.get_node {α : Type} (l : T α) (v : Option α) (r : T α) (n : Nat) :
  (T.node l v r).get n = if n = 0 then v else if n % 2 = 1 then l.get (n / 2) else r.get (n / 2 - 1) := by
 have e : (T.node l v r).get n = Bool.rec (motive := fun _ => Option α) (Bool.rec (motive := fun _ => Option α) (r.get (Nat.pred (Nat.div n 2))) (l.get (Nat.div n 2)) (Nat.beq (Nat.mod n 2) 1)) v (Nat.beq n 0) := rfl
 rw [e, brec, brec, beq0, beq0]
 by_cases h : n = 0
 ·simp [h]
 ·have h1 : Nat.mod n 2 = n % 2 := rfl
  have h2 : Nat.pred (Nat.div n 2) = n / 2 - 1 := rfl
  have h3 : Nat.div n 2 = n / 2 := rfl
  rw [h1, h2, h3]
  by_cases h4 : n % 2 = 1 <;> simp [h, h4]
theorem T.one_succ {α : Type} (x : α) (f n : Nat) : T.one x (f + 1) n =
  if n = 0 then .node .nil (some x) .nil else if n % 2 = 1 then .node (T.one x f (n / 2)) none .nil else .node .nil none (T.one x f (n / 2 - 1)) := by
 have e : T.one x (f + 1) n = Bool.rec (motive := fun _ => T α) (Bool.rec (motive := fun _ => T α) (T.node .nil none (T.one x f (Nat.pred (Nat.div n 2)))) (.node (T.one x f (Nat.div n 2)) none .nil) (Nat.beq (Nat.mod n 2) 1)) (.node .nil (some x) .nil) (Nat.beq n 0) := rfl
 rw [e, brec, brec, beq0, beq0]
 by_cases h : n = 0
 ·simp [h]
 ·have h1 : Nat.mod n 2 = n % 2 := rfl
  have h2 : Nat.pred (Nat.div n 2) = n / 2 - 1 := rfl
  have h3 : Nat.div n 2 = n / 2 := rfl
  rw [h1, h2, h3]
  by_cases h4 : n % 2 = 1 <;> simp [h, h4]
theorem T.set_node {α : Type} (x : α) (l : T α) (v : Option α) (r : T α) (n : Nat) : T.set x (.node l v r) n =
  if n = 0 then .node l (some x) r else if n % 2 = 1 then .node (T.set x l (n / 2)) v r else .node l v (T.set x r (n / 2 - 1)) := by
 have e : T.set x (.node l v r) n = Bool.rec (motive := fun _ => T α) (Bool.rec (motive := fun _ => T α) (T.node l v (T.set x r (Nat.pred (Nat.div n 2)))) (.node (T.set x l (Nat.div n 2)) v r) (Nat.beq (Nat.mod n 2) 1)) (.node l (some x) r) (Nat.beq n 0) := rfl
 rw [e, brec, brec, beq0, beq0]
 by_cases h : n = 0
 ·simp [h]
 ·have h1 : Nat.mod n 2 = n % 2 := rfl
  have h2 : Nat.pred (Nat.div n 2) = n / 2 - 1 := rfl
  have h3 : Nat.div n 2 = n / 2 := rfl
  rw [h1, h2, h3]
  by_cases h4 : n % 2 = 1 <;> simp [h, h4]
theorem T.get_one {α : Type} (x : α) : ∀ (f n m : Nat), n < f → (T.one x f n).get m = if m = n then some x else none := by
 intro f
 induction f with
 | zero => intro n m h; omega
 | succ f ih =>
  intro n m hn
  rw [T.one_succ]
  by_cases h : n = 0
  ·subst h
   rw [if_pos rfl, T.get_node]
   by_cases hm : m = 0
   ·simp [hm]
   ·simp [hm, T.get_nil]
  ·rw [if_neg h]
   by_cases h1 : n % 2 = 1
   ·rw [if_pos h1, T.get_node]
    by_cases hm : m = 0
    ·simp [hm, show (0 : Nat) ≠ n by omega]
    ·rw [if_neg hm]
     by_cases h2 : m % 2 = 1
     ·rw [if_pos h2, ih _ _ (by omega)]
      by_cases he : m = n
      ·subst he; simp
      ·rw [if_neg he, if_neg (by omega)]
     ·rw [if_neg h2, if_neg (by omega)]; rfl
   ·rw [if_neg h1, T.get_node]
    by_cases hm : m = 0
    ·simp [hm, show (0 : Nat) ≠ n by omega]
    ·rw [if_neg hm]
     by_cases h2 : m % 2 = 1
     ·rw [if_pos h2, if_neg (by omega)]; rfl
     ·rw [if_neg h2, ih _ _ (by omega)]
      by_cases he : m = n
      ·subst he; simp
      ·rw [if_neg he, if_neg (by omega)]
theorem T.get_set {α : Type} (x : α) : ∀ (t : T α) (n m : Nat), (T.set x t n).get m = if m = n then some x else t.get m := by
 intro t
 induction t with
 | nil => intro n m; exact T.get_one x _ n m (Nat.lt_succ_self n)
 | node l v r ihl ihr =>
  intro n m
  rw [T.set_node, T.get_node]
  by_cases h : n = 0
  ·subst h
   rw [if_pos rfl, T.get_node]
   by_cases hm : m = 0 <;> simp [hm]
  ·rw [if_neg h]
   by_cases h1 : n % 2 = 1
   ·rw [if_pos h1, T.get_node]
    by_cases hm : m = 0
    ·simp [hm, show (0 : Nat) ≠ n by omega]
    ·rw [if_neg hm, if_neg hm]
     by_cases h2 : m % 2 = 1
     ·rw [if_pos h2, if_pos h2, ihl]
      by_cases he : m = n
      ·subst he; simp
      ·rw [if_neg he, if_neg (by omega)]
     ·rw [if_neg h2, if_neg h2, if_neg (by omega)]
   ·rw [if_neg h1, T.get_node]
    by_cases hm : m = 0
    ·simp [hm, show (0 : Nat) ≠ n by omega]
    ·rw [if_neg hm, if_neg hm]
     by_cases h2 : m % 2 = 1
     ·rw [if_pos h2, if_pos h2, if_neg (by omega)]
     ·rw [if_neg h2, if_neg h2, ihr]
      by_cases he : m = n
      ·subst he; simp
      ·rw [if_neg he, if_neg (by omega)]
theorem T.get_set_same {α : Type} (x : α) (t : T α) (n : Nat) : (T.set x t n).get n = some x := by rw [T.get_set, if_pos rfl]
theorem T.get_set_ne {α : Type} (x : α) (t : T α) {n m : Nat} (h : m ≠ n) : (T.set x t n).get m = t.get m := by rw [T.get_set, if_neg h]
/-! lists side by side -/
def LR {α β : Type} (R : α → β → Prop) : List α → List β → Prop
 | [], [] => True
 | a :: as, b :: bs => R a b ∧ LR R as bs
 | _, _ => False
section
variable {α β : Type} {R R' : α → β → Prop}
theorem LR.mono (h : ∀ a b, R a b → R' a b) : ∀ {as : List α} {bs : List β}, LR R as bs → LR R' as bs
 | [], [], _ => trivial
 | _ :: _, _ :: _, ⟨h1, h2⟩ => ⟨h _ _ h1, LR.mono h h2⟩
 | [], _ :: _, h => h.elim
 | _ :: _, [], h => h.elim
theorem LR.length : ∀ {as : List α} {bs : List β}, LR R as bs → as.length = bs.length
 | [], [], _ => rfl
 | _ :: _, _ :: _, ⟨_, h2⟩ => by simp [LR.length h2]
 | [], _ :: _, h => h.elim
 | _ :: _, [], h => h.elim
theorem LR.append : ∀ {as as' : List α} {bs bs' : List β}, LR R as bs → LR R as' bs' → LR R (as ++ as') (bs ++ bs')
 | [], _, [], _, _, h => h
 | _ :: _, _, _ :: _, _, ⟨h1, h2⟩, h => ⟨h1, LR.append h2 h⟩
 | [], _, _ :: _, _, h, _ => h.elim
 | _ :: _, _, [], _, h, _ => h.elim
theorem LR.take : ∀ (n : Nat) {as : List α} {bs : List β}, LR R as bs → LR R (as.take n) (bs.take n)
 | 0, _, _, _ => by simp [LR]
 | _ + 1, [], [], _ => by simp [LR]
 | n + 1, _ :: _, _ :: _, ⟨h1, h2⟩ => by simpa [LR] using ⟨h1, LR.take n h2⟩
 | _ + 1, [], _ :: _, h => h.elim
 | _ + 1, _ :: _, [], h => h.elim
theorem LR.drop : ∀ (n : Nat) {as : List α} {bs : List β}, LR R as bs → LR R (as.drop n) (bs.drop n)
 | 0, _, _, h => by simpa using h
 | _ + 1, [], [], _ => by simp [LR]
 | n + 1, _ :: _, _ :: _, ⟨_, h2⟩ => by simpa using LR.drop n h2
 | _ + 1, [], _ :: _, h => h.elim
 | _ + 1, _ :: _, [], h => h.elim
theorem LR.get : ∀ {as : List α} {bs : List β} (i : Nat) (a : α), LR R as bs → as[i]? = some a → ∃ b, bs[i]? = some b ∧ R a b
 | [], [], _, _, _, h => by simp at h
 | _ :: _, _ :: _, 0, _, ⟨h1, _⟩, h => by simp at h; subst h; exact ⟨_, by simp, h1⟩
 | _ :: _, _ :: _, i + 1, a, ⟨_, h2⟩, h => by simpa using LR.get i a h2 (by simpa using h)
 | [], _ :: _, _, _, h, _ => h.elim
 | _ :: _, [], _, _, h, _ => h.elim
theorem LR.of_get : ∀ {as : List α} {bs : List β}, as.length = bs.length → (∀ (i : Nat) (a : α) (b : β), as[i]? = some a → bs[i]? = some b → R a b) → LR R as bs
 | [], [], _, _ => trivial
 | a :: as, b :: bs, hl, h => ⟨h 0 a b (by simp) (by simp), LR.of_get (by simpa using hl) fun i x y hx hy => h (i + 1) x y (by simpa using hx) (by simpa using hy)⟩
 | [], _ :: _, h, _ => by simp at h
 | _ :: _, [], h, _ => by simp at h
theorem LR.nil_left {bs : List β} (h : LR R [] bs) : bs = [] := by cases bs <;> simp_all [LR]
theorem LR.cons_left {a : α} {as : List α} {bs : List β} (h : LR R (a :: as) bs) : ∃ b bs', bs = b :: bs' ∧ R a b ∧ LR R as bs' := by
 cases bs with
 | nil => exact h.elim
 | cons b bs' => exact ⟨b, bs', rfl, h.1, h.2⟩
end
/-! values side by side -/
abbrev Mp := Nat → Nat → Option (Nat × Nat)
def Ext (μ μ' : Mp) : Prop := ∀ b g x, μ b g = some x → μ' b g = some x
theorem Ext.refl (μ : Mp) : Ext μ μ := fun _ _ _ h => h
theorem Ext.trans {μ μ' μ'' : Mp} (h : Ext μ μ') (h' : Ext μ' μ'') : Ext μ μ'' := fun b g x hx => h' b g x (h b g x hx)
def AR (μ : Mp) (a : AA) (c : Addr) : Prop := ∃ blk n, μ a.b a.g = some (blk, n) ∧ c = ⟨blk, a.off, none⟩
def SR (μ : Mp) : AV → Value → Prop
 | .bool b, v => v = .bool b
 | .int k n, v => v = .int k n
 | .str s, v => v = .string ⟨s.toArray⟩
 | .nilPtr, v => v = .pointer none
 | .ptr a, v => ∃ c, AR μ a c ∧ v = .pointer (some c)
 | _, _ => False
def CR (μ : Mp) : AV → Value → Prop
 | .nilSlice, v => v = .slice none 0 0
 | .empty, v => ∃ a cap, v = .slice (some a) 0 cap
 | .slice a n esz, v => ∃ blk m cap, μ a.b a.g = some (blk, m) ∧ v = .slice (some ⟨blk, a.off, none⟩) n cap ∧ n ≤ cap ∧ a.off + cap * esz ≤ m
 | .nilFunc, v => v = .nilFunc
 | .func f caps, v => ∃ cs, LR (AR μ) caps cs ∧ v = .func (.func f) #[] (cs.map fun c => Value.pointer (some c)).toArray
 | .nilIface, v => v = .nilIface
 | .iface t x, v => ∃ y, SR μ x y ∧ v = .iface t y
 | x, v => SR μ x v
def V1 (μ : Mp) : AV → Value → Prop
 | .agg cs, v => ∃ vs, LR (CR μ) cs vs ∧ v = .agg vs.toArray
 | x, v => CR μ x v
def VR (μ : Mp) : AV → Value → Prop
 | .tuple xs, v => ∃ vs, LR (V1 μ) xs vs ∧ v = .tuple vs.toArray
 | x, v => V1 μ x v
section
variable {μ μ' : Mp}
theorem AR.mono (h : Ext μ μ') {a : AA} {c : Addr} : AR μ a c → AR μ' a c := fun ⟨blk, n, h1, h2⟩ => ⟨blk, n, h _ _ _ h1, h2⟩
theorem SR.mono (h : Ext μ μ') {x : AV} {v : Value} (hx : SR μ x v) : SR μ' x v := by
 cases x <;> simp only [SR] at hx ⊢ <;> first | exact hx | (obtain ⟨c, h1, h2⟩ := hx; exact ⟨c, h1.mono h, h2⟩)
theorem CR.mono (h : Ext μ μ') {x : AV} {v : Value} (hx : CR μ x v) : CR μ' x v := by
 cases x <;> simp only [CR] at hx ⊢
 case slice a n esz => obtain ⟨blk, m, cap, h1, h2⟩ := hx; exact ⟨blk, m, cap, h _ _ _ h1, h2⟩
 case func f caps => obtain ⟨cs, h1, h2⟩ := hx; exact ⟨cs, h1.mono fun _ _ => AR.mono h, h2⟩
 case iface t x => obtain ⟨y, h1, h2⟩ := hx; exact ⟨y, h1.mono h, h2⟩
 all_goals first | exact hx | exact SR.mono h hx
theorem V1.mono (h : Ext μ μ') {x : AV} {v : Value} (hx : V1 μ x v) : V1 μ' x v := by
 cases x <;> simp only [V1] at hx ⊢
 case agg cs => obtain ⟨vs, h1, h2⟩ := hx; exact ⟨vs, h1.mono fun _ _ => CR.mono h, h2⟩
 all_goals exact CR.mono h hx
theorem VR.mono (h : Ext μ μ') {x : AV} {v : Value} (hx : VR μ x v) : VR μ' x v := by
 cases x <;> simp only [VR] at hx ⊢
 case tuple xs => obtain ⟨vs, h1, h2⟩ := hx; exact ⟨vs, h1.mono fun _ _ => V1.mono h, h2⟩
 all_goals exact V1.mono h hx
theorem VR.und : VR μ und undef := ⟨[], trivial, rfl⟩
end
/-! values that name rows below a bound alone -/
def okS (N : Nat) : AV → Prop
 | .ptr a => a.b < N
 | _ => True
def okC (N : Nat) : AV → Prop
 | .slice a _ _ => a.b < N
 | .func _ caps => ∀ c ∈ caps, c.b < N
 | .iface _ x => okS N x
 | x => okS N x
theorem okS.mono {N M : Nat} (h : N ≤ M) {x : AV} (hx : okS N x) : okS M x := by
 cases x <;> first | exact trivial | exact Nat.lt_of_lt_of_le hx h
theorem okC.mono {N M : Nat} (h : N ≤ M) {x : AV} (hx : okC N x) : okC M x := by
 cases x
 case slice a n e => exact Nat.lt_of_lt_of_le hx h
 case func f caps => exact fun c hc => Nat.lt_of_lt_of_le (hx c hc) h
 case iface t y => exact okS.mono h (x := y) hx
 case ptr a => exact Nat.lt_of_lt_of_le hx h
 all_goals trivial
theorem SR.ok {μ : Mp} {N : Nat} (hd : ∀ b g x, μ b g = some x → b < N) {x : AV} {v : Value} (h : SR μ x v) : okS N x := by
 cases x
 case ptr a => obtain ⟨c, ⟨_, _, h, _⟩, _⟩ := h; exact hd _ _ _ h
 all_goals trivial
theorem CR.ok {μ : Mp} {N : Nat} (hd : ∀ b g x, μ b g = some x → b < N) {x : AV} {v : Value} (h : CR μ x v) : okC N x := by
 cases x
 case slice a n e => obtain ⟨_, _, _, h, _⟩ := h; exact hd _ _ _ h
 case func f caps =>
  obtain ⟨cs, h, hz⟩ := h
  clear hz
  intro c hc
  induction caps generalizing cs with
  | nil => cases hc
  | cons q r ih =>
   obtain ⟨c', cs', rfl, ⟨_, _, h1, _⟩, h2⟩ := h.cons_left
   rcases List.mem_cons.1 hc with rfl | hc
   ·exact hd _ _ _ h1
   ·exact ih _ h2 hc
 case iface t y => obtain ⟨u, h, _⟩ := h; exact SR.ok hd h
 case ptr a => exact SR.ok (x := .ptr a) hd h
 all_goals trivial
theorem LR.ok {μ : Mp} {N : Nat} (hd : ∀ b g x, μ b g = some x → b < N) : ∀ {xs : List AV} {vs : List Value}, LR (CR μ) xs vs → ∀ x ∈ xs, okC N x
 | [], _, _, _, h => by cases h
 | y :: ys, [], h, _, _ => h.elim
 | y :: ys, v :: vs, ⟨h1, h2⟩, x, hx => by
  rcases List.mem_cons.1 hx with rfl | hx
  ·exact CR.ok hd h1
  ·exact LR.ok hd h2 x hx
def WF (h : T Row) (N : Nat) : Prop := ∀ b r, h.get b = some r → ∀ x ∈ r.cells, okC N x
theorem WF.mono {h : T Row} {N M : Nat} (hN : N ≤ M) (hw : WF h N) : WF h M := fun b r hr x hx => okC.mono hN (hw b r hr x hx)
theorem WF.set {h : T Row} {N : Nat} (hw : WF h N) {r : Row} (hr : ∀ x ∈ r.cells, okC N x) (b : Nat) : WF (T.set r h b) N := fun b' r' hg x hx => by
 rw [T.get_set] at hg
 by_cases hb : b' = b
 ·rw [if_pos hb] at hg
  injection hg with hg
  subst hg
  exact hr x hx
 ·rw [if_neg hb] at hg
  exact hw b' r' hg x hx
/-! memory side by side -/
structure RowOk (base : Nat) (μ : Mp) (w : World) (r : Row) (g blk n : Nat) : Prop where
 len : r.len = r.cells.length
 gens : r.minGen ≤ r.gen
 at_ : ∃ cs fz, w.heap[blk]? = some (.cells cs r.elem fz) ∧ cs.size = n ∧
  (∀ m, extent r g = some m → m ≤ n ∧ m ≤ r.len ∧ LR (CR μ) (r.cells.take m) (cs.toList.take m)) ∧
  (g = r.gen → r.own = true → (∀ i, r.fz ≤ i → i < n → ¬ (fz.1 ≤ i ∧ i < fz.2)) ∧ (r.odd = false → fz.2 ≤ r.fz))
 fzl : r.fz ≤ r.len
 own : if r.own = true then base ≤ blk else blk < base
 gen : g ≤ r.gen
structure Rel (base : Nat) (μ : Mp) (h : T Row) (w : World) : Prop where
 row : ∀ b g blk n, μ b g = some (blk, n) → ∃ r, h.get b = some r ∧ RowOk base μ w r g blk n
 sep : ∀ b g blk n b' g' n' r, μ b g = some (blk, n) → μ b' g' = some (blk, n') → h.get b = some r → r.own = true → b = b'
structure Inv (base : Nat) (μ : Mp) (s : St) (w : World) : Prop where
 rel : Rel base μ s.hp w
 dom : ∀ b g x, μ b g = some x → b < s.nx
 low : s.low ≤ s.nx
 size : base ≤ w.heap.size
 glob : ∀ g, g < s.gl → ∃ n, μ g 0 = some (g, n)
 wf : WF s.hp s.nx
structure Stp (base : Nat) (μ μ' : Mp) (s s' : St) (w w' : World) : Prop where
 ext : Ext μ μ'
 rel : Rel base μ' s'.hp w'
 dom : ∀ b g x, μ' b g = some x → b < s'.nx
 new : ∀ b g blk n, μ' b g = some (blk, n) → μ b g = some (blk, n) ∨ (s.nx ≤ b ∧ w.heap.size ≤ blk) ∨
  (s'.low ≤ b ∧ b < s.nx ∧ (w.heap.size ≤ blk ∨ ∃ g0, μ b g0 = some (blk, n)))
 nx : s.nx ≤ s'.nx
 gl : s'.gl = s.gl
 low : s'.low ≤ s.low
 same : ∀ b, b < s.nx → b < s'.low → s'.hp.get b = s.hp.get b
 fr : ∀ blk, blk < w.heap.size → w'.heap[blk]? = w.heap[blk]? ∨ ∃ b g n, μ b g = some (blk, n) ∧ s'.low ≤ b ∧ base ≤ blk
 size : w.heap.size ≤ w'.heap.size
 os : w'.os = w.os
 tape : w'.tape = w.tape
 output : w'.output = w.output
 wf : WF s'.hp s'.nx
section
variable {base : Nat} {μ μ' μ'' : Mp} {s s' s'' : St} {w w' w'' : World}
theorem RowOk.mono {r : Row} {g blk n : Nat} (h : RowOk base μ w r g blk n) (he : Ext μ μ') (hw : w'.heap[blk]? = w.heap[blk]?) : RowOk base μ' w' r g blk n := by
 obtain ⟨h1, h2, ⟨cs, fz, h3, h4, h5, h6⟩, h7, h8, h9⟩ := h
 exact ⟨h1, h2, ⟨cs, fz, hw.trans h3, h4, fun m hm => ⟨(h5 m hm).1, (h5 m hm).2.1, (h5 m hm).2.2.mono fun _ _ => CR.mono he⟩, h6⟩, h7, h8, h9⟩
theorem Rel.heap {h : T Row} (hr : Rel base μ h w) (hw : w'.heap = w.heap) : Rel base μ h w' :=
 ⟨fun b g blk n hm => let ⟨r, h1, h2⟩ := hr.row b g blk n hm; ⟨r, h1, h2.mono (Ext.refl _) (by rw [hw])⟩, hr.sep⟩
theorem Inv.after (hi : Inv base μ s w) (h : Stp base μ μ' s s' w w') : Inv base μ' s' w' :=
 ⟨h.rel, h.dom, Nat.le_trans h.low (Nat.le_trans hi.low h.nx), Nat.le_trans hi.size h.size, fun g hg => by
  rw [h.gl] at hg
  obtain ⟨n, hn⟩ := hi.glob g hg
  exact ⟨n, h.ext _ _ _ hn⟩, h.wf⟩
theorem Stp.refl (hi : Inv base μ s w) : Stp base μ μ s s w w :=
 ⟨Ext.refl _, hi.rel, hi.dom, fun _ _ _ _ h => .inl h, Nat.le_refl _, rfl, Nat.le_refl _, fun _ _ _ => rfl, fun _ _ => .inl rfl, Nat.le_refl _, rfl, rfl, rfl, hi.wf⟩
theorem Stp.trans (hi : Inv base μ s w) (h : Stp base μ μ' s s' w w') (k : Stp base μ' μ'' s' s'' w' w'') : Stp base μ μ'' s s'' w w'' := by
 refine ⟨h.ext.trans k.ext, k.rel, k.dom, ?_, Nat.le_trans h.nx k.nx, k.gl.trans h.gl, Nat.le_trans k.low h.low, ?_, ?_, Nat.le_trans h.size k.size, k.os.trans h.os, k.tape.trans h.tape, k.output.trans h.output, k.wf⟩
 ·intro b g blk n hm
  have h1 := h.size
  have h2 := h.nx
  have h3 := k.low
  rcases k.new b g blk n hm with hm | ⟨hb, hk⟩ | ⟨hl, hb, hk⟩
  ·rcases h.new b g blk n hm with hm | ⟨hb, hk⟩ | ⟨hl, hb, hk⟩
   ·exact .inl hm
   ·exact .inr (.inl ⟨hb, hk⟩)
   ·exact .inr (.inr ⟨by omega, hb, hk⟩)
  ·exact .inr (.inl ⟨by omega, by omega⟩)
  ·by_cases hs : b < s.nx
   ·refine .inr (.inr ⟨hl, hs, ?_⟩)
    rcases hk with hk | ⟨g0, hk⟩
    ·exact .inl (by omega)
    ·rcases h.new b g0 blk n hk with hm | ⟨hb', _⟩ | ⟨_, _, hk⟩
     ·exact .inr ⟨g0, hm⟩
     ·omega
     ·exact hk
   ·refine .inr (.inl ⟨by omega, ?_⟩)
    rcases hk with hk | ⟨g0, hk⟩
    ·omega
    ·rcases h.new b g0 blk n hk with hm | ⟨_, hk⟩ | ⟨_, hb', _⟩
     ·have := hi.dom _ _ _ hm; omega
     ·exact hk
     ·omega
 ·intro b hb hl
  have h2 := h.nx
  have h3 := k.low
  rw [k.same b (by omega) hl, h.same b hb (by omega)]
 ·intro blk hb
  have h1 := h.size
  have h3 := k.low
  rcases h.fr blk hb with he | ⟨b, g, n, hm, hl, hbase⟩
  ·rcases k.fr blk (by omega) with he' | ⟨b, g, n, hm, hl, hbase⟩
   ·exact .inl (he'.trans he)
   ·rcases h.new b g blk n hm with hm | ⟨_, hk⟩ | ⟨_, _, hk | ⟨g0, hk⟩⟩
    ·exact .inr ⟨b, g, n, hm, hl, hbase⟩
    ·omega
    ·omega
    ·exact .inr ⟨b, g0, n, hk, hl, hbase⟩
  ·exact .inr ⟨b, g, n, hm, by omega, hbase⟩
theorem Stp.below (h : Stp base μ μ' s s' w w') (hb : base ≤ w.heap.size) : Below base w w' :=
 ⟨h.os, h.tape, h.output, h.size, fun k hk => by
  rcases h.fr k (by omega) with he | ⟨_, _, _, _, _, hbase⟩
  ·exact he
  ·omega⟩
theorem Stp.heap (h : Stp base μ μ' s s' w w') (hw : w''.heap = w'.heap) (h1 : w''.os = w'.os) (h2 : w''.tape = w'.tape) (h3 : w''.output = w'.output) : Stp base μ μ' s s' w w'' :=
 ⟨h.ext, h.rel.heap hw, h.dom, h.new, h.nx, h.gl, h.low, h.same, fun blk hb => by rw [hw]; exact h.fr blk hb, by rw [hw]; exact h.size, h1.trans h.os, h2.trans h.tape, h3.trans h.output, h.wf⟩
theorem Stp.still (hi : Inv base μ s w) (h : Stp base μ μ' s s' w w') (hl : s.nx ≤ s'.low) (blk : Nat) (hb : blk < w.heap.size) : w'.heap[blk]? = w.heap[blk]? := by
 rcases h.fr blk hb with he | ⟨b, g, n, hm, hl', _⟩
 ·exact he
 ·have := hi.dom _ _ _ hm; omega
end
/-! a new row -/
section
variable {base : Nat} {μ : Mp} {s : St} {w : World}
def Mp.put (μ : Mp) (b g : Nat) (x : Nat × Nat) : Mp := fun b' g' => if b' = b ∧ g' = g then some x else μ b' g'
theorem Mp.put_same (μ : Mp) (b g : Nat) (x : Nat × Nat) : μ.put b g x b g = some x := by simp [Mp.put]
theorem Mp.put_other (μ : Mp) {b g b' g' : Nat} (x : Nat × Nat) (h : ¬ (b' = b ∧ g' = g)) : μ.put b g x b' g' = μ b' g' := by simp [Mp.put, h]
theorem Stp.alloc (hi : Inv base μ s w) (elem : TypeId) (cells : List AV) (odd : Bool) (cs : Array Value) (fz : Nat × Nat)
  (hl : cells.length ≤ cs.size) (hr : LR (CR μ) cells (cs.toList.take cells.length)) (hz : ∀ i, i < cs.size → ¬ (fz.1 ≤ i ∧ i < fz.2)) (hodd : odd = false → fz.2 ≤ 0) :
  Stp base μ (μ.put s.nx 0 (w.heap.size, cs.size)) s (newRow s elem cells odd).2 w (w.alloc (.cells cs elem fz)) := by
 have hne : ∀ b g x, μ b g = some x → ¬ (b = s.nx ∧ g = 0) := fun b g x hm ⟨hb, _⟩ => by have := hi.dom b g x hm; omega
 have hext : Ext μ (μ.put s.nx 0 (w.heap.size, cs.size)) := fun b g x hm => by rw [Mp.put_other _ _ (hne b g x hm)]; exact hm
 have hsz : (w.alloc (.cells cs elem fz)).heap.size = w.heap.size + 1 := Array.size_push _
 have hold : ∀ blk, blk < w.heap.size → (w.alloc (.cells cs elem fz)).heap[blk]? = w.heap[blk]? := fun blk hb => Below.heap_alloc w _ blk hb
 have hnewb : (w.alloc (.cells cs elem fz)).heap[w.heap.size]? = some (.cells cs elem fz) := Array.getElem?_push_size
 have hlt : ∀ b g blk n, μ b g = some (blk, n) → blk < w.heap.size := fun b g blk n hm => by
  obtain ⟨r, _, hr⟩ := hi.rel.row b g blk n hm
  obtain ⟨cs, fz, h, _⟩ := hr.at_
  exact (Array.getElem?_eq_some_iff.1 h).1
 refine ⟨hext, ⟨?_, ?_⟩, ?_, ?_, Nat.le_succ _, rfl, Nat.le_refl _, ?_, fun blk hb => .inl (hold blk hb), by omega, rfl, rfl, rfl, (hi.wf.mono (Nat.le_succ _)).set (fun x hx => okC.mono (Nat.le_succ _) (hr.ok hi.dom x hx)) _⟩
 ·intro b g blk n hm
  by_cases hc : b = s.nx ∧ g = 0
  ·obtain ⟨rfl, rfl⟩ := hc
   rw [Mp.put_same] at hm
   injection hm with hm
   injection hm with h1 h2
   subst h1; subst h2
   refine ⟨_, T.get_set_same _ _ _, rfl, Nat.le_refl _, ⟨cs, fz, hnewb, rfl, ?_, fun _ _ => ⟨fun i _ hi => hz i hi, hodd⟩⟩, Nat.zero_le _, ?_, Nat.le_refl _⟩
   ·intro m hm
    simp [extent] at hm
    subst hm
    exact ⟨hl, Nat.le_refl _, by simpa using hr.mono fun _ _ => CR.mono hext⟩
   ·simpa using hi.size
  ·rw [Mp.put_other _ _ hc] at hm
   obtain ⟨r, h1, h2⟩ := hi.rel.row b g blk n hm
   refine ⟨r, ?_, h2.mono hext (hold _ (hlt _ _ _ _ hm))⟩
   show (T.set _ s.hp s.nx).get b = _
   rw [T.get_set_ne _ _ (by have := hi.dom _ _ _ hm; omega)]
   exact h1
 ·intro b g blk n b' g' n' r hm hm' hg ho
  by_cases hc : b = s.nx ∧ g = 0
  ·by_cases hc' : b' = s.nx ∧ g' = 0
   ·rw [hc.1, hc'.1]
   ·rw [Mp.put_other _ _ hc'] at hm'
    obtain ⟨rfl, rfl⟩ := hc
    rw [Mp.put_same] at hm
    injection hm with hm
    injection hm with h1 h2
    subst h1
    have := hlt _ _ _ _ hm'
    omega
  ·rw [Mp.put_other _ _ hc] at hm
   have hbn : b ≠ s.nx := by have := hi.dom _ _ _ hm; omega
   by_cases hc' : b' = s.nx ∧ g' = 0
   ·obtain ⟨rfl, rfl⟩ := hc'
    rw [Mp.put_same] at hm'
    injection hm' with hm'
    injection hm' with h1 h2
    subst h1
    have := hlt _ _ _ _ hm
    omega
   ·rw [Mp.put_other _ _ hc'] at hm'
    refine hi.rel.sep b g blk n b' g' n' r hm hm' ?_ ho
    have : (T.set _ s.hp s.nx).get b = some r := hg
    rw [T.get_set_ne _ _ hbn] at this
    exact this
 ·intro b g x hm
  show b < s.nx + 1
  by_cases hc : b = s.nx ∧ g = 0
  ·omega
  ·rw [Mp.put_other _ _ hc] at hm
   have := hi.dom _ _ _ hm
   omega
 ·intro b g blk n hm
  by_cases hc : b = s.nx ∧ g = 0
  ·obtain ⟨rfl, rfl⟩ := hc
   rw [Mp.put_same] at hm
   injection hm with hm
   injection hm with h1 h2
   exact .inr (.inl ⟨Nat.le_refl _, by omega⟩)
  ·rw [Mp.put_other _ _ hc] at hm
   exact .inl hm
 ·intro b hb _
  show (T.set _ s.hp s.nx).get b = _
  rw [T.get_set_ne _ _ (by omega)]
end
end Go.AM
