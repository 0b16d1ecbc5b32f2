/-
  A quicker form of the machine for the kernel: one operation.
-/
import Derived.Test.YtoigjpkdcadlnaaGreatDoorAmFast2
namespace Go.AM
open Go
noncomputable section

def evF (tm : T AV) (gl : Nat) (x : Operand) : Option AV := Operand.rec (motive := fun _ => Option AV)
  (fun t => Option.rec (motive := fun _ => Option AV) (some und) (fun v => some v) (tm.getF t))
  (fun v => Option.rec (motive := fun _ => Option AV) none (fun v => some v) (vOf v))
  (fun g => Bool.rec (motive := fun _ => Option AV) none (some (.ptr ⟨g, 0, 0⟩)) (Nat.blt g gl))
  (fun f => some (.func f [])) x
theorem evF_eq (f : Fr) (gl : Nat) (x : Operand) : evF f.tm gl x = ev f gl x := by
  cases x with
  | tmp t => unfold ev; show Option.rec (motive := fun _ => Option AV) (some und) (fun v => some v) (f.tm.getF t) = _; rw [T.getF_eq]; simp only; cases f.tm.get t <;> rfl
  | const v => show Option.rec (motive := fun _ => Option AV) none (fun v => some v) (vOf v) = vOf v; cases vOf v <;> rfl
  | global g => unfold ev; show Bool.rec (motive := fun _ => Option AV) none (some (.ptr ⟨g, 0, 0⟩)) (Nat.blt g gl) = _; simp only; cases Nat.blt g gl <;> rfl
  | func f => rfl
theorem evF_fun (f : Fr) (gl : Nat) : (fun x => evF f.tm gl x) = ev f gl := funext (evF_eq f gl)

/-! state-changing pieces -/
def allocF (s : St) (e : TypeId) (v : AV) : Option (AV × St) := match cellsOf v with
  | some cs => newG s e cs false fun a s => some (.ptr a, s)
  | none => none
theorem allocF_eq (s : St) (e : TypeId) (v : AV) : allocF s e v = match cellsOf v with
      | some cs => match newRow s e cs with
        | (a, s) => some (.ptr a, s)
      | none => none := by
  unfold allocF
  cases cellsOf v with
  | none => rfl
  | some cs => simp only; rw [newG_eq]

inductive CvI where
  | int (k : IntKind)
  | bytes (e : TypeId)
  | cold
def cvI (P : Program) (src dst : TypeId) : CvI := match P.underlying src, P.underlying dst with
  | some _, some (.int k) => .int k
  | some _, some (.slice e) => match P.underlying e with
    | some (.int .u8) => .bytes e
    | _ => .cold
  | _, _ => .cold
def convF (P : Program) (s : St) (src dst : TypeId) (x : AV) : Option (AV × St) := match x with
  | .int k n => match cvI P src dst with
    | .int k => some (.int k (wrapF k n), s)
    | _ => convO P s src dst (.int k n)
  | .str l => match cvI P src dst with
    | .bytes e => newG s e (ofBytes l) true fun a s => gNat (lenS l) fun n => some (.slice a n 1, s)
    | _ => convO P s src dst (.str l)
  | x => convO P s src dst x
theorem convF_eq (P : Program) (s : St) (src dst : TypeId) (x : AV) : convF P s src dst x = convO P s src dst x := by
  unfold convF
  split
  · rename_i k n
    split
    · rename_i k' h
      unfold cvI at h
      split at h
      · rename_i u k1 h1 h2
        cases h
        unfold convO
        rw [h1, h2, wrapF_eq]
      · split at h <;> cases h
      · cases h
    · rfl
  · rename_i l
    split
    · rename_i e h
      unfold cvI at h
      split at h
      · cases h
      · rename_i u e1 h1 h2
        split at h
        · rename_i h3
          cases h
          unfold convO
          rw [h1, h2]
          simp only
          rw [h3, newG_eq, gNat_eq, lenS_eq]
        · cases h
      · cases h
    · rfl
  · rfl

def frzF (s : St) (b : Nat) (n : Nat) (r : Row) (l : List UInt8) : Option (AV × St) :=
  Row.rec (motive := fun _ => Option (AV × St)) (fun cells len elem gen minGen lens fz own odd => gNat (Nat.max fz n) fun fz =>
    match putRow s b ⟨cells, len, elem, gen, minGen, lens, fz, own, odd⟩ with
    | some s => some (.str l, s)
    | none => none) r
theorem frzF_eq (s : St) (b : Nat) (n : Nat) (r : Row) (l : List UInt8) : frzF s b n r l = some (.str l, { hset s b { r with fz := Nat.max r.fz n } with low := Nat.min s.low b }) := by
  cases r
  show (match putRow s b _ with | some s => some (AV.str l, s) | none => none) = _
  rw [putRow_eq]

def growF (s : St) (a : AA) (n esz m : Nat) (cs : List AV) (r : Row) : Option (AV × St) :=
  Row.rec (motive := fun _ => Option (AV × St)) (fun cells len elem gen minGen lens fz own odd => gList (cells ++ cs) fun cells => gNat (len + cs.length) fun len' => gNat (Nat.succ gen) fun gen' =>
    gNat (n + m) fun nm => match putRow s a.b ⟨cells, len', elem, gen', minGen, len :: lens, fz, own, odd⟩ with
    | some s => some (.slice ⟨a.b, gen', 0⟩ nm esz, s)
    | none => none) r
theorem growF_eq (s : St) (a : AA) (n esz m : Nat) (cs : List AV) (r : Row) : growF s a n esz m cs r = some (.slice ⟨a.b, r.gen + 1, 0⟩ (n + m) esz,
    { hset s a.b { r with cells := r.cells ++ cs, len := r.len + cs.length, gen := r.gen + 1, lens := r.len :: r.lens } with low := Nat.min s.low a.b }) := by
  cases r
  show gList _ _ = _
  rw [gList_eq, gNat_eq, gNat_eq, gNat_eq, putRow_eq]

def okA (e esz size n m bytes : Nat) (a : AA) (r : Row) : Bool :=
  (r.own && (Nat.beq r.elem e && (Nat.beq esz size && (Nat.beq a.off 0 && (Nat.beq a.g r.gen && Nat.beq (n * esz) r.len))))) &&
    (Nat.ble ((n + m) * bytes) 1000000000 && Nat.ble (n + m) 1000000000)

structure ApI where
  e : Nat
  size : Nat
  bytes : Nat
  z : Bool
def apI (P : Program) (t xt : TypeId) : Option ApI := match P.underlying t, isSliceOrStr P xt with
  | some (.slice e), true => match P.info? e with
    | none => none
    | some i => gNat i.size fun size => gNat i.bytes fun bytes => gBool (zerosOf P e i.size 0).isSome fun z => gNat e fun e => some ⟨e, size, bytes, z⟩
  | _, _ => none
def append2 (s : St) (i : ApI) (x : AV) (m : Nat) (cs : List AV) : Option (AV × St) := match x with
  | .nilSlice => match Nat.ble (m * i.bytes) 1000000000 && Nat.ble m 1000000000 with
    | true => newG s i.e cs false fun a s => some (.slice a m i.size, s)
    | false => none
  | .slice a n esz => match s.hp.getF a.b with
    | none => none
    | some r => match okA i.e esz i.size n m i.bytes a r with
      | true => growF s a n esz m cs r
      | false => none
  | _ => none
def appendF (P : Program) (s : St) (t xt : TypeId) (x y : AV) : Option (AV × St) :=
  match apI P t xt with
  | none => none
  | some i => ApI.rec (motive := fun _ => Option (AV × St)) (fun e size bytes z => match srcCells s size y with
    | none => none
    | some (0, _) => match x with
      | .nilSlice => some (x, s)
      | .empty => some (x, s)
      | .slice _ _ _ => some (x, s)
      | _ => none
    | some (m + 1, cs) => match z with
      | true => gNat (Nat.succ m) fun m => append2 s ⟨e, size, bytes, z⟩ x m cs
      | false => none) i
theorem appendF_eq (P : Program) (s : St) (t xt : TypeId) (x y : AV) : appendF P s t xt x y = appendO P s t xt x y := by
  unfold appendF appendO apI
  cases P.underlying t with
  | none => rfl
  | some u =>
    cases u
    case slice e =>
      cases isSliceOrStr P xt with
      | false => rfl
      | true =>
        simp only
        cases P.info? e with
        | none => rfl
        | some j =>
          simp only [gNat_eq, gBool_eq]
          cases srcCells s j.size y with
          | none => rfl
          | some p =>
            obtain ⟨m, cs⟩ := p
            cases m with
            | zero => rfl
            | succ m =>
              simp only
              cases zerosOf P e j.size 0 with
              | none => rfl
              | some zs =>
                simp only [Option.isSome_some]
                unfold append2
                cases x
                case nilSlice =>
                  simp only
                  cases Nat.ble ((m + 1) * j.bytes) 1000000000 && Nat.ble (m + 1) 1000000000 with
                  | false => rfl
                  | true => simp only [newG_eq]
                case slice a n esz =>
                  simp only [T.getF_eq]
                  cases s.hp.get a.b with
                  | none => rfl
                  | some r =>
                    simp only
                    rw [growF_eq]
                    rfl
                all_goals rfl
    all_goals (cases isSliceOrStr P xt <;> rfl)

/-! calls -/
section
variable (P : Program) (same : FuncId → Bool) (known : FuncId → List AV → Option AV) (call : FuncId → List AV → St → Option (AV × St))

def call2 (s : St) (f : FuncId) (args : List AV) : Option (AV × St) := match known f args with
  | some v => some (v, s)
  | none => call f args s
def callF (s : St) (f : AV) (args : List AV) : Option (AV × St) := match f with
  | .func f cap => match same f with
    | true => match args, cap with
      | [x], [] => some (x, s)
      | _, _ => none
    | false => gList (args ++ cap.map .ptr) fun args => call2 known call s f args
  | _ => none
theorem callF_eq (s : St) (f : AV) (args : List AV) : callF same known call s f args = callO ⟨P, same, known, call⟩ s f args := by
  unfold callF callO
  cases f
  case func f cap =>
    simp only
    cases same f with
    | true =>
      cases args with
      | nil => rfl
      | cons x r => cases r with
        | nil => cases cap <;> rfl
        | cons y r => rfl
    | false =>
      simp only [gList_eq]
      rfl
  all_goals rfl

def builtinF (s : St) (b : Builtin) (ts : Array TypeId) (args : List AV) : Option (AV × St) := match b, args with
  | .append, [x, y] => match ts[0]?, ts[1]? with
    | some t, some xt => appendF P s t xt x y
    | _, _ => none
  | .unsafeString, [p, .int .i64 n] => match ts.toList with
    | [pt, _] => match p with
      | .nilPtr => match decide (n = 0) with
        | true => some (.str [], s)
        | false => none
      | .ptr a => match natF (.int .i64 n) with
        | some (k + 1) => match readCells s a (k + 1), s.hp.getF a.b with
          | some cs, some r => match bytesO cs with
            | some l => match (!r.odd && (r.own && (Nat.beq a.off 0 && (Nat.beq a.g r.gen && Nat.ble (k + 1) 1000000000)))) with
              | true => match P.underlying pt, sizeT P r.elem with
                | some (.pointer u), some 1 => match Nat.beq u r.elem with
                  | true => frzF s a.b (k + 1) r l
                  | false => none
                | _, _ => none
              | false => none
            | none => none
          | _, _ => none
        | _ => none
      | _ => none
    | _ => none
  | b, args => builtinO P s b ts args
theorem builtinF_eq (s : St) (b : Builtin) (ts : Array TypeId) (args : List AV) : builtinF P s b ts args = builtinO P s b ts args := by
  unfold builtinF
  split
  · unfold builtinO
    simp only [appendF_eq]
    rfl
  · unfold builtinO
    simp only [natF_eq, frzF_eq, T.getF_eq]
    rfl
  · rfl

/-! one operation -/
variable (tm : T AV) (gl : Nat) (s : St)

def pair (o : Option AV) : Option (AV × St) := Option.rec (motive := fun _ => Option (AV × St)) none (fun v => some (v, s)) o
theorem pair_eq (o : Option AV) : pair s o = pairO s o := by cases o <;> rfl

def opPick (c a b : Operand) : Option (AV × St) := match evF tm gl c with
  | some (.bool true) => pair s (evF tm gl a)
  | some (.bool false) => pair s (evF tm gl b)
  | _ => none
def opAlloc (e : TypeId) : Option (AV × St) := match zeroOf P e with
  | some z => allocF s e z
  | none => none
def opBox (e : TypeId) (x : Operand) : Option (AV × St) := match evF tm gl x with
  | some v => allocF s e v
  | none => none
def opBuild (t : TypeId) (ps : Array (Nat × Operand)) : Option (AV × St) := match evParts (fun x => evF tm gl x) ps.toList with
  | some l => pair s (buildO P t l)
  | none => none
def opBuildSlice (t : TypeId) (n : Nat) (ps : Array (Nat × Operand)) : Option (AV × St) := match evParts (fun x => evF tm gl x) ps.toList, P.underlying t with
  | some l, some (.slice e) => match sizeT P e with
    | some size => match Nat.ble (n * size) 16777216, zerosOf P e size n with
      | true, some zs => match fillO (fun i => some (i * size, size)) zs l with
        | some cs => newG s e cs false fun a s => gNat size fun size => some (.slice a n size, s)
        | none => none
      | _, _ => none
    | none => none
  | _, _ => none
def opLoad (t : TypeId) (x : Operand) : Option (AV × St) := match evF tm gl x with
  | some (.ptr a) => pair s (loadF P s t a)
  | _ => none
def opStore (t : TypeId) (x v : Operand) : Option (AV × St) := match evF tm gl x with
  | some (.ptr a) => match evF tm gl v with
    | some v => match storeF P s t a v with
      | some s => some (und, s)
      | none => none
    | none => none
  | _ => none
def opNil (x : Operand) : Option (AV × St) := match evF tm gl x with
  | some (.ptr a) => some (.ptr a, s)
  | some (.func f c) => some (.func f c, s)
  | _ => none
def opBin (op : BinOp) (t : TypeId) (x y : Operand) : Option (AV × St) := match evF tm gl x with
  | some a => match evF tm gl y with
    | some b => pair s (binF P (isConst x || isConst y) op t a b)
    | none => none
  | none => none
def opUn (op : UnOp) (x : Operand) : Option (AV × St) := match evF tm gl x with
  | some a => pair s (unO op a)
  | none => none
def opConv (src dst : TypeId) (x : Operand) : Option (AV × St) := match evF tm gl x with
  | some a => convF P s src dst a
  | none => none
def opMakeSlice (t : TypeId) (l c : Operand) : Option (AV × St) := match evF tm gl l, evF tm gl c, P.underlying t with
  | some l, some c, some (.slice e) => match natF l, natF c, P.info? e with
    | some l, some c, some i => match Nat.ble l c && (Nat.ble (c * i.bytes) 1000000000 && Nat.ble c 1000000000), zerosOf P e i.size c with
      | true, some zs => match Nat.beq l c with
        | true => newG s e zs false fun a s => gNat i.size fun z => some (.slice a l z, s)
        | false => match l with
          | 0 => newG s e [] false fun a s => gNat i.size fun z => some (.slice a 0 z, s)
          | _ => none
      | _, _ => none
    | _, _, _ => none
  | _, _, _ => none
def opSlice (t : TypeId) (x : Operand) (lo hi : Option Operand) : Option (AV × St) := match evF tm gl x, evO (fun x => evF tm gl x) lo, evO (fun x => evF tm gl x) hi with
  | some v, some l, some h => pair s (sliceO P t v l h)
  | _, _, _ => none
def faI (P : Program) (t : TypeId) (f : Nat) : Option Nat := match P.underlying t with
  | some (.struct fs) => match fs[f]? with
    | some fd => match sizeT P fd.type with
      | some (_ + 1) => gNat fd.offset some
      | _ => none
    | none => none
  | _ => none
def opFieldAddr (t : TypeId) (x : Operand) (f : Nat) : Option (AV × St) := match evF tm gl x with
  | some (.ptr a) => match faI P t f with
    | some o => some (.ptr (addOff a o), s)
    | none => none
  | _ => none
def opField (t : TypeId) (x : Operand) (f : Nat) : Option (AV × St) := match evF tm gl x with
  | some v => pair s (fieldO P t v f)
  | none => none
inductive IxI where
  | bad
  | arr (n z : Nat)
  | sli (z : Nat)
def ixI (P : Program) (t : TypeId) : IxI := match P.underlying t with
  | some (.array n e) => match sizeT P e with
    | some z => gNat n fun n => gNat z fun z => .arr n z
    | none => .bad
  | some (.slice e) => match sizeT P e with
    | some z => gNat z .sli
    | none => .bad
  | _ => .bad
def idxAddr (P : Program) (t : TypeId) (x : AV) (i : Nat) : Option AV := match ixI P t with
  | .arr n z => match x with
    | .ptr a => match Nat.blt i n with
      | true => some (.ptr (addOff a (i * z)))
      | false => none
    | _ => none
  | .sli z => match x with
    | .slice a n esz => match Nat.blt i n with
      | true => match Nat.beq z esz with
        | true => some (.ptr (addOff a (i * esz)))
        | false => none
      | false => none
    | _ => none
  | .bad => none
def opIndexAddr (t : TypeId) (x i : Operand) : Option (AV × St) := match evF tm gl i with
  | some i => match natF i with
    | some i => match evF tm gl x with
      | some v => pair s (idxAddr P t v i)
      | none => none
    | none => none
  | none => none
def opIndex (t : TypeId) (x i : Operand) : Option (AV × St) := match evF tm gl x, evF tm gl i with
  | some v, some i => pair s (indexO P t v i)
  | _, _ => none
def opExtract (t : Operand) (i : Nat) : Option (AV × St) := match evF tm gl t with
  | some (.tuple vs) => pair s (nthL i vs)
  | _ => none
def opCall (c : Call) : Option (AV × St) := match evs (fun x => evF tm gl x) c.args.toList with
  | none => none
  | some args => match c.callee with
    | .value f => match evF tm gl f with
      | some f => callF same known call s f args
      | none => none
    | .builtin b => builtinF P s b c.argTypes args
    | .invoke _ _ => none
def opCold (o : Op) : Option (AV × St) := opO ⟨P, same, known, call⟩ (fun x => evF tm gl x) s o

end
abbrev OpR := Program → (FuncId → Bool) → (FuncId → List AV → Option AV) → (FuncId → List AV → St → Option (AV × St)) → T AV → Nat → St → Option (AV × St)
def opF (P : Program) (same : FuncId → Bool) (known : FuncId → List AV → Option AV) (call : FuncId → List AV → St → Option (AV × St)) (tm : T AV) (gl : Nat) (s : St) (o : Op) : Option (AV × St) :=
  Op.rec (motive := fun _ => OpR)
  (fun x _ _ _ _ tm gl s => pair s (evF tm gl x)) (fun x _ _ _ _ tm gl s => pair s (evF tm gl x)) (fun c a b _ _ _ _ tm gl s => opPick tm gl s c a b)
  (fun e P _ _ _ _ _ s => opAlloc P s e) (fun e x _ _ _ _ tm gl s => opBox tm gl s e x) (fun t ps P _ _ _ tm gl s => opBuild P tm gl s t ps) (fun t n ps P _ _ _ tm gl s => opBuildSlice P tm gl s t n ps)
  (fun _ _ _ _ _ _ _ _ _ _ _ => none) (fun t x P _ _ _ tm gl s => opLoad P tm gl s t x) (fun t x v P _ _ _ tm gl s => opStore P tm gl s t x v) (fun _ _ _ _ _ _ _ _ => none) (fun _ _ _ _ _ _ _ _ => none)
  (fun x _ _ _ _ tm gl s => opNil tm gl s x) (fun op t x y _ P _ _ _ tm gl s => opBin P tm gl s op t x y) (fun op _ x _ _ _ _ tm gl s => opUn tm gl s op x) (fun src dst x P _ _ _ tm gl s => opConv P tm gl s src dst x)
  (fun _ _ _ _ _ _ _ _ _ => none) (fun t x P same known call tm gl s => opCold P same known call tm gl s (.makeInterface t x)) (fun f a b P same known call tm gl s => opCold P same known call tm gl s (.makeFunc f a b))
  (fun _ _ _ _ _ _ _ _ _ => none) (fun _ _ _ _ _ _ _ _ _ => none) (fun t l c P _ _ _ tm gl s => opMakeSlice P tm gl s t l c)
  (fun t x lo hi m P _ _ _ tm gl s => Option.rec (motive := fun _ => Option (AV × St)) (opSlice P tm gl s t x lo hi) (fun _ => none) m)
  (fun t x f P _ _ _ tm gl s => opFieldAddr P tm gl s t x f) (fun t x f P _ _ _ tm gl s => opField P tm gl s t x f) (fun t x i P _ _ _ tm gl s => opIndexAddr P tm gl s t x i) (fun t x i P _ _ _ tm gl s => opIndex P tm gl s t x i)
  (fun _ _ _ _ _ _ _ _ _ _ _ => none) (fun _ _ _ _ _ _ _ _ _ _ _ => none) (fun _ _ _ _ _ _ _ _ _ _ => none) (fun _ _ _ _ _ _ _ _ _ _ _ => none) (fun _ _ _ _ _ _ _ _ _ => none) (fun _ _ _ _ _ _ _ _ _ => none) (fun _ _ _ _ _ _ _ _ => none) (fun _ _ _ _ _ _ _ _ _ _ _ => none)
  (fun t i _ _ _ _ tm gl s => opExtract tm gl s t i) (fun c P same known call tm gl s => opCall P same known call tm gl s c) (fun _ _ _ _ _ _ _ _ => none) (fun _ _ _ _ _ _ _ _ => none) (fun _ _ _ _ _ _ _ _ => none) (fun _ _ _ _ _ _ _ _ _ => none) (fun _ _ _ _ _ _ _ _ _ _ => none) (fun _ _ _ _ _ _ _ _ _ => none) o P same known call tm gl s
end
end Go.AM
