/-
  A quicker form of the machine for the kernel: it is the machine.
-/
import Derived.Test.YtoigjpkdcadlnaaGreatDoorAmFast3
import Derived.Test.YtoigjpkdcadlnaaGreatDoorAmFastR
namespace Go.AM
open Go
noncomputable section
section
variable (P : Program) (same : FuncId → Bool) (known : FuncId → List AV → Option AV) (call : FuncId → List AV → St → Option (AV × St))

theorem idxAddr_eq (t : TypeId) (v : AV) (i : AV) : (match natO i with | some i => idxAddr P t v i | none => none) = indexAddrO P t v i := by
  unfold indexAddrO
  cases natO i with
  | none => rfl
  | some i =>
    simp only
    unfold idxAddr ixI
    cases P.underlying t with
    | none => rfl
    | some u =>
      cases u
      case array n e =>
        cases hz : sizeT P e with
        | none => cases v <;> simp only [hz]
        | some z =>
          cases v
          case ptr a => simp only [hz, gNat_eq]; cases Nat.blt i n <;> rfl
          all_goals simp only [hz, gNat_eq]
      case slice e =>
        cases hz : sizeT P e with
        | none => cases v <;> simp only [hz]
        | some z =>
          cases v
          case slice a n esz => simp only [hz, gNat_eq]; cases Nat.blt i n <;> rfl
          all_goals simp only [hz, gNat_eq]
      all_goals rfl

theorem faI_eq (t : TypeId) (v : AV) (f : Nat) : fieldAddrO P t v f = match v with
    | .ptr a => match faI P t f with
      | some o => some (.ptr (addOff a o))
      | none => none
    | _ => none := by
  unfold fieldAddrO faI
  cases P.underlying t with
  | none => cases v <;> rfl
  | some u =>
    cases u
    case struct fs =>
      simp only
      cases v
      case ptr a =>
        simp only
        cases fs[f]? with
        | none => rfl
        | some fd =>
          simp only
          cases sizeT P fd.type with
          | none => rfl
          | some n => cases n <;> rfl
      all_goals rfl
    all_goals (cases v <;> rfl)

theorem opF_eq (f : Fr) (gl : Nat) (s : St) (o : Op) : opF P same known call f.tm gl s o = opO ⟨P, same, known, call⟩ (ev f gl) s o := by
  have hev := evF_eq f gl
  have hfun := evF_fun f gl
  cases o
  case move x => show pair s (evF f.tm gl x) = pairO s (ev f gl x); rw [pair_eq, evF_eq]
  case assign x => show pair s (evF f.tm gl x) = pairO s (ev f gl x); rw [pair_eq, evF_eq]
  case pick c a b =>
    show opPick f.tm gl s c a b = _
    unfold opPick opO
    simp only [hev, pair_eq]
    rfl
  case alloc e =>
    show opAlloc P s e = _
    unfold opAlloc opO
    simp only [allocF_eq]
    rfl
  case box e x =>
    show opBox f.tm gl s e x = _
    unfold opBox opO
    simp only [hev, allocF_eq]
    rfl
  case build t ps =>
    show opBuild P f.tm gl s t ps = _
    unfold opBuild opO
    simp only [hfun, pair_eq]
    rfl
  case buildSlice t n ps =>
    show opBuildSlice P f.tm gl s t n ps = _
    unfold opBuildSlice opO
    simp only [hfun, newG_eq, gNat_eq]
    rfl
  case load t x =>
    show opLoad P f.tm gl s t x = _
    unfold opLoad opO
    simp only [hev, pair_eq, loadF_eq]
    rfl
  case store t x v =>
    show opStore P f.tm gl s t x v = _
    unfold opStore opO
    simp only [hev, storeF_eq]
    cases ev f gl x with
    | none => rfl
    | some a => cases a <;> (cases ev f gl v <;> rfl)
  case nilCheck x =>
    show opNil f.tm gl s x = _
    unfold opNil opO
    simp only [hev]
    rfl
  case binOp op t x y yt =>
    show opBin P f.tm gl s op t x y = _
    unfold opBin opO
    simp only [hev, pair_eq, binF_eq]
    cases ev f gl x with
    | none => rfl
    | some a => cases ev f gl y <;> rfl
  case unOp op t x =>
    show opUn f.tm gl s op x = _
    unfold opUn opO
    simp only [hev, pair_eq]
    rfl
  case convert src dst x =>
    show opConv P f.tm gl s src dst x = _
    unfold opConv opO
    simp only [hev, convF_eq]
    rfl
  case makeInterface t x => show opCold P same known call f.tm gl s _ = _; unfold opCold; rw [hfun]
  case makeFunc a b c => show opCold P same known call f.tm gl s _ = _; unfold opCold; rw [hfun]
  case makeSlice t l c =>
    show opMakeSlice P f.tm gl s t l c = _
    unfold opMakeSlice opO
    simp only [hev, natF_eq, newG_eq, gNat_eq]
    rfl
  case slice t x lo hi m =>
    cases m with
    | some m => rfl
    | none =>
      show opSlice P f.tm gl s t x lo hi = _
      unfold opSlice opO
      simp only [hev, pair_eq]
      rfl
  case fieldAddr t x n =>
    show opFieldAddr P f.tm gl s t x n = _
    unfold opFieldAddr opO
    simp only [hev, faI_eq]
    cases ev f gl x with
    | none => rfl
    | some v =>
      cases v
      case ptr a => simp only; cases faI P t n <;> rfl
      all_goals rfl
  case field t x n =>
    show opField P f.tm gl s t x n = _
    unfold opField opO
    simp only [hev, pair_eq]
    rfl
  case indexAddr t x i =>
    show opIndexAddr P f.tm gl s t x i = _
    unfold opIndexAddr opO
    simp only [hev, pair_eq, natF_eq]
    cases ev f gl x with
    | none => cases ev f gl i with
      | none => rfl
      | some j => simp only; cases natO j <;> rfl
    | some v => cases ev f gl i with
      | none => rfl
      | some j =>
        simp only [← idxAddr_eq]
        cases natO j <;> rfl
  case index t x i =>
    show opIndex P f.tm gl s t x i = _
    unfold opIndex opO
    simp only [hev, pair_eq]
    rfl
  case extract t i =>
    show opExtract f.tm gl s t i = _
    unfold opExtract opO
    simp only [hev, pair_eq, nthL_eq]
    rfl
  case call c =>
    show opCall P same known call f.tm gl s c = _
    unfold opCall opO
    simp only [hev, builtinF_eq, callF_eq P]
    rfl
  all_goals rfl

def putF (tm : T AV) (nt : Nat) (dst : Option Tmp) (v : AV) (s : St) : Option (Fr × St) :=
  Option.rec (motive := fun _ => Option (Fr × St)) (some (⟨tm, nt⟩, s)) (fun d => Bool.rec (motive := fun _ => Option (Fr × St)) none (setG v tm d fun tm => some (⟨tm, nt⟩, s)) (Nat.blt d nt)) dst
theorem putF_eq (tm : T AV) (nt : Nat) (dst : Option Tmp) (v : AV) (s : St) : putF tm nt dst v s = match put ⟨tm, nt⟩ dst v with
    | some f => some (f, s)
    | none => none := by
  cases dst with
  | none => rfl
  | some d =>
    show Bool.rec (motive := fun _ => Option (Fr × St)) none (setG v tm d fun tm => some (⟨tm, nt⟩, s)) (Nat.blt d nt) = _
    unfold put
    rw [setG_eq]
    simp only
    cases Nat.blt d nt <;> rfl

def finF (tm : T AV) (nt : Nat) (dst : Option Tmp) (o : Option (AV × St)) : Option (Fr × St) :=
  Option.rec (motive := fun _ => Option (Fr × St)) none (fun p => Prod.rec (motive := fun _ => Option (Fr × St)) (fun v s => gVS v fun v => putF tm nt dst v s) p) o
theorem finF_eq (tm : T AV) (nt : Nat) (dst : Option Tmp) (o : Option (AV × St)) : finF tm nt dst o = match o with
    | some (v, s) => match put ⟨tm, nt⟩ dst v with
      | some f => some (f, s)
      | none => none
    | none => none := by
  cases o with
  | none => rfl
  | some p =>
    obtain ⟨v, s⟩ := p
    show gVS v (fun v => putF tm nt dst v s) = _
    rw [gVS_eq, putF_eq]

def oneF (ops : Array Oper) (o : Oper) (f : Fr) (s : St) : Option (Fr × St) :=
  Fr.rec (motive := fun _ => Option (Fr × St)) (fun tm nt => Bool.rec (motive := fun _ => Option (Fr × St)) (putF tm nt o.dst und s) (finF tm nt o.dst (opF P same known call tm s.gl s o.op)) (wantO ⟨tm, nt⟩ ops o)) f
theorem oneF_eq (ops : Array Oper) (o : Oper) (f : Fr) (s : St) : oneF P same known call ops o f s = oneO ⟨P, same, known, call⟩ ops o f s := by
  cases f with
  | mk tm nt =>
    show Bool.rec (motive := fun _ => Option (Fr × St)) (putF tm nt o.dst und s) (finF tm nt o.dst (opF P same known call (Fr.mk tm nt).tm s.gl s o.op)) (wantO ⟨tm, nt⟩ ops o) = _
    unfold oneO
    rw [putF_eq, finF_eq, opF_eq]
    cases wantO ⟨tm, nt⟩ ops o <;> rfl

def opsF (ops : Array Oper) (l : List Oper) : Fr → St → Option (Fr × St) :=
  List.rec (motive := fun _ => Fr → St → Option (Fr × St)) (fun f s => some (f, s))
    (fun o _ ih f s => Option.rec (motive := fun _ => Option (Fr × St)) none (fun p => Prod.rec (motive := fun _ => Option (Fr × St)) (fun f s => ih f s) p) (oneF P same known call ops o f s)) l
theorem opsF_eq (ops : Array Oper) : ∀ (l : List Oper) (f : Fr) (s : St), opsF P same known call ops l f s = opsO ⟨P, same, known, call⟩ ops l f s
  | [], _, _ => rfl
  | o :: r, f, s => by
    show Option.rec (motive := fun _ => Option (Fr × St)) none (fun p => Prod.rec (motive := fun _ => Option (Fr × St)) (fun f s => opsF P same known call ops r f s) p) (oneF P same known call ops o f s) = _
    unfold opsO
    rw [oneF_eq]
    cases oneO ⟨P, same, known, call⟩ ops o f s with
    | none => rfl
    | some p =>
      obtain ⟨f', s'⟩ := p
      exact opsF_eq ops r f' s'

def softF (ops : Array Oper) (o : Oper) (f : Fr) (s : St) (bad : List Nat) : Option (Option Nat × Fr × St) :=
  match wantO f ops o with
  | true => match rowAt (fun x => evF f.tm s.gl x) o.op with
    | some c => match memb c bad with
      | true => none
      | false => match oneF P same known call ops o f s with
        | some (f, s) => some (some c, f, s)
        | none => none
    | none => none
  | false => match put f o.dst und with
    | some f => some (none, f, s)
    | none => none
theorem softF_eq (ops : Array Oper) (o : Oper) (f : Fr) (s : St) (bad : List Nat) : softF P same known call ops o f s bad = softO ⟨P, same, known, call⟩ ops o f s bad := by
  unfold softF softO
  rw [evF_fun, oneF_eq]
  rfl

def lowG {α : Type} (s : St) (low : Nat) (k : St → α) : α := St.rec (motive := fun _ => α) (fun hp nx _ gl => k ⟨hp, nx, low, gl⟩) s
theorem lowG_eq {α : Type} (s : St) (low : Nat) (k : St → α) : lowG s low k = k { s with low := low } := by cases s; rfl
def freshG {α : Type} (s : St) (k : Nat → Nat → St → α) : α := St.rec (motive := fun _ => α) (fun hp nx low gl => k nx low ⟨hp, nx, nx, gl⟩) s
theorem freshG_eq {α : Type} (s : St) (k : Nat → Nat → St → α) : freshG s k = k s.nx s.low { s with low := s.nx } := by cases s; rfl

def drawF (ops : Array Oper) (kind : Nat → Nat) : Nat → List Oper → List Nat → List Nat → Fr → St → Option (Fr × St)
  | _, [], _, _, f, s => some (f, s)
  | i, o :: r, rd, wr, f, s => match kind i with
    | 0 => match oneF P same known call ops o f s with
      | some (f, s) => gNat (Nat.succ i) fun i => drawF ops kind i r rd wr f s
      | none => none
    | 1 => freshG s fun nx low s1 => match oneF P same known call ops o f s1 with
      | some (f, s') => match Nat.ble nx s'.low with
        | true => lowG s' low fun s' => gNat (Nat.succ i) fun i => drawF ops kind i r rd wr f s'
        | false => none
      | none => none
    | 2 => match softF P same known call ops o f s wr with
      | some (c, f, s) => gNat (Nat.succ i) fun i => drawF ops kind i r (consO c rd) wr f s
      | none => none
    | 3 => match softF P same known call ops o f s (rd ++ wr) with
      | some (c, f, s) => gNat (Nat.succ i) fun i => drawF ops kind i r rd (consO c wr) f s
      | none => none
    | 5 => match oneF P same known call ops o f s with
      | some (f, s) => gNat (Nat.succ i) fun i => drawF ops kind i r rd wr f s
      | none => none
    | _ => none
theorem drawF_eq (ops : Array Oper) (kind : Nat → Nat) : ∀ (l : List Oper) (i : Nat) (rd wr : List Nat) (f : Fr) (s : St), drawF P same known call ops kind i l rd wr f s = drawO ⟨P, same, known, call⟩ ops kind i l rd wr f s
  | [], i, rd, wr, f, s => by unfold drawF drawO; rfl
  | o :: r, i, rd, wr, f, s => by
    have ih := drawF_eq ops kind r
    unfold drawF drawO
    simp only [oneF_eq, softF_eq, gNat_eq, lowG_eq, freshG_eq, ih]
    rfl

def resF (tm : T AV) (s : St) (l : List ResultVar) : Option (List AV) := match l with
  | [] => some []
  | .tmp t :: r => match tm.getF t with
    | some v => match isTup v with
      | false => match resF tm s r with
        | some l => some (v :: l)
        | none => none
      | true => none
    | none => none
  | .cell a t :: r => match tm.getF a with
    | some (.ptr a) => match loadF P s t a with
      | some v => match resF tm s r with
        | some l => some (v :: l)
        | none => none
      | none => none
    | _ => none
theorem resF_eq (f : Fr) (s : St) : ∀ l, resF P f.tm s l = resO P f s l
  | [] => by unfold resF resO; rfl
  | .tmp t :: r => by
    unfold resF resO
    rw [resF_eq f s r, T.getF_eq]
    cases f.tm.get t with
    | none => rfl
    | some v => simp only; cases isTup v <;> (cases resO P f s r <;> rfl)
  | .cell a t :: r => by
    unfold resF resO
    rw [resF_eq f s r, T.getF_eq]
    cases f.tm.get a with
    | none => rfl
    | some v =>
      cases v
      case ptr a => simp only [loadF_eq]; cases loadT P s t a <;> (cases resO P f s r <;> rfl)
      all_goals rfl

def tidyG {α : Type} (s s' : St) (v : AV) (k : St → α) : α := match plainV v && Nat.ble s.nx s'.low with
  | true => k s
  | false => St.rec (motive := fun _ => α) (fun hp nx low gl => minG s.low low fun low => k ⟨hp, nx, low, gl⟩) s'
theorem tidyG_eq {α : Type} (s s' : St) (v : AV) (k : St → α) : tidyG s s' v k = k (tidy s s' v) := by
  unfold tidyG tidy
  cases plainV v && Nat.ble s.nx s'.low with
  | true => rfl
  | false =>
    cases s'
    simp only [minG_eq]

def leaveF (fn : Func) (s : St) (f' : Fr) (s' : St) : Option (AV × St) := match resF P f'.tm s' fn.results.toList with
  | some l => gV (oneOf l) fun v => tidyG s s' v fun s => some (v, s)
  | none => none
theorem leaveF_eq (fn : Func) (s : St) (f' : Fr) (s' : St) : leaveF P fn s f' s' = leaveO P fn s f' s' := by
  unfold leaveF leaveO
  rw [resF_eq]
  simp only [gV_eq, tidyG_eq]
  rfl

def argsG {α : Type} : List AV → Nat → T AV → (T AV → α) → α
  | [], _, t, k => k t
  | v :: r, i, t, k => gV v fun v => setG v t i fun t => gNat (Nat.succ i) fun i => argsG r i t k
theorem argsG_eq {α : Type} : ∀ (l : List AV) (i : Nat) (t : T AV) (k : T AV → α), argsG l i t k = k (argsT l i t)
  | [], _, _, _ => by unfold argsG argsT; rfl
  | v :: r, i, t, k => by
    unfold argsG argsT
    rw [gV_eq, setG_eq, gNat_eq, argsG_eq r]

abbrev CRes := Option (Ex × Fr × St)
abbrev CF := Code → Fr → St → CRes
def regF (ops : Array Oper) (f : Fr) (s : St) : CRes := match opsF P same known call ops ops.toList f s with
  | some (f, s) => some (.normal, f, s)
  | none => none
def regD (kind : Array Oper → Nat → Nat) (ops : Array Oper) (f : Fr) (s : St) : CRes := match okRegionF ops with
  | true => match drawF P same known call ops (kind ops) 0 ops.toList [] [] f s with
    | some (f, s) => some (.normal, f, s)
    | none => none
  | false => none
def seqF (rec : CF) (a b : Code) (f : Fr) (s : St) : CRes := match rec a f s with
  | some (.normal, f, s) => rec b f s
  | x => x
def condF (rec : CF) (c : Operand) (a b : Code) (f : Fr) (s : St) : CRes := match evF f.tm s.gl c with
  | some (.bool true) => rec a f s
  | some (.bool false) => rec b f s
  | _ => none
def blockF (rec : CF) (id : Nat) (b : Code) (f : Fr) (s : St) : CRes := match rec b f s with
  | some (.exit i, f, s) => match Nat.beq i id with
    | true => some (.normal, f, s)
    | false => some (.exit i, f, s)
  | x => x
end
abbrev CdR := Program → (FuncId → Bool) → (FuncId → List AV → Option AV) → (FuncId → List AV → St → Option (AV × St)) → (Array Oper → Nat → Nat) → CF → Fr → St → CRes
def stepCF (P : Program) (same : FuncId → Bool) (known : FuncId → List AV → Option AV) (call : FuncId → List AV → St → Option (AV × St)) (kind : Array Oper → Nat → Nat) (rec : CF) (c : Code) (f : Fr) (s : St) : CRes :=
  Code.rec (motive := fun _ => CdR)
    (fun _ _ _ _ _ _ f s => some (.normal, f, s))
    (fun _ ops draw P same known call kind _ f s => Bool.rec (motive := fun _ => CRes) (regF P same known call ops f s) (regD P same known call kind ops f s) draw)
    (fun a b _ _ _ _ _ _ _ rec f s => seqF rec a b f s)
    (fun c a b _ _ _ _ _ _ _ rec f s => condF rec c a b f s)
    (fun id b _ _ _ _ _ _ rec f s => blockF rec id b f s)
    (fun b _ _ _ _ _ _ rec f s => seqF rec b (.loop b) f s)
    (fun _ _ _ _ _ _ _ _ _ _ _ _ _ _ => none)
    (fun id _ _ _ _ _ _ f s => some (.exit id, f, s))
    (fun _ _ _ _ _ _ _ _ _ _ => none)
    (fun _ _ _ _ _ _ _ _ _ => none)
    (fun _ _ _ _ _ _ _ _ _ => none)
    (fun _ _ _ _ _ _ f s => some (.ret, f, s))
    (fun _ _ _ _ _ _ _ _ _ => none) c P same known call kind rec f s
section
variable (P : Program) (same : FuncId → Bool) (known : FuncId → List AV → Option AV) (call : FuncId → List AV → St → Option (AV × St))
theorem stepCF_eq (kind : Array Oper → Nat → Nat) (rec : Code → Fr → St → Option (Ex × Fr × St)) (c : Code) (f : Fr) (s : St) : stepCF P same known call kind rec c f s = stepC ⟨P, same, known, call⟩ kind rec c f s := by
  cases c
  case region id ops draw =>
    cases draw with
    | false =>
      show regF P same known call ops f s = _
      unfold regF stepC
      simp only [opsF_eq]
      rfl
    | true =>
      show regD P same known call kind ops f s = _
      unfold regD stepC
      simp only [drawF_eq, okRegionF_eq]
      rfl
  case cond c a b =>
    show condF rec c a b f s = _
    unfold condF stepC
    simp only [evF_eq]
    rfl
  all_goals rfl

def stepFF (rec : Code → Fr → St → Option (Ex × Fr × St)) (g : FuncId) (args : List AV) (s : St) : Option (AV × St) :=
  match P.funcs[g]? with
  | none => none
  | some fn => match fn.body with
    | none => none
    | some c => match Nat.ble args.length fn.ntmps with
      | false => none
      | true => argsG args 0 .nil fun tm => gNat fn.ntmps fun nt => freshG s fun _ _ s1 => match rec c ⟨tm, nt⟩ s1 with
        | some (.normal, f', s') => leaveF P fn s f' s'
        | some (.ret, f', s') => leaveF P fn s f' s'
        | _ => none
theorem stepFF_eq (rec : Code → Fr → St → Option (Ex × Fr × St)) (g : FuncId) (args : List AV) (s : St) : stepFF P rec g args s = stepF P rec g args s := by
  unfold stepFF stepF
  simp only [argsG_eq, gNat_eq, freshG_eq, leaveF_eq]
  rfl
end

def runF (P : Program) (same : FuncId → Bool) (known : FuncId → List AV → Option AV) (kind : Array Oper → Nat → Nat) (n : Nat) : Rec :=
  Nat.rec (motive := fun _ => Rec) { code := fun _ _ _ => none, call := fun _ _ _ => none }
    (fun _ ih => { code := stepCF P same known ih.call kind ih.code, call := stepFF P ih.code }) n
theorem runF_eq (P : Program) (same : FuncId → Bool) (known : FuncId → List AV → Option AV) (kind : Array Oper → Nat → Nat) : ∀ n, runF P same known kind n = run P same known kind n
  | 0 => rfl
  | n + 1 => by
    have ih := runF_eq P same known kind n
    show Rec.mk (stepCF P same known (runF P same known kind n).call kind (runF P same known kind n).code) (stepFF P (runF P same known kind n).code) = Rec.mk _ _
    rw [ih]
    congr 1
    · funext c f s
      exact stepCF_eq P same known _ kind _ c f s
    · funext g args s
      exact stepFF_eq P _ g args s

/-! closed calls -/
def outB (b : Bool) (o : Option (AV × St)) : Bool := match o with
  | some (.bool c, _) => c == b
  | _ => false
def outS (l : List UInt8) (o : Option (AV × St)) : Bool := match o with
  | some (.str m, _) => beqB l m
  | _ => false
theorem outB_some {b : Bool} {o : Option (AV × St)} (h : outB b o = true) : ∃ s, o = some (.bool b, s) := by
  unfold outB at h
  split at h
  · rename_i c s
    have : c = b := by simpa using h
    subst this
    exact ⟨s, rfl⟩
  · cases h
theorem outS_some {l : List UInt8} {o : Option (AV × St)} (h : outS l o = true) : ∃ s, o = some (.str l, s) := by
  unfold outS at h
  split at h
  · rename_i m s
    rw [beqB_eq] at h
    have : l = m := by simpa using h
    subst this
    exact ⟨s, rfl⟩
  · cases h
end
end Go.AM
