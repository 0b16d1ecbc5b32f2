/-
  Operations on values: what the abstract machine computes, the model computes.
-/
import Derived.Test.YtmcnpaehmnadeaaGreatDoorAmA
import Derived.Laws.StructEq
import Derived.Laws.Entries
import Derived.Lib.UnsafeStr
import Derived.Lib.ConvBytes
import Derived.Laws.BytesString
import Derived.Laws.MakeOwn
import Derived.LoopN
set_option maxHeartbeats 6400000
set_option maxRecDepth 1000000
namespace Go.AM
open Go Go.RowKit
section
variable {μ : Mp} {P : Program} {w : World}
theorem V1.vr {x : AV} {v : Value} (h : V1 μ x v) : VR μ x v := by
 cases x <;> simp only [VR] <;> first | exact h | exact (show False from h).elim
theorem CR.v1 {x : AV} {v : Value} (h : CR μ x v) : V1 μ x v := by
 cases x <;> simp only [V1] <;> first | exact h | exact (show False from h).elim
theorem cOf_sound {c : Value} {x : AV} (h : cOf c = some x) : CR μ x c := by
 unfold cOf at h
 split at h <;> simp at h <;> subst h <;> simp [CR, SR]
theorem mapO_sound {α β : Type} {f : α → Option β} : ∀ {l : List α} {r : List β}, mapO f l = some r → ∀ {R : β → α → Prop}, (∀ a b, f a = some b → R b a) → LR R r l
 | [], r, h, R, _ => by simp [mapO] at h; subst h; trivial
 | a :: l, r, h, R, hR => by
  simp only [mapO] at h
  cases h1 : f a with
  | none => simp [h1] at h
  | some b =>
   cases h2 : mapO f l with
   | none => simp [h1, h2] at h
   | some bs => simp [h1, h2] at h; subst h; exact ⟨hR a b h1, mapO_sound h2 hR⟩
theorem vOf_sound {c : Value} {x : AV} (h : vOf c = some x) : V1 μ x c := by
 unfold vOf at h
 split at h
 ·rename_i cs
  split at h
  ·rename_i l hl
   simp at h
   subst h
   exact ⟨cs.toList, mapO_sound hl fun _ _ h => cOf_sound h, by simp⟩
  ·cases h
 ·exact (cOf_sound h).v1
theorem cells_sound {x : AV} {l : List AV} {v : Value} (h : cellsOf x = some l) (hx : VR μ x v) : ∃ vs, LR (CR μ) l vs ∧ v.cells = vs.toArray := by
 cases x <;> simp only [cellsOf, Option.some.injEq] at h <;> try (subst h)
 case agg cs => obtain ⟨vs, h1, rfl⟩ := hx; exact ⟨vs, h1, rfl⟩
 case tuple => cases h
 all_goals
  have hc := hx
  simp only [VR, V1] at hc
  refine ⟨[v], ⟨hc, trivial⟩, ?_⟩
  have := hc.oneCell
  cases v <;> first | rfl | simp [Value.oneCell'] at this
theorem zero_sound {t : TypeId} {x : AV} (h : zeroOf P t = some x) : ∃ i z, P.info? t = some i ∧ i.zero = some z ∧ V1 μ x z := by
 unfold zeroOf at h
 split at h
 ·cases h
 ·rename_i i hi
  split at h
  ·cases h
  ·rename_i z hz
   exact ⟨i, z, hi, hz, vOf_sound h⟩
theorem size_run {t : TypeId} {n : Nat} (h : sizeT P t = some n) : ∀ w, (sizeOf t).run P w = .ok n w := by
 intro w
 unfold sizeT at h
 cases hi : P.info? t with
 | none => simp [hi] at h
 | some i => simp [hi] at h; simp [sizeOf, typeInfo, hi, h]
theorem agg_run {t : TypeId} {b : Bool} (h : aggT P t = some b) : ∀ w, (isAgg t).run P w = .ok b w := by
 intro w
 unfold aggT at h
 cases hu : P.underlying t with
 | none => simp [hu] at h
 | some d => cases d <;> simp [hu] at h <;> subst h <;> simp [isAgg, run_underlying hu]
theorem part_sound {t : TypeId} {cs : List AV} {off : Nat} {x : AV} (h : partOf P t cs off = some x) {vs : List Value} (hv : LR (CR μ) cs vs) :
  ∃ v, V1 μ x v ∧ ∀ w, (part t vs.toArray off).run P w = .ok v w := by
 unfold partOf at h
 split at h
 ·rename_i n h1 h2
  split at h
  ·rename_i hb
   have hb := ble_iff.1 hb
   simp at h
   subst h
   refine ⟨.agg (((vs.drop off).take n)).toArray, ⟨_, (hv.drop off).take n, rfl⟩, fun w => ?_⟩
   simp only [part, Sem.run_bind, agg_run h1, Result.andThen_ok, if_true, size_run h2, Sem.run_pure]
   congr 2
   apply Array.ext'
   simp
  ·cases h
 ·rename_i h1
  obtain ⟨v, h2, h3⟩ := hv.get _ _ h
  exact ⟨v, h3.v1, fun w => by simp [part, agg_run h1, h2]⟩
 ·cases h
theorem strOf_inj {a b : List UInt8} : ((⟨a.toArray⟩ : ByteArray) == ⟨b.toArray⟩) = (a == b) := by
 rw [beq_toListBytes, ByteArray.toList_eq, ByteArray.toList_eq]
theorem fields_sound {eq : TypeId → AV → AV → Option Bool} {d : Nat} {xs ys : List AV} {us vs : List Value} (hx : LR (CR μ) xs us) (hy : LR (CR μ) ys vs)
  (heq : ∀ t x y b x' y', eq t x y = some b → VR μ x x' → VR μ y y' → ∀ w, (Op.equalIn d t x' y').run P w = .ok b w) :
  ∀ (fs : List Field) (b : Bool), eqFields P eq xs ys fs = some b → ∀ w, (Op.eqFields d us.toArray vs.toArray fs).run P w = .ok b w
 | [], b, h, w => by simp [eqFields] at h; subst h; simp [Op.eqFields]
 | f :: fs, b, h, w => by
  simp only [eqFields] at h
  split at h
  ·rename_i hn
   have hn : f.name = "_" := by simpa using hn
   simp only [Op.eqFields, hn, ne_eq, not_true_eq_false, if_false]
   exact fields_sound hx hy heq fs b h w
  ·rename_i hn
   have hn : ¬ f.name = "_" := by simpa using hn
   split at h
   ·rename_i x y h1 h2
    obtain ⟨x', hx1, hx2⟩ := part_sound h1 hx
    obtain ⟨y', hy1, hy2⟩ := part_sound h2 hy
    simp only [Op.eqFields, ne_eq, hn, not_false_eq_true, if_true, Sem.run_bind, hx2, hy2, Result.andThen_ok]
    split at h
    ·rename_i h3
     simp only [heq _ _ _ _ _ _ h3 hx1.vr hy1.vr w, Result.andThen_ok, Bool.not_true, Bool.false_eq_true, if_false]
     exact fields_sound hx hy heq fs b h w
    ·rename_i h3
     simp at h
     subst h
     simp [heq _ _ _ _ _ _ h3 hx1.vr hy1.vr w]
    ·cases h
   ·cases h
theorem aeq_sound : ∀ (d : Nat) (t : TypeId) (x y : AV) (b : Bool) (x' y' : Value), aeq P d t x y = some b → VR μ x x' → VR μ y y' → ∀ (k : Nat) (w : World), (Op.equalIn (d + k) t x' y').run P w = .ok b w := by
 intro d
 induction d with
 | zero => intro t x y b x' y' h; simp [aeq] at h
 | succ d ih =>
  intro t x y b x' y' h hx hy k w
  rw [show d + 1 + k = (d + k) + 1 by omega]
  unfold aeq at h
  split at h
  case h_1 hu =>
   simp at h; subst h
   have hx : x' = _ := hx
   have hy : y' = _ := hy
   subst hx; subst hy
   simp [Op.equalIn, run_underlying hu]
  case h_2 k1 a k2 b' hu =>
   split at h
   case h_1 hk =>
    simp at h; subst h
    have hk : k1 = k2 := by simpa using hk
    subst hk
    have hx : x' = _ := hx
    have hy : y' = _ := hy
    subst hx; subst hy
    simp [Op.equalIn, run_underlying hu]
   case h_2 => cases h
  case h_3 hu =>
   simp at h; subst h
   have hx : x' = _ := hx
   have hy : y' = _ := hy
   subst hx; subst hy
   simp [Op.equalIn, run_underlying hu, strOf_inj]
  case h_4 hu =>
   simp at h; subst h
   have hx : x' = _ := hx
   have hy : y' = _ := hy
   subst hx; subst hy
   simp [Op.equalIn, run_underlying hu]
  case h_5 hu =>
   simp at h; subst h
   have hx : x' = _ := hx
   obtain ⟨c, hc, rfl⟩ := hy
   subst hx
   simp [Op.equalIn, run_underlying hu]
  case h_6 hu =>
   simp at h; subst h
   have hy : y' = _ := hy
   obtain ⟨c, hc, rfl⟩ := hx
   subst hy
   simp [Op.equalIn, run_underlying hu]
  case h_7 e a1 a2 hu =>
   obtain ⟨c1, ⟨blk1, n1, hm1, rfl⟩, rfl⟩ := hx
   obtain ⟨c2, ⟨blk2, n2, hm2, rfl⟩, rfl⟩ := hy
   split at h
   case h_1 sz hs =>
    split at h
    case h_1 hc =>
     simp at h; subst h
     simp only [Bool.and_eq_true] at hc
     have e1 := Nat.eq_of_beq_eq_true hc.1
     have e2 := Nat.eq_of_beq_eq_true hc.2
     rw [e1, e2, hm2] at hm1
     injection hm1 with hm1
     injection hm1 with hm1 _
     subst hm1
     have hne : sz + 1 ≠ 0 := by omega
     simp only [Op.equalIn, Sem.run_bind, run_underlying hu, Result.andThen_ok, size_run hs, ne_eq, hne, not_false_eq_true, if_true, sameAddr, BEq.rfl, Sem.run_pure]
     rw [beq0]
     congr 1
     show decide ((⟨blk2, a1.off, none⟩ : Addr) = ⟨blk2, a2.off, none⟩) = _
     simp
    case h_2 => cases h
   case h_2 => cases h
  case h_8 hu =>
   simp at h; subst h
   have hx : x' = _ := hx
   have hy : y' = _ := hy
   subst hx; subst hy
   simp [Op.equalIn, run_underlying hu]
  case h_9 hu =>
   simp at h; subst h
   have hx : x' = _ := hx
   obtain ⟨c, hc, rfl⟩ := hy
   subst hx
   simp [Op.equalIn, run_underlying hu]
  case h_10 hu =>
   simp at h; subst h
   have hy : y' = _ := hy
   obtain ⟨c, hc, rfl⟩ := hx
   subst hy
   simp [Op.equalIn, run_underlying hu]
  case h_11 fields xs ys hu =>
   split at h
   case h_1 => cases h
   case h_2 hst =>
    obtain ⟨us, hxs, rfl⟩ := hx
    obtain ⟨vs, hys, rfl⟩ := hy
    have hf : P.fieldsOf t = fields := by simp [Program.fieldsOf, hu]
    rw [run_equalIn_struct w (d + k) t us.toArray vs.toArray (by rw [hf]; exact hu) hst, hf]
    exact fields_sound hxs hys (fun t x y b x' y' h1 h2 h3 w => ih t x y b x' y' h1 h2 h3 k w) _ _ h w
  case h_12 hu =>
   simp at h; subst h
   have hx : x' = _ := hx
   have hy : y' = _ := hy
   subst hx; subst hy
   simp [Op.equalIn, run_underlying hu]
  case h_13 hu =>
   simp at h; subst h
   have hx : x' = _ := hx
   obtain ⟨_, _, _, _, rfl, _⟩ := hy
   subst hx
   simp [Op.equalIn, run_underlying hu]
  case h_14 hu =>
   simp at h; subst h
   have hx : x' = _ := hx
   obtain ⟨_, _, rfl⟩ := hy
   subst hx
   simp [Op.equalIn, run_underlying hu]
  case h_15 hu =>
   simp at h; subst h
   have hy : y' = _ := hy
   obtain ⟨_, _, _, _, rfl, _⟩ := hx
   subst hy
   simp [Op.equalIn, run_underlying hu]
  case h_16 hu =>
   simp at h; subst h
   have hy : y' = _ := hy
   obtain ⟨_, _, rfl⟩ := hx
   subst hy
   simp [Op.equalIn, run_underlying hu]
  case h_17 hu =>
   simp at h; subst h
   have hx : x' = _ := hx
   have hy : y' = _ := hy
   subst hx; subst hy
   simp [Op.equalIn, run_underlying hu]
  case h_18 hu =>
   simp at h; subst h
   have hx : x' = _ := hx
   obtain ⟨_, _, rfl⟩ := hy
   subst hx
   simp [Op.equalIn, run_underlying hu]
  case h_19 hu =>
   simp at h; subst h
   have hy : y' = _ := hy
   obtain ⟨_, _, rfl⟩ := hx
   subst hy
   simp [Op.equalIn, run_underlying hu]
  case h_20 => cases h
theorem int_inv {k : IntKind} {n : Int} {v : Value} (h : VR μ (.int k n) v) : v = .int k n := h
theorem bool_inv {b : Bool} {v : Value} (h : VR μ (.bool b) v) : v = .bool b := h
theorem str_inv {l : List UInt8} {v : Value} (h : VR μ (.str l) v) : v = .string ⟨l.toArray⟩ := h
theorem intBin_sound {op : BinOp} {k : IntKind} {a b : Int} {v : AV} (h : intBin op k a b = some v) :
  ∃ v', VR μ v v' ∧ ∀ (t : TypeId) (X Y : Operand) (w : World), (do eqGuard op t X Y (.int k a) (.int k b); binOp op t (.int k a) (.int k b) : Sem Value).run P w = .ok v' w := by
 cases op <;> simp only [intBin, Option.some.injEq] at h
 case quo =>
  split at h
  ·cases h
  ·rename_i hb
   have hb : ¬ b = 0 := by simpa using hb
   simp at h; subst h
   exact ⟨_, rfl, fun t X Y w => by simp [eqGuard, binOp, Op.intDiv, hb]⟩
 case rem =>
  split at h
  ·cases h
  ·rename_i hb
   have hb : ¬ b = 0 := by simpa using hb
   simp at h; subst h
   exact ⟨_, rfl, fun t X Y w => by simp [eqGuard, binOp, Op.intDiv, hb]⟩
 all_goals first
  | (subst h; exact ⟨_, rfl, fun t X Y w => by simp [eqGuard, binOp, Op.intArith, Op.intBits, Op.intCmp]⟩)
  | cases h
theorem strBin_sound {op : BinOp} {a b : List UInt8} {v : AV} (h : strBin op a b = some v) :
  ∃ v', VR μ v v' ∧ ∀ (t : TypeId) (X Y : Operand) (w : World), (do eqGuard op t X Y (.string ⟨a.toArray⟩) (.string ⟨b.toArray⟩); binOp op t (.string ⟨a.toArray⟩) (.string ⟨b.toArray⟩) : Sem Value).run P w = .ok v' w := by
 have hsz : ∀ l : List UInt8, (⟨l.toArray⟩ : ByteArray).size = l.length := fun l => by simp [ByteArray.size]
 have happ : (⟨a.toArray⟩ : ByteArray) ++ ⟨b.toArray⟩ = ⟨(a ++ b).toArray⟩ := by
  apply ByteArray.ext
  simp
 cases op <;> simp only [strBin, Option.some.injEq] at h
 case add =>
  split at h
  ·cases h
  ·rename_i hb
   have hb : ¬ (((a.length + b.length : Nat) : Int) > IntKind.i64.max) := by simpa using hb
   simp at h; subst h
   refine ⟨_, rfl, fun t X Y w => ?_⟩
   simp only [eqGuard, binOp, Op.stringOp, hsz, if_neg hb, happ]
   simp
 all_goals first
  | (subst h; exact ⟨_, rfl, fun t X Y w => by simp [eqGuard, binOp, Op.stringOp]⟩)
  | cases h
end
end Go.AM
/-
  Operations on values, continued: comparisons, conversions of numbers, places, parts.
-/
namespace Go.AM
open Go Go.RowKit
section
variable {μ : Mp} {P : Program} {w : World}
theorem eqGuard_run {op : BinOp} {t : TypeId} {X Y : Operand} {x y : AV} {x' y' : Value} (h : eqOk P (isConst X || isConst Y) t x y = true) (hx : VR μ x x') (hy : VR μ y y') :
  ∀ w, (eqGuard op t X Y x' y').run P w = .ok () w := by
 intro w
 have hc : ∀ Z : Operand, isConst Z = true → (match Z with | .const _ => true | _ => false) = true := fun Z hz => by cases Z <;> simp_all [isConst]
 cases x
 case nilIface =>
  have hx : x' = _ := hx
  subst hx
  cases y
  case nilIface =>
   have hy : y' = _ := hy
   subst hy
   simp only [eqOk, Bool.or_eq_true] at h
   cases op <;> simp [eqGuard] <;> (rcases h with h | h <;> (first | (cases X <;> simp_all [isConst]; done) | (cases Y <;> simp_all [isConst]; done) | (cases X <;> cases Y <;> simp_all [isConst])))
  case iface t' v =>
   obtain ⟨u, _, rfl⟩ := hy
   cases op <;> simp [eqGuard]
  case ptr a => obtain ⟨_, _, rfl⟩ := hy; cases op <;> simp [eqGuard]
  case empty => obtain ⟨_, _, rfl⟩ := hy; cases op <;> simp [eqGuard]
  case slice a n e => obtain ⟨_, _, _, _, rfl, _⟩ := hy; cases op <;> simp [eqGuard]
  case func f c => obtain ⟨_, _, rfl⟩ := hy; cases op <;> simp [eqGuard]
  case agg c => obtain ⟨_, _, rfl⟩ := hy; cases op <;> simp [eqGuard]
  case tuple c => obtain ⟨_, _, rfl⟩ := hy; cases op <;> simp [eqGuard]
  all_goals (have hy : y' = _ := hy; subst hy; cases op <;> simp [eqGuard])
 case agg cs =>
  obtain ⟨us, _, rfl⟩ := hx
  by_cases hya : ∃ cs', y = .agg cs'
  ·obtain ⟨cs', rfl⟩ := hya
   obtain ⟨vs, _, rfl⟩ := hy
   simp only [eqOk, Bool.not_eq_true'] at h
   exact run_eqGuard_agg w op t X Y _ _ h
  ·have : ∀ ws, y' ≠ .agg ws := by
    intro ws he
    subst he
    cases y <;> simp [VR, V1, CR, SR] at hy
    exact hya ⟨_, rfl⟩
   cases op <;> simp [eqGuard] <;> (split <;> simp_all)
 case iface t' v => obtain ⟨u, _, rfl⟩ := hx; cases op <;> simp [eqGuard]
 case ptr a => obtain ⟨_, _, rfl⟩ := hx; cases op <;> simp [eqGuard]
 case empty => obtain ⟨_, _, rfl⟩ := hx; cases op <;> simp [eqGuard]
 case slice a n e => obtain ⟨_, _, _, _, rfl, _⟩ := hx; cases op <;> simp [eqGuard]
 case func f c => obtain ⟨_, _, rfl⟩ := hx; cases op <;> simp [eqGuard]
 case tuple c => obtain ⟨_, _, rfl⟩ := hx; cases op <;> simp [eqGuard]
 all_goals (have hx : x' = _ := hx; subst hx; cases op <;> simp [eqGuard])
theorem equal_run {t : TypeId} {x y : AV} {b : Bool} {x' y' : Value} (h : aeq P 12 t x y = some b) (hx : VR μ x x') (hy : VR μ y y') : ∀ w, (Op.equal t x' y').run P w = .ok b w :=
 fun w => aeq_sound 12 t x y b x' y' h hx hy 9988 w
theorem binOp_eq {t : TypeId} {x y : AV} {b : Bool} {x' y' : Value} (h : aeq P 12 t x y = some b) (hx : VR μ x x') (hy : VR μ y y')
  (hi : ∀ k a k' b, ¬ (x = .int k a ∧ y = .int k' b)) (hs : ∀ a b, ¬ (x = .str a ∧ y = .str b)) (w : World) :
  (binOp .eql t x' y').run P w = .ok (.bool b) w ∧ (binOp .neq t x' y').run P w = .ok (.bool !b) w := by
 have he := equal_run h hx hy
 have key : (∀ k a k' b', ¬ (x' = .int k a ∧ y' = .int k' b')) ∧ (∀ a b', ¬ (x' = .string a ∧ y' = .string b')) ∧ (∀ k a k' b', ¬ (x' = .float k a ∧ y' = .float k' b')) ∧ (∀ k a b k' c d, ¬ (x' = .complex k a b ∧ y' = .complex k' c d)) := by
  refine ⟨?_, ?_, ?_, ?_⟩
  ·rintro k a k' b' ⟨rfl, rfl⟩
   cases x <;> simp [VR, V1, CR, SR] at hx
   cases y <;> simp [VR, V1, CR, SR] at hy
   exact hi _ _ _ _ ⟨rfl, rfl⟩
  ·rintro a b' ⟨rfl, rfl⟩
   cases x <;> simp [VR, V1, CR, SR] at hx
   cases y <;> simp [VR, V1, CR, SR] at hy
   exact hs _ _ ⟨rfl, rfl⟩
  ·rintro k a k' b' ⟨rfl, rfl⟩
   cases x <;> simp [VR, V1, CR, SR] at hx
  ·rintro k a b k' c d ⟨rfl, rfl⟩
   cases x <;> simp [VR, V1, CR, SR] at hx
 obtain ⟨k1, k2, k3, k4⟩ := key
 constructor
 ·unfold binOp
  split <;> first | (exfalso; first | exact k1 _ _ _ _ ⟨rfl, rfl⟩ | exact k2 _ _ ⟨rfl, rfl⟩ | exact k3 _ _ _ _ ⟨rfl, rfl⟩ | exact k4 _ _ _ _ _ _ ⟨rfl, rfl⟩) | simp_all
 ·unfold binOp
  split <;> first | (exfalso; first | exact k1 _ _ _ _ ⟨rfl, rfl⟩ | exact k2 _ _ ⟨rfl, rfl⟩ | exact k3 _ _ _ _ ⟨rfl, rfl⟩ | exact k4 _ _ _ _ _ _ ⟨rfl, rfl⟩) | simp_all
theorem bin_sound {op : BinOp} {t : TypeId} {X Y : Operand} {x y v : AV} {x' y' : Value} (h : binO P (isConst X || isConst Y) op t x y = some v) (hx : VR μ x x') (hy : VR μ y y') :
  ∃ v', VR μ v v' ∧ ∀ w, (do eqGuard op t X Y x' y'; binOp op t x' y' : Sem Value).run P w = .ok v' w := by
 unfold binO at h
 split at h
 case h_1 k a k' b =>
  split at h
  ·cases h
  ·rename_i hb
   have hb : ¬ b < 0 := by simpa using hb
   simp at h; subst h
   rw [int_inv hx, int_inv hy]
   exact ⟨_, rfl, fun w => by simp [eqGuard, binOp, Op.shift, hb]⟩
 case h_2 k a k' b =>
  split at h
  ·cases h
  ·rename_i hb
   have hb : ¬ b < 0 := by simpa using hb
   simp at h; subst h
   rw [int_inv hx, int_inv hy]
   exact ⟨_, rfl, fun w => by simp [eqGuard, binOp, Op.shift, hb]⟩
 case h_3 k a k' b _ _ =>
  split at h
  ·rename_i hk
   have hk : k = k' := by simpa using hk
   subst hk
   rw [int_inv hx, int_inv hy]
   obtain ⟨v', h1, h2⟩ := intBin_sound (P := P) (μ := μ) h
   exact ⟨v', h1, fun w => h2 t X Y w⟩
  ·cases h
 case h_4 a b _ _ _ =>
  rw [str_inv hx, str_inv hy]
  obtain ⟨v', h1, h2⟩ := strBin_sound (P := P) (μ := μ) h
  exact ⟨v', h1, fun w => h2 t X Y w⟩
 case h_5 hn1 hn2 =>
  split at h
  ·rename_i hok
   split at h
   ·rename_i b hb
    simp at h; subst h
    refine ⟨.bool b, rfl, fun w => ?_⟩
    simp only [Sem.run_bind, eqGuard_run hok hx hy, Result.andThen_ok]
    exact (binOp_eq hb hx hy (fun k a k' b' ⟨e1, e2⟩ => hn1 _ _ _ _ e1 e2) (fun a b' ⟨e1, e2⟩ => hn2 _ _ e1 e2) w).1
   ·cases h
  ·cases h
 case h_6 hn1 hn2 =>
  split at h
  ·rename_i hok
   split at h
   ·rename_i b hb
    simp at h; subst h
    refine ⟨.bool !b, rfl, fun w => ?_⟩
    simp only [Sem.run_bind, eqGuard_run hok hx hy, Result.andThen_ok]
    exact (binOp_eq hb hx hy (fun k a k' b' ⟨e1, e2⟩ => hn1 _ _ _ _ e1 e2) (fun a b' ⟨e1, e2⟩ => hn2 _ _ e1 e2) w).2
   ·cases h
  ·cases h
 case h_7 => cases h
theorem un_sound {op : UnOp} {x v : AV} {x' : Value} (h : unO op x = some v) (hx : VR μ x x') : ∃ v', VR μ v v' ∧ ∀ w, (Op.unary op x').run P w = .ok v' w := by
 unfold unO at h
 split at h
 ·simp at h; subst h; rw [int_inv hx]; exact ⟨_, rfl, fun w => by simp [Op.unary, Op.intArith]⟩
 ·simp at h; subst h; rw [int_inv hx]; exact ⟨_, rfl, fun w => by simp [Op.unary, Op.intBits]⟩
 ·simp at h; subst h; rw [bool_inv hx]; exact ⟨_, rfl, fun w => by simp [Op.unary]⟩
 ·cases h
end
end Go.AM
/-
  Places and parts: addresses of fields and elements, slices, structs that are built.
-/
namespace Go.AM
open Go Go.RowKit
section
variable {μ : Mp} {P : Program} {w : World}
theorem add_addr (blk off n : Nat) : (⟨blk, off, none⟩ : Addr).add n = ⟨blk, off + n, none⟩ := by
 unfold Addr.add
 split <;> simp_all
theorem AR.add {a : AA} {c : Addr} (h : AR μ a c) (n : Nat) : AR μ (addOff a n) (c.add n) := by
 obtain ⟨blk, k, hm, rfl⟩ := h
 exact ⟨blk, k, hm, add_addr _ _ _⟩
theorem nat_sound {i : AV} {n : Nat} {i' : Value} (h : natO i = some n) (hi : VR μ i i') : ∃ k, i' = .int k (n : Int) := by
 unfold natO at h
 split at h
 ·rename_i k m
  split at h
  ·rename_i hm
   have hm : 0 ≤ m := by simpa using hm
   simp at h
   rw [int_inv hi, ← h]
   exact ⟨k, by rw [Int.toNat_of_nonneg hm]⟩
  ·cases h
 ·cases h
theorem fieldAddr_sound {t : TypeId} {x v : AV} {f : Nat} {x' : Value} (h : fieldAddrO P t x f = some v) (hx : VR μ x x') : ∃ v', VR μ v v' ∧ ∀ w, (Instr.fieldAt t x' f).run P w = .ok v' w := by
 unfold fieldAddrO at h
 split at h
 ·rename_i fs a hu
  split at h
  ·rename_i fd hf
   split at h
   ·rename_i n hs
    simp at h; subst h
    obtain ⟨c, hc, rfl⟩ := hx
    exact ⟨_, ⟨_, hc.add _, rfl⟩, fun w => by simp [Instr.fieldAt, run_underlying hu, hf, Instr.sureAddr, fieldPlace, size_run hs]⟩
   ·cases h
  ·cases h
 ·cases h
theorem field_sound {t : TypeId} {x v : AV} {f : Nat} {x' : Value} (h : fieldO P t x f = some v) (hx : VR μ x x') : ∃ v', VR μ v v' ∧ ∀ w, (Instr.field t x' f).run P w = .ok v' w := by
 unfold fieldO at h
 split at h
 ·rename_i fs cs hu
  split at h
  ·rename_i fd hf
   obtain ⟨vs, hv, rfl⟩ := hx
   obtain ⟨v', h1, h2⟩ := part_sound h hv
   exact ⟨v', h1.vr, fun w => by simp [Instr.field, run_underlying hu, hf, asAgg, h2]⟩
  ·cases h
 ·cases h
theorem indexAddr_sound {t : TypeId} {x i v : AV} {x' i' : Value} (h : indexAddrO P t x i = some v) (hx : VR μ x x') (hi : VR μ i i') : ∃ v', VR μ v v' ∧ ∀ w, (Instr.indexAt t x' i').run P w = .ok v' w := by
 unfold indexAddrO at h
 split at h
 ·cases h
 ·rename_i n hn
  obtain ⟨k, rfl⟩ := nat_sound hn hi
  split at h
  ·rename_i len e a hu
   split at h
   ·rename_i esz hs hl
    simp at h; subst h
    obtain ⟨c, hc, rfl⟩ := hx
    have hl : n < len := by simpa using Nat.blt_eq.mp hl
    refine ⟨_, ⟨_, hc.add _, rfl⟩, fun w => ?_⟩
    simp [Instr.indexAt, asIntOf, run_underlying hu, Instr.sureAddr, size_run hs]
    intro hle; omega
   ·cases h
  ·rename_i e a len esz hu
   split at h
   ·rename_i z hs hl
    split at h
    ·rename_i hz
     have hz := Nat.eq_of_beq_eq_true hz
     subst hz
     simp at h; subst h
     obtain ⟨blk, m, cap, hm, rfl, _⟩ := hx
     have hl : n < len := by simpa using Nat.blt_eq.mp hl
     refine ⟨.pointer (some ((⟨blk, a.off, none⟩ : Addr).add (n * z))), ⟨_, AR.add ⟨blk, m, hm, rfl⟩ _, rfl⟩, fun w => ?_⟩
     simp [Instr.indexAt, asIntOf, run_underlying hu, size_run hs]
     intro hle; omega
    ·cases h
   ·cases h
  ·cases h
theorem byte_get {l : List UInt8} {n : Nat} {b : UInt8} (hb : l[n]? = some b) : (⟨l.toArray⟩ : ByteArray)[n]? = some b := by
 obtain ⟨hlt, he⟩ := List.getElem?_eq_some_iff.1 hb
 have hlt' : n < (⟨l.toArray⟩ : ByteArray).size := by simpa [ByteArray.size] using hlt
 rw [getElem?_pos (⟨l.toArray⟩ : ByteArray) n hlt', ← he]
 rfl
theorem index_sound {t : TypeId} {x i v : AV} {x' i' : Value} (h : indexO P t x i = some v) (hx : VR μ x x') (hi : VR μ i i') : ∃ v', VR μ v v' ∧ ∀ w, (Instr.index t x' i').run P w = .ok v' w := by
 unfold indexO at h
 split at h
 ·cases h
 ·rename_i n hn
  obtain ⟨k, rfl⟩ := nat_sound hn hi
  split at h
  ·rename_i len e cs hu
   split at h
   ·rename_i esz hs hl
    obtain ⟨vs, hv, rfl⟩ := hx
    have hl : n < len := by simpa using Nat.blt_eq.mp hl
    obtain ⟨v', h1, h2⟩ := part_sound h hv
    exact ⟨v', h1.vr, fun w => by
     simp [Instr.index, asIntOf, run_underlying hu, size_run hs, h2]
     intro hle; omega⟩
   ·cases h
  ·rename_i l hu
   split at h
   ·rename_i b hb
    simp at h; subst h
    rw [str_inv hx]
    refine ⟨_, rfl, fun w => ?_⟩
    have h3 : (0 : Int) ≤ (n : Int) := by omega
    have h4 : (⟨l.toArray⟩ : ByteArray)[n]? = some b := byte_get hb
    simp [Instr.index, asIntOf, run_underlying hu, h4]
   ·cases h
  ·cases h
def OR (μ : Mp) : Option AV → Option Value → Prop
 | none, none => True
 | some v, some v' => VR μ v v'
 | _, _ => False
theorem bnd_sound {x : Option AV} {d n : Nat} {x' : Option Value} (h : bnd x d = some n) (hx : OR μ x x') :
  (x' = none ∧ n = d) ∨ ∃ k, x' = some (.int k (n : Int)) := by
 cases x with
 | none => cases x' with
  | none => simp [bnd] at h; exact .inl ⟨rfl, h.symm⟩
  | some _ => exact hx.elim
 | some v => cases x' with
  | none => exact hx.elim
  | some v' =>
   obtain ⟨k, rfl⟩ := nat_sound (show natO v = some n from h) hx
   exact .inr ⟨k, rfl⟩
theorem bounds_run {sl : Bool} {len cap h k : Nat} {lo hi : Option Value} (hh : (hi = none ∧ h = len) ∨ ∃ q, hi = some (.int q (h : Int))) (hk : (lo = none ∧ k = 0) ∨ ∃ q, lo = some (.int q (k : Int)))
  (h1 : k ≤ h) (h2 : h ≤ cap) : ∀ w, (Instr.sliceBounds sl len cap lo hi none).run P w = .ok (k, h, cap) w := by
 intro w
 rcases hh with ⟨rfl, rfl⟩ | ⟨q, rfl⟩ <;> rcases hk with ⟨rfl, rfl⟩ | ⟨q', rfl⟩ <;> simp [Instr.sliceBounds, Instr.sliceBound, asIntOf, h1, h2] <;> (intro hlt; omega)
theorem mkSlice_vr {a : AA} {blk m cap n k h esz : Nat} (hm : μ a.b a.g = some (blk, m)) (hc : a.off + cap * esz ≤ m) (h1 : k ≤ h) (h2 : h ≤ cap) (hn : n = h - k) :
  VR μ (mkSlice a k n esz) (.slice (if cap = k then some ⟨blk, a.off, none⟩ else some ((⟨blk, a.off, none⟩ : Addr).add (k * esz))) n (cap - k)) := by
 unfold mkSlice
 split
 ·by_cases hck : cap = k
  ·rw [if_pos hck]; exact ⟨_, _, rfl⟩
  ·rw [if_neg hck]; exact ⟨_, _, rfl⟩
 ·rename_i n'
  rw [if_neg (by omega), add_addr]
  refine ⟨blk, m, cap - k, hm, rfl, by omega, ?_⟩
  have : k * esz + (cap - k) * esz = cap * esz := by rw [← Nat.add_mul]; congr 1; omega
  show a.off + k * esz + (cap - k) * esz ≤ m
  omega
theorem slice_sound {t : TypeId} {x v : AV} {lo hi : Option AV} {x' : Value} {lo' hi' : Option Value} (h : sliceO P t x lo hi = some v) (hx : VR μ x x')
  (hlo : OR μ lo lo') (hhi : OR μ hi hi') :
  ∃ v', VR μ v v' ∧ ∀ w, (Instr.sliceAt t x' lo' hi' none).run P w = .ok v' w := by
 unfold sliceO at h
 split at h
 ·rename_i l hu
  split at h
  ·rename_i n hn
   split at h
   ·rename_i k hk
    split at h
    ·rename_i hc
     simp only [Bool.and_eq_true, ble_iff] at hc
     simp at h; subst h
     rw [str_inv hx]
     have hb := bounds_run (P := P) (sl := false) (len := l.length) (cap := l.length) (bnd_sound hn hhi) (bnd_sound hk hlo) hc.1 hc.2
     have hsz : (⟨l.toArray⟩ : ByteArray).size = l.length := by simp [ByteArray.size]
     refine ⟨.string ⟨((l.drop k).take (n - k)).toArray⟩, rfl, fun w => ?_⟩
     have hex : (⟨l.toArray⟩ : ByteArray).extract k n = ⟨((l.drop k).take (n - k)).toArray⟩ := by
      apply ByteArray.ext
      simp [ByteArray.data_extract]
     simp [Instr.sliceAt, Instr.slice, run_underlying hu, hsz, hb, hex]
    ·cases h
   ·cases h
  ·cases h
 ·rename_i e hu
  split at h
  ·cases h
  ·rename_i z hs
   split at h
   ·rename_i a n esz
    split at h
    ·rename_i hh kk hn hk
     split at h
     ·rename_i hc
      simp only [Bool.and_eq_true, ble_iff] at hc
      obtain ⟨hz, h1, h2⟩ := hc
      have hz := Nat.eq_of_beq_eq_true hz
      subst hz
      simp at h; subst h
      obtain ⟨blk, m, cap, hm, rfl, hle, hcap⟩ := hx
      have hb := bounds_run (P := P) (sl := true) (len := n) (cap := cap) (bnd_sound hn hhi) (bnd_sound hk hlo) h1 (by omega)
      refine ⟨_, mkSlice_vr hm hcap h1 (by omega) rfl, fun w => ?_⟩
      simp only [Instr.sliceAt, Instr.slice, Sem.run_bind, run_underlying hu, Result.andThen_ok, hb, size_run hs, Sem.run_pure]
      congr 2
     ·cases h
    ·cases h
   ·split at h
    ·rename_i hn hk
     simp at h; subst h
     have hx : x' = _ := hx
     subst hx
     have hb := bounds_run (P := P) (sl := true) (len := 0) (cap := 0) (bnd_sound hn hhi) (bnd_sound hk hlo) (Nat.le_refl _) (Nat.le_refl _)
     exact ⟨_, rfl, fun w => by simp [Instr.sliceAt, Instr.slice, run_underlying hu, hb, size_run hs]⟩
    ·cases h
   ·split at h
    ·rename_i hn hk
     simp at h; subst h
     obtain ⟨a, cap, rfl⟩ := hx
     have hb := bounds_run (P := P) (sl := true) (len := 0) (cap := cap) (bnd_sound hn hhi) (bnd_sound hk hlo) (Nat.le_refl _) (Nat.zero_le _)
     refine ⟨.slice (some (if cap = 0 then a else a.add (0 * z))) 0 (cap - 0), ⟨_, _, rfl⟩, fun w => ?_⟩
     simp only [Instr.sliceAt, Instr.slice, Sem.run_bind, run_underlying hu, Result.andThen_ok, hb, size_run hs, Sem.run_pure]
     congr 2
     split <;> rfl
    ·cases h
   ·cases h
 ·cases h
end
end Go.AM
/-
  Structs and arrays that are built; loads, stores and new memory.
-/
namespace Go.AM
open Go Go.RowKit
section
variable {base : Nat} {μ : Mp} {P : Program} {w : World} {s s' : St}
theorem foldl_spl (off : Nat) : ∀ (vs : List Value) (k : Nat) (cs : Array Value), off + k + vs.length ≤ cs.size →
  ((vs.zipIdx k).foldl (fun cs p => cs.setIfInBounds (off + p.2) p.1) cs).toList = spl cs.toList (off + k) vs
 | [], k, cs, _ => by simp [spl_nil]
 | v :: r, k, cs, h => by
  simp only [List.zipIdx_cons, List.foldl_cons]
  rw [foldl_spl off r (k + 1) _ (by simp at h ⊢; omega), spl_cons _ _ _ _ (by simp at h ⊢; omega)]
  simp [Nat.add_assoc]
theorem fill_step (off : Nat) (vs cs : List Value) (h : off + vs.length ≤ cs.length) :
  vs.toArray.zipIdx.foldl (fun cs (p : Value × Nat) => cs.setIfInBounds (off + p.2) p.1) cs.toArray = (spl cs off vs).toArray := by
 apply Array.ext'
 rw [← Array.foldl_toList]
 have := foldl_spl off vs 0 cs.toArray (by simpa using h)
 simpa using this
def PR (μ : Mp) : List (Nat × AV) → List (Nat × Value) → Prop := LR fun p q => p.1 = q.1 ∧ VR μ p.2 q.2
theorem fill_sound {place : Nat → Option (Nat × Nat)} : ∀ {parts : List (Nat × AV)} {cells r : List AV} {cs : List Value} {parts' : List (Nat × Value)}, fillO place cells parts = some r → LR (CR μ) cells cs → PR μ parts parts' →
  ∃ rs, Instr.fill place cs.toArray parts' = some rs.toArray ∧ LR (CR μ) r rs
 | [], cells, r, cs, parts', h, hc, hp => by
  have := hp.nil_left
  subst this
  simp [fillO] at h
  subst h
  exact ⟨cs, rfl, hc⟩
 | (i, v) :: rest, cells, r, cs, parts', h, hc, hp => by
  obtain ⟨⟨i', v'⟩, parts2, rfl, ⟨hi, hv⟩, hp2⟩ := hp.cons_left
  have hi : i = i' := hi
  subst hi
  simp only [fillO] at h
  split at h
  ·rename_i off size vs hpl hcl
   split at h
   ·rename_i hcond
    simp only [Bool.and_eq_true, ble_iff] at hcond
    have hsz := Nat.eq_of_beq_eq_true hcond.1
    obtain ⟨us, hus, hcv⟩ := cells_sound hcl hv
    have hlu := hus.length
    have hlc := hc.length
    obtain ⟨rs, h1, h2⟩ := fill_sound h (hc.spl off hus) hp2
    refine ⟨rs, ?_, h2⟩
    simp only [Instr.fill, hpl, hcv]
    have hn : (decide (us.toArray.size ≠ size) || decide (off + us.toArray.size > cs.toArray.size)) = false := by simp; omega
    rw [if_neg (by simpa using hn)]
    rw [fill_step off us cs (by omega)]
    exact h1
   ·cases h
  ·cases h
theorem mapM_places : ∀ (fs : List Field) (ps : List (Nat × Nat)), mapO (fun f => (sizeT P f.type).map fun n => (f.offset, n)) fs = some ps →
  ∀ w, (fs.mapM (fun f => do pure (f.offset, ← sizeOf f.type)) : Sem (List (Nat × Nat))).run P w = .ok ps w
 | [], ps, h, w => by simp [mapO] at h; subst h; simp
 | f :: fs, ps, h, w => by
  simp only [mapO] at h
  cases h1 : sizeT P f.type with
  | none => simp [h1] at h
  | some n =>
   simp only [h1, Option.map_some] at h
   cases h2 : mapO (fun f => (sizeT P f.type).map fun n => (f.offset, n)) fs with
   | none => simp [h2] at h
   | some qs =>
    simp [h2] at h
    subst h
    have ih := mapM_places fs qs h2
    rw [List.mapM_cons]
    simp only [Sem.run_bind, size_run h1, Result.andThen_ok, Sem.run_pure, ih]
theorem build_sound {t : TypeId} {parts : List (Nat × AV)} {v : AV} {parts' : List (Nat × Value)} (h : buildO P t parts = some v) (hp : PR μ parts parts') :
  ∃ v', VR μ v v' ∧ ∀ w, (Instr.build t parts'.toArray).run P w = .ok v' w := by
 unfold buildO at h
 split at h
 ·rename_i zero hz
  obtain ⟨i, z, hi, hiz, hv⟩ := zero_sound (μ := μ) hz
  obtain ⟨zs, hzs, rfl⟩ := hv
  have hzv : ∀ w, (zeroValue t).run P w = .ok (.agg zs.toArray) w := fun w => by simp [zeroValue, typeInfo, hi, hiz]
  split at h
  ·rename_i fields hu
   split at h
   ·rename_i places hpl
    split at h
    ·rename_i cs hf
     simp at h; subst h
     obtain ⟨rs, h1, h2⟩ := fill_sound hf hzs hp
     refine ⟨.agg rs.toArray, ⟨rs, h2, rfl⟩, fun w => ?_⟩
     have hm := mapM_places _ _ hpl
     simp only [Instr.build, Sem.run_bind, hzv, Result.andThen_ok, run_underlying hu, Array.mapM_eq_mapM_toList, Sem.run_map, hm]
     simp [Value.cells, h1]
    ·cases h
   ·cases h
  ·rename_i n e hu
   split at h
   ·rename_i size hs
    split at h
    ·rename_i cs hf
     simp at h; subst h
     obtain ⟨rs, h1, h2⟩ := fill_sound hf hzs hp
     refine ⟨.agg rs.toArray, ⟨rs, h2, rfl⟩, fun w => ?_⟩
     simp [Instr.build, hzv, run_underlying hu, size_run hs, Value.cells, h1]
    ·cases h
   ·cases h
  ·cases h
 ·cases h
/-! memory -/
theorem load_sound (hr : Rel base μ s.hp w) {t : TypeId} {a : AA} {v : AV} (h : loadT P s t a = some v) {c : Addr} (hc : AR μ a c) : ∃ v', V1 μ v v' ∧ (loadVar t c).run P w = .ok v' w := by
 unfold loadT at h
 split at h
 ·rename_i n h1 h2
  split at h
  ·rename_i l hl
   simp at h; subst h
   obtain ⟨vs, hv, hn, hcell⟩ := read_cells hr hl hc
   have hlen := hv.length
   have hrun := run_loadCells_list (P := P) w c vs hcell
   rw [show vs.length = n by omega] at hrun
   exact ⟨.agg vs.toArray, ⟨vs, hv, rfl⟩, by simp [loadVar, agg_run h1, size_run h2, hrun]⟩
  ·cases h
 ·rename_i h1
  split at h
  ·rename_i v0 hl
   simp at h; subst h
   obtain ⟨vs, hv, hn, hcell⟩ := read_cells hr hl hc
   obtain ⟨u, us, rfl, hu, hus⟩ := hv.cons_left
   have h0 := hcell 0 u (by simp)
   have ha : c.add 0 = c := by simp [Addr.add]
   rw [ha] at h0
   exact ⟨u, hu.v1, by simp [loadVar, agg_run h1, h0]⟩
  ·cases h
 ·cases h
theorem store_sound (hi : Inv base μ s w) {t : TypeId} {a : AA} {v : AV} (h : storeT P s t a v = some s') {c : Addr} (hc : AR μ a c) {v' : Value} (hv : VR μ v v') :
  ∃ w', (storeVar t c v').run P w = .ok () w' ∧ Stp base μ μ s s' w w' ∧ s'.gl = s.gl ∧ s'.gl = s.gl := by
 unfold storeT at h
 split at h
 ·rename_i l n hl hs
  split at h
  ·rename_i hn
   have hn := Nat.eq_of_beq_eq_true hn
   obtain ⟨vs, hvs, hcv⟩ := cells_sound hl hv
   have hlen := hvs.length
   obtain ⟨w', h1, h2⟩ := write_cells (P := P) hi h hc hvs
   refine ⟨w', ?_, h2⟩
   have hz : vs.length = n := by omega
   simp [storeVar, hcv, size_run hs, hz, h1]
  ·cases h
 ·cases h
theorem new_sound (hi : Inv base μ s w) (elem : TypeId) (cells : List AV) (vs : List Value) (hv : LR (CR μ) cells vs) :
  VR (μ.put s.nx 0 (w.heap.size, vs.length)) (.ptr (newRow s elem cells).1) (.pointer (some ⟨w.heap.size, 0, none⟩)) ∧
  Stp base μ (μ.put s.nx 0 (w.heap.size, vs.length)) s (newRow s elem cells).2 w (w.alloc (.cells vs.toArray elem)) := by
 have hl := hv.length
 have h := Stp.alloc hi elem cells false vs.toArray (0, 0) (by simp; omega) (by rw [List.take_of_length_le (by simp; omega)]; exact hv) (by simp) (by simp)
 refine ⟨⟨⟨w.heap.size, 0, none⟩, ⟨w.heap.size, vs.length, Mp.put_same _ _ _ _, rfl⟩, rfl⟩, ?_⟩
 simpa using h
end
end Go.AM
/-
  Bytes and strings, slices that are made, conversions, append and copy.
-/
namespace Go.AM
open Go Go.RowKit
section
variable {base : Nat} {μ : Mp} {P : Program} {w : World} {s s' : St}
theorem bytes_sound : ∀ {cs : List AV} {l : List UInt8} {vs : List Value}, bytesO cs = some l → LR (CR μ) cs vs → vs = l.map fun b => Value.int .u8 b.toNat
 | [], l, vs, h, hv => by
  simp [bytesO] at h; subst h
  rw [hv.nil_left]; rfl
 | c :: cs, l, vs, h, hv => by
  obtain ⟨v, vs', rfl, h1, h2⟩ := hv.cons_left
  unfold bytesO at h
  split at h
  ·rename_i heq; cases heq
  ·rename_i n r heq
   injection heq with e1 e2
   subst e1; subst e2
   split at h
   ·rename_i hn
    have hn : 0 ≤ n ∧ n < 256 := by simpa using hn
    split at h
    ·rename_i l' hl'
     simp at h; subst h
     have := bytes_sound hl' h2
     subst this
     have hv : v = .int .u8 n := h1
     subst hv
     simp only [List.map_cons, List.cons.injEq, and_true]
     congr 1
     simp
     omega
    ·cases h
   ·cases h
  ·cases h
theorem ofBytes_rel (l : List UInt8) : LR (CR μ) (ofBytes l) (l.map fun b => Value.int .u8 b.toNat) := by
 induction l with
 | nil => trivial
 | cons b l ih => exact ⟨rfl, ih⟩
theorem foldl_bytes : ∀ (l acc : List UInt8), (l.map fun b => (b.toNat : Int)).foldl (fun (r : ByteArray) n => r.push (UInt8.ofNat n.toNat)) ⟨acc.toArray⟩ = ⟨(acc ++ l).toArray⟩
 | [], acc => by simp
 | b :: l, acc => by
  simp only [List.map_cons, List.foldl_cons]
  have : (⟨acc.toArray⟩ : ByteArray).push (UInt8.ofNat (b.toNat : Int).toNat) = ⟨(acc ++ [b]).toArray⟩ := by
   apply ByteArray.ext
   simp [ByteArray.push]
  rw [this, foldl_bytes l (acc ++ [b])]
  simp
theorem bytesToString_run {a : Addr} {l : List UInt8} {cap : Nat} (h : ∀ j v, (l.map fun b => Value.int .u8 b.toNat)[j]? = some v → w.cell? (a.add j) = some v) :
  (Conv.bytesToString (.slice (some a) l.length cap)).run P w = .ok (.string ⟨l.toArray⟩) w := by
 have h1 := run_loadCells_list (P := P) w a (l.map fun b => Value.int .u8 b.toNat) h
 have h2 : (l.map fun b => Value.int .u8 b.toNat) = (l.map fun b => (b.toNat : Int)).map (Value.int .u8) := by simp
 rw [h2] at h1
 simp only [List.length_map] at h1
 rw [run_bytesToString w a l.length cap _ h1]
 have := foldl_bytes l []
 simp only [List.nil_append] at this
 congr 2
/-! rows of zeros -/
theorem reps_get (zs : List AV) : ∀ (n i : Nat), i < n * zs.length → (reps zs n)[i]? = zs[i % zs.length]?
 | 0, i, h => by simp at h
 | n + 1, i, h => by
  simp only [reps]
  by_cases hi : i < zs.length
  ·rw [List.getElem?_append_left hi, Nat.mod_eq_of_lt hi]
  ·have h' : (n + 1) * zs.length = n * zs.length + zs.length := Nat.succ_mul _ _
   rw [List.getElem?_append_right (by omega), reps_get zs n _ (by omega)]
   congr 1
   exact (Nat.mod_eq_sub_mod (by omega)).symm
theorem reps_length (zs : List AV) : ∀ n, (reps zs n).length = n * zs.length
 | 0 => by simp [reps]
 | n + 1 => by simp [reps, reps_length zs n, Nat.succ_mul, Nat.add_comm]
theorem reps_rel {zs : List AV} {vs : List Value} (hv : LR (CR μ) zs vs) (n : Nat) :
  LR (CR μ) (reps zs n) (madeCells vs.toArray (n * zs.length)).toList := by
 have hl := hv.length
 apply LR.of_get
 ·simp [reps_length, madeCells]
 ·intro i x y hx hy
  have hlt : i < n * zs.length := by
   rcases Nat.lt_or_ge i (n * zs.length) with h | h
   ·exact h
   ·rw [List.getElem?_eq_none (by simp [madeCells]; omega)] at hy; cases hy
  rw [reps_get zs n i hlt] at hx
  obtain ⟨v, h1, h2⟩ := hv.get _ _ hx
  have : y = v := by
   simp [hlt, madeCells] at hy
   rw [← hl] at hy
   rw [← hy, h1]
   rfl
  rw [this]; exact h2
theorem zeros_sound {e : TypeId} {size n : Nat} {zs : List AV} (h : zerosOf P e size n = some zs) :
  ∃ (i : TypeInfo) (z : Value) (vs : List Value), P.info? e = some i ∧ i.zero = some z ∧ z.cells = vs.toArray ∧ vs.length = size ∧
   LR (CR μ) zs (madeCells z.cells (n * size)).toList := by
 unfold zerosOf at h
 split at h
 ·cases h
 ·rename_i x hx
  obtain ⟨i, z, h1, h2, h3⟩ := zero_sound (μ := μ) hx
  split at h
  ·rename_i cs hc
   split at h
   ·rename_i hn
    have hn := Nat.eq_of_beq_eq_true hn
    simp at h; subst h
    obtain ⟨vs, h4, h5⟩ := cells_sound hc h3.vr
    have := h4.length
    refine ⟨i, z, vs, h1, h2, h5, by omega, ?_⟩
    rw [← hn, h5]
    exact reps_rel h4 n
   ·cases h
  ·cases h
theorem buildSlice_sound (hi : Inv base μ s w) {t e : TypeId} {n size : Nat} {zs cs : List AV} {parts : List (Nat × AV)} {parts' : List (Nat × Value)} (hu : P.underlying t = some (.slice e)) (hs : sizeT P e = some size)
  (hn : n * size ≤ 16777216) (hz : zerosOf P e size n = some zs) (hf : fillO (fun i => some (i * size, size)) zs parts = some cs) (hp : PR μ parts parts') :
  ∃ v' w' μ', (Instr.buildSlice t n parts'.toArray).run P w = .ok v' w' ∧ VR μ' (.slice (newRow s e cs).1 n size) v' ∧ Stp base μ μ' s (newRow s e cs).2 w w' := by
 obtain ⟨i, z, vs, h1, h2, h3, h4, h5⟩ := zeros_sound (μ := μ) hz
 obtain ⟨rs, h6, h7⟩ := fill_sound hf h5 hp
 have hlen : cs.length = n * size := by
  have : ∀ {parts : List (Nat × AV)} {a b : List AV}, fillO (fun i => some (i * size, size)) a parts = some b → b.length = a.length := by
   intro parts
   induction parts with
   | nil => intro a b h; simp [fillO] at h; rw [h]
   | cons p r ih =>
    intro a b h
    obtain ⟨j, v⟩ := p
    simp only [fillO] at h
    split at h
    ·rename_i off sz us hpl hcl
     split at h
     ·rename_i hcond
      simp only [Bool.and_eq_true, ble_iff] at hcond
      rw [ih h, splice_eq, spl_length _ _ _ hcond.2]
     ·cases h
    ·cases h
  rw [this hf, h5.length]
  simp [madeCells]
 have hrl := h7.length
 have hnew := new_sound hi e cs rs h7
 refine ⟨.slice (some ⟨w.heap.size, 0, none⟩) n n, w.alloc (.cells rs.toArray e), _, ?_, ?_, hnew.2⟩
 ·have hno : ¬ (n * size > 2 ^ 24) := by omega
  have hzv : ∀ w, (zeroValue e).run P w = .ok z w := fun w => by simp [zeroValue, typeInfo, h1, h2]
  have h6a : Instr.fill (fun i => some (i * size, size)) (madeCells z.cells (n * size)) parts' = some rs.toArray := by simpa using h6
  unfold madeCells at h6a
  by_cases h0 : n * size = 0
  ·rw [h0] at h6a
   have h6b : Instr.fill (fun i => some (i * size, size)) ((Array.range (n * size)).map fun i => (#[] : Array Value)[i % (#[] : Array Value).size]!) parts' = some rs.toArray := by
    rw [h0]
    rw [Array.range_zero', Array.map_empty] at h6a ⊢
    exact h6a
   simp only [Instr.buildSlice, Sem.run_bind, run_underlying hu, Result.andThen_ok, size_run hs, if_neg hno, Sem.run_pure, if_pos h0, h6b]
   rfl
  ·simp only [Instr.buildSlice, Sem.run_bind, run_underlying hu, Result.andThen_ok, size_run hs, if_neg hno, Sem.run_pure, if_neg h0, hzv, h6a]
   rfl
 ·exact ⟨w.heap.size, rs.length, n, Mp.put_same _ _ _ _, rfl, Nat.le_refl _, by show 0 + n * size ≤ rs.length; omega⟩
theorem makeSlice_run {t e : TypeId} {i : TypeInfo} {z : Value} {l c : Nat} {k1 k2 : IntKind} (hu : P.underlying t = some (.slice e)) (h1 : P.info? e = some i) (h2 : i.zero = some z)
  (hlc : l ≤ c) (hb : c * i.bytes ≤ 1000000000) (hc : c ≤ 1000000000) :
  (Instr.makeSlice t (.int k1 (l : Int)) (.int k2 (c : Int))).run P w = .ok (.slice (some ⟨w.heap.size, 0, none⟩) l c) (w.alloc (.cells (madeCells z.cells (c * i.size)) e)) := by
 have hcb : (i.bytes : Int) * (c : Int) ≤ 1000000000 := by
  have : ((c * i.bytes : Nat) : Int) ≤ 1000000000 := by omega
  rwa [Int.natCast_mul, Int.mul_comm] at this
 have := run_make (P := P) w t e i z hu h1 h2 k1 k2 l c (by omega) (by omega) (by omega) (by omega)
 simpa using this
theorem toBytes_sound (hi : Inv base μ s w) {src dst e : TypeId} {d : TypeDesc} (l : List UInt8) (hs : P.underlying src = some d) (hd : P.underlying dst = some (.slice e)) (he : P.underlying e = some (.int .u8)) :
  ∃ v' w' μ', (convert src dst (.string ⟨l.toArray⟩)).run P w = .ok v' w' ∧ VR μ' (.slice (newRow s e (ofBytes l) true).1 l.length 1) v' ∧ Stp base μ μ' s (newRow s e (ofBytes l) true).2 w w' := by
 have hsz : (⟨l.toArray⟩ : ByteArray).size = l.length := by simp [ByteArray.size]
 have hrun := Lib.run_convert_string_bytes (P := P) w src dst e ⟨l.toArray⟩ hs hd he
 rw [hsz] at hrun
 have hcap : l.length ≤ grownCap w l.length 0 e := by
  unfold grownCap Question.cut
  simp
 have hcs : (Lib.bytesCells w e ⟨l.toArray⟩).toList = (l.map fun b => Value.int .u8 b.toNat) ++ List.replicate (grownCap w l.length 0 e - l.length) (.int .u8 0) := by
  simp [Lib.bytesCells, hsz]
 have hcsz : (Lib.bytesCells w e ⟨l.toArray⟩).size = grownCap w l.length 0 e := by
  rw [← Array.length_toList, hcs]
  simp
  omega
 have hol : (ofBytes l).length = l.length := by simp [ofBytes]
 have hstp := Stp.alloc hi e (ofBytes l) true (Lib.bytesCells w e ⟨l.toArray⟩) ((Lib.bytesCells w e ⟨l.toArray⟩).size, (Lib.bytesCells w e ⟨l.toArray⟩).size + 1)
  (by omega) (by
   rw [hol, hcs, List.take_left' (by simp)]
   exact ofBytes_rel l) (fun i hi => by simp; omega) (by simp)
 refine ⟨_, _, μ.put s.nx 0 (w.heap.size, (Lib.bytesCells w e ⟨l.toArray⟩).size), hrun, ?_, ?_⟩
 ·exact ⟨w.heap.size, _, _, Mp.put_same _ _ _ _, rfl, hcap, by show 0 + _ * 1 ≤ _; omega⟩
 ·refine hstp.heap ?_ rfl rfl rfl
  unfold Lib.bytesWorld
  apply Array.ext_getElem?
  intro j
  have hpush : (w.drew.alloc (.cells (Lib.bytesCells w e ⟨l.toArray⟩) e)).heap = w.heap.push (.cells (Lib.bytesCells w e ⟨l.toArray⟩) e) := rfl
  have hpush2 : (w.alloc (.cells (Lib.bytesCells w e ⟨l.toArray⟩) e ((Lib.bytesCells w e ⟨l.toArray⟩).size, (Lib.bytesCells w e ⟨l.toArray⟩).size + 1))).heap = w.heap.push (.cells (Lib.bytesCells w e ⟨l.toArray⟩) e ((Lib.bytesCells w e ⟨l.toArray⟩).size, (Lib.bytesCells w e ⟨l.toArray⟩).size + 1)) := rfl
  rw [hpush2]
  simp only [World.freeze, Nat.one_ne_zero, if_false]
  rw [hpush, Array.getElem?_modify]
  by_cases hj : j = w.heap.size
  ·subst hj
   simp
  ·have hj' : w.heap.size ≠ j := fun h => hj h.symm
   simp [Array.getElem?_push, hj, hj']
end
end Go.AM
/-
  Conversions, append, copy and the other built-in functions.
-/
namespace Go.AM
open Go Go.RowKit
section
variable {base : Nat} {μ : Mp} {P : Program} {w : World} {s s' : St}
theorem shape_of_heap {w : World} {b : Nat} {cs : Array Value} {e : TypeId} {fz : Nat × Nat} (h : w.heap[b]? = some (.cells cs e fz)) : w.shape? b = some (e, cs.size) := by
 simp [World.shape?, h]
theorem seenAt_run {blk off : Nat} {x : TypeId × Nat} (h : w.shape? blk = some x) : (Conv.seenAt ⟨blk, off, none⟩).run P w = .ok ⟨blk, off, none⟩ w := by
 simp [Conv.seenAt, viewAt, h]
theorem conv_sound (hi : Inv base μ s w) {src dst : TypeId} {x v : AV} {x' : Value} (h : convO P s src dst x = some (v, s')) (hx : VR μ x x') :
  (∃ v' w' μ', (convert src dst x').run P w = .ok v' w' ∧ VR μ' v v' ∧ Stp base μ μ' s s' w w') ∧ s'.gl = s.gl ∧ s'.gl = s.gl := by
 unfold convO at h
 split at h
 ·rename_i d k k' n hs hd
  simp at h; obtain ⟨rfl, rfl⟩ := h
  rw [int_inv hx]
  exact ⟨⟨_, w, μ, by simp [convert, run_underlying hs, run_underlying hd, Conv.intToInt], rfl, Stp.refl hi⟩, rfl, rfl⟩
 ·rename_i d k n hs hd
  simp at h; obtain ⟨rfl, rfl⟩ := h
  rw [int_inv hx]
  exact ⟨⟨.string (Utf8.encode n), w, μ, by simp [convert, run_underlying hs, run_underlying hd, Conv.intToString], by show _ = _; simp, Stp.refl hi⟩, rfl, rfl⟩
 ·rename_i d l hs hd
  simp at h; obtain ⟨rfl, rfl⟩ := h
  rw [str_inv hx]
  exact ⟨⟨_, w, μ, by simp [convert, run_underlying hs, run_underlying hd], rfl, Stp.refl hi⟩, rfl, rfl⟩
 ·rename_i d e l hs hd
  split at h
  ·rename_i he
   simp at h; obtain ⟨rfl, rfl⟩ := h
   rw [str_inv hx]
   exact ⟨toBytes_sound hi l hs hd he, rfl, rfl⟩
  ·cases h
 ·rename_i x e hs hd _ _
  split at h
  ·rename_i he
   split at h
   ·simp at h; obtain ⟨rfl, rfl⟩ := h
    have hx : x' = _ := hx
    subst hx
    exact ⟨⟨.string .empty, w, μ, by simp [convert, run_underlying hs, run_underlying hd, run_underlying he, Conv.bytesToString], rfl, Stp.refl hi⟩, rfl, rfl⟩
   ·simp at h; obtain ⟨rfl, rfl⟩ := h
    obtain ⟨a, cap, rfl⟩ := hx
    refine ⟨⟨.string ⟨([] : List UInt8).toArray⟩, w, μ, ?_, rfl, Stp.refl hi⟩, rfl, rfl⟩
    rw [run_convert_bytes_string w src dst e _ _ _ hs he hd]
    have := bytesToString_run (P := P) (w := w) (a := a) (l := []) (cap := cap) (by simp)
    simpa using this
   ·rename_i a n _ _
    split at h
    ·rename_i cs hc
     split at h
     ·rename_i l hl
      simp at h; obtain ⟨rfl, rfl⟩ := h
      obtain ⟨blk, m, cap, hm, rfl, _⟩ := hx
      obtain ⟨vs, hv, hn, hcell⟩ := read_cells hi.rel hc ⟨blk, m, hm, rfl⟩
      have hb := bytes_sound hl hv
      subst hb
      have hln := hv.length
      simp at hln
      refine ⟨⟨.string ⟨l.toArray⟩, w, μ, ?_, rfl, Stp.refl hi⟩, rfl, rfl⟩
      rw [run_convert_bytes_string w src dst e _ _ _ hs he hd, show n = l.length by omega]
      exact bytesToString_run hcell
     ·cases h
    ·cases h
   ·cases h
  ·cases h
 ·rename_i t a hs hd
  split at h
  ·rename_i n xs hz hr
   simp at h; obtain ⟨rfl, rfl⟩ := h
   obtain ⟨c, hc, rfl⟩ := hx
   obtain ⟨vs, hv, hn, hcell⟩ := read_cells hi.rel hr hc
   obtain ⟨blk, m, hm, rfl⟩ := hc
   obtain ⟨r, hg, hrow⟩ := hi.rel.row _ _ _ _ hm
   obtain ⟨cs, fz, hh, hsz, _⟩ := hrow.at_
   refine ⟨⟨_, w, μ, ?_, ⟨_, ⟨blk, m, hm, rfl⟩, rfl⟩, Stp.refl hi⟩, rfl, rfl⟩
   have hsh := shape_of_heap hh
   have hlt : a.off < cs.size := by
    have h0 : ∃ v, vs[0]? = some v := by
     cases vs with
     | nil => have := hv.length; simp only [List.length_nil] at this; omega
     | cons v _ => exact ⟨v, rfl⟩
    obtain ⟨v, h0⟩ := h0
    have := hcell 0 v h0
    rw [add_addr, cell_of_heap hh] at this
    have := (Array.getElem?_eq_some_iff.1 this).1
    omega
   have hlt' : ¬ (cs.size ≤ a.off) := by omega
   simp [convert, run_underlying hs, run_underlying hd, Conv.unsafePointer, seenAt_run hsh, cellsIn, hsh, size_run hz, hlt']
  ·cases h
 ·rename_i u a hs hd
  split at h
  ·rename_i r hg
   split at h
   ·rename_i n hz hcond
    split at h
    ·rename_i hlen
     simp at h; obtain ⟨rfl, rfl⟩ := h
     simp only [Bool.and_eq_true] at hcond
     obtain ⟨h1, h2, h3, h4⟩ := hcond
     have h1 := Nat.eq_of_beq_eq_true h1
     have h2 := Nat.eq_of_beq_eq_true h2
     have h3 := Nat.eq_of_beq_eq_true h3
     have h4 := Nat.eq_of_beq_eq_true h4
     have hlen := Nat.eq_of_beq_eq_true hlen
     obtain ⟨c, ⟨blk, m, hm, rfl⟩, rfl⟩ := hx
     obtain ⟨r', hg', hrow⟩ := hi.rel.row _ _ _ _ hm
     rw [hg] at hg'
     injection hg' with hg'
     subst hg'
     obtain ⟨cs, fz, hh, hsz, hex, _⟩ := hrow.at_
     have hsh := shape_of_heap hh
     have hle := (hex r.len (by rw [h3, ← h4]; exact extent_gen hrow.gens)).1
     refine ⟨⟨_, w, μ, ?_, ⟨_, ⟨blk, m, hm, rfl⟩, rfl⟩, Stp.refl hi⟩, rfl, rfl⟩
     have hcu : P.cellsOf r.elem = n + 1 := by
      rw [h1]
      unfold sizeT at hz
      unfold Program.cellsOf
      rw [hz]; rfl
     have hsame : sameLayout P P.depth r.elem u = true := by
      rw [h1]
      unfold Program.depth sameLayout
      simp
     have hcnt : 0 + 1 ≤ cs.size / (n + 1) := by
      have : n + 1 ≤ cs.size := by omega
      have := Nat.div_pos this (by omega)
      omega
     have hrow1 : Go.rowAt P (sameLayout P P.depth · u) P.depth r.elem (cs.size / (n + 1)) 0 1 = true := by
      have hd : P.depth = (2 * (P.types.size + Made.depth) + 1) + 1 := rfl
      rw [hd]
      unfold Go.rowAt
      rw [hcu, ← hd]
      simp [hsame]
      exact .inl (by omega)
     have hlies : liesAt P P.depth r.elem (cs.size / (n + 1)) 0 u 1 = true := by
      have hd : P.depth = (2 * (P.types.size + Made.depth) + 1) + 1 := rfl
      rw [hd]
      unfold liesAt
      rw [hrow1]
      rfl
     simp [convert, run_underlying hs, run_underlying hd, Conv.unsafePointer, seenAt_run hsh, hsh, size_run hz, variablesAt, hcu, h2, hlies]
    ·cases h
   ·cases h
  ·cases h
 ·cases h
end
end Go.AM
/-
  append, copy and the other built-in functions.
-/
namespace Go.AM
open Go Go.RowKit
section
variable {base : Nat} {μ : Mp} {P : Program} {w : World} {s s' : St}
theorem src_sound (hr : Rel base μ s.hp w) {xt : TypeId} {size m : Nat} {y : AV} {y' : Value} {cs : List AV} (hk : isSliceOrStr P xt = true) (h : srcCells s size y = some (m, cs)) (hy : VR μ y y') :
  ∃ news, LR (CR μ) cs news ∧ Src P size xt y' m news w := by
 have hkind : (∃ e', P.underlying xt = some (.slice e')) ∨ P.underlying xt = some .string := by
  unfold isSliceOrStr at hk
  split at hk
  ·rename_i e hu; exact .inl ⟨e, hu⟩
  ·rename_i hu; exact .inr hu
  ·cases hk
 unfold srcCells at h
 split at h
 ·rename_i l
  split at h
  ·rename_i hs
   have hs := Nat.eq_of_beq_eq_true hs
   subst hs
   simp at h; obtain ⟨rfl, rfl⟩ := h
   rw [str_inv hy]
   have hsz : (⟨l.toArray⟩ : ByteArray).size = l.length := by simp [ByteArray.size]
   have hbc : byteCells ⟨l.toArray⟩ = l.map fun b => Value.int .u8 b.toNat := rfl
   have hfc : ∀ w', (Builtin.firstCells 1 l.length (.string ⟨l.toArray⟩)).run P w' = .ok (l.map fun b => Value.int .u8 b.toNat).toArray w' := fun w' => by
    have := firstCells_string (P := P) ⟨l.toArray⟩ w'
    rw [hsz, hbc] at this
    exact this
   refine ⟨l.map fun b => Value.int .u8 b.toNat, ofBytes_rel l, hkind, fun w' => by simp [Builtin.lenOf, hsz], hfc w, hfc w.drew, by simp, ?_⟩
   intro u hu
   obtain ⟨b, _, rfl⟩ := List.mem_map.1 hu
   rfl
  ·cases h
 ·simp at h; obtain ⟨rfl, rfl⟩ := h
  have hy : y' = _ := hy
  subst hy
  exact ⟨[], trivial, hkind, fun _ => rfl, run_firstCells_none w size 0 0 0, run_firstCells_none w.drew size 0 0 0, by simp, by simp⟩
 ·simp at h; obtain ⟨rfl, rfl⟩ := h
  obtain ⟨a, cap, rfl⟩ := hy
  exact ⟨[], trivial, hkind, fun _ => rfl, by simp [Builtin.firstCells, loadCells, loadCellsFrom], by simp [Builtin.firstCells, loadCells, loadCellsFrom], by simp, by simp⟩
 ·rename_i a n e
  split at h
  ·rename_i hs
   have hs := Nat.eq_of_beq_eq_true hs
   subst hs
   split at h
   ·rename_i cs' hc
    simp at h; obtain ⟨rfl, rfl⟩ := h
    obtain ⟨blk, k, cap, hm, rfl, _⟩ := hy
    obtain ⟨vs, hv, hn, hcell⟩ := read_cells hr hc ⟨blk, k, hm, rfl⟩
    have hl := hv.length
    exact ⟨vs, hv, hkind, fun _ => rfl, run_firstCells_some w e n _ n cap vs (by omega) hcell, run_firstCells_some w.drew e n _ n cap vs (by omega) (by simpa using hcell), by omega, hv.oneCell⟩
   ·cases h
  ·cases h
 ·cases h
theorem grownCap_ge (w : World) (need old : Nat) (e : TypeId) : need ≤ grownCap w need old e := by
 unfold grownCap Question.cut
 simp
theorem grow_size {z : Value} {zs : List Value} (hz : z.cells = zs.toArray) (olds : List Value) (k : Nat) : (olds.toArray ++ Builtin.zeroCells z.cells k).size = olds.length + k * zs.length := by
 simp [Builtin.zeroCells, hz]
theorem append_sound (hi : Inv base μ s w) {t xt ty : TypeId} {x y v : AV} {x' y' : Value} (h : appendO P s t xt x y = some (v, s')) (hx : VR μ x x') (hy : VR μ y y') :
  (∃ v' w' μ', (Builtin.append_ #[t, xt] ty #[x', y']).run P w = .ok v' w' ∧ VR μ' v v' ∧ Stp base μ μ' s s' w w') ∧ s'.gl = s.gl ∧ s'.gl = s.gl := by
 unfold appendO at h
 split at h
 ·rename_i e ht hk
  split at h
  ·cases h
  ·rename_i i hinfo
   split at h
   ·cases h
   ·rename_i cs hsrc
    obtain ⟨news, hn1, hn2⟩ := src_sound hi.rel hk hsrc hy
    have hn0 : news = [] := List.eq_nil_of_length_eq_zero (by simpa using hn2.newsLen)
    subst hn0
    split at h
    ·simp at h; obtain ⟨rfl, rfl⟩ := h
     have hx : x' = _ := hx
     subst hx
     exact ⟨⟨_, w, μ, run_append_nothing w t xt ty e i ht hinfo none 0 0 (Nat.le_refl _) y' hn2, rfl, Stp.refl hi⟩, rfl, rfl⟩
    ·simp at h; obtain ⟨rfl, rfl⟩ := h
     obtain ⟨a, cap, rfl⟩ := hx
     exact ⟨⟨_, w, μ, run_append_nothing w t xt ty e i ht hinfo (some a) 0 cap (Nat.zero_le _) y' hn2, ⟨_, _, rfl⟩, Stp.refl hi⟩, rfl, rfl⟩
    ·simp at h; obtain ⟨rfl, rfl⟩ := h
     obtain ⟨blk, m, cap, hm, rfl, hle, hcap⟩ := hx
     exact ⟨⟨_, w, μ, run_append_nothing w t xt ty e i ht hinfo _ _ cap hle y' hn2, ⟨blk, m, cap, hm, rfl, hle, hcap⟩, Stp.refl hi⟩, rfl, rfl⟩
    ·cases h
   ·rename_i m cs hsrc
    obtain ⟨news, hn1, hn2⟩ := src_sound hi.rel hk hsrc hy
    have hnl : news.length = (m + 1) * i.size := hn2.newsLen
    have hcl : cs.length = news.length := hn1.length
    split at h
    ·cases h
    ·rename_i zz hzz
     obtain ⟨i', z, zs, hi', hz, hzc, hzl, _⟩ := zeros_sound (μ := μ) hzz
     rw [hinfo] at hi'
     injection hi' with hi'
     subst hi'
     split at h
     ·
      split at h
      ·rename_i hcond
       simp only [Bool.and_eq_true, ble_iff] at hcond
       simp at h; obtain ⟨rfl, rfl⟩ := h
       have hx : x' = _ := hx
       subst hx
       have hrun := run_append_grow_src (P := P) w t xt ty e i z ht hinfo hz none 0 0 [] (run_firstCells_none w.drew i.size 0 0 0) y' (m + 1) news hn2 (by omega) (by omega)
        (by rw [Nat.zero_add]; exact growslice_fits (by omega) (by omega))
       simp only [List.nil_append, Nat.zero_add] at hrun
       have hge := grownCap_ge w (m + 1) 0 e
       have hsz := grow_size hzc news (grownCap w (m + 1) 0 e - (m + 1))
       have hsize : (news.toArray ++ Builtin.zeroCells z.cells (grownCap w (m + 1) 0 e - (m + 1))).size = grownCap w (m + 1) 0 e * i.size := by
        rw [hsz, hnl, hzl, ← Nat.add_mul]; congr 1; omega
       have hstp := Stp.alloc hi e cs false (news.toArray ++ Builtin.zeroCells z.cells (grownCap w (m + 1) 0 e - (m + 1))) (0, 0) (by rw [hsz]; omega)
        (by
         rw [Array.toList_append, List.take_left' (by simp; omega)]
         exact hn1) (by simp) (by simp)
       refine ⟨⟨_, _, μ.put s.nx 0 (w.heap.size, (news.toArray ++ Builtin.zeroCells z.cells (grownCap w (m + 1) 0 e - (m + 1))).size), hrun, ?_, hstp.heap rfl rfl rfl rfl⟩, rfl, rfl⟩
       exact ⟨w.heap.size, _, _, Mp.put_same _ _ _ _, rfl, hge, by rw [hsize]; show 0 + _ ≤ _; omega⟩
      ·cases h
     ·
      rename_i a n esz
      split at h
      ·cases h
      ·rename_i r hg
       split at h
       ·rename_i hcond
        simp only [Bool.and_eq_true, ble_iff] at hcond
        obtain ⟨⟨hown, helem, hesz, hoff, hgen, hmark⟩, hb1, hb2⟩ := hcond
        have helem := Nat.eq_of_beq_eq_true helem
        have hesz := Nat.eq_of_beq_eq_true hesz
        have hoff := Nat.eq_of_beq_eq_true hoff
        have hgen := Nat.eq_of_beq_eq_true hgen
        have hmark := Nat.eq_of_beq_eq_true hmark
        subst hesz
        simp at h; obtain ⟨rfl, rfl⟩ := h
        obtain ⟨blk, N, cap, hm, rfl, hle, hcap⟩ := hx
        obtain ⟨r', hg', hrow⟩ := hi.rel.row _ _ _ _ hm
        rw [hg] at hg'
        injection hg' with hg'
        subst hg'
        obtain ⟨arr, fz, hh, hsz, hex, hfr⟩ := hrow.at_
        have hext : extent r a.g = some r.len := by rw [hgen]; exact extent_gen hrow.gens
        obtain ⟨hlN, _, hLR⟩ := hex _ hext
        have hrl := hrow.len
        rw [List.take_of_length_le (by omega)] at hLR
        obtain ⟨hfz1, hfz2⟩ := hfr hgen hown
        have hbase : base ≤ blk := by have := hrow.own; rw [if_pos hown] at this; exact this
        have hfresh : μ a.b (r.gen + 1) = none := by
         cases hq : μ a.b (r.gen + 1) with
         | none => rfl
         | some q =>
          obtain ⟨q1, q2⟩ := q
          obtain ⟨r2, hg2, hrow2⟩ := hi.rel.row _ _ _ _ hq
          rw [hg] at hg2
          injection hg2 with hg2
          subst hg2
          have := hrow2.gen
          omega
        have hbn := hi.dom _ _ _ hm
        have hkeep : ({ hset s a.b { r with cells := r.cells ++ cs, len := r.len + cs.length, gen := r.gen + 1, lens := r.len :: r.lens } with low := Nat.min s.low a.b } : St) = { hset s a.b (grown r cs) with low := Nat.min s.low a.b } := rfl
        rw [hkeep]
        rw [hoff] at hcap
        refine ⟨?_, rfl, rfl⟩
        by_cases hroom : n + (m + 1) ≤ cap
        ·
         have hrn : r.len + cs.length ≤ N := by
          have : (n + (m + 1)) * i.size ≤ cap * i.size := Nat.mul_le_mul_right _ hroom
          rw [Nat.add_mul, ← hnl] at this
          omega
         have hrun := run_append_room_src (P := P) w t xt ty e i ht hinfo blk a.off n cap y' (m + 1) news hn2 hroom
          (fun j hj => by rw [cell_of_heap hh]; simp; omega)
          (fun j hj => by
           rw [frozen_of_heap hh]
           have := hfz1 (a.off + n * i.size + j) (by have := hrow.fzl; omega) (by omega)
           simpa using this)
         obtain ⟨arr', hh', harr'⟩ := setCells_heap blk news (a.off + n * i.size) w arr r.elem fz hh (by omega)
         have hoff' : a.off + n * i.size = r.len := by omega
         rw [hoff'] at hrun hh' harr'
         have hl1 : arr'.size = N := by
          rw [← Array.length_toList, harr', spl_length _ _ _ (by simp; omega)]
          simpa using hsz
         obtain ⟨e1, e2, e3, e4⟩ := setCells_rest blk news r.len w
         have hstp := grow_row hi hg hown hrow.gens hrl hrow.fzl cs blk N (w.setCells blk r.len news)
          ⟨arr', fz, hh', hl1, hrn, ?_, hfz1, hfz2⟩
          (fun k _ hk => setCells_other blk news r.len w k hk) (fun _ => ⟨a.g, hm⟩) (fun _ => ⟨arr, arr', fz, hh, hh', hl1.trans hsz.symm, ?_⟩)
          hbase hbn hfresh (by omega) e2 e3 e4
         ·refine ⟨_, _, μ.put a.b (r.gen + 1) (blk, N), hrun, ?_, hstp⟩
          exact ⟨blk, N, cap, Mp.put_same _ _ _ _, by rw [hoff], by omega, by show 0 + _ ≤ _; omega⟩
         ·rw [harr']
          have : (spl arr.toList r.len news).take (r.len + cs.length) = arr.toList.take r.len ++ news := by
           unfold spl
           rw [List.take_append, List.take_of_length_le (by simp; omega)]
           congr 1
           rw [show r.len + cs.length - (arr.toList.take r.len).length = news.length by simp; omega]
           simp
          rw [this]
          exact hLR.append hn1
         ·rw [harr', spl_take _ _ _ _ (Nat.le_refl _) (by simp; omega)]
        ·
         have hfirst : (Builtin.firstCells i.size n (.slice (some ⟨blk, a.off, none⟩) n cap)).run P w.drew = .ok (arr.toList.take r.len).toArray w.drew := by
          refine run_firstCells_some w.drew i.size n _ n cap (arr.toList.take r.len) (by simp; omega) ?_
          intro j v hj
          have hjl : j < r.len := by
           rcases Nat.lt_or_ge j r.len with h | h
           ·exact h
           ·rw [List.getElem?_eq_none (by simp; omega)] at hj; cases hj
          rw [hoff, add_addr]
          show w.cell? _ = _
          rw [cell_of_heap hh, Nat.zero_add]
          rw [List.getElem?_take, if_pos hjl] at hj
          simpa using hj
         have hrun := run_append_grow_src (P := P) w t xt ty e i z ht hinfo hz (some ⟨blk, a.off, none⟩) n cap (arr.toList.take r.len) hfirst y' (m + 1) news hn2 (by omega) (by omega)
          (growslice_fits (by omega) (by omega))
         have hge := grownCap_ge w (n + (m + 1)) cap e
         have hsz2 := grow_size hzc (arr.toList.take r.len ++ news) (grownCap w (n + (m + 1)) cap e - (n + (m + 1)))
         have hol : (arr.toList.take r.len ++ news).length = (n + (m + 1)) * i.size := by
          rw [Nat.add_mul]; simp; omega
         have hsize : ((arr.toList.take r.len ++ news).toArray ++ Builtin.zeroCells z.cells (grownCap w (n + (m + 1)) cap e - (n + (m + 1)))).size = grownCap w (n + (m + 1)) cap e * i.size := by
          rw [hsz2, hol, hzl, ← Nat.add_mul]; congr 1; omega
         have hstp := grow_row hi hg hown hrow.gens hrl hrow.fzl cs w.heap.size _ (w.drew.alloc (.cells ((arr.toList.take r.len ++ news).toArray ++ Builtin.zeroCells z.cells (grownCap w (n + (m + 1)) cap e - (n + (m + 1)))) e))
          ⟨_, (0, 0), by rw [helem]; exact Array.getElem?_push_size, rfl, ?_, ?_, by simp, by simp⟩
          (fun k hk _ => Below.heap_alloc w.drew _ k hk) (fun h => absurd h (Nat.lt_irrefl _)) (fun h => absurd h (Nat.lt_irrefl _)) hi.size hbn hfresh
          (by show w.heap.size ≤ (w.heap.push _).size; simp) rfl rfl rfl
         ·refine ⟨_, _, _, hrun, ?_, hstp⟩
          exact ⟨w.heap.size, _, _, Mp.put_same _ _ _ _, rfl, hge, by rw [hsize]; show 0 + _ ≤ _; omega⟩
         ·rw [hsz2, hol]
          have : (n + (m + 1)) * i.size = r.len + cs.length := by rw [Nat.add_mul, ← hnl]; omega
          omega
         ·rw [Array.toList_append]
          have : (arr.toList.take r.len ++ news).length = r.len + cs.length := by simp; omega
          rw [List.take_left' (by simpa using this)]
          exact hLR.append hn1
       ·cases h
     ·cases h
 ·cases h
end
end Go.AM
/-
  One operation: what the abstract machine does, the model does.
-/
namespace Go.AM
open Go Go.RowKit Go.Lib
structure TmRel (μ : Mp) (f : Fr) (a : Act) : Prop where
 size : a.tmps.size = f.nt
 tmp : ∀ t, VR μ ((f.tm.get t).getD und) (a.tmps.getD t undef)
def RhoOk (μ : Mp) (ρ : Operand → Option AV) (a : Act) : Prop := ∀ x v, ρ x = some v → VR μ v (a.eval x)
section
variable {base : Nat} {μ μ' : Mp} {P : Program} {w : World} {s s' : St} {a : Act} {f f' : Fr} {ρ : Operand → Option AV}
theorem TmRel.mono (h : TmRel μ f a) (he : Ext μ μ') : TmRel μ' f a := ⟨h.size, fun t => (h.tmp t).mono he⟩
theorem TmRel.put (h : TmRel μ f a) {dst : Option Tmp} {v : AV} {v' : Value} (hp : put f dst v = some f') (hv : VR μ v v') : TmRel μ f' (a.put dst v') := by
 unfold Go.AM.put at hp
 cases dst with
 | none => simp at hp; subst hp; exact h
 | some d =>
  simp only at hp
  split at hp
  ·rename_i hd
   have hd : d < f.nt := by simpa using Nat.blt_eq.mp hd
   simp at hp; subst hp
   refine ⟨by simpa [Act.put] using h.size, fun t => ?_⟩
   show VR μ (((T.set v f.tm d).get t).getD und) _
   rw [T.get_set]
   have hsz := h.size
   by_cases htd : t = d
   ·subst htd
    rw [if_pos rfl]
    have hta : t < a.tmps.size := by rw [hsz]; exact hd
    simp [Act.put, hta]
    exact hv
   ·rw [if_neg htd]
    have : (a.put (some d) v').tmps.getD t undef = a.tmps.getD t undef := by
     simp [Act.put, Array.getElem?_setIfInBounds_ne (fun h => htd h.symm)]
    rw [this]
    exact h.tmp t
  ·cases hp
theorem ev_sound (hi : Inv base μ s w) (ht : TmRel μ f a) : RhoOk μ (ev f s.gl) a := by
 intro x v h
 cases x with
 | tmp t =>
  have := ht.tmp t
  simp only [ev] at h
  split at h
  ·rename_i u hu
   simp at h; subst h
   rw [hu] at this
   exact this
  ·rename_i hu
   simp at h; subst h
   rw [hu] at this
   exact this
 | const c => exact (vOf_sound h).vr
 | global g =>
  simp only [ev] at h
  split at h
  ·rename_i hg
   have hg : g < s.gl := by simpa using Nat.blt_eq.mp hg
   simp at h; subst h
   obtain ⟨n, hn⟩ := hi.glob g hg
   exact ⟨⟨g, 0, none⟩, ⟨g, n, hn, rfl⟩, rfl⟩
  ·cases h
 | func f =>
  simp [ev] at h; subst h
  exact ⟨[], trivial, rfl⟩
theorem evs_sound (hr : RhoOk μ ρ a) : ∀ {xs : List Operand} {vs : List AV}, evs ρ xs = some vs → LR (VR μ) vs (xs.map a.eval)
 | [], vs, h => by simp [evs] at h; subst h; trivial
 | x :: xs, vs, h => by
  simp only [evs] at h
  split at h
  ·cases h
  ·rename_i v hv
   split at h
   ·cases h
   ·rename_i vs' hvs
    simp at h; subst h
    exact ⟨hr _ _ hv, evs_sound hr hvs⟩
theorem evO_sound (hr : RhoOk μ ρ a) {x : Option Operand} {v : Option AV} (h : evO ρ x = some v) : OR μ v (x.map a.eval) := by
 cases x with
 | none => simp [evO] at h; subst h; trivial
 | some x =>
  simp only [evO] at h
  split at h
  ·cases h
  ·rename_i u hu
   simp at h; subst h
   exact hr _ _ hu
theorem evParts_sound (hr : RhoOk μ ρ a) : ∀ {xs : List (Nat × Operand)} {vs : List (Nat × AV)}, evParts ρ xs = some vs → PR μ vs (xs.map fun p => (p.1, a.eval p.2))
 | [], vs, h => by simp [evParts] at h; subst h; trivial
 | (i, x) :: xs, vs, h => by
  simp only [evParts] at h
  split at h
  ·cases h
  ·rename_i v hv
   split at h
   ·cases h
   ·rename_i vs' hvs
    simp at h; subst h
    exact ⟨⟨rfl, hr _ _ hv⟩, evParts_sound hr hvs⟩
theorem addrs_sound : ∀ {vs : List AV} {l : List AA} {us : List Value}, addrs vs = some l → LR (VR μ) vs us → ∃ cs, LR (AR μ) l cs ∧ us = cs.map fun c => Value.pointer (some c)
 | [], l, us, h, hu => by
  simp [addrs] at h; subst h
  rw [hu.nil_left]; exact ⟨[], trivial, rfl⟩
 | v :: vs, l, us, h, hu => by
  obtain ⟨u, us', rfl, h1, h2⟩ := hu.cons_left
  unfold addrs at h
  split at h
  ·rename_i heq; cases heq
  ·rename_i a r heq
   injection heq with e1 e2
   subst e1; subst e2
   split at h
   ·rename_i l' hl'
    simp at h; subst h
    obtain ⟨cs, h3, rfl⟩ := addrs_sound hl' h2
    obtain ⟨c, hc, rfl⟩ := h1
    exact ⟨c :: cs, ⟨hc, h3⟩, rfl⟩
   ·cases h
  ·cases h
theorem scalar_sound {v : AV} {v' : Value} (h : scalar v = true) (hv : VR μ v v') : SR μ v v' := by
 cases v <;> simp [scalar] at h <;> exact hv
theorem foldMin_sound : ∀ {r : List AV} {x v : AV} {us : List Value} {u : Value}, foldMin x r = some v → LR (VR μ) r us → VR μ x u → ∃ v', VR μ v v' ∧ ∀ w, (us.foldlM Builtin.min2 u : Sem Value).run P w = .ok v' w
 | [], x, v, us, u, h, hr, hx => by
  rw [hr.nil_left]
  unfold foldMin at h
  simp at h; subst h
  exact ⟨u, hx, fun w => by simp⟩
 | y :: r, x, v, us, u, h, hr, hx => by
  obtain ⟨u1, us', rfl, h1, h2⟩ := hr.cons_left
  unfold foldMin at h
  split at h
  ·rename_i heq; cases heq
  ·rename_i k a k' b r' heq
   injection heq with e1 e2
   subst e1; subst e2
   rw [int_inv hx, int_inv h1]
   obtain ⟨v', h3, h4⟩ := foldMin_sound (u := .int k (if b < a then b else a)) h h2 rfl
   exact ⟨v', h3, fun w => by simp only [List.foldlM_cons, Sem.run_bind, Builtin.min2, Sem.run_pure, Result.andThen_ok, h4]⟩
  ·cases h
theorem foldMax_sound : ∀ {r : List AV} {x v : AV} {us : List Value} {u : Value}, foldMax x r = some v → LR (VR μ) r us → VR μ x u → ∃ v', VR μ v v' ∧ ∀ w, (us.foldlM Builtin.max2 u : Sem Value).run P w = .ok v' w
 | [], x, v, us, u, h, hr, hx => by
  rw [hr.nil_left]
  unfold foldMax at h
  simp at h; subst h
  exact ⟨u, hx, fun w => by simp⟩
 | y :: r, x, v, us, u, h, hr, hx => by
  obtain ⟨u1, us', rfl, h1, h2⟩ := hr.cons_left
  unfold foldMax at h
  split at h
  ·rename_i heq; cases heq
  ·rename_i k a k' b r' heq
   injection heq with e1 e2
   subst e1; subst e2
   rw [int_inv hx, int_inv h1]
   obtain ⟨v', h3, h4⟩ := foldMax_sound (u := .int k (if b > a then b else a)) h h2 rfl
   exact ⟨v', h3, fun w => by simp only [List.foldlM_cons, Sem.run_bind, Builtin.max2, Sem.run_pure, Result.andThen_ok, h4]⟩
  ·cases h
theorem len_sound {x : AV} {n : Nat} {x' : Value} (h : lenO x = some n) (hs : ∀ l, x ≠ .str l) (hx : VR μ x x') : ∃ a c, x' = .slice a n c := by
 unfold lenO at h
 split at h
 ·exact absurd rfl (hs _)
 ·simp at h; subst h; exact ⟨none, 0, hx⟩
 ·simp at h; subst h; obtain ⟨a, c, rfl⟩ := hx; exact ⟨some a, c, rfl⟩
 ·simp at h; subst h; obtain ⟨_, _, c, _, rfl, _⟩ := hx; exact ⟨_, c, rfl⟩
 ·cases h
theorem builtin_sound (hi : Inv base μ s w) {b : Builtin} {ts : Array TypeId} {ty : TypeId} {consts : Array Bool} {args : List AV} {v : AV} {us : List Value} (h : builtinO P s b ts args = some (v, s')) (hu : LR (VR μ) args us) :
  (∃ v' w' μ', (builtin b ts ty consts us.toArray).run P w = .ok (.value v') w' ∧ VR μ' v v' ∧ Stp base μ μ' s s' w w') ∧ s'.gl = s.gl ∧ s'.gl = s.gl := by
 unfold builtinO at h
 split at h
 ·
  rename_i x
  obtain ⟨x', us', rfl, hx, hu'⟩ := hu.cons_left
  have := hu'.nil_left
  subst this
  split at h
  ·rename_i t ht
   split at h
   ·rename_i n e hun
    simp at h; obtain ⟨rfl, rfl⟩ := h
    exact ⟨⟨_, w, μ, by simp [builtin, Builtin.len_, ht, run_underlying hun]; rfl, rfl, Stp.refl hi⟩, rfl, rfl⟩
   ·rename_i arr hun
    split at h
    ·rename_i n e hun2
     simp at h; obtain ⟨rfl, rfl⟩ := h
     exact ⟨⟨_, w, μ, by simp [builtin, Builtin.len_, ht, run_underlying hun, run_underlying hun2]; rfl, rfl, Stp.refl hi⟩, rfl, rfl⟩
    ·cases h
   ·rename_i e hun
    split at h
    ·cases h
    ·rename_i hns
     split at h
     ·rename_i n hn
      simp at h; obtain ⟨rfl, rfl⟩ := h
      obtain ⟨q, c, rfl⟩ := len_sound hn hns hx
      exact ⟨⟨_, w, μ, by simp [builtin, Builtin.len_, ht, run_underlying hun]; rfl, rfl, Stp.refl hi⟩, rfl, rfl⟩
     ·cases h
   ·rename_i hun
    split at h
    ·rename_i l
     simp at h; obtain ⟨rfl, rfl⟩ := h
     rw [str_inv hx]
     have hsz : (⟨l.toArray⟩ : ByteArray).size = l.length := by simp [ByteArray.size]
     exact ⟨⟨_, w, μ, by simp [builtin, Builtin.len_, ht, run_underlying hun, hsz]; rfl, rfl, Stp.refl hi⟩, rfl, rfl⟩
    ·cases h
   ·cases h
  ·cases h
 ·
  rename_i x y
  obtain ⟨x', us', rfl, hx, hu'⟩ := hu.cons_left
  obtain ⟨y', us'', rfl, hy, hu''⟩ := hu'.cons_left
  have := hu''.nil_left
  subst this
  split at h
  ·rename_i t xt ht hxt
   have hts : ∀ q, (Builtin.append_ ts ty q) = Builtin.append_ #[t, xt] ty q := by
    intro q
    unfold Builtin.append_
    simp [ht, hxt]
   obtain ⟨⟨v', w', μ', h1, h2⟩, h3⟩ := append_sound (ty := ty) hi h hx hy
   refine ⟨⟨v', w', μ', ?_, h2⟩, h3⟩
   simp [builtin, hts, h1]
  ·cases h
 ·
  rename_i x r
  obtain ⟨x', us', rfl, hx, hu'⟩ := hu.cons_left
  split at h
  ·rename_i v0 hv
   simp at h; obtain ⟨rfl, rfl⟩ := h
   obtain ⟨v', h1, h2⟩ := foldMin_sound (P := P) hv hu' hx
   exact ⟨⟨v', w, μ, by simp [builtin, Builtin.min_, h2], h1, Stp.refl hi⟩, rfl, rfl⟩
  ·cases h
 ·rename_i x r
  obtain ⟨x', us', rfl, hx, hu'⟩ := hu.cons_left
  split at h
  ·rename_i v0 hv
   simp at h; obtain ⟨rfl, rfl⟩ := h
   obtain ⟨v', h1, h2⟩ := foldMax_sound (P := P) hv hu' hx
   exact ⟨⟨v', w, μ, by simp [builtin, Builtin.max_, h2], h1, Stp.refl hi⟩, rfl, rfl⟩
  ·cases h
 ·
  rename_i x
  obtain ⟨x', us', rfl, hx, hu'⟩ := hu.cons_left
  have := hu'.nil_left
  subst this
  split at h
  ·simp at h; obtain ⟨rfl, rfl⟩ := h
   have hx : x' = _ := hx
   subst hx
   exact ⟨⟨_, w, μ, by simp [builtin, run_unsafeSliceData_nil], rfl, Stp.refl hi⟩, rfl, rfl⟩
  ·rename_i q n e
   simp at h; obtain ⟨rfl, rfl⟩ := h
   obtain ⟨blk, m, cap, hm, rfl, hle, _⟩ := hx
   have hc : cap ≠ 0 := by omega
   exact ⟨⟨.pointer (some ⟨blk, q.off, none⟩), w, μ, by simp [builtin, run_unsafeSliceData_row w ts ty _ _ cap hc], ⟨_, ⟨blk, m, hm, rfl⟩, rfl⟩, Stp.refl hi⟩, rfl, rfl⟩
  ·cases h
 ·
  rename_i p n
  obtain ⟨p', us', rfl, hp, hu'⟩ := hu.cons_left
  obtain ⟨n', us'', rfl, hn, hu''⟩ := hu'.cons_left
  have := hu''.nil_left
  subst this
  rw [int_inv hn]
  split at h
  ·rename_i pt it hts
   have hts' : ts = #[pt, it] := by
    apply Array.ext'
    simpa using hts
   subst hts'
   split at h
   ·split at h
    ·rename_i hz
     have hz : n = 0 := by simpa using hz
     subst hz
     simp at h; obtain ⟨rfl, rfl⟩ := h
     have hp : p' = _ := hp
     subst hp
     exact ⟨⟨.string .empty, w, μ, by simp [builtin, run_unsafeString_none], rfl, Stp.refl hi⟩, rfl, rfl⟩
    ·cases h
   ·rename_i q
    split at h
    ·rename_i k hk
     split at h
     ·rename_i cs r hc hg
      split at h
      ·rename_i l hl
       split at h
       ·rename_i hcond
        split at h
        ·rename_i u hpt hsz
         split at h
         ·rename_i hue
          have hue := Nat.eq_of_beq_eq_true hue
          subst hue
          simp only [Option.some.injEq, Prod.mk.injEq] at h
          obtain ⟨rfl, rfl⟩ := h
          simp only [Bool.and_eq_true, Bool.not_eq_true', ble_iff] at hcond
          obtain ⟨hodd, hown, hoff, hgen, hbnd⟩ := hcond
          have hoff := Nat.eq_of_beq_eq_true hoff
          have hgen := Nat.eq_of_beq_eq_true hgen
          obtain ⟨c, hc', rfl⟩ := hp
          obtain ⟨vs, hv, hcn, hcell⟩ := read_cells hi.rel hc hc'
          have hb := bytes_sound hl hv
          subst hb
          have hln := hv.length
          simp at hln
          obtain ⟨blk, m, hm, rfl⟩ := hc'
          obtain ⟨r', hg', hrow⟩ := hi.rel.row _ _ _ _ hm
          rw [hg] at hg'
          injection hg' with hg'
          subst hg'
          obtain ⟨arr, fz, hh, hs1, hex, _⟩ := hrow.at_
          have hext : extent r q.g = some r.len := by rw [hgen]; exact extent_gen hrow.gens
          have hlr := (hex _ hext).1
          have hkl : k + 1 ≤ r.len := by
           simp only [readCells, hg, hext] at hc
           split at hc
           ·rename_i hb; have := ble_iff.1 hb; omega
           ·cases hc
          have hnk : n = ((k + 1 : Nat) : Int) := by
           obtain ⟨kk, hkk⟩ := nat_sound (μ := μ) hk (show VR μ (.int .i64 n) (.int .i64 n) from rfl)
           injection hkk
          have hll : l.length = k + 1 := by omega
          have hc1 : P.cellsOf r.elem = 1 := by
           unfold sizeT at hsz
           unfold Program.cellsOf
           rw [hsz]; rfl
          rw [hgen] at hm
          have hstp := freeze_row hi hg hown hodd hm (k + 1) hkl (by omega)
          refine ⟨⟨.string ⟨l.toArray⟩, _, μ, ?_, rfl, hstp⟩, rfl, rfl⟩
          have hrun := run_unsafeString_row (P := P) (w := w) pt it ty r.elem hpt hc1 blk arr.size (shape_of_heap hh) l (by intro h0; rw [h0] at hll; simp at hll) (by omega) (by omega)
           (fun j x hj => by
            have := hcell j (.int .u8 x.toNat) (by simp [hj])
            rw [hoff] at this
            exact this)
          rw [hll] at hrun
          rw [hnk, hoff]
          simp only [builtin, Sem.run_bind, hrun, Result.andThen_ok, Sem.run_pure]
         ·cases h
        ·cases h
       ·cases h
      ·cases h
     ·cases h
    ·cases h
   ·cases h
  ·cases h
 ·cases h
end
end Go.AM
/-
  One operation, one region in the order of the text.
-/
namespace Go.AM
open Go Go.RowKit Go.Lib
structure EnvOk (E : Env) (base : Nat) : Prop where
 same : ∀ f v w, E.same f = true → (callFunc f #[v]).run E.P w = .ok (.value v) w
 known : ∀ f args v, E.known f args = some v → plainV v = true ∧ (∀ vs w, (callFunc f vs).run E.P w = .ok (.enter f vs) w) ∧
  ∀ μ vs w, LR (VR μ) args vs → Calls E.P f vs.toArray w fun e w' => ∃ v', e = .returned v' ∧ VR μ v v' ∧ Below w.heap.size w w'
 call : ∀ f args s v s', E.call f args s = some (v, s') → (∀ vs w, (callFunc f vs).run E.P w = .ok (.enter f vs) w) ∧
  ∀ μ w vs, Inv base μ s w → LR (VR μ) args vs → Calls E.P f vs.toArray w fun e w' => ∃ v' μ', e = .returned v' ∧ VR μ' v v' ∧ Stp base μ μ' s s' w w'
section
variable {base : Nat} {μ : Mp} {w : World} {s s' : St} {a : Act} {E : Env} {o : Oper} {ρ : Operand → Option AV} {f f' : Fr}
theorem Stp.of_below (hi : Inv base μ s w) {w' : World} (h : Below w.heap.size w w') : Stp base μ μ s s w w' :=
 ⟨Ext.refl _, ⟨fun b g blk n hm => by
   obtain ⟨r, h1, h2⟩ := hi.rel.row b g blk n hm
   exact ⟨r, h1, h2.mono (Ext.refl _) (h.block _ (hi.rel.lt hm))⟩, hi.rel.sep⟩, hi.dom, fun _ _ _ _ h => .inl h, Nat.le_refl _, rfl, Nat.le_refl _, fun _ _ _ => rfl, fun blk hb => .inl (h.block blk hb), h.size, h.os, h.tape, h.output, hi.wf⟩
def RunOk (E : Env) (base : Nat) (μ : Mp) (s s' : St) (w : World) (a : Act) (o : Oper) (v : AV) : Prop :=
 ∃ v' w' μ', ((execOp a.eval o).run E.P w = .ok (.value v') w' ∨ ((execOp a.eval o).run E.P w = .ok .skip w' ∧ v' = undef)) ∧ VR μ' v v' ∧ Stp base μ μ' s s' w w'
theorem wp_of_run {v : AV} (h : RunOk E base μ s s' w a o v) {K : Act → World → Prop} {Q : Exit → Act → World → Prop}
  (hk : ∀ v' w' μ', VR μ' v v' → Stp base μ μ' s s' w w' → K (a.put o.dst v') w') : o.wp E.P a w K Q := by
 obtain ⟨v', w', μ', h1, h2, h3⟩ := h
 unfold Oper.wp
 rcases h1 with h1 | ⟨h1, rfl⟩
 ·rw [h1]; exact hk _ _ _ h2 h3
 ·rw [h1]; exact hk _ _ _ h2 h3
theorem pair_inv {x : Option AV} {v : AV} (h : pairO s x = some (v, s')) : x = some v ∧ s' = s := by
 cases x with
 | none => simp [pairO] at h
 | some u => simp [pairO] at h; exact ⟨by rw [h.1], h.2.symm⟩
theorem op_run (hi : Inv base μ s w) (hr : RhoOk μ ρ a) {v : AV} (h : opO E ρ s o.op = some (v, s')) (hc : ∀ c f, o.op = .call c → c.callee ≠ .value f) :
  RunOk E base μ s s' w a o v ∧ s'.gl = s.gl ∧ s'.gl = s.gl := by
 obtain ⟨dst, op, type, pos, after, guard⟩ := o
 simp only at h hc
 cases op <;> simp only [opO] at h
 case move x =>
  obtain ⟨h1, rfl⟩ := pair_inv h
  exact ⟨⟨_, w, μ, .inl rfl, hr _ _ h1, Stp.refl hi⟩, rfl, rfl⟩
 case assign x =>
  obtain ⟨h1, rfl⟩ := pair_inv h
  exact ⟨⟨_, w, μ, .inl rfl, hr _ _ h1, Stp.refl hi⟩, rfl, rfl⟩
 case pick c x y =>
  split at h
  ·rename_i hb
   obtain ⟨h1, rfl⟩ := pair_inv h
   have hb' := bool_inv (hr _ _ hb)
   exact ⟨⟨_, w, μ, .inl (by simp [execOp, hb', asBool]), hr _ _ h1, Stp.refl hi⟩, rfl, rfl⟩
  ·rename_i hb
   obtain ⟨h1, rfl⟩ := pair_inv h
   have hb' := bool_inv (hr _ _ hb)
   exact ⟨⟨_, w, μ, .inl (by simp [execOp, hb', asBool]), hr _ _ h1, Stp.refl hi⟩, rfl, rfl⟩
  ·cases h
 case alloc e =>
  split at h
  ·rename_i z hz
   split at h
   ·rename_i cs hcs
    simp only [Option.some.injEq, Prod.mk.injEq] at h
    obtain ⟨rfl, rfl⟩ := h
    obtain ⟨i, z', h1, h2, h3⟩ := zero_sound (μ := μ) hz
    obtain ⟨vs, h4, h5⟩ := cells_sound hcs h3.vr
    obtain ⟨h6, h7⟩ := new_sound hi e cs vs h4
    refine ⟨⟨_, _, _, .inl ?_, h6, h7⟩, rfl, rfl⟩
    simp [execOp, Instr.alloc, zeroValue, typeInfo, h1, h2, newVar, Go.newRow, h5]
   ·cases h
  ·cases h
 case box e x =>
  split at h
  ·rename_i u hu
   split at h
   ·rename_i cs hcs
    simp only [Option.some.injEq, Prod.mk.injEq] at h
    obtain ⟨rfl, rfl⟩ := h
    obtain ⟨vs, h4, h5⟩ := cells_sound hcs (hr _ _ hu)
    obtain ⟨h6, h7⟩ := new_sound hi e cs vs h4
    refine ⟨⟨_, _, _, .inl ?_, h6, h7⟩, rfl, rfl⟩
    simp [execOp, Instr.box, newVar, Go.newRow, h5]
   ·cases h
  ·cases h
 case build t ps =>
  split at h
  ·rename_i l hl
   obtain ⟨h1, rfl⟩ := pair_inv h
   obtain ⟨v', h2, h3⟩ := build_sound h1 (evParts_sound hr hl)
   refine ⟨⟨v', w, μ, .inl ?_, h2, Stp.refl hi⟩, rfl, rfl⟩
   have he : (ps.map fun p => (p.1, a.eval p.2)) = (ps.toList.map fun p => (p.1, a.eval p.2)).toArray := by
    apply Array.ext'; simp
   simp only [execOp, Sem.run_bind]
   rw [he, h3]
   rfl
  ·cases h
 case buildSlice t n ps =>
  split at h
  ·rename_i l e hl hu
   split at h
   ·rename_i size hs
    split at h
    ·rename_i zs hn hz
     split at h
     ·rename_i cs hf
      simp only [Option.some.injEq, Prod.mk.injEq] at h
      obtain ⟨rfl, rfl⟩ := h
      obtain ⟨v', w', μ', h2, h3, h4⟩ := buildSlice_sound hi hu hs (ble_iff.1 hn) hz hf (evParts_sound hr hl)
      refine ⟨⟨v', w', μ', .inl ?_, h3, h4⟩, rfl, rfl⟩
      have he : (ps.map fun p => (p.1, a.eval p.2)) = (ps.toList.map fun p => (p.1, a.eval p.2)).toArray := by
       apply Array.ext'; simp
      simp only [execOp, Sem.run_bind]
      rw [he, h2]
      rfl
     ·cases h
    ·cases h
   ·cases h
  ·cases h
 case load t x =>
  split at h
  ·rename_i q hq
   obtain ⟨h1, rfl⟩ := pair_inv h
   obtain ⟨c, hc', he⟩ := hr _ _ hq
   obtain ⟨v', h2, h3⟩ := load_sound hi.rel h1 hc'
   refine ⟨⟨v', w, μ, .inl ?_, h2.vr, Stp.refl hi⟩, rfl, rfl⟩
   simp [execOp, Instr.loadAt, he, Instr.sureAddr, h3]
  ·cases h
 case store t x y =>
  split at h
  ·rename_i q u hq hu
   split at h
   ·rename_i s1 hs
    simp only [Option.some.injEq, Prod.mk.injEq] at h
    obtain ⟨rfl, rfl⟩ := h
    obtain ⟨c, hc', he⟩ := hr _ _ hq
    obtain ⟨w', h2, h3, h4, h5⟩ := store_sound hi hs hc' (hr _ _ hu)
    refine ⟨⟨undef, w', μ, .inr ⟨?_, rfl⟩, VR.und, h3⟩, h4, h5⟩
    simp [execOp, Instr.storeAt, he, Instr.sureAddr, h2]
   ·cases h
  ·cases h
 case nilCheck x =>
  split at h
  ·rename_i q hq
   simp only [Option.some.injEq, Prod.mk.injEq] at h
   obtain ⟨rfl, rfl⟩ := h
   obtain ⟨c, hc', he⟩ := hr _ _ hq
   exact ⟨⟨_, w, μ, .inl (by simp [execOp, he]), ⟨c, hc', rfl⟩, Stp.refl hi⟩, rfl, rfl⟩
  ·rename_i f caps hq
   simp only [Option.some.injEq, Prod.mk.injEq] at h
   obtain ⟨rfl, rfl⟩ := h
   obtain ⟨cs, hc', he⟩ := hr _ _ hq
   exact ⟨⟨_, w, μ, .inl (by simp [execOp, he]), ⟨cs, hc', rfl⟩, Stp.refl hi⟩, rfl, rfl⟩
  ·cases h
 case binOp op t x y yt =>
  split at h
  ·rename_i u1 u2 h1 h2
   obtain ⟨h3, rfl⟩ := pair_inv h
   obtain ⟨v', h4, h5⟩ := bin_sound h3 (hr _ _ h1) (hr _ _ h2)
   refine ⟨⟨v', w, μ, .inl ?_, h4, Stp.refl hi⟩, rfl, rfl⟩
   have := h5 w
   simp only [execOp]
   rw [Sem.run_bind, this]
   rfl
  ·cases h
 case unOp op t x =>
  split at h
  ·rename_i u1 h1
   obtain ⟨h3, rfl⟩ := pair_inv h
   obtain ⟨v', h4, h5⟩ := un_sound (P := E.P) h3 (hr _ _ h1)
   exact ⟨⟨v', w, μ, .inl (by simp [execOp, h5]), h4, Stp.refl hi⟩, rfl, rfl⟩
  ·cases h
 case convert src dst x =>
  split at h
  ·rename_i u1 h1
   obtain ⟨⟨v', w', μ', h4, h5, h6⟩, h7⟩ := conv_sound hi h (hr _ _ h1)
   exact ⟨⟨v', w', μ', .inl (by simp [execOp, h4]), h5, h6⟩, h7⟩
  ·cases h
 case makeInterface t x =>
  split at h
  ·rename_i u1 d h1 hu
   split at h
   ·cases h
   ·rename_i hs
    simp only [Option.some.injEq, Prod.mk.injEq] at h
    obtain ⟨rfl, rfl⟩ := h
    refine ⟨⟨_, w, μ, .inl ?_, ⟨_, scalar_sound hs (hr _ _ h1), rfl⟩, Stp.refl hi⟩, rfl, rfl⟩
    simp only [execOp, Instr.makeInterface, Sem.run_bind, run_underlying hu, Result.andThen_ok]
    rfl
   ·cases h
  ·cases h
 case makeFunc fn first caps =>
  cases fn <;> simp only at h
  case func f =>
   split at h
   ·rename_i vs hf hv
    split at h
    ·rename_i l hl
     simp only [Option.some.injEq, Prod.mk.injEq] at h
     obtain ⟨rfl, rfl⟩ := h
     obtain ⟨cs, h2, h3⟩ := addrs_sound hl (evs_sound hr hv)
     refine ⟨⟨_, w, μ, .inl ?_, ⟨cs, h2, rfl⟩, Stp.refl hi⟩, rfl, rfl⟩
     have hfe : first = #[] := Array.size_eq_zero_iff.1 hf
     have he : caps.map a.eval = (cs.map fun c => Value.pointer (some c)).toArray := by
      apply Array.ext'
      rw [← h3]
      simp
     simp [execOp, Instr.makeFunc, hfe, he]
    ·cases h
   ·cases h
  all_goals cases h
 case makeSlice t l c =>
  split at h
  ·rename_i l1 c1 e hl hcv hu
   split at h
   ·rename_i l2 c2 i hl2 hc2 hinf
    split at h
    ·rename_i zs hcond hz
     simp only [Bool.and_eq_true, ble_iff] at hcond
     obtain ⟨k1, he1⟩ := nat_sound hl2 (hr _ _ hl)
     obtain ⟨k2, he2⟩ := nat_sound hc2 (hr _ _ hcv)
     obtain ⟨i', z, vs, g1, g2, g3, g4, g5⟩ := zeros_sound (μ := μ) hz
     rw [hinf] at g1
     injection g1 with g1
     subst g1
     have hrun := makeSlice_run (P := E.P) (w := w) (k1 := k1) (k2 := k2) hu hinf g2 hcond.1 hcond.2.1 hcond.2.2
     have hsz : (madeCells z.cells (c2 * i.size)).size = c2 * i.size := size_madeCells _ _
     split at h
     ·rename_i heq
      have heq := Nat.eq_of_beq_eq_true heq
      subst heq
      simp only [Option.some.injEq, Prod.mk.injEq] at h
      obtain ⟨rfl, rfl⟩ := h
      have hzl := g5.length
      simp at hzl
      have hstp := Stp.alloc hi e zs false (madeCells z.cells (l2 * i.size)) (0, 0) (by omega) (by rw [List.take_of_length_le (by simp; omega)]; exact g5) (by simp) (by simp)
      refine ⟨⟨.slice (some ⟨w.heap.size, 0, none⟩) l2 l2, _, _, .inl ?_, ?_, hstp⟩, rfl, rfl⟩
      ·simp [execOp, he1, he2, hrun]
      ·exact ⟨w.heap.size, _, l2, Mp.put_same _ _ _ _, rfl, Nat.le_refl _, by rw [hsz]; show 0 + _ ≤ _; omega⟩
     ·split at h
      ·simp only [Option.some.injEq, Prod.mk.injEq] at h
       obtain ⟨rfl, rfl⟩ := h
       have hstp := Stp.alloc hi e [] false (madeCells z.cells (c2 * i.size)) (0, 0) (by simp) (by simp [LR]) (by simp) (by simp)
       refine ⟨⟨.slice (some ⟨w.heap.size, 0, none⟩) 0 c2, _, _, .inl ?_, ?_, hstp⟩, rfl, rfl⟩
       ·simp only [execOp, he1, he2, Sem.run_bind, hrun]
        rfl
       ·exact ⟨w.heap.size, _, c2, Mp.put_same _ _ _ _, rfl, Nat.zero_le _, by rw [hsz]; show 0 + _ ≤ _; omega⟩
      ·cases h
    ·cases h
   ·cases h
  ·cases h
 case slice t x lo hi' mx =>
  cases mx with
  | some _ => cases h
  | none =>
   simp only at h
   split at h
   ·rename_i u1 l1 h1 hx hl hh
    obtain ⟨h3, rfl⟩ := pair_inv h
    obtain ⟨v', h4, h5⟩ := slice_sound (P := E.P) h3 (hr _ _ hx) (evO_sound hr hl) (evO_sound hr hh)
    refine ⟨⟨v', w, μ, .inl ?_, h4, Stp.refl hi⟩, rfl, rfl⟩
    have := h5 w
    simp only [execOp, Sem.run_bind, Option.map_none]
    rw [this]
    rfl
   ·cases h
 case fieldAddr t x f =>
  split at h
  ·rename_i u1 h1
   obtain ⟨h3, rfl⟩ := pair_inv h
   obtain ⟨v', h4, h5⟩ := fieldAddr_sound (P := E.P) h3 (hr _ _ h1)
   exact ⟨⟨v', w, μ, .inl (by simp only [execOp, Sem.run_bind, h5]; rfl), h4, Stp.refl hi⟩, rfl, rfl⟩
  ·cases h
 case field t x f =>
  split at h
  ·rename_i u1 h1
   obtain ⟨h3, rfl⟩ := pair_inv h
   obtain ⟨v', h4, h5⟩ := field_sound (P := E.P) h3 (hr _ _ h1)
   exact ⟨⟨v', w, μ, .inl (by simp only [execOp, Sem.run_bind, h5]; rfl), h4, Stp.refl hi⟩, rfl, rfl⟩
  ·cases h
 case indexAddr t x i =>
  split at h
  ·rename_i u1 u2 h1 h2
   obtain ⟨h3, rfl⟩ := pair_inv h
   obtain ⟨v', h4, h5⟩ := indexAddr_sound (P := E.P) h3 (hr _ _ h1) (hr _ _ h2)
   exact ⟨⟨v', w, μ, .inl (by simp only [execOp, Sem.run_bind, h5]; rfl), h4, Stp.refl hi⟩, rfl, rfl⟩
  ·cases h
 case index t x i =>
  split at h
  ·rename_i u1 u2 h1 h2
   obtain ⟨h3, rfl⟩ := pair_inv h
   obtain ⟨v', h4, h5⟩ := index_sound (P := E.P) h3 (hr _ _ h1) (hr _ _ h2)
   exact ⟨⟨v', w, μ, .inl (by simp only [execOp, Sem.run_bind, h5]; rfl), h4, Stp.refl hi⟩, rfl, rfl⟩
  ·cases h
 case extract x i =>
  split at h
  ·rename_i vs h1
   obtain ⟨h3, rfl⟩ := pair_inv h
   obtain ⟨us, hu, he⟩ := hr _ _ h1
   obtain ⟨u, h4, h5⟩ := hu.get _ _ h3
   exact ⟨⟨u, w, μ, .inl (by simp [execOp, Instr.extract, he, h4]), h5.vr, Stp.refl hi⟩, rfl, rfl⟩
  ·cases h
 case call c =>
  split at h
  ·cases h
  ·rename_i args ha
   split at h
   ·rename_i f hf
    exact absurd hf (hc c f rfl)
   ·rename_i b hb
    obtain ⟨⟨v', w', μ', h4, h5⟩, h6⟩ := builtin_sound (ty := type) (consts := c.args.map fun | .const _ => true | _ => false) hi h (evs_sound hr ha)
    refine ⟨⟨v', w', μ', .inl ?_, h5⟩, h6⟩
    have he : c.args.map a.eval = (c.args.toList.map a.eval).toArray := by apply Array.ext'; simp
    simp only [execOp, resolve, hb, Sem.run_bind, Sem.run_pure, Result.andThen_ok, invoke]
    rw [he]
    exact h4
   ·cases h
 all_goals cases h
theorem op_sound (hE : EnvOk E base) (hi : Inv base μ s w) (hr : RhoOk μ ρ a) {v : AV} (h : opO E ρ s o.op = some (v, s')) :
  ∀ (K : Act → World → Prop) (Q : Exit → Act → World → Prop), (∀ v' w' μ', VR μ' v v' → Stp base μ μ' s s' w w' → K (a.put o.dst v') w') → o.wp E.P a w K Q := by
 by_cases hc : ∃ c f, o.op = .call c ∧ c.callee = .value f
 ·obtain ⟨c, f, ho, hf⟩ := hc
  rw [ho] at h
  simp only [opO] at h
  split at h
  ·cases h
  ·rename_i args ha
   rw [hf] at h
   simp only at h
   split at h
   ·rename_i F hF
    have hargs := evs_sound hr ha
    have hFv := hr _ _ hF
    have he : c.args.map a.eval = (c.args.toList.map a.eval).toArray := by apply Array.ext'; simp
    generalize c.args.toList.map a.eval = us at *
    unfold callO at h
    split at h
    ·rename_i fn cap
     obtain ⟨cs, hcap, hfe⟩ := hFv
     have hall : LR (VR μ) (args ++ cap.map AV.ptr) (us ++ cs.map fun c => Value.pointer (some c)) := by
      refine hargs.append ?_
      clear hfe h hF
      induction cap generalizing cs with
      | nil => rw [hcap.nil_left]; trivial
      | cons q r ih =>
       obtain ⟨c', cs', rfl, h1, h2⟩ := hcap.cons_left
       exact ⟨⟨c', h1, rfl⟩, ih _ h2⟩
     have hres : ∀ w, (execOp a.eval o).run E.P w = (callFunc fn (us ++ cs.map fun c => Value.pointer (some c)).toArray).run E.P w := fun w => by
      simp only [execOp, ho, resolve, hf, hfe, he, Deferred.ofValue, Sem.run_bind, Sem.run_pure, Result.andThen_ok, invoke]
      congr 2
      apply Array.ext'
      simp
     split at h
     ·
      rename_i x hs
      simp only [Option.some.injEq, Prod.mk.injEq] at h
      obtain ⟨rfl, rfl⟩ := h
      obtain ⟨x', us', rfl, hx, hu'⟩ := hargs.cons_left
      have := hu'.nil_left
      subst this
      have := hcap.nil_left
      subst this
      intro K Q hk
      have hrr := hE.same fn x' w hs
      unfold Oper.wp
      rw [hres]
      simp only [List.map_nil, List.append_nil]
      rw [hrr]
      exact hk _ _ μ hx (Stp.refl hi)
     ·cases h
     ·split at h
      ·
       rename_i v0 hkn
       simp only [Option.some.injEq, Prod.mk.injEq] at h
       obtain ⟨rfl, rfl⟩ := h
       obtain ⟨_, h2, h3⟩ := hE.known _ _ _ hkn
       intro K Q hk
       unfold Oper.wp
       rw [hres, h2]
       refine (h3 μ _ w hall).mono ?_
       rintro e w' ⟨v', rfl, hv, hb⟩
       exact hk _ _ μ hv (Stp.of_below hi hb)
      ·
       obtain ⟨h2, h3⟩ := hE.call _ _ _ _ _ h
       intro K Q hk
       unfold Oper.wp
       rw [hres, h2]
       refine (h3 μ w _ hi hall).mono ?_
       rintro e w' ⟨v', μ', rfl, hv, hst⟩
       exact hk _ _ μ' hv hst
    ·cases h
   ·cases h
 ·obtain ⟨h1, h2⟩ := op_run hi hr h (fun c f h1 h2 => hc ⟨c, f, h1, h2⟩)
  exact fun K Q hk => wp_of_run h1 hk
theorem want_sound (ht : TmRel μ f a) (ops : Array Oper) (o : Oper) : wantO f ops o = Region.wanted o (yielded ops a.tmps) := by
 unfold wantO Region.wanted
 cases o.guard with
 | none => rfl
 | some p =>
  obtain ⟨j, want⟩ := p
  simp only
  have hy : yieldO f ops j = yielded ops a.tmps j := by
   unfold yieldO yielded
   cases hd : (ops[j]?).bind (·.dst) with
   | none => rfl
   | some t =>
    have := ht.tmp t
    simp only [Option.bind_some]
    cases hg : f.tm.get t with
    | none =>
     rw [hg] at this
     have hu : a.tmps.getD t undef = undef := by
      obtain ⟨vs, h1, h2⟩ := this
      rw [h1.nil_left] at h2
      exact h2
     cases hq : a.tmps[t]? with
     | none => rfl
     | some q =>
      have : q = undef := by simpa [hq] using hu
      subst this
      rfl
    | some x =>
     rw [hg] at this
     have hv : VR μ x (a.tmps.getD t undef) := this
     cases hq : a.tmps[t]? with
     | none =>
      have hu : a.tmps.getD t undef = undef := by simp [hq]
      rw [hu] at hv
      cases x <;> first | rfl | (cases (show undef = Value.bool _ from hv))
     | some q =>
      have hu : a.tmps.getD t undef = q := by simp [hq]
      rw [hu] at hv
      cases x
      case bool b => rw [bool_inv hv]
      all_goals
       cases q <;> first | rfl | (simp [VR, V1, CR, SR] at hv)
  rw [hy]
  cases yielded ops a.tmps j <;> rfl
theorem one_sound (hE : EnvOk E base) (hi : Inv base μ s w) (ht : TmRel μ f a) {ops : Array Oper} (h : oneO E ops o f s = some (f', s')) {i : Nat} (ho : ops[i]? = some o) (K : Act → World → Prop) (Q : Exit → Act → World → Prop)
  (hk : ∀ μ' w' v', Stp base μ μ' s s' w w' → TmRel μ' f' (a.put o.dst v') → K (a.put o.dst v') w') : wpOp E.P ops Q i K a w := by
 unfold oneO at h
 unfold wpOp
 simp only [ho]
 rw [← want_sound ht]
 split at h
 ·rename_i hw
  rw [if_pos hw]
  split at h
  ·rename_i v s1 h1
   split at h
   ·rename_i f1 hp
    simp only [Option.some.injEq, Prod.mk.injEq] at h
    obtain ⟨rfl, rfl⟩ := h
    have h4 := op_sound hE hi (ev_sound hi ht) h1
    refine .inl (h4 K Q fun v' w' μ' hv hst => ?_)
    exact hk μ' w' v' hst ((ht.mono hst.ext).put hp hv)
   ·cases h
  ·cases h
 ·rename_i hw
  rw [if_neg (by simp [hw])]
  split at h
  ·rename_i f1 hp
   simp only [Option.some.injEq, Prod.mk.injEq] at h
   obtain ⟨rfl, rfl⟩ := h
   exact hk μ w undef (Stp.refl hi) (ht.put hp VR.und)
  ·cases h
theorem ops_sound (hE : EnvOk E base) {ops : Array Oper} (Q : Exit → Act → World → Prop) : ∀ (l : List Oper) (k : Nat) (f f' : Fr) (s s' : St) (μ : Mp) (w : World) (a : Act), ops.toList.drop k = l → opsO E ops l f s = some (f', s') → Inv base μ s w → TmRel μ f a → a.defers = [] →
  (∀ μ' w' a', Stp base μ μ' s s' w w' → TmRel μ' f' a' → a'.defers = [] → Q .normal a' w') → wpOps E.P ops Q (List.range' k l.length) a w
 | [], k, f, f', s, s', μ, w, a, _, h, hi, ht, hd, hq => by
  simp [opsO] at h
  obtain ⟨rfl, rfl⟩ := h
  exact hq μ w a (Stp.refl hi) ht hd
 | o :: l, k, f, f', s, s', μ, w, a, hl, h, hi, ht, hd, hq => by
  simp only [opsO] at h
  split at h
  ·rename_i f1 s1 h1
   have ho : ops[k]? = some o := by
    have : (ops.toList.drop k)[0]? = some o := by rw [hl]; rfl
    rw [List.getElem?_drop] at this
    simpa using this
   rw [List.length_cons, List.range'_succ, wpOps_cons]
   refine one_sound hE hi ht h1 ho _ _ fun μ1 w1 v1 hst ht1 => ?_
   refine ops_sound hE Q l (k + 1) f1 f' s1 s' μ1 w1 _ ?_ h (hi.after hst) ht1 ?_ ?_
   ·rw [← List.drop_drop, hl]; rfl
   ·cases o.dst <;> exact hd
   ·intro μ' w' a' h2 h3 h4
    exact hq μ' w' a' (hst.trans hi h2) h3 h4
  ·cases h
end
end Go.AM
/-
  Code and calls: what the abstract machine runs, the model runs.
-/
namespace Go.AM
open Go Go.RowKit Go.Lib
def exOf : Ex → Exit
 | .normal => .normal
 | .exit id => .exit id
 | .ret => .ret
def CodeOk (P : Program) (base : Nat) (c : Code) (f : Fr) (s : St) (ex : Ex) (f' : Fr) (s' : St) : Prop :=
 ∀ μ w a, Inv base μ s w → TmRel μ f a → a.defers = [] → ∀ Q : Exit → Act → World → Prop,
  (∀ μ' w' a', Stp base μ μ' s s' w w' → TmRel μ' f' a' → a'.defers = [] → Q (exOf ex) a' w') → c.wp P Q a w
def CallOk (P : Program) (base : Nat) (call : FuncId → List AV → St → Option (AV × St)) : Prop :=
 ∀ f args s v s', call f args s = some (v, s') → (∀ vs w, (callFunc f vs).run P w = .ok (.enter f vs) w) ∧
  ∀ μ w vs, Inv base μ s w → LR (VR μ) args vs → Calls P f vs.toArray w fun e w' => ∃ v' μ', e = .returned v' ∧ VR μ' v v' ∧ Stp base μ μ' s s' w w'
section
variable {base : Nat} {μ μ' : Mp} {P : Program} {w w' : World} {s s' : St} {f : Fr} {a : Act}
theorem argsT_get : ∀ (args : List AV) (i : Nat) (t : T AV) (k : Nat), (argsT args i t).get k = if i ≤ k ∧ k < i + args.length then args[k - i]? else t.get k
 | [], i, t, k => by
  have hn : ¬ (i ≤ k ∧ k < i + ([] : List AV).length) := by simp only [List.length_nil]; omega
  rw [if_neg hn]
  rfl
 | v :: r, i, t, k => by
  simp only [argsT]
  rw [argsT_get r (i + 1) (T.set v t i) k, T.get_set]
  by_cases h1 : k = i
  ·subst h1
   rw [if_neg (by omega), if_pos rfl, if_pos (by simp)]
   simp
  ·rw [if_neg h1]
   by_cases h2 : i + 1 ≤ k ∧ k < i + 1 + r.length
   ·rw [if_pos h2, if_pos (by simp; omega), show k - i = (k - (i + 1)) + 1 by omega]
    simp
   ·rw [if_neg h2, if_neg (by simp; omega)]
theorem enter_rel {args : List AV} {vs : List Value} (h : LR (VR μ) args vs) {n : Nat} (hn : args.length ≤ n) :
  TmRel μ { tm := argsT args 0 .nil, nt := n } { tmps := vs.toArray ++ Array.replicate (n - vs.toArray.size) undef, defers := [] } := by
 have hl := h.length
 refine ⟨by simp; omega, fun t => ?_⟩
 show VR μ (((argsT args 0 .nil).get t).getD und) _
 rw [argsT_get]
 by_cases ht : t < args.length
 ·rw [if_pos (by omega)]
  obtain ⟨x, hx⟩ : ∃ x, args[t]? = some x := ⟨args[t], List.getElem?_eq_getElem ht⟩
  obtain ⟨v, hv, hr⟩ := h.get _ _ hx
  have : (vs.toArray ++ Array.replicate (n - vs.toArray.size) undef).getD t undef = v := by
   have hlt : t < vs.length := by omega
   simp [Array.getElem?_append, hlt]
   rw [List.getElem?_eq_getElem hlt] at hv
   injection hv
  rw [this]
  simp [hx]
  exact hr
 ·rw [if_neg (by omega)]
  have : (vs.toArray ++ Array.replicate (n - vs.toArray.size) undef).getD t undef = undef := by
   have hlt : ¬ t < vs.length := by omega
   simp [Array.getElem?_append, hlt, Array.getElem?_replicate]
   split <;> rfl
  rw [this]
  exact VR.und
theorem noTup_v1 {x : AV} {v : Value} (h : isTup x = false) (hv : VR μ x v) : V1 μ x v := by
 cases x <;> first | exact hv | simp [isTup] at h
theorem res_sound (hr : Rel base μ s.hp w) (ht : TmRel μ f a) : ∀ (rs : List ResultVar) (l : List AV), resO P f s rs = some l →
  ∃ us, LR (V1 μ) l us ∧ (rs.mapM (fun
   | .tmp t => pure (a.tmps.getD t undef)
   | .cell c t => do loadVar t (← asAddr (a.tmps.getD c undef))) : Sem (List Value)).run P w = .ok us w
 | [], l, h => by
  simp [resO] at h; subst h
  exact ⟨[], trivial, rfl⟩
 | .tmp t :: rs, l, h => by
  simp only [resO] at h
  split at h
  ·rename_i v hv
   split at h
   ·rename_i l' hnt hl'
    simp at h; subst h
    obtain ⟨us, h1, h2⟩ := res_sound hr ht rs l' hl'
    have := ht.tmp t
    rw [hv] at this
    refine ⟨a.tmps.getD t undef :: us, ⟨noTup_v1 hnt this, h1⟩, ?_⟩
    rw [List.mapM_cons]
    simp only [Sem.run_bind, Sem.run_pure, Result.andThen_ok, h2]
   ·cases h
  ·cases h
 | .cell c t :: rs, l, h => by
  simp only [resO] at h
  split at h
  ·rename_i q hq
   split at h
   ·rename_i v l' hv hl'
    simp at h; subst h
    obtain ⟨us, h1, h2⟩ := res_sound hr ht rs l' hl'
    have := ht.tmp c
    rw [hq] at this
    obtain ⟨c', hc', he⟩ := this
    obtain ⟨u, h3, h4⟩ := load_sound hr hv hc'
    refine ⟨u :: us, ⟨h3, h1⟩, ?_⟩
    have ha : (asAddr (a.tmps.getD c undef)).run P w = .ok c' w := by rw [he]; rfl
    rw [List.mapM_cons]
    simp only [Sem.run_bind, ha, Sem.run_pure, Result.andThen_ok, h4, h2]
   ·cases h
  ·cases h
theorem results_run {fn : Func} (hr : Rel base μ s.hp w) (ht : TmRel μ f a) {l : List AV} (h : resO P f s fn.results.toList = some l) :
  ∃ v', VR μ (oneOf l) v' ∧ (results fn a.tmps).run P w = .ok v' w := by
 obtain ⟨us, h1, h2⟩ := res_sound hr ht _ _ h
 have hl := h1.length
 have hrun : (results fn a.tmps).run P w = .ok (if h : us.toArray.size = 1 then us.toArray[0] else .tuple us.toArray) w := by
  unfold results
  rw [Array.mapM_eq_mapM_toList]
  simp only [Sem.run_bind, Sem.run_map]
  have h2' := h2
  first
   | (rw [h2']; rfl)
   | (erw [h2']; rfl)
 refine ⟨_, ?_, hrun⟩
 unfold oneOf
 split
 ·rename_i v
  obtain ⟨u, us', rfl, h3, h4⟩ := h1.cons_left
  have := h4.nil_left
  subst this
  simp
  exact h3.vr
 ·rename_i hne
  have : ¬ us.toArray.size = 1 := by
   intro h0
   have : l.length = 1 := by simp at h0; omega
   obtain ⟨v, rfl⟩ := List.length_eq_one_iff.1 this
   exact hne v rfl
  rw [dif_neg this]
  exact ⟨us, h1, rfl⟩
theorem plainC_rel {x : AV} {v : Value} (h : plainC x = true) (hv : CR μ x v) : CR μ' x v := by
 cases x <;> first | exact hv | simp [plainC] at h
theorem allB_mem {α : Type} {p : α → Bool} : ∀ {l : List α}, allB p l = true → ∀ x ∈ l, p x = true
 | [], _, _, h => by simp at h
 | y :: l, h, x, hx => by
  simp only [allB] at h
  split at h
  ·rename_i hy
   rcases List.mem_cons.1 hx with rfl | hx
   ·exact hy
   ·exact allB_mem h x hx
  ·cases h
theorem LR.mono_mem {α β : Type} {R R' : α → β → Prop} : ∀ {as : List α} {bs : List β}, (∀ a ∈ as, ∀ b, R a b → R' a b) → LR R as bs → LR R' as bs
 | [], [], _, _ => trivial
 | a :: as, b :: bs, h, ⟨h1, h2⟩ => ⟨h a (by simp) b h1, LR.mono_mem (fun x hx => h x (by simp [hx])) h2⟩
 | [], _ :: _, _, h => h.elim
 | _ :: _, [], _, h => h.elim
theorem plain1_rel {x : AV} {v : Value} (h : plain1 x = true) (hv : V1 μ x v) : V1 μ' x v := by
 cases x
 case agg cs => obtain ⟨vs, h1, rfl⟩ := hv; exact ⟨vs, h1.mono_mem fun y hy b hb => plainC_rel (allB_mem h y hy) hb, rfl⟩
 all_goals (simp only [plain1] at h; simp only [V1] at hv ⊢; exact plainC_rel (μ := μ) (μ' := μ') h hv)
theorem plain_rel {x : AV} {v : Value} (h : plainV x = true) (hv : VR μ x v) : VR μ' x v := by
 cases x
 case tuple cs => obtain ⟨vs, h1, rfl⟩ := hv; exact ⟨vs, h1.mono_mem fun y hy b hb => plain1_rel (allB_mem h y hy) hb, rfl⟩
 all_goals (simp only [plainV] at h; simp only [VR] at hv ⊢; exact plain1_rel (μ := μ) (μ' := μ') h hv)
theorem tidy_sound (hi : Inv base μ s w) {v : AV} {v' : Value} (hst : Stp base μ μ' { s with low := s.nx } s' w w') (hv : VR μ' v v') :
  ∃ μ'', VR μ'' v v' ∧ Stp base μ μ'' s (tidy s s' v) w w' := by
 have hi' : Inv base μ { s with low := s.nx } w := ⟨hi.rel, hi.dom, Nat.le_refl _, hi.size, hi.glob, hi.wf⟩
 unfold tidy
 split
 ·rename_i hc
  simp only [Bool.and_eq_true, ble_iff] at hc
  refine ⟨μ, plain_rel hc.1 hv, Stp.of_below hi ⟨hst.os, hst.tape, hst.output, hst.size, fun k hk => ?_⟩⟩
  exact hst.still hi' hc.2 k hk
 ·refine ⟨μ', hv, ⟨hst.ext, hst.rel, hst.dom, ?_, hst.nx, hst.gl, Nat.min_le_left _ _, ?_, ?_, hst.size, hst.os, hst.tape, hst.output, hst.wf⟩⟩
  ·intro b g blk n hm
   rcases hst.new b g blk n hm with h | h | ⟨h1, h2⟩
   ·exact .inl h
   ·exact .inr (.inl h)
   ·exact .inr (.inr ⟨Nat.le_trans (Nat.min_le_right _ _) h1, h2⟩)
  ·intro b hb hl
   exact hst.same b hb (Nat.lt_of_lt_of_le hl (Nat.min_le_right _ _))
  ·intro blk hb
   rcases hst.fr blk hb with h | ⟨b, g, n, h1, h2, h3⟩
   ·exact .inl h
   ·exact .inr ⟨b, g, n, h1, Nat.le_trans (Nat.min_le_right _ _) h2, h3⟩
structure ProgOk (P : Program) (same : FuncId → Bool) (known : FuncId → List AV → Option AV) : Prop where
 mixed : P.follows .mixedOrders = true
 name : ∀ (f : FuncId) (fn : Func), P.funcs[f]? = some fn → (fn.name == "runtime.NumGoroutine") = false
 same : ∀ f v w, same f = true → (callFunc f #[v]).run P w = .ok (.value v) w
 known : ∀ f args v, known f args = some v → plainV v = true ∧ (∀ vs w, (callFunc f vs).run P w = .ok (.enter f vs) w) ∧
  ∀ μ vs w, LR (VR μ) args vs → Calls P f vs.toArray w fun e w' => ∃ v', e = .returned v' ∧ VR μ v v' ∧ Below w.heap.size w w'
def DrawOk : Prop := ∀ (E : Env) (base : Nat) (ops : Array Oper) (id : Nat) (f f' : Fr) (s s' : St), EnvOk E base → E.P.follows .mixedOrders = true → okRegion ops = true →
 drawO E ops (kindOf ops) 0 ops.toList [] [] f s = some (f', s') → CodeOk E.P base (.region id ops true) f s .normal f' s'
theorem run_sound {same : FuncId → Bool} {known : FuncId → List AV → Option AV} (hP : ProgOk P same known) (hD : DrawOk) (base : Nat) :
  ∀ n, (∀ c f s ex f' s', (run P same known kindOf n).code c f s = some (ex, f', s') → CodeOk P base c f s ex f' s') ∧
   (∀ b f s ex f' s', (run P same known kindOf n).code (.loop b) f s = some (ex, f', s') → ∀ μ w a, Inv base μ s w → TmRel μ f a → a.defers = [] → ∀ Q : Exit → Act → World → Prop,
    (∀ μ' w' a', Stp base μ μ' s s' w w' → TmRel μ' f' a' → a'.defers = [] → Q (exOf ex) a' w') → Code.rounds P b Q n a w) ∧
   CallOk P base (run P same known kindOf n).call := by
 intro n
 induction n with
 | zero =>
  refine ⟨fun c f s ex f' s' h => ?_, fun b f s ex f' s' h => ?_, fun f args s v s' h => ?_⟩ <;> simp [run] at h
 | succ n ih =>
  obtain ⟨ihc, ihl, ihf⟩ := ih
  have hE : EnvOk (envOf P same known (run P same known kindOf n)) base := ⟨hP.same, hP.known, fun f args s v s' h => ihf f args s v s' h⟩
  have hloop : ∀ b f s ex f' s', (run P same known kindOf (n + 1)).code (.loop b) f s = some (ex, f', s') → ∀ μ w a, Inv base μ s w → TmRel μ f a → a.defers = [] → ∀ Q : Exit → Act → World → Prop,
    (∀ μ' w' a', Stp base μ μ' s s' w w' → TmRel μ' f' a' → a'.defers = [] → Q (exOf ex) a' w') → Code.rounds P b Q (n + 1) a w := by
   intro b f s ex f' s' h μ w a hi ht hd Q hq
   rw [rounds_succ]
   simp only [run, stepC] at h
   split at h
   ·rename_i f1 s1 h1
    refine ihc b f s .normal f1 s1 h1 μ w a hi ht hd _ fun μ1 w1 a1 hst ht1 hd1 => ?_
    exact ihl b f1 s1 ex f' s' h μ1 w1 a1 (hi.after hst) ht1 hd1 Q fun μ2 w2 a2 hst2 ht2 hd2 => hq μ2 w2 a2 (hst.trans hi hst2) ht2 hd2
   ·rename_i hne
    refine ihc b f s ex f' s' h μ w a hi ht hd _ fun μ1 w1 a1 hst ht1 hd1 => ?_
    cases ex with
    | normal => exact absurd h (hne _ _)
    | exit id => exact hq μ1 w1 a1 hst ht1 hd1
    | ret => exact hq μ1 w1 a1 hst ht1 hd1
  refine ⟨?_, hloop, ?_⟩
  ·intro c f s ex f' s' h μ w a hi ht hd Q hq
   cases c
   case loop b => exact wp_loop_rounds (n + 1) (hloop b f s ex f' s' h μ w a hi ht hd Q hq)
   case skip =>
    simp only [run, stepC, Option.some.injEq, Prod.mk.injEq] at h
    obtain ⟨rfl, rfl, rfl⟩ := h
    exact wp_skip (hq μ w a (Stp.refl hi) ht hd)
   case exit id =>
    simp only [run, stepC, Option.some.injEq, Prod.mk.injEq] at h
    obtain ⟨rfl, rfl, rfl⟩ := h
    exact wp_exit (hq μ w a (Stp.refl hi) ht hd)
   case ret =>
    simp only [run, stepC, Option.some.injEq, Prod.mk.injEq] at h
    obtain ⟨rfl, rfl, rfl⟩ := h
    exact wp_ret (hq μ w a (Stp.refl hi) ht hd)
   case region id ops draw =>
    cases draw with
    | false =>
     simp only [run, stepC] at h
     split at h
     ·rename_i f1 s1 h1
      simp only [Option.some.injEq, Prod.mk.injEq] at h
      obtain ⟨rfl, rfl, rfl⟩ := h
      refine wp_region ?_
      have := ops_sound hE Q ops.toList 0 f f1 s s1 μ w a rfl h1 hi ht hd hq
      rw [List.range_eq_range']
      have hlen : ops.toList.length = ops.size := by simp
      rw [hlen] at this
      exact this
     ·cases h
    | true =>
     simp only [run, stepC] at h
     split at h
     ·rename_i hok
      split at h
      ·rename_i f1 s1 h1
       simp only [Option.some.injEq, Prod.mk.injEq] at h
       obtain ⟨rfl, rfl, rfl⟩ := h
       exact hD _ base ops id f f1 s s1 hE hP.mixed hok h1 μ w a hi ht hd Q hq
      ·cases h
     ·cases h
   case seq x y =>
    refine wp_seq ?_
    simp only [run, stepC] at h
    split at h
    ·rename_i f1 s1 h1
     refine ihc x f s .normal f1 s1 h1 μ w a hi ht hd _ fun μ1 w1 a1 hst ht1 hd1 => ?_
     exact ihc y f1 s1 ex f' s' h μ1 w1 a1 (hi.after hst) ht1 hd1 Q fun μ2 w2 a2 hst2 ht2 hd2 => hq μ2 w2 a2 (hst.trans hi hst2) ht2 hd2
    ·rename_i hne
     refine ihc x f s ex f' s' h μ w a hi ht hd _ fun μ1 w1 a1 hst ht1 hd1 => ?_
     cases ex with
     | normal => exact absurd h (hne _ _)
     | exit id => exact hq μ1 w1 a1 hst ht1 hd1
     | ret => exact hq μ1 w1 a1 hst ht1 hd1
   case cond c x y =>
    simp only [run, stepC] at h
    split at h
    ·rename_i hb
     exact wp_cond_true (bool_inv (ev_sound hi ht _ _ hb)) (ihc x f s ex f' s' h μ w a hi ht hd Q hq)
    ·rename_i hb
     exact wp_cond_false (bool_inv (ev_sound hi ht _ _ hb)) (ihc y f s ex f' s' h μ w a hi ht hd Q hq)
    ·cases h
   case block id b =>
    refine wp_block ?_
    simp only [run, stepC] at h
    split at h
    ·rename_i i f1 s1 h1
     refine ihc b f s (.exit i) f1 s1 h1 μ w a hi ht hd _ fun μ1 w1 a1 hst ht1 hd1 => ?_
     show Exit.inBlock id Q (.exit i) a1 w1
     unfold Exit.inBlock
     split at h
     ·rename_i he
      have he := Nat.eq_of_beq_eq_true he
      subst he
      simp only [Option.some.injEq, Prod.mk.injEq] at h
      obtain ⟨rfl, rfl, rfl⟩ := h
      simp only [if_true]
      exact hq μ1 w1 a1 hst ht1 hd1
     ·rename_i he
      rw [beq0] at he
      have he : ¬ i = id := by simpa using he
      simp only [Option.some.injEq, Prod.mk.injEq] at h
      obtain ⟨rfl, rfl, rfl⟩ := h
      simp only [he, if_false]
      exact hq μ1 w1 a1 hst ht1 hd1
    ·rename_i hne
     refine ihc b f s ex f' s' h μ w a hi ht hd _ fun μ1 w1 a1 hst ht1 hd1 => ?_
     cases ex with
     | normal => exact hq μ1 w1 a1 hst ht1 hd1
     | exit id => exact absurd h (hne _ _ _)
     | ret => exact hq μ1 w1 a1 hst ht1 hd1
   all_goals (simp [run, stepC] at h)
  ·intro g args s v s' h
   simp only [run, stepF] at h
   split at h
   ·cases h
   ·rename_i fn hfn
    split at h
    ·cases h
    ·rename_i c hbody
     split at h
     ·cases h
     ·rename_i hlen
      have hlen := ble_iff.1 hlen
      refine ⟨fun vs w => ?_, fun μ w vs hi hvs => ?_⟩
      ·have hn : ¬ fn.name = "runtime.NumGoroutine" := by simpa using hP.name g fn hfn
       simp [callFunc, hfn, hn, hbody]
      ·have hi' : Inv base μ { s with low := s.nx } w := ⟨hi.rel, hi.dom, Nat.le_refl _, hi.size, hi.glob, hi.wf⟩
       have key : ∀ ex f1 s1, (run P same known kindOf n).code c { tm := argsT args 0 .nil, nt := fn.ntmps } { s with low := s.nx } = some (ex, f1, s1) → leaveO P fn s f1 s1 = some (v, s') → (exOf ex = .normal ∨ exOf ex = .ret) →
         Calls P g vs.toArray w fun e w' => ∃ v' μ', e = .returned v' ∧ VR μ' v v' ∧ Stp base μ μ' s s' w w' := by
        intro ex f1 s1 h1 h2 h3
        unfold leaveO at h2
        split at h2
        ·rename_i l hl
         simp only [Option.some.injEq, Prod.mk.injEq] at h2
         obtain ⟨rfl, rfl⟩ := h2
         refine calls_of_wp hfn hbody ?_
         refine ihc c _ _ ex f1 s1 h1 μ w _ hi' (enter_rel hvs hlen) rfl _ fun μ1 w1 a1 hst ht1 hd1 => ?_
         obtain ⟨v', hv', hrun⟩ := results_run hst.rel ht1 hl
         obtain ⟨μ2, h4, h5⟩ := tidy_sound hi hst hv'
         have : a1.defers = [] ∧ ∃ v, (results fn a1.tmps).run P w1 = .ok v w1 ∧ ∃ v' μ', Ending.returned v = .returned v' ∧ VR μ' (oneOf l) v' ∧ Stp base μ μ' s (tidy s s1 (oneOf l)) w w1 :=
          ⟨hd1, v', hrun, v', μ2, rfl, h4, h5⟩
         rcases h3 with h3 | h3 <;> rw [h3] <;> exact this
        ·cases h2
       split at h
       ·rename_i f1 s1 h1
        exact key .normal f1 s1 h1 h (.inl rfl)
       ·rename_i f1 s1 h1
        exact key .ret f1 s1 h1 h (.inr rfl)
       ·cases h
end
end Go.AM
