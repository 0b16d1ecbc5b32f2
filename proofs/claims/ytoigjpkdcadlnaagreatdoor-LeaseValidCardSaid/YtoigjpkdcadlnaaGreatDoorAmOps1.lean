/-
  Operations on values: what the abstract machine computes, the model computes.
-/
import Derived.Test.YtoigjpkdcadlnaaGreatDoorAmMem
import Derived.Laws.StructEq
import Derived.Laws.Entries
namespace Go.AM
open Go Go.RowKit

section
variable {μ : Mp} {P : Program} {w : World}

theorem CR.vr {x : AV} {v : Value} (h : CR μ x v) : VR μ x v := by
  cases x <;> simp only [VR, V1] <;> first | exact h | exact (show False from h).elim
theorem V1.vr {x : AV} {v : Value} (h : V1 μ x v) : VR μ x v := by
  cases x <;> simp only [VR] <;> first | exact h | exact (show False from h).elim
theorem CR.v1 {x : AV} {v : Value} (h : CR μ x v) : V1 μ x v := by
  cases x <;> simp only [V1] <;> first | exact h | exact (show False from h).elim

theorem cOf_sound {c : Value} {x : AV} (h : cOf c = some x) : CR μ x c := by
  unfold cOf at h
  split at h <;> simp at h <;> subst h <;> simp [CR, SR]

theorem mapO_sound {α β : Type} {f : α → Option β} : ∀ {l : List α} {r : List β}, mapO f l = some r → ∀ {R : β → α → Prop}, (∀ a b, f a = some b → R b a) → LR R r l
  | [], r, h, R, _ => by simp [mapO] at h; subst h; trivial
  | a :: l, r, h, R, hR => by
    simp only [mapO] at h
    cases h1 : f a with
    | none => simp [h1] at h
    | some b =>
      cases h2 : mapO f l with
      | none => simp [h1, h2] at h
      | some bs => simp [h1, h2] at h; subst h; exact ⟨hR a b h1, mapO_sound h2 hR⟩

theorem vOf_sound {c : Value} {x : AV} (h : vOf c = some x) : V1 μ x c := by
  unfold vOf at h
  split at h
  · rename_i cs
    split at h
    · rename_i l hl
      simp at h
      subst h
      exact ⟨cs.toList, mapO_sound hl fun _ _ h => cOf_sound h, by simp⟩
    · cases h
  · exact (cOf_sound h).v1

theorem cells_sound {x : AV} {l : List AV} {v : Value} (h : cellsOf x = some l) (hx : VR μ x v) : ∃ vs, LR (CR μ) l vs ∧ v.cells = vs.toArray := by
  cases x <;> simp only [cellsOf, Option.some.injEq] at h <;> try (subst h)
  case agg cs => obtain ⟨vs, h1, rfl⟩ := hx; exact ⟨vs, h1, rfl⟩
  case tuple => cases h
  all_goals
    have hc := hx
    simp only [VR, V1] at hc
    refine ⟨[v], ⟨hc, trivial⟩, ?_⟩
    have := hc.oneCell
    cases v <;> first | rfl | simp [Value.oneCell'] at this

theorem zero_sound {t : TypeId} {x : AV} (h : zeroOf P t = some x) : ∃ i z, P.info? t = some i ∧ i.zero = some z ∧ V1 μ x z := by
  unfold zeroOf at h
  split at h
  · cases h
  · rename_i i hi
    split at h
    · cases h
    · rename_i z hz
      exact ⟨i, z, hi, hz, vOf_sound h⟩

theorem size_run {t : TypeId} {n : Nat} (h : sizeT P t = some n) : ∀ w, (sizeOf t).run P w = .ok n w := by
  intro w
  unfold sizeT at h
  cases hi : P.info? t with
  | none => simp [hi] at h
  | some i => simp [hi] at h; simp [sizeOf, typeInfo, hi, h]

theorem agg_run {t : TypeId} {b : Bool} (h : aggT P t = some b) : ∀ w, (isAgg t).run P w = .ok b w := by
  intro w
  unfold aggT at h
  cases hu : P.underlying t with
  | none => simp [hu] at h
  | some d => cases d <;> simp [hu] at h <;> subst h <;> simp [isAgg, run_underlying hu]

theorem part_sound {t : TypeId} {cs : List AV} {off : Nat} {x : AV} (h : partOf P t cs off = some x) {vs : List Value} (hv : LR (CR μ) cs vs) :
    ∃ v, V1 μ x v ∧ ∀ w, (part t vs.toArray off).run P w = .ok v w := by
  unfold partOf at h
  split at h
  · rename_i n h1 h2
    split at h
    · rename_i hb
      have hb := ble_iff.1 hb
      simp at h
      subst h
      refine ⟨.agg (((vs.drop off).take n)).toArray, ⟨_, (hv.drop off).take n, rfl⟩, fun w => ?_⟩
      simp only [part, Sem.run_bind, agg_run h1, Result.andThen_ok, if_true, size_run h2, Sem.run_pure]
      congr 2
      apply Array.ext'
      simp
    · cases h
  · rename_i h1
    obtain ⟨v, h2, h3⟩ := hv.get _ _ h
    exact ⟨v, h3.v1, fun w => by simp [part, agg_run h1, h2]⟩
  · cases h

theorem strOf_inj {a b : List UInt8} : ((⟨a.toArray⟩ : ByteArray) == ⟨b.toArray⟩) = (a == b) := by
  rw [beq_toListBytes, ByteArray.toList_eq, ByteArray.toList_eq]

theorem strOf_toList (a : List UInt8) : (⟨a.toArray⟩ : ByteArray).toList = a := by rw [ByteArray.toList_eq]

theorem fields_sound {eq : TypeId → AV → AV → Option Bool} {d : Nat} {xs ys : List AV} {us vs : List Value} (hx : LR (CR μ) xs us) (hy : LR (CR μ) ys vs)
    (heq : ∀ t x y b x' y', eq t x y = some b → VR μ x x' → VR μ y y' → ∀ w, (Op.equalIn d t x' y').run P w = .ok b w) :
    ∀ (fs : List Field) (b : Bool), eqFields P eq xs ys fs = some b → ∀ w, (Op.eqFields d us.toArray vs.toArray fs).run P w = .ok b w
  | [], b, h, w => by simp [eqFields] at h; subst h; simp [Op.eqFields]
  | f :: fs, b, h, w => by
    simp only [eqFields] at h
    split at h
    · rename_i hn
      have hn : f.name = "_" := by simpa using hn
      simp only [Op.eqFields, hn, ne_eq, not_true_eq_false, if_false]
      exact fields_sound hx hy heq fs b h w
    · rename_i hn
      have hn : ¬ f.name = "_" := by simpa using hn
      split at h
      · rename_i x y h1 h2
        obtain ⟨x', hx1, hx2⟩ := part_sound h1 hx
        obtain ⟨y', hy1, hy2⟩ := part_sound h2 hy
        simp only [Op.eqFields, ne_eq, hn, not_false_eq_true, if_true, Sem.run_bind, hx2, hy2, Result.andThen_ok]
        split at h
        · rename_i h3
          simp only [heq _ _ _ _ _ _ h3 hx1.vr hy1.vr w, Result.andThen_ok, Bool.not_true, Bool.false_eq_true, if_false]
          exact fields_sound hx hy heq fs b h w
        · rename_i h3
          simp at h
          subst h
          simp [heq _ _ _ _ _ _ h3 hx1.vr hy1.vr w]
        · cases h
      · cases h

theorem aeq_sound : ∀ (d : Nat) (t : TypeId) (x y : AV) (b : Bool) (x' y' : Value), aeq P d t x y = some b → VR μ x x' → VR μ y y' → ∀ (k : Nat) (w : World), (Op.equalIn (d + k) t x' y').run P w = .ok b w := by
  intro d
  induction d with
  | zero => intro t x y b x' y' h; simp [aeq] at h
  | succ d ih =>
    intro t x y b x' y' h hx hy k w
    rw [show d + 1 + k = (d + k) + 1 by omega]
    unfold aeq at h
    split at h
    case h_1 hu =>
      simp at h; subst h
      have hx : x' = _ := hx
      have hy : y' = _ := hy
      subst hx; subst hy
      simp [Op.equalIn, run_underlying hu]
    case h_2 k1 a k2 b' hu =>
      split at h
      case h_1 hk =>
        simp at h; subst h
        have hk : k1 = k2 := by simpa using hk
        subst hk
        have hx : x' = _ := hx
        have hy : y' = _ := hy
        subst hx; subst hy
        simp [Op.equalIn, run_underlying hu]
      case h_2 => cases h
    case h_3 hu =>
      simp at h; subst h
      have hx : x' = _ := hx
      have hy : y' = _ := hy
      subst hx; subst hy
      simp [Op.equalIn, run_underlying hu, strOf_inj]
    case h_4 hu =>
      simp at h; subst h
      have hx : x' = _ := hx
      have hy : y' = _ := hy
      subst hx; subst hy
      simp [Op.equalIn, run_underlying hu]
    case h_5 hu =>
      simp at h; subst h
      have hx : x' = _ := hx
      obtain ⟨c, hc, rfl⟩ := hy
      subst hx
      simp [Op.equalIn, run_underlying hu]
    case h_6 hu =>
      simp at h; subst h
      have hy : y' = _ := hy
      obtain ⟨c, hc, rfl⟩ := hx
      subst hy
      simp [Op.equalIn, run_underlying hu]
    case h_7 e a1 a2 hu =>
      obtain ⟨c1, ⟨blk1, n1, hm1, rfl⟩, rfl⟩ := hx
      obtain ⟨c2, ⟨blk2, n2, hm2, rfl⟩, rfl⟩ := hy
      split at h
      case h_1 sz hs =>
        split at h
        case h_1 hc =>
          simp at h; subst h
          simp only [Bool.and_eq_true] at hc
          have e1 := Nat.eq_of_beq_eq_true hc.1
          have e2 := Nat.eq_of_beq_eq_true hc.2
          rw [e1, e2, hm2] at hm1
          injection hm1 with hm1
          injection hm1 with hm1 _
          subst hm1
          have hne : sz + 1 ≠ 0 := by omega
          simp only [Op.equalIn, Sem.run_bind, run_underlying hu, Result.andThen_ok, size_run hs, ne_eq, hne, not_false_eq_true, if_true, sameAddr, BEq.rfl, Sem.run_pure]
          rw [beq0]
          congr 1
          show decide ((⟨blk2, a1.off, none⟩ : Addr) = ⟨blk2, a2.off, none⟩) = _
          simp
        case h_2 => cases h
      case h_2 => cases h
    case h_8 hu =>
      simp at h; subst h
      have hx : x' = _ := hx
      have hy : y' = _ := hy
      subst hx; subst hy
      simp [Op.equalIn, run_underlying hu]
    case h_9 hu =>
      simp at h; subst h
      have hx : x' = _ := hx
      obtain ⟨c, hc, rfl⟩ := hy
      subst hx
      simp [Op.equalIn, run_underlying hu]
    case h_10 hu =>
      simp at h; subst h
      have hy : y' = _ := hy
      obtain ⟨c, hc, rfl⟩ := hx
      subst hy
      simp [Op.equalIn, run_underlying hu]
    case h_11 fields xs ys hu =>
      split at h
      case h_1 => cases h
      case h_2 hst =>
        obtain ⟨us, hxs, rfl⟩ := hx
        obtain ⟨vs, hys, rfl⟩ := hy
        have hf : P.fieldsOf t = fields := by simp [Program.fieldsOf, hu]
        rw [run_equalIn_struct w (d + k) t us.toArray vs.toArray (by rw [hf]; exact hu) hst, hf]
        exact fields_sound hxs hys (fun t x y b x' y' h1 h2 h3 w => ih t x y b x' y' h1 h2 h3 k w) _ _ h w
    case h_12 hu =>
      simp at h; subst h
      have hx : x' = _ := hx
      have hy : y' = _ := hy
      subst hx; subst hy
      simp [Op.equalIn, run_underlying hu]
    case h_13 hu =>
      simp at h; subst h
      have hx : x' = _ := hx
      obtain ⟨_, _, _, _, rfl, _⟩ := hy
      subst hx
      simp [Op.equalIn, run_underlying hu]
    case h_14 hu =>
      simp at h; subst h
      have hx : x' = _ := hx
      obtain ⟨_, _, rfl⟩ := hy
      subst hx
      simp [Op.equalIn, run_underlying hu]
    case h_15 hu =>
      simp at h; subst h
      have hy : y' = _ := hy
      obtain ⟨_, _, _, _, rfl, _⟩ := hx
      subst hy
      simp [Op.equalIn, run_underlying hu]
    case h_16 hu =>
      simp at h; subst h
      have hy : y' = _ := hy
      obtain ⟨_, _, rfl⟩ := hx
      subst hy
      simp [Op.equalIn, run_underlying hu]
    case h_17 hu =>
      simp at h; subst h
      have hx : x' = _ := hx
      have hy : y' = _ := hy
      subst hx; subst hy
      simp [Op.equalIn, run_underlying hu]
    case h_18 hu =>
      simp at h; subst h
      have hx : x' = _ := hx
      obtain ⟨_, _, rfl⟩ := hy
      subst hx
      simp [Op.equalIn, run_underlying hu]
    case h_19 hu =>
      simp at h; subst h
      have hy : y' = _ := hy
      obtain ⟨_, _, rfl⟩ := hx
      subst hy
      simp [Op.equalIn, run_underlying hu]
    case h_20 => cases h

theorem int_inv {k : IntKind} {n : Int} {v : Value} (h : VR μ (.int k n) v) : v = .int k n := h
theorem bool_inv {b : Bool} {v : Value} (h : VR μ (.bool b) v) : v = .bool b := h
theorem str_inv {l : List UInt8} {v : Value} (h : VR μ (.str l) v) : v = .string ⟨l.toArray⟩ := h

theorem intBin_sound {op : BinOp} {k : IntKind} {a b : Int} {v : AV} (h : intBin op k a b = some v) :
    ∃ v', VR μ v v' ∧ ∀ (t : TypeId) (X Y : Operand) (w : World), (do eqGuard op t X Y (.int k a) (.int k b); binOp op t (.int k a) (.int k b) : Sem Value).run P w = .ok v' w := by
  cases op <;> simp only [intBin, Option.some.injEq] at h
  case quo =>
    split at h
    · cases h
    · rename_i hb
      have hb : ¬ b = 0 := by simpa using hb
      simp at h; subst h
      exact ⟨_, rfl, fun t X Y w => by simp [eqGuard, binOp, Op.intDiv, hb]⟩
  case rem =>
    split at h
    · cases h
    · rename_i hb
      have hb : ¬ b = 0 := by simpa using hb
      simp at h; subst h
      exact ⟨_, rfl, fun t X Y w => by simp [eqGuard, binOp, Op.intDiv, hb]⟩
  all_goals first
    | (subst h; exact ⟨_, rfl, fun t X Y w => by simp [eqGuard, binOp, Op.intArith, Op.intBits, Op.intCmp]⟩)
    | cases h

theorem strBin_sound {op : BinOp} {a b : List UInt8} {v : AV} (h : strBin op a b = some v) :
    ∃ v', VR μ v v' ∧ ∀ (t : TypeId) (X Y : Operand) (w : World), (do eqGuard op t X Y (.string ⟨a.toArray⟩) (.string ⟨b.toArray⟩); binOp op t (.string ⟨a.toArray⟩) (.string ⟨b.toArray⟩) : Sem Value).run P w = .ok v' w := by
  have hsz : ∀ l : List UInt8, (⟨l.toArray⟩ : ByteArray).size = l.length := fun l => by simp [ByteArray.size]
  have happ : (⟨a.toArray⟩ : ByteArray) ++ ⟨b.toArray⟩ = ⟨(a ++ b).toArray⟩ := by
    apply ByteArray.ext
    simp
  cases op <;> simp only [strBin, Option.some.injEq] at h
  case add =>
    split at h
    · cases h
    · rename_i hb
      have hb : ¬ (((a.length + b.length : Nat) : Int) > IntKind.i64.max) := by simpa using hb
      simp at h; subst h
      refine ⟨_, rfl, fun t X Y w => ?_⟩
      simp only [eqGuard, binOp, Op.stringOp, hsz, if_neg hb, happ]
      simp
  all_goals first
    | (subst h; exact ⟨_, rfl, fun t X Y w => by simp [eqGuard, binOp, Op.stringOp]⟩)
    | cases h

end
end Go.AM
