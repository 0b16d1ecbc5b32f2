/-
  LeaseTake: the plain law: a grant among grants.
-/
import Derived.Test.YtoigjpkdcadlnaaGreatDoorLvABC
import Derived.Laws.CopyRow
import Derived.Laws.IdiomCopy
import Derived.Test.YtoigjpkdcadlnaaGreatDoorLtABCD
import Derived.Lib.SliceRun
namespace Go.Proofs.YtoigjpkdcadlnaaGreatDoor
open Go Go.RowKit

/-- a grant put among grants -/
def insG (s u : Int) : List (Int × Int) → List (Int × Int)
  | [] => [(s, u)]
  | x :: t => if x.1 < s then x :: insG s u t else if x.1 = s then (s, max x.2 u) :: t else (s, u) :: x :: t

theorem insG_low (s u : Int) : ∀ (A B : List (Int × Int)), (∀ x ∈ A, x.1 < s) → insG s u (A ++ B) = A ++ insG s u B
  | [], _, _ => rfl
  | a :: A, B, h => by
    have h1 : a.1 < s := h a (by simp)
    show insG s u (a :: (A ++ B)) = _
    rw [insG, if_pos h1, insG_low s u A B fun x hx => h x (by simp [hx])]
    rfl
theorem insG_done (s u : Int) : ∀ (A B : List (Int × Int)), (∃ x ∈ A, s ≤ x.1) → insG s u (A ++ B) = insG s u A ++ B
  | [], _, h => by obtain ⟨x, hx, _⟩ := h; cases hx
  | a :: A, B, h => by
    show insG s u (a :: (A ++ B)) = insG s u (a :: A) ++ B
    rw [insG, insG]
    by_cases h1 : a.1 < s
    · rw [if_pos h1, if_pos h1, insG_done s u A B (by
        obtain ⟨x, hx, h2⟩ := h
        rcases List.mem_cons.mp hx with rfl | hx
        · omega
        · exact ⟨x, hx, h2⟩)]
      rfl
    · rw [if_neg h1, if_neg h1]
      split <;> rfl

/-- grants in ascending order -/
def Asc : List (Int × Int) → Prop
  | [] => True
  | x :: t => (∀ y ∈ t, x.1 < y.1) ∧ Asc t
def InR (L : List (Int × Int)) : Prop := ∀ x ∈ L, 0 ≤ x.1 ∧ x.1 < 12 ∧ 0 ≤ x.2 ∧ x.2 ≤ 9223372036854775807
/-- what a leader knows -/
def HOk (view : Int) (L : List (Int × Int)) : Prop := 0 ≤ view ∧ view ≤ 2147483647 ∧ (view = 0 → L = []) ∧ Asc L ∧ InR L

theorem mem_insG {s u : Int} : ∀ {L : List (Int × Int)} {y : Int × Int}, y ∈ insG s u L → y ∈ L ∨ (y.1 = s ∧ (y.2 = u ∨ ∃ x ∈ L, y.2 = max x.2 u))
  | [], y, h => by rw [insG] at h; rcases List.mem_singleton.mp h with rfl; exact .inr ⟨rfl, .inl rfl⟩
  | x :: t, y, h => by
    rw [insG] at h
    split at h
    · rcases List.mem_cons.mp h with rfl | h
      · exact .inl (by simp)
      · rcases mem_insG h with h | ⟨h1, h2 | ⟨z, hz, h2⟩⟩
        · exact .inl (by simp [h])
        · exact .inr ⟨h1, .inl h2⟩
        · exact .inr ⟨h1, .inr ⟨z, by simp [hz], h2⟩⟩
    · split at h
      · rcases List.mem_cons.mp h with rfl | h
        · exact .inr ⟨rfl, .inr ⟨x, by simp, rfl⟩⟩
        · exact .inl (by simp [h])
      · rcases List.mem_cons.mp h with rfl | h
        · exact .inr ⟨rfl, .inl rfl⟩
        · exact .inl h

theorem asc_insG {s u : Int} : ∀ {L : List (Int × Int)}, Asc L → Asc (insG s u L)
  | [], _ => ⟨fun _ h => (by cases h), trivial⟩
  | x :: t, h => by
    rw [insG]
    split
    · rename_i h1
      refine ⟨fun y hy => ?_, asc_insG h.2⟩
      rcases mem_insG hy with hy | ⟨hy, _⟩
      · exact h.1 y hy
      · omega
    · split
      · rename_i h1 h2
        exact ⟨fun y hy => by have := h.1 y hy; show s < y.1; omega, h.2⟩
      · rename_i h1 h2
        refine ⟨fun y hy => ?_, h⟩
        rcases List.mem_cons.mp hy with rfl | hy
        · show s < y.1; omega
        · have := h.1 y hy; show s < y.1; omega

theorem inR_insG {s u : Int} {L : List (Int × Int)} (h : InR L) (hs : 0 ≤ s ∧ s < 12) (hu : 0 ≤ u ∧ u ≤ 9223372036854775807) : InR (insG s u L) := fun y hy => by
  rcases mem_insG hy with hy | ⟨h1, h2 | ⟨x, hx, h2⟩⟩
  · exact h y hy
  · rw [h1, h2]; exact ⟨hs.1, hs.2, hu.1, hu.2⟩
  · have := h x hx
    rw [h1, h2]; refine ⟨hs.1, hs.2, ?_, ?_⟩ <;> omega

theorem asc_len : ∀ {L : List (Int × Int)} {lo : Int}, Asc L → (∀ x ∈ L, lo ≤ x.1 ∧ x.1 < 12) → (L.length : Int) ≤ max 0 (12 - lo)
  | [], lo, _, _ => by show ((0 : Nat) : Int) ≤ _; omega
  | x :: t, lo, h, hr => by
    have h1 := hr x (by simp)
    have h2 := asc_len (L := t) (lo := x.1 + 1) h.2 fun y hy => ⟨by have := h.1 y hy; omega, (hr y (by simp [hy])).2⟩
    show ((t.length + 1 : Nat) : Int) ≤ _
    omega
theorem asc_len12 {L : List (Int × Int)} (h : Asc L) (hr : InR L) : L.length ≤ 12 := by
  have := asc_len (lo := 0) h fun x hx => ⟨(hr x hx).1, (hr x hx).2.1⟩
  omega

theorem asc_append : ∀ {A B : List (Int × Int)}, Asc (A ++ B) → Asc A ∧ Asc B ∧ ∀ x ∈ A, ∀ y ∈ B, x.1 < y.1
  | [], _, h => ⟨trivial, h, fun _ hx => (by cases hx)⟩
  | a :: A, B, h => by
    obtain ⟨h1, h2, h3⟩ := asc_append (A := A) h.2
    refine ⟨⟨fun y hy => h.1 y (by simp [hy]), h1⟩, h2, fun x hx y hy => ?_⟩
    rcases List.mem_cons.mp hx with rfl | hx
    · exact h.1 y (by simp [hy])
    · exact h3 x hx y hy

/-- the i-th grant, by functions -/
def svL (L : List (Int × Int)) (i : Nat) : Int := (L.getD i (0, 0)).1
def unL (L : List (Int × Int)) (i : Nat) : Int := (L.getD i (0, 0)).2
theorem svL_of {L : List (Int × Int)} {i : Nat} {x : Int × Int} (h : L[i]? = some x) : svL L i = x.1 := by simp [svL, List.getD, h]
theorem unL_of {L : List (Int × Int)} {i : Nat} {x : Int × Int} (h : L[i]? = some x) : unL L i = x.2 := by simp [unL, List.getD, h]
theorem asc_lt : ∀ {L : List (Int × Int)}, Asc L → ∀ {i j : Nat} {x y : Int × Int}, L[i]? = some x → L[j]? = some y → i < j → x.1 < y.1
  | [], _, i, _, _, _, h, _, _ => by simp at h
  | a :: t, h, 0, j, x, y, hx, hy, hij => by
    obtain ⟨k, rfl⟩ : ∃ k, j = k + 1 := ⟨j - 1, by omega⟩
    simp at hx hy
    subst hx
    exact h.1 y (List.mem_of_getElem? hy)
  | a :: t, h, i + 1, j, x, y, hx, hy, hij => by
    obtain ⟨k, rfl⟩ : ∃ k, j = k + 1 := ⟨j - 1, by omega⟩
    simp at hx hy
    exact asc_lt h.2 hx hy (by omega)

theorem hok_vok {view : Int} {L : List (Int × Int)} (h : HOk view L) : VOk view L.length (svL L) (unL L) := by
  obtain ⟨h1, h2, h3, h4, h5⟩ := h
  refine ⟨h1, h2, fun hv => by rw [h3 hv]; rfl, fun i hi => ?_⟩
  have e1 : L[i]? = some L[i] := List.getElem?_eq_getElem hi
  obtain ⟨r1, r2, r3, _⟩ := h5 _ (List.mem_of_getElem? e1)
  refine ⟨by rw [svL_of e1]; exact r1, by rw [svL_of e1]; exact r2, by rw [unL_of e1]; exact r3, ?_⟩
  by_cases hi0 : i = 0
  · exact .inl hi0
  · have e0 : L[i - 1]? = some L[i - 1] := List.getElem?_eq_getElem (by omega)
    rw [svL_of e1, svL_of e0]
    exact .inr (asc_lt h4 e0 e1 (by omega))
end Go.Proofs.YtoigjpkdcadlnaaGreatDoor

/-
  LeaseTake: copy, at elements of several cells.
-/
namespace Go.Proofs.YtoigjpkdcadlnaaGreatDoor
open Go Go.RowKit

theorem run_copy_rowK {P : Program} (w : World) (dT sT ty elem : TypeId) (k g o dLen dCap : Nat) (a : Addr) (sLen sCap : Nat) (cur : Array Value) (t : TypeId) (cs : List Value)
    (hu : P.underlying dT = some (.slice elem)) (hs : (P.info? elem).map (·.size) = some k)
    (hg : w.heap[g]? = some (.cells cur t (0, 0))) (hn : cs.length = Nat.min sLen dLen * k)
    (hsrc : ∀ j v, cs[j]? = some v → w.cell? (a.add j) = some v) (hfit : o + cs.length ≤ cur.size) (h1 : ∀ v ∈ cs, v.oneCell' = true) :
    (Builtin.copy_ #[dT, sT] ty #[.slice (some ⟨g, o, none⟩) dLen dCap, .slice (some a) sLen sCap]).run P w =
      .ok (goInt (Nat.min sLen dLen)) (w.setRow g (cur.toList.take o ++ cs ++ cur.toList.drop (o + cs.length)).toArray) := by
  have hl := run_loadCells_list (P := P) w a cs hsrc
  have hst := run_storeCells_at P g o t cs 0 cur w hg (by simpa using hfit) h1
  cases hq : P.info? elem with
  | none => simp [hq] at hs
  | some i =>
    have hi : i.size = k := by simpa [hq] using hs
    have hn' : min sLen dLen * k = cs.length := hn.symm
    simp [Builtin.copy_, run_underlying hu, Builtin.lenOf, Builtin.firstCells, sizeOf, typeInfo, hq, hi, hn', hl, hst]

theorem wp_copy_runK {P : Program} (w : World) {o : Oper} {a : Act} {K : Act → World → Prop} {Q : Exit → Act → World → Prop} (d s : Operand) (t t' : TypeId)
    (ho : o.op = .call { callee := .builtin .copy, args := #[d, s], argTypes := #[t, t'] }) (v u : Value) (hd : a.eval d = v) (hs : a.eval s = u) {v' : Value} {w' : World}
    (hr : (Builtin.copy_ #[t, t'] o.type #[v, u]).run P w = .ok v' w') (h : K (a.put o.dst v') w') : o.wp P a w K Q := by
  unfold Oper.wp execOp
  simp only [ho, resolve, invoke, builtin, Sem.run_bind, Sem.run_pure, Result.andThen_ok, List.map_toArray, List.map_cons, List.map_nil, hd, hs, hr]
  exact h
theorem wpList_copy_runK {P : Program} (w : World) {ops : Array Oper} {rest : List Oper} {o : Oper} {a : Act} {Q : Exit → Act → World → Prop} (hgd : o.guard = none) (d s : Operand) (t t' : TypeId)
    (ho : o.op = .call { callee := .builtin .copy, args := #[d, s], argTypes := #[t, t'] }) (v u : Value) (hd : a.eval d = v) (hs : a.eval s = u) {v' : Value} {w' : World}
    (hr : (Builtin.copy_ #[t, t'] o.type #[v, u]).run P w = .ok v' w') (h : wpList P ops Q rest (a.put o.dst v') w') : wpList P ops Q (o :: rest) a w :=
  wpList_plain hgd fun _ hK => wp_copy_runK w d s t t' ho v u hd hs hr (hK _ _ h)
theorem step_copy_runK {P : Program} {ops : Array Oper} {o : Oper} {a : Act} {w : World} {K : Act → World → Prop} {Q : Exit → Act → World → Prop} {E : Prop}
    (hg : o.guard = none) (d x : Operand) (dT sT : TypeId) (hop : o.op = Op.call { callee := Callee.builtin Builtin.copy, args := #[d, x], argTypes := #[dT, sT] })
    (v u : Value) (hd : a.eval d = v) (hx : a.eval x = u) {v' : Value} {w' : World} (hr : (Builtin.copy_ #[dT, sT] o.type #[v, u]).run P w = .ok v' w') (hK : K (a.put o.dst v') w') :
    if Region.wanted o (yielded ops a.tmps) = true then Oper.wp P o a w K Q else E := by
  have hw : Region.wanted o (yielded ops a.tmps) = true := by simp [Region.wanted, hg]
  rw [if_pos hw]
  unfold Oper.wp
  simp [execOp, hop, resolve, invoke, builtin, hd, hx, hr, Result.andThen]
  exact hK

/-- the cells of grants -/
def grV : List (Int × Int) → List Value
  | [] => []
  | x :: t => .int .i64 x.1 :: .int .i64 x.2 :: grV t
theorem grV_length : ∀ L, (grV L).length = L.length * 2
  | [] => rfl
  | x :: t => by simp [grV, grV_length t]; omega
theorem grV_append : ∀ A B, grV (A ++ B) = grV A ++ grV B
  | [], _ => rfl
  | x :: t, B => by simp [grV, grV_append t B]
theorem grV_one (L : List (Int × Int)) : ∀ u ∈ grV L, u.oneCell' = true := by
  induction L with
  | nil => intro u hu; cases hu
  | cons x t ih =>
    intro u hu
    rcases List.mem_cons.mp hu with rfl | hu
    · rfl
    · rcases List.mem_cons.mp hu with rfl | hu
      · rfl
      · exact ih u hu
theorem grV_get : ∀ {L : List (Int × Int)} {i : Nat} {x : Int × Int}, L[i]? = some x → (grV L)[i * 2]? = some (.int .i64 x.1) ∧ (grV L)[i * 2 + 1]? = some (.int .i64 x.2)
  | [], _, _, h => by simp at h
  | a :: t, 0, x, h => by simp at h; subst h; exact ⟨rfl, rfl⟩
  | a :: t, i + 1, x, h => by
    have := grV_get (L := t) (i := i) (x := x) (by simpa using h)
    rw [show (i + 1) * 2 = i * 2 + 1 + 1 by omega]
    exact this
theorem grV_take (L : List (Int × Int)) (i : Nat) (hi : i ≤ L.length) : (grV L).take (i * 2) = grV (L.take i) := by
  have h : grV L = grV (L.take i) ++ grV (L.drop i) := by rw [← grV_append, List.take_append_drop]
  have hl : (grV (L.take i)).length = i * 2 := by rw [grV_length, List.length_take]; omega
  rw [h, ← hl, List.take_left]
theorem grV_drop (L : List (Int × Int)) (i : Nat) (hi : i ≤ L.length) : (grV L).drop (i * 2) = grV (L.drop i) := by
  have h : grV L = grV (L.take i) ++ grV (L.drop i) := by rw [← grV_append, List.take_append_drop]
  have hl : (grV (L.take i)).length = i * 2 := by rw [grV_length, List.length_take]; omega
  rw [h, ← hl, List.drop_left]
end Go.Proofs.YtoigjpkdcadlnaaGreatDoor

/-
  LeaseTake: slices.Clone of grants; the search among them.
-/
namespace Go.Proofs.YtoigjpkdcadlnaaGreatDoor
open Go Go.RowKit

/-- grants lie there -/
def GrAt (w : World) (b off : Nat) (L : List (Int × Int)) : Prop := ∀ j u, (grV L)[j]? = some u → w.cell? ⟨b, off + j, none⟩ = some u
/-- a slice of grants -/
def GrP (w : World) (p : Option Addr) (n cap : Nat) (L : List (Int × Int)) : Prop :=
  n = L.length ∧ ((L = [] ∧ p = none ∧ cap = 0) ∨ (L ≠ [] ∧ ∃ b off, p = some ⟨b, off, none⟩ ∧ b < w.heap.size ∧ GrAt w b off L))
theorem GrAt.below {w W : World} {B b off : Nat} {L : List (Int × Int)} (h : Below B w W) (hb : b < B) (hg : GrAt w b off L) : GrAt W b off L :=
  fun j u hj => (h.cell (p := ⟨b, off + j, none⟩) hb).trans (hg j u hj)
theorem GrP.below {w W : World} {p : Option Addr} {n cap : Nat} {L : List (Int × Int)} (h : Below w.heap.size w W) (hg : GrP w p n cap L) : GrP W p n cap L := by
  obtain ⟨h1, h2 | ⟨h3, b, off, rfl, hb, h4⟩⟩ := hg
  · exact ⟨h1, .inl h2⟩
  · exact ⟨h1, .inr ⟨h3, b, off, rfl, Nat.lt_of_lt_of_le hb h.size, h4.below h hb⟩⟩
theorem GrAt.c1 {w : World} {b off : Nat} {L : List (Int × Int)} (h : GrAt w b off L) {i : Nat} {x : Int × Int} (hx : L[i]? = some x) : w.cell? ⟨b, off + i * 2, none⟩ = some (.int .i64 x.1) := h _ _ (grV_get hx).1
theorem GrAt.c2 {w : World} {b off : Nat} {L : List (Int × Int)} (h : GrAt w b off L) {i : Nat} {x : Int × Int} (hx : L[i]? = some x) : w.cell? ⟨b, off + i * 2 + 1, none⟩ = some (.int .i64 x.2) := by
  have := h _ _ (grV_get hx).2
  rwa [← Nat.add_assoc] at this
theorem grP_of_own {w : World} {base n : Nat} {v : Value} {L : List (Int × Int)} (h : w.ownsRow base 41 2 v n (grV L)) (hpos : 0 < n) : ∃ p cap, v = .slice p n cap ∧ GrP w p n cap L := by
  have hl : n = L.length := by have := h.1; rw [grV_length] at this; omega
  rcases h.2 with ⟨rfl, h0⟩ | ⟨g, cap, cur, rfl, _, hc, hcap, _, hsz, hx⟩
  · omega
  · have hg : g < w.heap.size := (Array.getElem?_eq_some_iff.mp hc).1
    refine ⟨_, cap, rfl, hl, .inr ⟨fun e => by rw [e] at hl; simp at hl; omega, g, 0, rfl, hg, fun j u hj => ?_⟩⟩
    have hj2 : (cur.toList.take (n * 2))[j]? = some u := by rw [hx]; exact hj
    rw [List.getElem?_take] at hj2
    split at hj2
    · simp [World.cell?, hc]
      simpa using hj2
    · cases hj2

theorem Tryz.info41b : (Tryz.prog.info? 41).map (fun i => (i.zero, i.size, i.bytes)) = some (some (.agg #[.int .i64 0, .int .i64 0]), 2, 16) := by kernel_rfl

/-- a slice of its own; nothing that was there has changed -/
def OwnRet (base n : Nat) (L : List (Int × Int)) (w : World) (e : Ending) (w' : World) : Prop := ∃ v', e = .returned v' ∧ w'.ownsRow base 41 2 v' n (grV L) ∧ Below w.heap.size w w'

set_option maxHeartbeats 1600000 in
set_option maxRecDepth 1000000 in
theorem clone_nil (w : World) : Calls Tryz.prog 7 #[.slice none 0 0] w (OwnRet w.heap.size 0 [] w) := by
  have q : ∀ (w : World) (a : Option Addr) (n c n' c' : Nat), (binOp .eql 24 (.slice a n c) (.slice none n' c')).run Tryz.prog w = .ok (.bool a.isNone) w := fun w a n c n' c' => Lib.run_eql_slice_nil w _ _ a n c n' c' Tryz.underlying24
  go_enter Tryz.func7, Tryz.ntmps7
  go_wp2
  go_ret
  exact ⟨_, rfl, World.ownsRow_nil _ _ _ _, Below.refl _ _⟩

set_option maxHeartbeats 1600000 in
set_option maxRecDepth 1000000 in
theorem clone_some (b off n cap : Nat) (L : List (Int × Int)) (w : World) (hl : n = L.length) (hn : n ≤ 20) (h : GrAt w b off L) (hb : b < w.heap.size) :
    Calls Tryz.prog 7 #[.slice (some ⟨b, off, none⟩) n cap] w (OwnRet w.heap.size n L w) := by
  obtain ⟨i0, hi, hz0, hz1, hz2⟩ := info_parts Tryz.info41b
  have q : ∀ (w : World) (a : Option Addr) (n c n' c' : Nat), (binOp .eql 24 (.slice a n c) (.slice none n' c')).run Tryz.prog w = .ok (.bool a.isNone) w := fun w a n c n' c' => Lib.run_eql_slice_nil w _ _ a n c n' c' Tryz.underlying24
  have A := Lib.hid h
  clear h
  go_enter Tryz.func7, Tryz.ntmps7
  go_wp2_with (at_builtin; refine wpList_append_own _ rfl _ _ 24 rfl w.heap.size 41 i0 (.agg #[.int .i64 0, .int .i64 0]) 2 16 Tryz.underlying24 hi hz0 hz1 hz2 rfl (by decide) _ _ _ rfl (World.ownsRow_made w #[] 0 (Nat.le_refl _) (Nat.zero_le _) (by simp)) ⟨b, off, none⟩ n cap (grV L) rfl ?c1 ?c2 ?c3 ?c4 ?c5 ?c6 ?_)
  case c1 => rw [grV_length, hl]
  case c2 =>
    intro j u hj
    rw [Addr.add_lit]
    exact ((((Below.refl w.heap.size w).alloc (Nat.le_refl _) _).cell (p := ⟨b, off + j, none⟩) hb)).trans (A.out j u hj)
  case c3 => exact grV_one L
  case c4 => unfold maxLen; omega
  case c5 => omega
  case c6 => simp
  intro v' w1 hown hgrow _
  have HO := Lib.hid hown
  have hb1 : Below w.heap.size w w1 := ((Below.refl _ w).alloc (Nat.le_refl _) _).grown hgrow (by simp) (by intro k hk; simp [Value.ownBlock] at hk; omega)
  clear hown hgrow
  go_wp2
  go_ret
  exact ⟨v', rfl, by have := HO.out; simpa [hl] using this, hb1⟩

/-- a slice of grants of its own -/
def GrRet (base n : Nat) (L : List (Int × Int)) (w : World) (e : Ending) (w' : World) : Prop := ∃ p cap, e = .returned (.slice p n cap) ∧ GrP w' p n cap L ∧ w'.ownsRow base 41 2 (.slice p n cap) n (grV L) ∧ Below w.heap.size w w'

set_option maxHeartbeats 1600000 in
set_option maxRecDepth 1000000 in
theorem clone_nil' (w : World) : Calls Tryz.prog 7 #[.slice none 0 0] w (GrRet w.heap.size 0 [] w) := by
  have q : ∀ (w : World) (a : Option Addr) (n c n' c' : Nat), (binOp .eql 24 (.slice a n c) (.slice none n' c')).run Tryz.prog w = .ok (.bool a.isNone) w := fun w a n c n' c' => Lib.run_eql_slice_nil w _ _ a n c n' c' Tryz.underlying24
  go_enter Tryz.func7, Tryz.ntmps7
  go_wp2
  go_ret
  exact ⟨none, 0, rfl, ⟨rfl, .inl ⟨rfl, rfl, rfl⟩⟩, World.ownsRow_nil _ _ _ _, Below.refl _ _⟩
theorem clone_any (p : Option Addr) (n cap : Nat) (L : List (Int × Int)) (w : World) (hn : n ≤ 20) (h : GrP w p n cap L) : Calls Tryz.prog 7 #[.slice p n cap] w (GrRet w.heap.size n L w) := by
  obtain ⟨h1, ⟨rfl, rfl, rfl⟩ | ⟨h0, b, off, rfl, hb, h4⟩⟩ := h
  · subst h1; exact clone_nil' w
  · refine (clone_some b off n cap L w h1 hn h4 hb).mono ?_
    rintro e w' ⟨v', rfl, ho, hb'⟩
    have hpos : 0 < n := by rw [h1]; exact List.length_pos_iff.mpr h0
    obtain ⟨p', cap', rfl, hg⟩ := grP_of_own ho hpos
    exact ⟨p', cap', rfl, hg, ho, hb'⟩

set_option maxHeartbeats 1600000 in
theorem cmp_any (a u t : Int) (w : World) (ha : 0 ≤ a ∧ a < 12) (ht : 0 ≤ t ∧ t < 12) : Calls Tryz.prog 25 #[.agg #[.int .i64 a, .int .i64 u], .int .i64 t] w fun e w' => e = .returned (.int .i64 (a - t)) ∧ Below w.heap.size w w' := by
  go_enter Tryz.func25, Tryz.ntmps25
  go_wp2
  go_ret
  exact ⟨rfl, (Below.refl _ _).alloc (Nat.le_refl _) _⟩
end Go.Proofs.YtoigjpkdcadlnaaGreatDoor
