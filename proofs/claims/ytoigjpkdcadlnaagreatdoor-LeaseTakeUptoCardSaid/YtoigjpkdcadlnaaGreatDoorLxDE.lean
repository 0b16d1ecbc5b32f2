/-
  LeaseTake: the search among grants.
-/
import Derived.Test.YtoigjpkdcadlnaaGreatDoorLxABC
import Derived.Test.YtoigjpkdcadlnaaGreatDoorLtG
import Derived.Lib.Overlaps
import Derived.Lib.AppendZerosOnto
import Derived.Laws.NewBlocks
import Derived.Deep.RegionLaw
import Derived.Shelf.RegionOpenPlain
namespace Go.Proofs.YtoigjpkdcadlnaaGreatDoor
open Go Go.RowKit

/-- all before i are less, all from i on are not -/
def Cut (L : List (Int × Int)) (t : Int) (i j : Nat) : Prop := i ≤ j ∧ j ≤ L.length ∧ (∀ k x, L[k]? = some x → k < i → x.1 < t) ∧ (∀ k x, L[k]? = some x → j ≤ k → t ≤ x.1)
theorem Cut.up {L : List (Int × Int)} {t : Int} {i j h : Nat} {x : Int × Int} (hc : Cut L t i j) (hA : Asc L) (hx : L[h]? = some x) (hi : i ≤ h) (hj : h < j) (hl : x.1 < t) : Cut L t (h + 1) j :=
  ⟨hj, hc.2.1, fun k y hy hk => by
    by_cases e : k = h
    · subst e; rw [hx] at hy; cases hy; exact hl
    · have := asc_lt hA hy hx (by omega); omega, hc.2.2.2⟩
theorem Cut.down {L : List (Int × Int)} {t : Int} {i j h : Nat} {x : Int × Int} (hc : Cut L t i j) (hA : Asc L) (hx : L[h]? = some x) (hi : i ≤ h) (hj : h < j) (hl : t ≤ x.1) : Cut L t i h :=
  ⟨hi, by have := hc.2.1; omega, hc.2.2.1, fun k y hy hk => by
    by_cases e : k = h
    · subst e; rw [hx] at hy; cases hy; exact hl
    · have := asc_lt hA hx hy (by omega); omega⟩

def foundB (L : List (Int × Int)) (t : Int) (i : Nat) : Bool := match L[i]? with | some x => decide (x.1 = t) | none => false
def BsRet (L : List (Int × Int)) (t : Int) (w : World) (e : Ending) (w' : World) : Prop := ∃ i, Cut L t i i ∧ e = .returned (.tuple #[.int .i64 (i : Int), .bool (foundB L t i)]) ∧ Below w.heap.size w w'

set_option maxHeartbeats 3200000 in
set_option maxRecDepth 1000000 in
theorem bs_nil (t : Int) (w : World) : Calls Tryz.prog 24 #[.slice none 0 0, .int .i64 t, .func (.func 25) #[] #[]] w (BsRet [] t w) := by
  go_enter Tryz.func24, Tryz.ntmps24
  go_wp2
  go_loop [9, 10] (fun i j => i = .int .i64 0 ∧ j = .int .i64 0) (fun _ _ => 0)
  case atStart => exact ⟨rfl, rfl⟩
  case round =>
    obtain ⟨rfl, rfl⟩ := hrel
    go_wp2
    go_ret2
    exact ⟨0, ⟨Nat.le_refl _, Nat.le_refl _, fun k x hk => by simp at hk, fun k x hk => by simp at hk⟩, rfl, Below.refl _ _⟩

set_option maxHeartbeats 3200000 in
set_option maxRecDepth 1000000 in
theorem bs_some (b off n cap : Nat) (L : List (Int × Int)) (t : Int) (w : World) (hl : n = L.length) (hn : n ≤ 12) (hb : b < w.heap.size) (hA : Asc L) (hR : InR L) (ht : 0 ≤ t ∧ t < 12) (h : GrAt w b off L) :
    Calls Tryz.prog 24 #[.slice (some ⟨b, off, none⟩) n cap, .int .i64 t, .func (.func 25) #[] #[]] w (BsRet L t w) := by
  subst hl
  have H := Lib.hid h
  have HR := Lib.hid hR
  have HA := Lib.hid hA
  clear h hR hA
  go_enter Tryz.func24, Tryz.ntmps24
  go_wp2
  go_loopw [9, 10] (fun i j wr => ∃ a c : Nat, i = .int .i64 a ∧ j = .int .i64 c ∧ Cut L t a c ∧ Below w.heap.size w wr) (fun i j _ => (intOf j).toNat - (intOf i).toNat)
  case atStart => exact ⟨0, L.length, rfl, rfl, ⟨Nat.zero_le _, by omega, fun k x _ hk => absurd hk (Nat.not_lt_zero k), fun k x hk hn' => by have := (List.getElem?_eq_some_iff.mp hk).1; omega⟩, Below.refl _ _⟩
  case round =>
    obtain ⟨a, c, rfl, rfl, hC, hbl⟩ := hrel
    have hac := hC.1
    have hcl : c ≤ L.length := by have := hC.2.1; omega
    by_cases hlt : a < c
    · obtain ⟨x, hx⟩ : ∃ x, L[(a + c) / 2]? = some x := ⟨_, List.getElem?_eq_getElem (by omega)⟩
      have hc1 : wr.cell? ⟨b, off + (a + c) / 2 * 2, none⟩ = some (.int .i64 x.1) := (hbl.cell (by exact hb)).trans (H.out.c1 hx)
      have hc2 : wr.cell? ⟨b, off + (a + c) / 2 * 2 + 1, none⟩ = some (.int .i64 x.2) := (hbl.cell (by exact hb)).trans (H.out.c2 hx)
      obtain ⟨r1, r2, r3, r4⟩ := HR.out x (List.mem_of_getElem? hx)
      have HX := Lib.hid hx
      have HC := Lib.hid hC
      clear hx hC
      go_wp2_with (go_at_call 25; refine (cmp_any _ _ _ _ ⟨r1, r2⟩ ht).mono ?_; rintro e w2 ⟨rfl, hb2⟩)
      all_goals
        have hb3 : Below w.heap.size w w2 := below_trans hbl hb2
      · go_roundw
        case rel => exact ⟨(a + c) / 2 + 1, c, by go_num, rfl, HC.out.up HA.out HX.out (by omega) (by omega) (by omega), hb3⟩
        case measure => simp [intOf]; omega
      · go_roundw
        case rel => exact ⟨a, (a + c) / 2, rfl, by go_num, HC.out.down HA.out HX.out (by omega) (by omega) (by omega), hb3⟩
        case measure => simp [intOf]; omega
    · obtain rfl : a = c := by omega
      by_cases hal : a < L.length
      · obtain ⟨x, hx⟩ : ∃ x, L[a]? = some x := ⟨_, List.getElem?_eq_getElem hal⟩
        have hc1 : wr.cell? ⟨b, off + a * 2, none⟩ = some (.int .i64 x.1) := (hbl.cell (by exact hb)).trans (H.out.c1 hx)
        have hc2 : wr.cell? ⟨b, off + a * 2 + 1, none⟩ = some (.int .i64 x.2) := (hbl.cell (by exact hb)).trans (H.out.c2 hx)
        obtain ⟨r1, r2, r3, r4⟩ := HR.out x (List.mem_of_getElem? hx)
        have HF : Hid (foundB L t a = decide (x.1 - t = 0)) := Lib.hid (by unfold foundB; rw [hx]; show decide (x.1 = t) = decide (x.1 - t = 0); congr 1; simp only [eq_iff_iff]; omega)
        have HC := Lib.hid hC
        clear hx hC
        go_wp2_with (go_at_call 25; refine (cmp_any _ _ _ _ ⟨r1, r2⟩ ht).mono ?_; rintro e w2 ⟨rfl, hb2⟩)
        go_ret2
        exact ⟨a, HC.out, by rw [HF.out]; rfl, below_trans hbl hb2⟩
      · have HF : Hid (foundB L t a = false) := Lib.hid (by unfold foundB; rw [List.getElem?_eq_none (by omega)])
        have HC := Lib.hid hC
        clear hC
        go_wp2
        go_ret2
        exact ⟨a, HC.out, by rw [HF.out]; rfl, hbl⟩

theorem bs_any (p : Option Addr) (n cap : Nat) (L : List (Int × Int)) (t : Int) (w : World) (hA : Asc L) (hR : InR L) (ht : 0 ≤ t ∧ t < 12) (h : GrP w p n cap L) :
    Calls Tryz.prog 24 #[.slice p n cap, .int .i64 t, .func (.func 25) #[] #[]] w (BsRet L t w) := by
  have hn := asc_len12 hA hR
  obtain ⟨h1, ⟨rfl, rfl, rfl⟩ | ⟨_, b, off, rfl, hb, h4⟩⟩ := h
  · subst h1; exact bs_nil t w
  · exact bs_some b off n cap L t w h1 (by omega) hb hA hR ht h4
end Go.Proofs.YtoigjpkdcadlnaaGreatDoor

/-
  LeaseTake: slices.Insert of one grant.
-/
namespace Go.Proofs.YtoigjpkdcadlnaaGreatDoor
open Go Go.RowKit

/-- a row of its own behind an insertion -/
def InsRet (base n : Nat) (L : List (Int × Int)) (w : World) (e : Ending) (w' : World) : Prop := ∃ v', e = .returned v' ∧ w'.ownsRow base 41 2 v' n (grV L) ∧ Below base w w'

set_option maxHeartbeats 3200000 in
set_option maxRecDepth 1000000 in
theorem ins_end (base n vb : Nat) (v : Value) (L : List (Int × Int)) (s u : Int) (w : World) (hn : n ≤ 20) (hown : w.ownsRow base 41 2 v n (grV L)) (hv : ∃ p cap, v = .slice p n cap) (hvb : w.heap[vb]? = some (.cells #[.int .i64 s, .int .i64 u] 41 (0, 0))) (hbase : base ≤ w.heap.size) :
    Calls Tryz.prog 26 #[v, .int .i64 n, .slice (some ⟨vb, 0, none⟩) 1 1] w (InsRet base (n + 1) (L ++ [(s, u)]) w) := by
  obtain ⟨i0, hi, hz0, hz1, hz2⟩ := info_parts Tryz.info41b
  obtain ⟨p, cap, rfl⟩ := hv
  have hc0 : w.cell? ⟨vb, 0, none⟩ = some (.int .i64 s) := by unfold World.cell?; rw [hvb]; rfl
  have hc1 : w.cell? ⟨vb, 1, none⟩ = some (.int .i64 u) := by unfold World.cell?; rw [hvb]; rfl
  have hs1 : ∀ j v, [Value.int .i64 s, Value.int .i64 u][j]? = some v → w.cell? ((⟨vb, 0, none⟩ : Addr).add j) = some v := fun j v hj => by
    rw [Addr.add_lit]
    match j, hj with
    | 0, hj => simp at hj; subst hj; exact hc0
    | 1, hj => simp at hj; subst hj; exact hc1
    | j + 2, hj => simp at hj
  have hs2 : ∀ v ∈ [Value.int .i64 s, Value.int .i64 u], v.oneCell' = true := fun v hv => by
    rcases List.mem_cons.mp hv with rfl | hv
    · rfl
    · rcases List.mem_cons.mp hv with rfl | hv
      · rfl
      · cases hv
  have hlt : ∀ c k, (Value.slice p n c).ownBlock = some k → base ≤ k := fun c k hk => (hown.lt k (by cases p with | none => simp [Value.ownBlock] at hk | some a => simpa [Value.ownBlock] using hk)).1
  have HLT := Lib.hid hlt
  clear hlt
  have HO := Lib.hid hown
  have HS1 := Lib.hid hs1
  have HS2 := Lib.hid hs2
  have hm : n + 1 ≤ maxLen := by unfold maxLen; omega
  clear hown hs1 hs2
  go_enter Tryz.func26, Tryz.ntmps26
  go_wp2_with (at_builtin; refine wpList_append_own _ rfl _ _ 24 rfl base 41 i0 (.agg #[.int .i64 0, .int .i64 0]) 2 16 Tryz.underlying24 hi hz0 hz1 hz2 rfl (by decide) _ _ _ rfl HO.out ⟨vb, 0, none⟩ 1 1 [.int .i64 s, .int .i64 u] rfl rfl HS1.out HS2.out hm (by omega) hbase ?_)
  all_goals
    intro v' w' hown' hgrow _
    have hb1 : Below base w w' := (Below.refl base w).grown hgrow hbase (fun k hk => HLT.out _ k hk)
    have HO' := Lib.hid hown'
    clear hown' hgrow
    go_wp2
    go_ret
    exact ⟨v', rfl, by rw [grV_append]; exact HO'.out, hb1⟩
end Go.Proofs.YtoigjpkdcadlnaaGreatDoor
