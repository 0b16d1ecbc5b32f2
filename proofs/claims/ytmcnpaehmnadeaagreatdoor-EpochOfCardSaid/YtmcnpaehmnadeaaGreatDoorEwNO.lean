/-
  EpochOf: slices.Clone at strings.
-/
import Derived.Test.YtmcnpaehmnadeaaGreatDoorEwLM
import Derived.Test.YtmcnpaehmnadeaaGreatDoorEsAB
namespace Go.Proofs.YtmcnpaehmnadeaaGreatDoor
open Go Go.RowKit

theorem strL_of_own {w : World} {base n : Nat} {v : Value} {l : List ByteArray} (h : w.ownsRow base 9 1 v n (l.map Value.string)) : ∃ p cap, v = .slice p n cap ∧ StrL w p l ∧ n ≤ cap ∧ l.length = n := by
  have hl : l.length = n := by have := h.1; simp at this; omega
  subst hl
  rcases h.2 with ⟨rfl, h0⟩ | ⟨g, cap, cur, rfl, _, hc, hcap, _, hsz, hx⟩
  · have : l = [] := List.eq_nil_of_length_eq_zero h0
    subst this
    exact ⟨none, 0, rfl, .inl rfl, Nat.le_refl _, rfl⟩
  · have hg : g < w.heap.size := (Array.getElem?_eq_some_iff.mp hc).1
    refine ⟨_, cap, rfl, .inr ⟨g, 0, rfl, hg, fun i hi => ?_⟩, hcap, rfl⟩
    have hj2 : (cur.toList.take (l.length * 1))[i]? = some (.string l[i]) := by rw [hx]; simp [hi]
    rw [List.getElem?_take] at hj2
    split at hj2
    · simp [World.cell?, hc]
      simpa using hj2
    · cases hj2
/-- a slice of these strings, and that nothing older has changed -/
def ClRet (vs : List ByteArray) (w : World) (e : Ending) (w' : World) : Prop := ∃ (p : Option Addr) (cap : Nat), e = .returned (.slice p vs.length cap) ∧ StrL w' p vs ∧ vs.length ≤ cap ∧ Below w.heap.size w w'
theorem clone_ex (p : Option Addr) (cap : Nat) (vs : List ByteArray) (w : World) (hl : vs.length ≤ 20) (h : StrL w p vs) : Calls Tryz.prog 9 #[.slice p vs.length cap] w (ClRet vs w) := by
  cases p with
  | none =>
    have hv : vs = [] := by
      rcases h with h | ⟨b, off, h1, _⟩
      · exact h
      · cases h1
    subst hv
    refine (Tryz.slices_Clone_string_nil 0 cap w).mono ?_
    rintro e w' ⟨rfl, rfl⟩
    exact ⟨none, 0, rfl, .inl rfl, Nat.le_refl _, Below.refl _ _⟩
  | some a =>
    by_cases hv : vs = []
    · subst hv
      refine (Tryz.slices_Clone_string_zero a cap w).mono ?_
      rintro e w' ⟨v', rfl, hown, -, hb⟩
      obtain ⟨p, c, rfl, h1, h2, _⟩ := strL_of_own (l := []) hown
      exact ⟨p, c, rfl, h1, h2, hb⟩
    · obtain ⟨b, off, h1, h2, h3⟩ : ∃ b off, some a = some (⟨b, off, none⟩ : Addr) ∧ b < w.heap.size ∧ ∀ i (h : i < vs.length), w.cell? ⟨b, off + i, none⟩ = some (.string vs[i]) := by
        rcases h with h | h
        · exact absurd h hv
        · exact h
      injection h1 with h1
      subst h1
      refine (Tryz.slices_Clone_string b off vs.length cap vs w (Nat.le_refl _) (by omega) (fun j hj => by simp only [List.getD, List.getElem?_eq_getElem hj, Option.getD_some]; exact h3 j hj)).mono ?_
      rintro e w' ⟨v', rfl, hown, -, hb⟩
      rw [List.take_length] at hown
      obtain ⟨p, c, rfl, h1, h2, _⟩ := strL_of_own hown
      exact ⟨p, c, rfl, h1, h2, hb⟩
end Go.Proofs.YtmcnpaehmnadeaaGreatDoor

/-
  EpochOf: the law returns true.
-/
namespace Go.Proofs.YtmcnpaehmnadeaaGreatDoor
open Go Go.RowKit

/-- in the law: the deployment at the world w4, and what has come since -/
structure LD (w w4 : World) (D : Nat) (p0 : Option Addr) (n0 c0 : Nat) (x : Int) (gp : Option Addr) (gc b off cc n : Nat) (W : World) : Prop where
  d4 : w4.heap[D]? = some (.cells #[.slice p0 n0 c0, .slice none 0 0, .int .u16 x, .slice gp n gc, .slice (some ⟨b, off, none⟩) n cc, .slice none 0 0] 33 (0, 0))
  c4 : ChW w4 b off n
  l4 : Below w.heap.size w w4
  b4 : Below w4.heap.size w4 W
section
variable {w w4 : World} {D : Nat} {p0 : Option Addr} {n0 c0 : Nat} {x : Int} {gp : Option Addr} {gc b off cc n : Nat} {W W' : World}
theorem LD.below (h : LD w w4 D p0 n0 c0 x gp gc b off cc n W) (hb : Below W.heap.size W W') : LD w w4 D p0 n0 c0 x gp gc b off cc n W' := ⟨h.d4, h.c4, h.l4, h.b4.trans (hb.mono h.b4.size)⟩
theorem LD.da (h : LD w w4 D p0 n0 c0 x gp gc b off cc n W) : W.heap[D]? = some (.cells #[.slice p0 n0 c0, .slice none 0 0, .int .u16 x, .slice gp n gc, .slice (some ⟨b, off, none⟩) n cc, .slice none 0 0] 33 (0, 0)) := (h.b4.block _ (Array.getElem?_eq_some_iff.mp h.d4).1).trans h.d4
theorem LD.ch (h : LD w w4 D p0 n0 c0 x gp gc b off cc n W) : ChW W b off n := h.c4.below h.b4
theorem LD.bl (h : LD w w4 D p0 n0 c0 x gp gc b off cc n W) : Below w.heap.size w W := h.l4.trans (h.b4.mono h.l4.size)
theorem ldS (h : LD w w4 D p0 n0 c0 x gp gc b off cc n W) : W.cell? ⟨D, 0, none⟩ = some (.slice p0 n0 c0) ∧ W.cell? ⟨D, 1, none⟩ = some (.slice none 0 0) ∧ W.cell? ⟨D, 2, none⟩ = some (.int .u16 x) ∧ W.cell? ⟨D, 3, none⟩ = some (.slice gp n gc) ∧ W.cell? ⟨D, 4, none⟩ = some (.slice (some ⟨b, off, none⟩) n cc) ∧ W.cell? ⟨D, 5, none⟩ = some (.slice none 0 0) ∧ LD w w4 D p0 n0 c0 x gp gc b off cc n W :=
  ⟨cellOf h.da rfl, cellOf h.da rfl, cellOf h.da rfl, cellOf h.da rfl, cellOf h.da rfl, cellOf h.da rfl, h⟩
theorem LD.set2 {E : Nat} (h : LD w w4 D p0 n0 c0 x gp gc b off cc n W) (hE : w4.heap.size ≤ E) (u0 u1 : Value) : LD w w4 D p0 n0 c0 x gp gc b off cc n ((W.setCell ⟨E, 0, none⟩ u0).setCell ⟨E, 1, none⟩ u1) :=
  ⟨h.d4, h.c4, h.l4, below_set (below_set h.b4 (p := ⟨E, 0, none⟩) hE u0) (p := ⟨E, 1, none⟩) hE u1⟩
end
/-- in the loop: the deployment, the first epoch, the epoch -/
structure LL (w w6 : World) (D E9 E : Nat) (p0 : Option Addr) (n0 c0 : Nat) (x : Int) (gp : Option Addr) (gc b off cc n : Nat) (e9 e : Nat × Bool) (W : World) : Prop where
  d6 : w6.heap[D]? = some (.cells #[.slice p0 n0 c0, .slice none 0 0, .int .u16 x, .slice gp n gc, .slice (some ⟨b, off, none⟩) n cc, .slice none 0 0] 33 (0, 0))
  n6 : w6.heap[E9]? = some (.cells #[.int .i64 e9.1, .bool e9.2] 39 (0, 0))
  c6 : ChW w6 b off n
  lt : E < w6.heap.size
  nD : D ≠ E
  n9 : E9 ≠ E
  nb : b ≠ E
  l6 : Below w.heap.size w w6
  ge : w.heap.size ≤ E
  old : ∀ B, B < w6.heap.size → B ≠ E → W.heap[B]? = w6.heap[B]?
  ea : W.heap[E]? = some (.cells #[.int .i64 e.1, .bool e.2] 39 (0, 0))
  sz : w6.heap.size ≤ W.heap.size
  bl : Below w.heap.size w W
section
variable {w w6 : World} {D E9 E : Nat} {p0 : Option Addr} {n0 c0 : Nat} {x : Int} {gp : Option Addr} {gc b off cc n : Nat} {e9 e : Nat × Bool} {W W' : World}
theorem LL.below (h : LL w w6 D E9 E p0 n0 c0 x gp gc b off cc n e9 e W) (hb : Below W.heap.size W W') : LL w w6 D E9 E p0 n0 c0 x gp gc b off cc n e9 e W' :=
  ⟨h.d6, h.n6, h.c6, h.lt, h.nD, h.n9, h.nb, h.l6, h.ge, fun B h1 h2 => (hb.block B (Nat.lt_of_lt_of_le h1 h.sz)).trans (h.old B h1 h2), (hb.block _ (Array.getElem?_eq_some_iff.mp h.ea).1).trans h.ea, Nat.le_trans h.sz hb.size, h.bl.trans (hb.mono h.bl.size)⟩
theorem LL.da (h : LL w w6 D E9 E p0 n0 c0 x gp gc b off cc n e9 e W) : W.heap[D]? = some (.cells #[.slice p0 n0 c0, .slice none 0 0, .int .u16 x, .slice gp n gc, .slice (some ⟨b, off, none⟩) n cc, .slice none 0 0] 33 (0, 0)) := (h.old _ (Array.getElem?_eq_some_iff.mp h.d6).1 h.nD).trans h.d6
theorem LL.na (h : LL w w6 D E9 E p0 n0 c0 x gp gc b off cc n e9 e W) : W.heap[E9]? = some (.cells #[.int .i64 e9.1, .bool e9.2] 39 (0, 0)) := (h.old _ (Array.getElem?_eq_some_iff.mp h.n6).1 h.n9).trans h.n6
theorem LL.ch (h : LL w w6 D E9 E p0 n0 c0 x gp gc b off cc n e9 e W) : ChW W b off n := ⟨Nat.lt_of_lt_of_le h.c6.1 h.sz, fun i hi => (World.cell?_of_block (a := ⟨b, off + i, none⟩) (h.old b h.c6.1 h.nb)).trans (h.c6.2 i hi)⟩
theorem LL.set (h : LL w w6 D E9 E p0 n0 c0 x gp gc b off cc n e9 e W) (e' : Nat × Bool) : LL w w6 D E9 E p0 n0 c0 x gp gc b off cc n e9 e' ((W.setCell ⟨E, 0, none⟩ (.int .i64 e'.1)).setCell ⟨E, 1, none⟩ (.bool e'.2)) :=
  ⟨h.d6, h.n6, h.c6, h.lt, h.nD, h.n9, h.nb, h.l6, h.ge, fun B h1 h2 => (set1_other h2 _).trans ((set1_other h2 _).trans (h.old B h1 h2)), row_set2 h.ea _ _, by simpa using h.sz, below_set (below_set h.bl (p := ⟨E, 0, none⟩) h.ge _) (p := ⟨E, 1, none⟩) h.ge _⟩
theorem llS (h : LL w w6 D E9 E p0 n0 c0 x gp gc b off cc n e9 e W) : W.cell? ⟨D, 0, none⟩ = some (.slice p0 n0 c0) ∧ W.cell? ⟨D, 1, none⟩ = some (.slice none 0 0) ∧ W.cell? ⟨D, 2, none⟩ = some (.int .u16 x) ∧ W.cell? ⟨D, 3, none⟩ = some (.slice gp n gc) ∧ W.cell? ⟨D, 4, none⟩ = some (.slice (some ⟨b, off, none⟩) n cc) ∧ W.cell? ⟨D, 5, none⟩ = some (.slice none 0 0) ∧ W.cell? ⟨E9, 0, none⟩ = some (.int .i64 e9.1) ∧ W.cell? ⟨E9, 1, none⟩ = some (.bool e9.2) ∧ W.cell? ⟨E, 0, none⟩ = some (.int .i64 e.1) ∧ W.cell? ⟨E, 1, none⟩ = some (.bool e.2) ∧ LL w w6 D E9 E p0 n0 c0 x gp gc b off cc n e9 e W :=
  ⟨cellOf h.da rfl, cellOf h.da rfl, cellOf h.da rfl, cellOf h.da rfl, cellOf h.da rfl, cellOf h.da rfl, cellOf h.na rfl, cellOf h.na rfl, cellOf h.ea rfl, cellOf h.ea rfl, h⟩
end
theorem awakeF (hA : Awake) {w0 W : World} (h : Below w0.heap.size w0 W) : Calls Tryz.prog 6 #[] W (IsB true w0) := (hA W).mono fun _ _ ⟨h1, h2⟩ => ⟨h1, h.trans (h2.mono h.size)⟩
theorem hA_of (hA : Awake) (W : World) : Calls Tryz.prog 6 #[] W (IsB true W) := hA W
theorem few_n (p : Option Addr) (m cap : Nat) (vs : List ByteArray) (w : World) (hm : vs.length = m) (hl : m ≤ 9223372036854775807) (h : StrL w p vs) : Calls Tryz.prog 7 #[.slice p m cap] w fun e w' => ∃ r : Bool, e = .returned (.bool r) ∧ (r = true → Short vs) ∧ w' = w := by
  subst hm
  exact few_ex p cap vs w hl h
theorem clone_n (p : Option Addr) (m cap : Nat) (vs : List ByteArray) (w : World) (hm : vs.length = m) (hl : m ≤ 20) (h : StrL w p vs) : Calls Tryz.prog 9 #[.slice p m cap] w (ClRet vs w) := by
  subst hm
  exact clone_ex p cap vs w hl h
theorem rof_n (p0 : Option Addr) (n0 c0 : Nat) (x : Int) (gp : Option Addr) (gc b off cc n : Nat) (p : Option Addr) (m cap : Nat) (vs : List ByteArray) (w : World) (hm : vs.length = m) (hn : n ≤ 3) (hn0 : 0 < n) (hs : Short vs) (hC : ChW w b off n) (hL : StrL w p vs) (e : Nat × Bool) (he : ofE n (0, false) vs = e) : Calls Tryz.prog 11 #[.agg #[.slice p0 n0 c0, .slice none 0 0, .int .u16 x, .slice gp n gc, .slice (some ⟨b, off, none⟩) n cc, .slice none 0 0], .slice p m cap] w (EpRet e w) := by
  subst hm
  subst he
  exact rof_ex p0 n0 c0 x gp gc b off cc n p cap vs w hn hn0 hs hC hL
theorem rchanges_n (p0 : Option Addr) (n0 c0 : Nat) (x : Int) (gp : Option Addr) (gc b off cc n : Nat) (p : Option Addr) (m cap : Nat) (vs : List ByteArray) (w : World) (hm : vs.length = m) (hn : n ≤ 3) (hn0 : 0 < n) (hcap : m ≤ cap) (hs : Short vs) (hC : ChW w b off n) (hL : StrL w p vs) : Calls Tryz.prog 14 #[.agg #[.slice p0 n0 c0, .slice none 0 0, .int .u16 x, .slice gp n gc, .slice (some ⟨b, off, none⟩) n cc, .slice none 0 0], .slice p m cap] w (ListL (chg n vs vs.length) w) := by
  subst hm
  exact rchanges_ex p0 n0 c0 x gp gc b off cc n p cap vs w hn hn0 hcap hs hC hL
theorem StrL.drop {W : World} {b off : Nat} {vs : List ByteArray} (h : StrL W (some ⟨b, off, none⟩) vs) (k : Nat) : StrL W (some ⟨b, off + k, none⟩) (vs.drop k) := by
  rcases h with rfl | ⟨b', off', h1, h2, h3⟩
  · exact .inl (by simp)
  · injection h1 with h1
    injection h1 with h4 h5
    subst h4
    subst h5
    exact .inr ⟨b, off + k, rfl, h2, fun i hi => by
      have hi2 : k + i < vs.length := by simp at hi; omega
      rw [List.getElem_drop, Nat.add_assoc]
      exact h3 (k + i) hi2⟩
theorem StrL.dropA {W : World} {a : Addr} {vs : List ByteArray} (h : StrL W (some a) vs) (k : Nat) : StrL W (some (a.add k)) (vs.drop k) := by
  have h' := h
  rcases h with rfl | ⟨b', off', h1, _, _⟩
  · exact .inl (by simp)
  · injection h1 with h1
    subst h1
    rw [Addr.add_lit]
    exact h'.drop k

set_option maxHeartbeats 6400000 in
set_option maxRecDepth 1000000 in
theorem law3 (hA : Awake) (p : Option Addr) (n cap : Nat) (x0 : Int) (q : Option Addr) (m qc : Nat) (vs : List ByteArray) (cut : Nat) (w : World) (hcut : cut < 256) (hm : vs.length = m) (hl : m ≤ 9223372036854775807) (hqc : m ≤ qc) (hq63 : qc ≤ 9223372036854775807) (hp : n ≤ 3 → DrfP w p n) (hL : StrL w q vs) (hG : GL w) :
    Calls Tryz.prog 3 #[.agg #[.slice p n cap, .int .u8 x0], .slice q m qc, .int .u8 cut] w (IsB true w) := by
  have HM := Lib.hid hm
  have HP := Lib.hid hp
  have HL := Lib.hid hL
  have HG := Lib.hid hG
  have HA := Lib.hid hA
  have hb0 : Below w.heap.size w (w.alloc (.cells #[.slice p n cap, .int .u8 x0] 24)) := (Below.refl _ _).alloc (Nat.le_refl _) _
  have HO0 := Lib.hid (And.intro (heap_alloc_new w (.cells #[.slice p n cap, .int .u8 x0] 24)) hb0)
  clear hb0 hm hp hL hG hA
  go_enter Tryz.func3, Tryz.ntmps3
  go_upto_region 1 with fail
  revert HO0
  generalize w.alloc (.cells #[.slice p n cap, .int .u8 x0] 24) = W0
  intro HO0
  have d0 := cellOf HO0.out.1 (j := 0) rfl; have d1 := cellOf HO0.out.1 (j := 1) rfl
  go_upto_region 2 with (go_at_call 5; refine (made41_any p n cap x0 _ (fun h => (HP.out h).below HO0.out.2)).mono ?_; rintro e w5 ⟨p0, n0, c0, x, gp, gn, gc, cp, cn, cc, r, rfl, hb5, hr⟩)
  have HB5 := Lib.hid (HO0.out.2.trans (hb5.mono HO0.out.2.size))
  have hA5 : Below w5.heap.size w5 (w5.alloc (.cells #[.slice p0 n0 c0, .slice none 0 0, .int .u16 x, .slice gp gn gc, .slice cp cn cc, .slice none 0 0] 33)) := (Below.refl _ _).alloc (Nat.le_refl _) _
  have HB6 := Lib.hid (HB5.out.trans (hA5.mono HB5.out.size))
  have HD := Lib.hid (heap_alloc_new w5 (.cells #[.slice p0 n0 c0, .slice none 0 0, .int .u16 x, .slice gp gn gc, .slice cp cn cc, .slice none 0 0] 33))
  have HR := Lib.hid hr
  have HA5 := Lib.hid hA5
  clear hA5 hr hb5 d0 d1
  revert HB6 HD HA5
  generalize w5.alloc (.cells #[.slice p0 n0 c0, .slice none 0 0, .int .u16 x, .slice gp gn gc, .slice cp cn cc, .slice none 0 0] 33) = W1
  intro HB6 HD HA5
  cases r
  · go_wp2_with (first
      | (go_at_call 6; (with_reducible refine (awakeF HA.out HB6.out).mono ?_); rintro e w6 ⟨rfl, hb6⟩; have HB7 := Lib.hid hb6; clear hb6 HB6)
      | (go_at_call 6; (with_reducible refine (awakeF HA.out HB7.out).mono ?_); rintro e w7 ⟨rfl, hb7⟩; have HB8 := Lib.hid hb7; clear hb7 HB7))
    go_ret
    exact ⟨rfl, HB8.out⟩
  · obtain ⟨hn0, hn3, hg, hcn, hcc, b, off, rfl, hC⟩ := HR.out rfl
    have hg2 := hg.symm
    have hcn2 := hcn.symm
    subst hg2
    subst hcn2
    have HC := Lib.hid (hC.below HA5.out)
    clear hC HR HA5
    go_upto_if 30 with (first
      | (go_at_call 6; (with_reducible refine (hA_of HA.out _).mono ?_); rintro e w6 ⟨rfl, hb6⟩; have HW := Lib.hid hb6; clear hb6)
      | (go_at_call 7; refine (few_n q m qc vs _ HM.out (by omega) ((HL.out.below HB6.out).below HW.out)).mono ?_; rintro e w7 ⟨r, rfl, hr, hw7⟩; subst hw7; have HR := Lib.hid hr; clear hr))
    have HB7 := Lib.hid (HB6.out.trans (HW.out.mono HB6.out.size))
    cases r
    · go_wp2_with (go_at_call 6; (with_reducible refine (awakeF HA.out HB7.out).mono ?_); rintro e w8 ⟨rfl, hb8⟩)
      go_ret
      exact ⟨rfl, hb8⟩
    · have HS := Lib.hid (HR.out rfl)
      have hm20 : m ≤ 20 := by have := HS.out.1; have := HM.out; omega
      have HLD := Lib.hid (show LD w W1 w5.heap.size p0 n0 c0 x gp gc b off cc n w7 from ⟨HD.out, HC.out, HB6.out, HW.out⟩)
      clear HR HD HC HW HB6 HB5 hl hg hcn
      obtain ⟨D, hDD⟩ : ∃ D, D = w5.heap.size := ⟨_, rfl⟩
      rw [← hDD] at HLD ⊢
      clear hDD
      go_upto_region 4 with fail
      go_cut [9] (fun u wx => ∃ E : Nat, u = .pointer (some ⟨E, 0, none⟩) ∧ W1.heap.size ≤ E ∧ LD w W1 D p0 n0 c0 x gp gc b off cc n wx ∧ wx.heap[E]? = some (.cells #[.int .i64 (ofE n (0, false) vs).1, .bool (ofE n (0, false) vs).2] 39 (0, 0)))
      case first =>
        have hOd := HLD.out.below (below_drew w7)
        refine wp_region_noPanic ?_
        refine wp_region_x 5 (fun W => W.cell? ⟨D, 0, none⟩ = some (.slice p0 n0 c0) ∧ W.cell? ⟨D, 1, none⟩ = some (.slice none 0 0) ∧ W.cell? ⟨D, 2, none⟩ = some (.int .u16 x) ∧ W.cell? ⟨D, 3, none⟩ = some (.slice gp n gc) ∧ W.cell? ⟨D, 4, none⟩ = some (.slice (some ⟨b, off, none⟩) n cc) ∧ W.cell? ⟨D, 5, none⟩ = some (.slice none 0 0) ∧ LD w W1 D p0 n0 c0 x gp gc b off cc n W) (by kernel_rfl) ?_ (fun hHeld => ?_)
        · exact ldS hOd
        refine wpAnyX_take (i := 0) (oi := { dst := some 32, op := _, type := _, pos := _, after := _, guard := _ }) (v := ?_) rfl (by kernel_rfl) (by kernel_rfl) (by kernel_rfl) (by kernel_rfl) (fun _ _ _ h => h) (Or.inl ⟨by rfl, ?_⟩) (by assumption) ?_
        rotate_left
        · intro w hSw
          try dsimp only at hSw
          go_simp
          try with_reducible rfl
        try simp only [Act.put, List.setIfInBounds_toArray, List.set_cons_zero, List.set_cons_succ]
        refine wpAnyX_take (i := 1) (oi := { dst := some 33, op := _, type := _, pos := _, after := _, guard := _ }) (v := ?_) rfl (by kernel_rfl) (by kernel_rfl) (by kernel_rfl) (by kernel_rfl) (fun _ _ _ h => h) (Or.inl ⟨by rfl, ?_⟩) (by assumption) ?_
        rotate_left
        · intro w hSw
          try dsimp only at hSw
          go_simp
          try with_reducible rfl
        try simp only [Act.put, List.setIfInBounds_toArray, List.set_cons_zero, List.set_cons_succ]
        refine wpAnyX_ready (rs := [2, 4]) (by kernel_rfl) (by simp) ?_
        refine AllReadyX.cons (o := { dst := some 34, op := _, type := _, pos := _, after := _, guard := _ }) rfl (fun K hK => ?_) ?_
        · go_simp
          go_at_call 9
          refine (clone_n q m qc vs _ HM.out hm20 (HL.out.below hOd.bl)).mono ?_
          rintro e x1 ⟨pc, kc, rfl, hlc, hcl, hb1⟩
          have hO1 := hOd.below hb1
          go_simp
          refine hK.out _ _ ?_ (fun hHeld => ?_)
          · exact ldS hO1
          clear hK K
          try simp only [Act.put, List.setIfInBounds_toArray, List.set_cons_zero, List.set_cons_succ]
          refine wpAnyX_ready (rs := [3, 4]) (by kernel_rfl) (by simp) ?_
          refine AllReadyX.cons (o := { dst := some 35, op := _, type := _, pos := _, after := _, guard := _ }) rfl (fun K hK => ?_) ?_
          · go_simp
            go_at_call 8
            refine (of_ex p0 n0 c0 x gp gc b off cc n pc kc vs _ hn3 hn0 HS.out hO1.ch hlc (HG.out.below hO1.bl)).mono ?_
            rintro e x2 ⟨rfl, hb2⟩
            have hO2 := hO1.below hb2
            go_simp
            refine hK.out _ _ ?_ (fun hHeld => ?_)
            · exact ldS hO2
            clear hK K
            try simp only [Act.put, List.setIfInBounds_toArray, List.set_cons_zero, List.set_cons_succ]
            refine wpAnyX_ready (rs := [4]) (by kernel_rfl) (by simp) ?_
            refine AllReadyX.cons (o := { dst := some 9, op := _, type := _, pos := _, after := _, guard := _ }) rfl (fun K hK => ?_) ?_
            · go_simp
              have hX3 : (x2.alloc (.cells #[.int .i64 0, .bool false] 39)).heap[x2.heap.size]? = some (.cells #[.int .i64 0, .bool false] 39) := heap_alloc_new x2 _
              have hO3 := hO2.below ((Below.refl _ _).alloc (Nat.le_refl _) (.cells #[.int .i64 0, .bool false] 39))
              have hL := hO2.b4.size
              have hlc3 := hlc.below ((Below.refl _ _).alloc (Nat.le_refl _) (.cells #[.int .i64 0, .bool false] 39))
              refine hK.out _ _ ?_ (fun hHeld => ?_)
              · exact ldS hO3
              clear hK K
              try simp only [Act.put, List.setIfInBounds_toArray, List.set_cons_zero, List.set_cons_succ]
              refine wpAnyX_ready (rs := [5]) (by kernel_rfl) (by simp) ?_
              refine AllReadyX.last (o := { dst := none, op := _, type := _, pos := _, after := _, guard := _ }) rfl (fun K hK => ?_) ?_
              · have z0 := cellOf hX3 (j := 0) rfl
                have z1 := cellOf hX3 (j := 1) rfl
                have y0 := frozenOf hX3 (j := 0)
                have y1 := frozenOf hX3 (j := 1)
                go_simp
                refine hK.out _ _ ?_
                clear hK K
                clear z0 z1 y0 y1
                try simp only [Act.put, List.setIfInBounds_toArray, List.set_cons_zero, List.set_cons_succ]
                refine wpAnyX_done (by kernel_rfl) ?_ _
                refine NoPanic.normal ?_
                go_wp2_with fail
                go_meet
                exact ⟨_, rfl, hL, hO2.below ((Below.refl _ _).alloc (Nat.le_refl _) _), heap_alloc_new _ _⟩
              exact AllReadyX.nil
            exact AllReadyX.nil
          refine AllReadyX.cons (o := { dst := some 9, op := _, type := _, pos := _, after := _, guard := _ }) rfl (fun K hK => ?_) ?_
          · go_simp
            have hX4 : (x1.alloc (.cells #[.int .i64 0, .bool false] 39)).heap[x1.heap.size]? = some (.cells #[.int .i64 0, .bool false] 39) := heap_alloc_new x1 _
            have hO4 := hO1.below ((Below.refl _ _).alloc (Nat.le_refl _) (.cells #[.int .i64 0, .bool false] 39))
            have hL := hO1.b4.size
            have hlc4 := hlc.below ((Below.refl _ _).alloc (Nat.le_refl _) (.cells #[.int .i64 0, .bool false] 39))
            refine hK.out _ _ ?_ (fun hHeld => ?_)
            · exact ldS hO4
            clear hK K
            try simp only [Act.put, List.setIfInBounds_toArray, List.set_cons_zero, List.set_cons_succ]
            refine wpAnyX_ready (rs := [3]) (by kernel_rfl) (by simp) ?_
            refine AllReadyX.cons (o := { dst := some 35, op := _, type := _, pos := _, after := _, guard := _ }) rfl (fun K hK => ?_) ?_
            · go_simp
              go_at_call 8
              refine (of_ex p0 n0 c0 x gp gc b off cc n pc kc vs _ hn3 hn0 HS.out hO4.ch hlc4 (HG.out.below hO4.bl)).mono ?_
              rintro e x5 ⟨rfl, hb5⟩
              have hO5 := hO4.below hb5
              have hX5 := (hb5.block _ (Array.getElem?_eq_some_iff.mp hX4).1).trans hX4
              go_simp
              refine hK.out _ _ ?_ (fun hHeld => ?_)
              · exact ldS hO5
              clear hK K
              try simp only [Act.put, List.setIfInBounds_toArray, List.set_cons_zero, List.set_cons_succ]
              refine wpAnyX_ready (rs := [5]) (by kernel_rfl) (by simp) ?_
              refine AllReadyX.last (o := { dst := none, op := _, type := _, pos := _, after := _, guard := _ }) rfl (fun K hK => ?_) ?_
              · have z0 := cellOf hX5 (j := 0) rfl
                have z1 := cellOf hX5 (j := 1) rfl
                have y0 := frozenOf hX5 (j := 0)
                have y1 := frozenOf hX5 (j := 1)
                go_simp
                refine hK.out _ _ ?_
                clear hK K
                clear z0 z1 y0 y1
                try simp only [Act.put, List.setIfInBounds_toArray, List.set_cons_zero, List.set_cons_succ]
                refine wpAnyX_done (by kernel_rfl) ?_ _
                refine NoPanic.normal ?_
                go_wp2_with fail
                go_meet
                exact ⟨_, rfl, hL, hO5.set2 hL _ _, row_set2 hX5 _ _⟩
              exact AllReadyX.nil
            exact AllReadyX.nil
          exact AllReadyX.nil
        refine AllReadyX.cons (o := { dst := some 9, op := _, type := _, pos := _, after := _, guard := _ }) rfl (fun K hK => ?_) ?_
        · go_simp
          have hX6 : (w7.drew.alloc (.cells #[.int .i64 0, .bool false] 39)).heap[w7.heap.size]? = some (.cells #[.int .i64 0, .bool false] 39) := heap_alloc_new w7.drew _
          have hO6 := hOd.below ((Below.refl _ _).alloc (Nat.le_refl _) (.cells #[.int .i64 0, .bool false] 39))
          have hL := hOd.b4.size
          refine hK.out _ _ ?_ (fun hHeld => ?_)
          · exact ldS hO6
          clear hK K
          try simp only [Act.put, List.setIfInBounds_toArray, List.set_cons_zero, List.set_cons_succ]
          refine wpAnyX_ready (rs := [2]) (by kernel_rfl) (by simp) ?_
          refine AllReadyX.cons (o := { dst := some 34, op := _, type := _, pos := _, after := _, guard := _ }) rfl (fun K hK => ?_) ?_
          · go_simp
            go_at_call 9
            refine (clone_n q m qc vs _ HM.out hm20 (HL.out.below hO6.bl)).mono ?_
            rintro e x7 ⟨pc, kc, rfl, hlc, hcl, hb7⟩
            have hO7 := hO6.below hb7
            have hX7 := (hb7.block _ (Array.getElem?_eq_some_iff.mp hX6).1).trans hX6
            go_simp
            refine hK.out _ _ ?_ (fun hHeld => ?_)
            · exact ldS hO7
            clear hK K
            try simp only [Act.put, List.setIfInBounds_toArray, List.set_cons_zero, List.set_cons_succ]
            refine wpAnyX_ready (rs := [3]) (by kernel_rfl) (by simp) ?_
            refine AllReadyX.cons (o := { dst := some 35, op := _, type := _, pos := _, after := _, guard := _ }) rfl (fun K hK => ?_) ?_
            · go_simp
              go_at_call 8
              refine (of_ex p0 n0 c0 x gp gc b off cc n pc kc vs _ hn3 hn0 HS.out hO7.ch hlc (HG.out.below hO7.bl)).mono ?_
              rintro e x8 ⟨rfl, hb8⟩
              have hO8 := hO7.below hb8
              have hX8 := (hb8.block _ (Array.getElem?_eq_some_iff.mp hX7).1).trans hX7
              go_simp
              refine hK.out _ _ ?_ (fun hHeld => ?_)
              · exact ldS hO8
              clear hK K
              try simp only [Act.put, List.setIfInBounds_toArray, List.set_cons_zero, List.set_cons_succ]
              refine wpAnyX_ready (rs := [5]) (by kernel_rfl) (by simp) ?_
              refine AllReadyX.last (o := { dst := none, op := _, type := _, pos := _, after := _, guard := _ }) rfl (fun K hK => ?_) ?_
              · have z0 := cellOf hX8 (j := 0) rfl
                have z1 := cellOf hX8 (j := 1) rfl
                have y0 := frozenOf hX8 (j := 0)
                have y1 := frozenOf hX8 (j := 1)
                go_simp
                refine hK.out _ _ ?_
                clear hK K
                clear z0 z1 y0 y1
                try simp only [Act.put, List.setIfInBounds_toArray, List.set_cons_zero, List.set_cons_succ]
                refine wpAnyX_done (by kernel_rfl) ?_ _
                refine NoPanic.normal ?_
                go_wp2_with fail
                go_meet
                exact ⟨_, rfl, hL, hO8.set2 hL _ _, row_set2 hX8 _ _⟩
              exact AllReadyX.nil
            exact AllReadyX.nil
          exact AllReadyX.nil
        exact AllReadyX.nil
      case rest =>
        obtain ⟨E9, rfl, hE9, hO, hX⟩ := hcut
        have HL4 := Lib.hid (show LD w wc D p0 n0 c0 x gp gc b off cc n wc from ⟨hO.da, hO.ch, hO.bl, Below.refl _ _⟩)
        have HX9 := Lib.hid hX
        have HDE := Lib.hid (show D ≠ E9 by have := (Array.getElem?_eq_some_iff.mp HLD.out.d4).1; omega)
        have HbE := Lib.hid (show b ≠ E9 by have := HLD.out.c4.1; omega)
        clear hE9 hO hX HLD
        have em1 : ¬ ((m : Int) + 1 = 0) := by omega
        go_upto_region 6 with fail
        obtain ⟨k, hk, hkm⟩ : ∃ k : Nat, ((cut : Int) % ((m : Int) + 1)) = (k : Int) ∧ k ≤ m := ⟨cut % (m + 1), by rw [Int.natCast_emod]; rfl, Nat.lt_succ_iff.mp (Nat.mod_lt _ (Nat.succ_pos _))⟩
        simp only [hk]
        clear hk em1
        obtain ⟨w2, hw2⟩ : ∃ w2 : World, w2 = wc := ⟨wc, rfl⟩
        subst hw2
        have e0 : (0 : Int) ≤ (k : Int) := by omega
        have e1 : (k : Int) ≤ (qc : Int) := by omega
        have e2 : k ≤ qc := by omega
        have hk20 : k ≤ 20 := by omega
        obtain ⟨vk, hvk⟩ : ∃ vk : List ByteArray, vk = vs.take k := ⟨_, rfl⟩
        have HVK := Lib.hid hvk
        have HMK := Lib.hid (show vk.length = k by rw [hvk, List.length_take, HM.out]; omega)
        have HSK := Lib.hid (show Short vk by rw [hvk]; exact HS.out.take k)
        have HLK := Lib.hid (show StrL w q vk by rw [hvk]; exact HL.out.take k)
        clear hvk
        go_cut [11] (fun u wx => ∃ E : Nat, u = .pointer (some ⟨E, 0, none⟩) ∧ w2.heap.size ≤ E ∧ LD w w2 D p0 n0 c0 x gp gc b off cc n wx ∧ wx.heap[E]? = some (.cells #[.int .i64 (ofE n (0, false) vk).1, .bool (ofE n (0, false) vk).2] 39 (0, 0)))
        case first =>
          have hOd := HL4.out.below (below_drew w2)
          refine wp_region_noPanic ?_
          refine wp_region_x 7 (fun W => W.cell? ⟨D, 0, none⟩ = some (.slice p0 n0 c0) ∧ W.cell? ⟨D, 1, none⟩ = some (.slice none 0 0) ∧ W.cell? ⟨D, 2, none⟩ = some (.int .u16 x) ∧ W.cell? ⟨D, 3, none⟩ = some (.slice gp n gc) ∧ W.cell? ⟨D, 4, none⟩ = some (.slice (some ⟨b, off, none⟩) n cc) ∧ W.cell? ⟨D, 5, none⟩ = some (.slice none 0 0) ∧ LD w w2 D p0 n0 c0 x gp gc b off cc n W) (by kernel_rfl) ?_ (fun hHeld => ?_)
          · exact ldS hOd
          refine wpAnyX_take (i := 0) (oi := { dst := some 42, op := _, type := _, pos := _, after := _, guard := _ }) (v := ?_) rfl (by kernel_rfl) (by kernel_rfl) (by kernel_rfl) (by kernel_rfl) (fun _ _ _ h => h) (Or.inl ⟨by rfl, ?_⟩) (by assumption) ?_
          rotate_left
          · intro w hSw
            try dsimp only at hSw
            go_simp
            try with_reducible rfl
          try simp only [Act.put, List.setIfInBounds_toArray, List.set_cons_zero, List.set_cons_succ]
          refine wpAnyX_take (i := 1) (oi := { dst := some 43, op := _, type := _, pos := _, after := _, guard := _ }) (v := ?_) rfl (by kernel_rfl) (by kernel_rfl) (by kernel_rfl) (by kernel_rfl) (fun _ _ _ h => h) (Or.inl ⟨by rfl, ?_⟩) (by assumption) ?_
          rotate_left
          · intro w hSw
            try dsimp only at hSw
            go_simp
            try with_reducible rfl
          try simp only [Act.put, List.setIfInBounds_toArray, List.set_cons_zero, List.set_cons_succ]
          refine wpAnyX_take (i := 2) (oi := { dst := some 44, op := _, type := _, pos := _, after := _, guard := _ }) (v := ?_) rfl (by kernel_rfl) (by kernel_rfl) (by kernel_rfl) (by kernel_rfl) (fun _ _ _ h => h) (Or.inl ⟨by rfl, ?_⟩) (by assumption) ?_
          rotate_left
          · intro w hSw
            try dsimp only at hSw
            go_simp
            try with_reducible rfl
          try simp only [Act.put, List.setIfInBounds_toArray, List.set_cons_zero, List.set_cons_succ]
          refine wpAnyX_take (i := 3) (oi := { dst := some 45, op := _, type := _, pos := _, after := _, guard := _ }) (v := ?_) rfl (by kernel_rfl) (by kernel_rfl) (by kernel_rfl) (by kernel_rfl) (fun _ _ _ h => h) (Or.inl ⟨by rfl, ?_⟩) (by assumption) ?_
          rotate_left
          · intro w hSw
            try dsimp only at hSw
            go_simp
            try with_reducible rfl
          try simp only [Act.put, List.setIfInBounds_toArray, List.set_cons_zero, List.set_cons_succ]
          refine wpAnyX_ready (rs := [4, 6]) (by kernel_rfl) (by simp) ?_
          refine AllReadyX.cons (o := { dst := some 46, op := _, type := _, pos := _, after := _, guard := _ }) rfl (fun K hK => ?_) ?_
          · go_simp
            go_at_call 9
            refine (clone_n q k qc vk _ HMK.out hk20 (HLK.out.below hOd.bl)).mono ?_
            rintro e x9 ⟨pc, kc, rfl, hlc, hcl, hb9⟩
            have hO9 := hOd.below hb9
            go_simp
            refine hK.out _ _ ?_ (fun hHeld => ?_)
            · exact ldS hO9
            clear hK K
            try simp only [Act.put, List.setIfInBounds_toArray, List.set_cons_zero, List.set_cons_succ]
            refine wpAnyX_ready (rs := [5, 6]) (by kernel_rfl) (by simp) ?_
            refine AllReadyX.cons (o := { dst := some 47, op := _, type := _, pos := _, after := _, guard := _ }) rfl (fun K hK => ?_) ?_
            · go_simp
              go_at_call 8
              refine (of_ex p0 n0 c0 x gp gc b off cc n pc kc vk _ hn3 hn0 HSK.out hO9.ch hlc (HG.out.below hO9.bl)).mono ?_
              rintro e x10 ⟨rfl, hb10⟩
              have hO10 := hO9.below hb10
              go_simp
              refine hK.out _ _ ?_ (fun hHeld => ?_)
              · exact ldS hO10
              clear hK K
              try simp only [Act.put, List.setIfInBounds_toArray, List.set_cons_zero, List.set_cons_succ]
              refine wpAnyX_ready (rs := [6]) (by kernel_rfl) (by simp) ?_
              refine AllReadyX.cons (o := { dst := some 11, op := _, type := _, pos := _, after := _, guard := _ }) rfl (fun K hK => ?_) ?_
              · go_simp
                have hX11 : (x10.alloc (.cells #[.int .i64 0, .bool false] 39)).heap[x10.heap.size]? = some (.cells #[.int .i64 0, .bool false] 39) := heap_alloc_new x10 _
                have hO11 := hO10.below ((Below.refl _ _).alloc (Nat.le_refl _) (.cells #[.int .i64 0, .bool false] 39))
                have hL := hO10.b4.size
                have hlc11 := hlc.below ((Below.refl _ _).alloc (Nat.le_refl _) (.cells #[.int .i64 0, .bool false] 39))
                refine hK.out _ _ ?_ (fun hHeld => ?_)
                · exact ldS hO11
                clear hK K
                try simp only [Act.put, List.setIfInBounds_toArray, List.set_cons_zero, List.set_cons_succ]
                refine wpAnyX_ready (rs := [7]) (by kernel_rfl) (by simp) ?_
                refine AllReadyX.last (o := { dst := none, op := _, type := _, pos := _, after := _, guard := _ }) rfl (fun K hK => ?_) ?_
                · have z0 := cellOf hX11 (j := 0) rfl
                  have z1 := cellOf hX11 (j := 1) rfl
                  have y0 := frozenOf hX11 (j := 0)
                  have y1 := frozenOf hX11 (j := 1)
                  go_simp
                  refine hK.out _ _ ?_
                  clear hK K
                  clear z0 z1 y0 y1
                  try simp only [Act.put, List.setIfInBounds_toArray, List.set_cons_zero, List.set_cons_succ]
                  refine wpAnyX_done (by kernel_rfl) ?_ _
                  refine NoPanic.normal ?_
                  go_wp2_with fail
                  go_meet
                  exact ⟨_, rfl, hL, hO10.below ((Below.refl _ _).alloc (Nat.le_refl _) _), heap_alloc_new _ _⟩
                exact AllReadyX.nil
              exact AllReadyX.nil
            refine AllReadyX.cons (o := { dst := some 11, op := _, type := _, pos := _, after := _, guard := _ }) rfl (fun K hK => ?_) ?_
            · go_simp
              have hX12 : (x9.alloc (.cells #[.int .i64 0, .bool false] 39)).heap[x9.heap.size]? = some (.cells #[.int .i64 0, .bool false] 39) := heap_alloc_new x9 _
              have hO12 := hO9.below ((Below.refl _ _).alloc (Nat.le_refl _) (.cells #[.int .i64 0, .bool false] 39))
              have hL := hO9.b4.size
              have hlc12 := hlc.below ((Below.refl _ _).alloc (Nat.le_refl _) (.cells #[.int .i64 0, .bool false] 39))
              refine hK.out _ _ ?_ (fun hHeld => ?_)
              · exact ldS hO12
              clear hK K
              try simp only [Act.put, List.setIfInBounds_toArray, List.set_cons_zero, List.set_cons_succ]
              refine wpAnyX_ready (rs := [5]) (by kernel_rfl) (by simp) ?_
              refine AllReadyX.cons (o := { dst := some 47, op := _, type := _, pos := _, after := _, guard := _ }) rfl (fun K hK => ?_) ?_
              · go_simp
                go_at_call 8
                refine (of_ex p0 n0 c0 x gp gc b off cc n pc kc vk _ hn3 hn0 HSK.out hO12.ch hlc12 (HG.out.below hO12.bl)).mono ?_
                rintro e x13 ⟨rfl, hb13⟩
                have hO13 := hO12.below hb13
                have hX13 := (hb13.block _ (Array.getElem?_eq_some_iff.mp hX12).1).trans hX12
                go_simp
                refine hK.out _ _ ?_ (fun hHeld => ?_)
                · exact ldS hO13
                clear hK K
                try simp only [Act.put, List.setIfInBounds_toArray, List.set_cons_zero, List.set_cons_succ]
                refine wpAnyX_ready (rs := [7]) (by kernel_rfl) (by simp) ?_
                refine AllReadyX.last (o := { dst := none, op := _, type := _, pos := _, after := _, guard := _ }) rfl (fun K hK => ?_) ?_
                · have z0 := cellOf hX13 (j := 0) rfl
                  have z1 := cellOf hX13 (j := 1) rfl
                  have y0 := frozenOf hX13 (j := 0)
                  have y1 := frozenOf hX13 (j := 1)
                  go_simp
                  refine hK.out _ _ ?_
                  clear hK K
                  clear z0 z1 y0 y1
                  try simp only [Act.put, List.setIfInBounds_toArray, List.set_cons_zero, List.set_cons_succ]
                  refine wpAnyX_done (by kernel_rfl) ?_ _
                  refine NoPanic.normal ?_
                  go_wp2_with fail
                  go_meet
                  exact ⟨_, rfl, hL, hO13.set2 hL _ _, row_set2 hX13 _ _⟩
                exact AllReadyX.nil
              exact AllReadyX.nil
            exact AllReadyX.nil
          refine AllReadyX.cons (o := { dst := some 11, op := _, type := _, pos := _, after := _, guard := _ }) rfl (fun K hK => ?_) ?_
          · go_simp
            have hX14 : (w2.drew.alloc (.cells #[.int .i64 0, .bool false] 39)).heap[w2.heap.size]? = some (.cells #[.int .i64 0, .bool false] 39) := heap_alloc_new w2.drew _
            have hO14 := hOd.below ((Below.refl _ _).alloc (Nat.le_refl _) (.cells #[.int .i64 0, .bool false] 39))
            have hL := hOd.b4.size
            refine hK.out _ _ ?_ (fun hHeld => ?_)
            · exact ldS hO14
            clear hK K
            try simp only [Act.put, List.setIfInBounds_toArray, List.set_cons_zero, List.set_cons_succ]
            refine wpAnyX_ready (rs := [4]) (by kernel_rfl) (by simp) ?_
            refine AllReadyX.cons (o := { dst := some 46, op := _, type := _, pos := _, after := _, guard := _ }) rfl (fun K hK => ?_) ?_
            · go_simp
              go_at_call 9
              refine (clone_n q k qc vk _ HMK.out hk20 (HLK.out.below hO14.bl)).mono ?_
              rintro e x15 ⟨pc, kc, rfl, hlc, hcl, hb15⟩
              have hO15 := hO14.below hb15
              have hX15 := (hb15.block _ (Array.getElem?_eq_some_iff.mp hX14).1).trans hX14
              go_simp
              refine hK.out _ _ ?_ (fun hHeld => ?_)
              · exact ldS hO15
              clear hK K
              try simp only [Act.put, List.setIfInBounds_toArray, List.set_cons_zero, List.set_cons_succ]
              refine wpAnyX_ready (rs := [5]) (by kernel_rfl) (by simp) ?_
              refine AllReadyX.cons (o := { dst := some 47, op := _, type := _, pos := _, after := _, guard := _ }) rfl (fun K hK => ?_) ?_
              · go_simp
                go_at_call 8
                refine (of_ex p0 n0 c0 x gp gc b off cc n pc kc vk _ hn3 hn0 HSK.out hO15.ch hlc (HG.out.below hO15.bl)).mono ?_
                rintro e x16 ⟨rfl, hb16⟩
                have hO16 := hO15.below hb16
                have hX16 := (hb16.block _ (Array.getElem?_eq_some_iff.mp hX15).1).trans hX15
                go_simp
                refine hK.out _ _ ?_ (fun hHeld => ?_)
                · exact ldS hO16
                clear hK K
                try simp only [Act.put, List.setIfInBounds_toArray, List.set_cons_zero, List.set_cons_succ]
                refine wpAnyX_ready (rs := [7]) (by kernel_rfl) (by simp) ?_
                refine AllReadyX.last (o := { dst := none, op := _, type := _, pos := _, after := _, guard := _ }) rfl (fun K hK => ?_) ?_
                · have z0 := cellOf hX16 (j := 0) rfl
                  have z1 := cellOf hX16 (j := 1) rfl
                  have y0 := frozenOf hX16 (j := 0)
                  have y1 := frozenOf hX16 (j := 1)
                  go_simp
                  refine hK.out _ _ ?_
                  clear hK K
                  clear z0 z1 y0 y1
                  try simp only [Act.put, List.setIfInBounds_toArray, List.set_cons_zero, List.set_cons_succ]
                  refine wpAnyX_done (by kernel_rfl) ?_ _
                  refine NoPanic.normal ?_
                  go_wp2_with fail
                  go_meet
                  exact ⟨_, rfl, hL, hO16.set2 hL _ _, row_set2 hX16 _ _⟩
                exact AllReadyX.nil
              exact AllReadyX.nil
            exact AllReadyX.nil
          exact AllReadyX.nil
        case rest =>
          obtain ⟨E, rfl, hE, hO, hX⟩ := hcut
          have hDl := (Array.getElem?_eq_some_iff.mp HL4.out.d4).1
          have h9l := (Array.getElem?_eq_some_iff.mp HX9.out).1
          have hbl := HL4.out.c4.1
          have hL6 : LL w wc D E9 E p0 n0 c0 x gp gc b off cc n (ofE n (0, false) vs) (ofE n (0, false) vk) wc :=
            ⟨hO.da, (hO.b4.block _ h9l).trans HX9.out, hO.ch, (Array.getElem?_eq_some_iff.mp hX).1, by omega, by omega, by omega, hO.bl, Nat.le_trans hO.l4.size hE, fun _ _ _ => rfl, hX, Nat.le_refl _, hO.bl⟩
          have HL6 := Lib.hid hL6
          clear hE hO hX hDl h9l hbl hL6 HL4 HX9
          obtain ⟨w6, hw6⟩ : ∃ w6 : World, w6 = wc := ⟨wc, rfl⟩
          subst hw6
          go_upto_region 7 with fail
          go_cut [50, 51, 52] (fun u v i wx => ∃ (p7 : Option Addr) (c7 : Nat), u = .slice p7 (m - k) c7 ∧ v = .int .i64 ((m - k : Nat) : Int) ∧ i = .int .i64 0 ∧ StrL w p7 (vs.drop k) ∧ wx = w6)
          case first =>
            cases q with
            | none =>
              have hm0 : m = 0 := by
                have := HM.out
                rcases HL.out with h | ⟨_, _, h, _⟩
                · subst h; exact this.symm
                · cases h
              have hk0 : k = 0 := by omega
              subst hm0
              subst hk0
              go_wp2_with fail
              go_meet
              exact ⟨none, qc, rfl, rfl, rfl, by rw [List.drop_zero]; exact HL.out, rfl⟩
            | some a =>
              by_cases hkc : k = qc
              · have hmk : m = k := by omega
                subst hkc
                subst hmk
                go_wp2_with fail
                go_meet
                exact ⟨some a, 0, by rw [Nat.sub_self], by rw [Nat.sub_self]; rfl, rfl, .inl (List.drop_eq_nil_of_le (Nat.le_of_eq HM.out)), rfl⟩
              · have hkc2 : ¬ qc - k = 0 := by omega
                go_wp2_with fail
                go_meet
                exact ⟨some (a.add k), _, rfl, rfl, rfl, HL.out.dropA k, rfl⟩
          case rest =>
            obtain ⟨p7, c7, rfl, rfl, rfl, hS7, hwc⟩ := hcut
            have h8 := hwc.symm
            subst h8
            have HS7 := Lib.hid hS7
            clear hwc hS7 e0 e1 e2
            have HDL := Lib.hid (show (vs.drop k).length = m - k by rw [List.length_drop, HM.out])
            obtain ⟨mk, hmk⟩ : ∃ mk, m - k = mk := ⟨_, rfl⟩
            have HKM := Lib.hid (show k + mk = m by omega)
            have hmk20 : mk ≤ 20 := by omega
            simp only [hmk] at HDL ⊢
            clear hmk
            go_wp2_with fail
            go_loopw [52] (fun i wr => ∃ j : Nat, j ≤ mk ∧ i = .int .i64 j ∧ LL w w6 D E9 E p0 n0 c0 x gp gc b off cc n (ofE n (0, false) vs) (ofE n (0, false) (vs.take (k + j))) wr) (fun i _ => mk - (intOf i).toNat)
            case atStart => exact ⟨0, Nat.zero_le _, rfl, by rw [Nat.add_zero, ← HVK.out]; exact HL6.out⟩
            case round =>
              obtain ⟨j, hj, rfl, hLL⟩ := hrel
              have HLL := Lib.hid hLL
              clear hLL
              by_cases hjm : j < mk
              · have hkv : k + j < vs.length := by have := HM.out; have := HKM.out; omega
                obtain ⟨sb, so, rfl, hsb, hc⟩ := HS7.out.at (k := j) (by have := HDL.out; omega)
                have hc1 := (HLL.out.bl.cell (p := ⟨sb, so + j, none⟩) hsb).trans hc
                rw [List.getElem_drop] at hc1
                have hsk := HS.out.2 _ (List.getElem_mem hkv)
                have hok := ofE_ok (vs.take (k + j)) (e := (0, false)) ⟨hn0, fun h => by cases h⟩
                have hsn := ofE_snoc (n := n) (e := (0, false)) hkv
                clear hc
                generalize ofE n (0, false) (vs.take (k + j)) = ek at HLL hok hsn ⊢
                generalize vs[k + j] = s at hc1 hsk hsn
                have hge : ek.1 ≤ (nextP n ek.1 ek.2 s).1 := nextP_ge
                have HSN := Lib.hid hsn
                clear hsn
                obtain ⟨d0, d1, d2, d3, d4, d5, -, -, g0, g1, -⟩ := llS HLL.out
                go_upto_region 11 with (go_at_call 10; refine (next_ex p0 n0 c0 x gp gc b off cc n ek.1 ek.2 s _ hn3 hok hsk HLL.out.ch (HG.out.below HLL.out.bl)).mono ?_; rintro e w9 ⟨rfl, hb9⟩)
                clear d0 d1 d2 d3 d4 d5 g0 g1 hc1 hok
                generalize nextP n ek.1 ek.2 s = nx at HSN hge ⊢
                have HX := Lib.hid (heap_alloc_new w9 (.cells #[.int .i64 nx.1, .bool nx.2] 39))
                have HL9 := Lib.hid ((HLL.out.below hb9).below ((Below.refl _ _).alloc (Nat.le_refl _) (.cells #[.int .i64 nx.1, .bool nx.2] 39)))
                clear hb9
                revert HX HL9
                generalize w9.alloc (.cells #[.int .i64 nx.1, .bool nx.2] 39) = W9
                generalize w9.heap.size = X
                intro HX HL9
                have x0 := cellOf HX.out (j := 0) rfl; have x1 := cellOf HX.out (j := 1) rfl
                have g0 := cellOf HL9.out.ea (j := 0) rfl; have g1 := cellOf HL9.out.ea (j := 1) rfl; have h0 := frozenOf HL9.out.ea (j := 0); have h1 := frozenOf HL9.out.ea (j := 1)
                have e3 : ¬ (nx.1 : Int) < (ek.1 : Int) := by omega
                go_wp2_with fail
                go_roundw
                case rel => exact ⟨j + 1, by omega, by go_num, by rw [show k + (j + 1) = k + j + 1 from rfl, HSN.out]; exact HL9.out.set nx⟩
                case measure => simp [intOf]; omega
              · obtain rfl : j = mk := by omega
                have hall : vs.take (k + j) = vs := List.take_of_length_le (by have := HM.out; have := HKM.out; omega)
                rw [hall] at HLL
                clear hall
                have e4 : ¬ (j : Int) < (j : Int) := by omega
                go_upto_region 15 with fail
                obtain ⟨ev, hev⟩ : ∃ ev, ofE n (0, false) vs = ev := ⟨_, rfl⟩
                have HEV := Lib.hid hev
                rw [hev] at HLL
                clear hev
                have HCH := Lib.hid (show (chg n vs vs.length).length ≤ 1000 by have := chg_len n vs vs.length; have := HS.out.1; omega)
                go_region_held3 (fun W => W.cell? ⟨D, 0, none⟩ = some (.slice p0 n0 c0) ∧ W.cell? ⟨D, 1, none⟩ = some (.slice none 0 0) ∧ W.cell? ⟨D, 2, none⟩ = some (.int .u16 x) ∧ W.cell? ⟨D, 3, none⟩ = some (.slice gp n gc) ∧ W.cell? ⟨D, 4, none⟩ = some (.slice (some ⟨b, off, none⟩) n cc) ∧ W.cell? ⟨D, 5, none⟩ = some (.slice none 0 0) ∧ W.cell? ⟨E9, 0, none⟩ = some (.int .i64 ev.1) ∧ W.cell? ⟨E9, 1, none⟩ = some (.bool ev.2) ∧ W.cell? ⟨E, 0, none⟩ = some (.int .i64 ev.1) ∧ W.cell? ⟨E, 1, none⟩ = some (.bool ev.2) ∧ LL w w6 D E9 E p0 n0 c0 x gp gc b off cc n ev ev W)
                  (first | exact llS HLL.out | exact llS (HLL.out.below (below_drew _)) | exact llS hL1 | exact llS hL2 | exact llS hL3 | exact llS hL4 | exact llS hL5)
                  (first
                    | (go_at_call 11; (with_reducible refine (rof_n p0 n0 c0 x gp gc b off cc n q m qc vs _ HM.out hn3 hn0 HS.out (HLL.out.below (below_drew _)).ch (HL.out.below (HLL.out.below (below_drew _)).bl) ev HEV.out).mono ?_); rintro e x1 ⟨rfl, hb1⟩; have hL1 := (HLL.out.below (below_drew _)).below hb1)
                    | (go_at_call 9; (with_reducible refine (clone_n q m qc vs _ HM.out hm20 (HL.out.below hL1.bl)).mono ?_); rintro e x2 ⟨pc, kc, rfl, hlc, hcl, hb2⟩; have hL2 := hL1.below hb2)
                    | (go_at_call 13; (with_reducible refine (changes_ex p0 n0 c0 x gp gc b off cc n pc kc vs _ hn3 hn0 HS.out hL2.ch hlc (HG.out.below hL2.bl)).mono ?_); rintro e x3 ⟨p13, k13, rfl, hi13, hb3⟩; have hL3 := hL2.below hb3)
                    | (go_at_call 14; (with_reducible refine (rchanges_n p0 n0 c0 x gp gc b off cc n q m qc vs _ HM.out hn3 hn0 hqc HS.out hL3.ch (HL.out.below hL3.bl)).mono ?_); rintro e x4 ⟨p14, k14, rfl, hi14, hb4⟩; have hL4 := hL3.below hb4; have hi13b := hi13.below hb4)
                    | (go_at_call 12; (with_reducible refine (numbers_ex p13 p14 k13 k14 _ _ HCH.out hi13b hi14).mono ?_); rintro e x5 ⟨rfl, hb5⟩; have hL5 := hL4.below hb5))
                go_wp2_with fail
                go_ret
                exact ⟨rfl, hL5.bl⟩
end Go.Proofs.YtmcnpaehmnadeaaGreatDoor
