/-
  LeaseTake: the reference's Equal at two that know the same.
-/
import Derived.Test.YtoigjpkdcadlnaaGreatDoorLxABC
import Derived.Test.YtoigjpkdcadlnaaGreatDoorLzB
import Derived.Test.YtoigjpkdcadlnaaGreatDoorLvABC
import Derived.Deep.MidRow
namespace Go.Proofs.YtoigjpkdcadlnaaGreatDoor
open Go Go.RowKit

def TrueRet (w : World) (e : Ending) (w' : World) : Prop := e = .returned (.bool true) ∧ Below w.heap.size w w'

set_option maxHeartbeats 3200000 in
set_option maxRecDepth 1000000 in
theorem equal_nil (view : Int) (w : World) : Calls Tryz.prog 9 #[.agg #[.int .i64 view, .slice none 0 0], .agg #[.int .i64 view, .slice none 0 0]] w (TrueRet w) := by
  have hb2 : Below w.heap.size w ((w.alloc (.cells #[.int .i64 view, .slice none 0 0] 26)).alloc (.cells #[.int .i64 view, .slice none 0 0] 26)) := ((Below.refl _ _).alloc (Nat.le_refl _) _).alloc (by simp) _
  go_enter Tryz.func9, Tryz.ntmps9
  go_wp2
  go_loopw [5] (fun i wr => i = .int .i64 0 ∧ wr.cell? ⟨w.heap.size, 1, none⟩ = some (.slice none 0 0) ∧ Below w.heap.size w wr) (fun _ _ => 0)
  case atStart => exact ⟨rfl, by simp, hb2⟩
  case round =>
    obtain ⟨rfl, hsl, hbl⟩ := hrel
    go_wp2
    go_ret
    exact ⟨rfl, hbl⟩

set_option maxHeartbeats 3200000 in
set_option maxRecDepth 1000000 in
theorem equal_some (view : Int) (b off b' off' n cap cap' : Nat) (L : List (Int × Int)) (w : World) (hl : n = L.length) (hn : n ≤ 20) (h1 : GrAt w b off L) (h2 : GrAt w b' off' L) (hb : b < w.heap.size) (hb' : b' < w.heap.size) :
    Calls Tryz.prog 9 #[.agg #[.int .i64 view, .slice (some ⟨b, off, none⟩) n cap], .agg #[.int .i64 view, .slice (some ⟨b', off', none⟩) n cap']] w (TrueRet w) := by
  have hb2 : Below w.heap.size w ((w.alloc (.cells #[.int .i64 view, .slice (some ⟨b, off, none⟩) n cap] 26)).alloc (.cells #[.int .i64 view, .slice (some ⟨b', off', none⟩) n cap'] 26)) := ((Below.refl _ _).alloc (Nat.le_refl _) _).alloc (by simp) _
  have H1 := Lib.hid h1
  have H2 := Lib.hid h2
  have HL := Lib.hid hl
  clear h1 h2 hl
  go_enter Tryz.func9, Tryz.ntmps9
  go_wp2
  go_loopw [5] (fun i wr => ∃ k : Nat, k ≤ n ∧ i = .int .i64 k ∧ wr.cell? ⟨w.heap.size, 1, none⟩ = some (.slice (some ⟨b, off, none⟩) n cap) ∧ wr.cell? ⟨w.heap.size + 1, 1, none⟩ = some (.slice (some ⟨b', off', none⟩) n cap') ∧ Below w.heap.size w wr) (fun i _ => n - (intOf i).toNat)
  case atStart => exact ⟨0, Nat.zero_le _, rfl, by simp, by simp, hb2⟩
  case round =>
    obtain ⟨k, hk, rfl, hs1, hs2, hbl⟩ := hrel
    by_cases hkn : k < n
    · obtain ⟨x, hx⟩ : ∃ x, L[k]? = some x := ⟨_, List.getElem?_eq_getElem (by have := HL.out; omega)⟩
      have c1 := (H1.out.below hbl hb).c1 hx
      have c2 := (H1.out.below hbl hb).c2 hx
      have c3 := (H2.out.below hbl hb').c1 hx
      have c4 := (H2.out.below hbl hb').c2 hx
      have e0 : (0 : Int) ≤ (k : Int) := by omega
      have e1 : (k : Int) < (n : Int) := by omega
      clear hx
      go_wp2
      go_quiet (fail)
      go_wp2
      all_goals first
        | (go_roundw
           case rel => exact ⟨k + 1, by omega, by go_num, hs1, hs2, below_drewN hbl _⟩
           case measure => simp [intOf]; omega)
        | (exfalso; simp at *; done)
    · go_wp2
      go_ret
      exact ⟨rfl, hbl⟩

theorem equal_any (view : Int) (p q : Option Addr) (n n' cap cap' : Nat) (L : List (Int × Int)) (w : World) (hn : n ≤ 20) (h1 : GrP w p n cap L) (h2 : GrP w q n' cap' L) :
    Calls Tryz.prog 9 #[.agg #[.int .i64 view, .slice p n cap], .agg #[.int .i64 view, .slice q n' cap']] w (TrueRet w) := by
  have hl := h1.1
  have hl' := h2.1
  obtain rfl : n = n' := by omega
  obtain ⟨_, ⟨h0, rfl, rfl⟩ | ⟨h0, b, off, rfl, hb, h3⟩⟩ := h1
  · obtain ⟨_, ⟨_, rfl, rfl⟩ | ⟨h0', _⟩⟩ := h2
    · subst h0
      obtain rfl : n = 0 := hl
      exact equal_nil view w
    · exact absurd h0 h0'
  · obtain ⟨_, ⟨h0', _⟩ | ⟨_, b', off', rfl, hb', h3'⟩⟩ := h2
    · exact absurd h0' h0
    · exact equal_some view b off b' off' n cap cap' L w hl hn h3 h3' hb hb'
end Go.Proofs.YtoigjpkdcadlnaaGreatDoor

/-
  LeaseTake: what lies in memory in a round of the law.
-/
namespace Go.Proofs.YtoigjpkdcadlnaaGreatDoor
open Go Go.RowKit

theorem grP_set {W : World} {p : Option Addr} {n cap H j : Nat} {L : List (Int × Int)} {x : Int} {s : Value} {t : TypeId} {fr : Nat × Nat} {c : Option Addr} {n' c' : Nat} (h : GrP W p n cap L) (hs : s = .slice c n' c') (hH : W.heap[H]? = some (.cells #[.int .i64 x, s] t fr)) (u : Value) : GrP (W.setCell ⟨H, j, none⟩ u) p n cap L := by
  subst hs
  obtain ⟨h1, h2 | ⟨h3, b, off, rfl, hb, h4⟩⟩ := h
  · exact ⟨h1, .inl h2⟩
  · refine ⟨h1, .inr ⟨h3, b, off, rfl, by simpa [World.setCell] using hb, fun i v hv => ?_⟩⟩
    have hne : b ≠ H := by
      rintro rfl
      obtain ⟨y, r, rfl⟩ := List.exists_cons_of_ne_nil h3
      have q1 := h4 0 (.int .i64 y.1) rfl
      have q2 := h4 1 (.int .i64 y.2) rfl
      unfold World.cell? at q1 q2
      rw [hH] at q1 q2
      match off, q1, q2 with
      | 0, q1, q2 => simp at q2
      | 1, q1, q2 => simp at q1
      | k + 2, q1, q2 => simp at q1
    have := h4 i v hv
    rw [← this]
    unfold World.cell?
    rw [Below.heap_setCell W ⟨H, j, none⟩ u b hne]

/-- what lies in memory in a round -/
structure LW (w : World) (H : Nat) (pa : Option Addr) (na ca : Nat) (pb : Option Addr) (nb cb : Nat) (hv : Int) (L : List (Int × Int)) (W : World) : Prop where
  a : W.heap[H]? = some (.cells #[.int .i64 hv, .slice pa na ca] 26 (0, 0))
  b : W.heap[H + 1]? = some (.cells #[.int .i64 hv, .slice pb nb cb] 26 (0, 0))
  ga : GrP W pa na ca L
  gb : GrP W pb nb cb L
  ok : HOk hv L
  bl : Below w.heap.size w W
  hH : w.heap.size ≤ H
theorem LW.lt {w : World} {H : Nat} {pa : Option Addr} {na ca : Nat} {pb : Option Addr} {nb cb : Nat} {hv : Int} {L : List (Int × Int)} {W : World} (h : LW w H pa na ca pb nb cb hv L W) : H + 1 < W.heap.size := (Array.getElem?_eq_some_iff.mp h.b).1
theorem LW.below {w : World} {H : Nat} {pa : Option Addr} {na ca : Nat} {pb : Option Addr} {nb cb : Nat} {hv : Int} {L : List (Int × Int)} {W W' : World} (h : LW w H pa na ca pb nb cb hv L W) (hb : Below W.heap.size W W') : LW w H pa na ca pb nb cb hv L W' := by
  have hlt := h.lt
  exact ⟨(hb.block _ (by omega)).trans h.a, (hb.block _ (by omega)).trans h.b, h.ga.below hb, h.gb.below hb, h.ok, h.bl.trans (hb.mono h.bl.size), h.hH⟩
theorem LW.n12 {w : World} {H : Nat} {pa : Option Addr} {na ca : Nat} {pb : Option Addr} {nb cb : Nat} {hv : Int} {L : List (Int × Int)} {W : World} (h : LW w H pa na ca pb nb cb hv L W) : na ≤ 12 := by
  have := asc_len12 h.ok.2.2.2.1 h.ok.2.2.2.2
  have := h.ga.1
  omega
theorem below_drew (W : World) : Below W.heap.size W W.drew := ⟨rfl, rfl, rfl, Nat.le_refl _, fun _ _ => rfl⟩
theorem below_al (W : World) (o : Obj) : Below W.heap.size W (W.alloc o) := (Below.refl _ _).alloc (Nat.le_refl _) o

/-- .. and the message's block -/
def LM (w : World) (H : Nat) (pa : Option Addr) (na ca : Nat) (pb : Option Addr) (nb cb : Nat) (hv : Int) (L : List (Int × Int)) (M : Nat) (cs : List Value) (W : World) : Prop :=
  LW w H pa na ca pb nb cb hv L W ∧ W.heap[M]? = some (.cells cs.toArray 37 (0, 0))
theorem LM.below {w : World} {H : Nat} {pa : Option Addr} {na ca : Nat} {pb : Option Addr} {nb cb : Nat} {hv : Int} {L : List (Int × Int)} {M : Nat} {cs : List Value} {W W' : World} (h : LM w H pa na ca pb nb cb hv L M cs W) (hb : Below W.heap.size W W') : LM w H pa na ca pb nb cb hv L M cs W' :=
  ⟨h.1.below hb, (hb.block _ (Array.getElem?_eq_some_iff.mp h.2).1).trans h.2⟩
theorem LM.drew {w : World} {H : Nat} {pa : Option Addr} {na ca : Nat} {pb : Option Addr} {nb cb : Nat} {hv : Int} {L : List (Int × Int)} {M : Nat} {cs : List Value} {W : World} (h : LM w H pa na ca pb nb cb hv L M cs W) : LM w H pa na ca pb nb cb hv L M cs W.drew := h.below (below_drew W)
theorem LM.alloc {w : World} {H : Nat} {pa : Option Addr} {na ca : Nat} {pb : Option Addr} {nb cb : Nat} {hv : Int} {L : List (Int × Int)} {M : Nat} {cs : List Value} {W : World} (h : LM w H pa na ca pb nb cb hv L M cs W) (o : Obj) : LM w H pa na ca pb nb cb hv L M cs (W.alloc o) := h.below (below_al W o)
theorem LM.rg {w : World} {H : Nat} {pa : Option Addr} {na ca : Nat} {pb : Option Addr} {nb cb : Nat} {hv : Int} {L : List (Int × Int)} {M : Nat} {cs : List Value} {W : World} (h : LM w H pa na ca pb nb cb hv L M cs W) : W.rangeAt M 0 cs := fun j v hj => by
  refine cellOf h.2 ?_
  simpa using hj

theorem row_set0 {W : World} {b : Nat} {a0 a1 : Value} {t : TypeId} (h : W.heap[b]? = some (.cells #[a0, a1] t (0, 0))) (v0 : Value) : (W.setCell ⟨b, 0, none⟩ v0).heap[b]? = some (.cells #[v0, a1] t (0, 0)) := by
  unfold World.setCell
  simp [Array.getElem?_modify, h]
theorem LM.set {w : World} {H : Nat} {pa : Option Addr} {na ca : Nat} {pb : Option Addr} {nb cb : Nat} {hv : Int} {L : List (Int × Int)} {M : Nat} {cs : List Value} {W : World} (h : LM w H pa na ca pb nb cb hv L M cs W)
    {T : Nat} {x : Int} {c : Option Addr} {n' c' : Nat} (hT : W.heap[T]? = some (.cells #[.int .i64 x, .slice c n' c'] 26 (0, 0))) (hMT : M < T) (hHM : H + 1 < M) (j : Nat) (u : Value) : LM w H pa na ca pb nb cb hv L M cs (W.setCell ⟨T, j, none⟩ u) := by
  have hH := h.1.hH
  refine ⟨⟨?_, ?_, grP_set h.1.ga rfl hT u, grP_set h.1.gb rfl hT u, h.1.ok, below_set h.1.bl (by show _ ≤ T; omega) u, h.1.hH⟩, ?_⟩
  · exact (Below.heap_setCell W _ u H (by show H ≠ T; omega)).trans h.1.a
  · exact (Below.heap_setCell W _ u (H + 1) (by show H + 1 ≠ T; omega)).trans h.1.b
  · exact (Below.heap_setCell W _ u M (by show M ≠ T; omega)).trans h.2
theorem LM.set2 {w : World} {H : Nat} {pa : Option Addr} {na ca : Nat} {pb : Option Addr} {nb cb : Nat} {hv : Int} {L : List (Int × Int)} {M : Nat} {cs : List Value} {W : World} (h : LM w H pa na ca pb nb cb hv L M cs W)
    {T : Nat} {x : Int} {c : Option Addr} {n' c' : Nat} (hT : W.heap[T]? = some (.cells #[.int .i64 x, .slice c n' c'] 26 (0, 0))) (hMT : M < T) (hHM : H + 1 < M) (y : Int) (q : Option Addr) (m d : Nat) :
    LM w H pa na ca pb nb cb hv L M cs ((W.setCell ⟨T, 0, none⟩ (.int .i64 y)).setCell ⟨T, 1, none⟩ (.slice q m d)) :=
  (h.set hT hMT hHM 0 _).set (row_set0 hT _) hMT hHM 1 _
theorem grP_set2 {W : World} {p : Option Addr} {n cap T : Nat} {L : List (Int × Int)} {x : Int} {c : Option Addr} {n' c' : Nat} (h : GrP W p n cap L) (hT : W.heap[T]? = some (.cells #[.int .i64 x, .slice c n' c'] 26 (0, 0))) (y : Int) (q : Option Addr) (m d : Nat) :
    GrP ((W.setCell ⟨T, 0, none⟩ (.int .i64 y)).setCell ⟨T, 1, none⟩ (.slice q m d)) p n cap L := grP_set (grP_set h rfl hT _) rfl (row_set0 hT _) _
theorem LM.lt {w : World} {H : Nat} {pa : Option Addr} {na ca : Nat} {pb : Option Addr} {nb cb : Nat} {hv : Int} {L : List (Int × Int)} {M : Nat} {cs : List Value} {W : World} (h : LM w H pa na ca pb nb cb hv L M cs W) : M < W.heap.size := (Array.getElem?_eq_some_iff.mp h.2).1

theorem valid_true {W : World} {p : Option Addr} {n cap : Nat} {L : List (Int × Int)} {v : Int} (h : GrP W p n cap L) (ok : HOk v L) : Calls Tryz.prog 11 #[.agg #[.int .i64 v, .slice p n cap]] W (TrueRet W) := by
  have hv := hok_vok ok
  have hl := asc_len12 ok.2.2.2.1 ok.2.2.2.2
  obtain ⟨h1, ⟨h0, rfl, rfl⟩ | ⟨h3, b, off, rfl, hb, h4⟩⟩ := h
  · subst h0
    obtain rfl : n = 0 := h1
    refine (leaseValid_none v none 0 (svL []) (unL []) W).mono ?_
    rintro e w' ⟨rfl, hb⟩
    exact ⟨congrArg (fun b => Ending.returned (.bool b)) (vB_good hv).symm, hb⟩
  · subst h1
    have hx : ∀ i, i < L.length → ∃ x, L[i]? = some x := fun i hi => ⟨_, List.getElem?_eq_getElem hi⟩
    refine (leaseValid_any v b off L.length cap (svL L) (unL L) W (by omega) hb (fun i hi => ?_) (fun i hi => ?_)).mono ?_
    · obtain ⟨x, hx⟩ := hx i hi
      rw [svL_of hx]; exact h4.c1 hx
    · obtain ⟨x, hx⟩ := hx i hi
      rw [unL_of hx]; exact h4.c2 hx
    · rintro e w' ⟨rfl, hb⟩
      exact ⟨congrArg (fun b => Ending.returned (.bool b)) (vB_good hv).symm, hb⟩

/-- both have taken a message up -/
theorem lawE {w : World} {H : Nat} {pa : Option Addr} {na ca : Nat} {pb : Option Addr} {nb cb : Nat} {hv hv' : Int} {L L' : List (Int × Int)} {M : Nat} {cs : List Value} {W W' : World} {p : Option Addr} {n cap : Nat} {q : Option Addr} {m d : Nat} (h : LM w H pa na ca pb nb cb hv L M cs W) (hg : GrP W p n cap L') (hok : HOk hv' L')
    (hg' : GrP W' q m d L') (hb : Below W.drew.heap.size W.drew W') :
    LW w H p n cap q m d hv' L' ((((W'.setCell ⟨H, 0, none⟩ (.int .i64 hv')).setCell ⟨H, 1, none⟩ (.slice p n cap)).setCell ⟨H + 1, 0, none⟩ (.int .i64 hv')).setCell ⟨H + 1, 1, none⟩ (.slice q m d)) := by
  have hb' : Below W.heap.size W W' := below_trans (below_drew _) hb
  have h' := (h.below hb').1
  have hgp := hg.below hb'
  have hH := h'.hH
  have a2 := row_set2 h'.a (.int .i64 hv') (.slice p n cap)
  have b1 : ((W'.setCell ⟨H, 0, none⟩ (.int .i64 hv')).setCell ⟨H, 1, none⟩ (.slice p n cap)).heap[H + 1]? = some (.cells #[.int .i64 hv, .slice pb nb cb] 26 (0, 0)) :=
    ((Below.heap_setCell _ _ _ (H + 1) (by show H + 1 ≠ H; omega)).trans (Below.heap_setCell _ _ _ (H + 1) (by show H + 1 ≠ H; omega))).trans h'.b
  refine ⟨?_, row_set2 b1 _ _, grP_set2 (grP_set2 hgp h'.a _ _ _ _) b1 _ _ _ _, grP_set2 (grP_set2 hg' h'.a _ _ _ _) b1 _ _ _ _, hok, ?_, hH⟩
  · exact ((Below.heap_setCell _ _ _ H (by show H ≠ H + 1; omega)).trans (Below.heap_setCell _ _ _ H (by show H ≠ H + 1; omega))).trans a2
  · exact below_set (below_set (below_set (below_set h'.bl (p := ⟨H, 0, none⟩) hH _) (p := ⟨H, 1, none⟩) hH _) (p := ⟨H + 1, 0, none⟩) (by show _ ≤ H + 1; omega) _) (p := ⟨H + 1, 1, none⟩) (by show _ ≤ H + 1; omega) _

/-- a block of its own: a row is put into it -/
theorem wpList_store_fresh {P : Program} {ops : Array Oper} {rest : List Oper} {o : Oper} {a : Act} {w : World} {Q : Exit → Act → World → Prop} (hgd : o.guard = none) (ty : TypeId) (x y : Operand) (ho : o.op = .store ty x y)
    (wr : World) (cells : Array Value) (hx : a.eval x = .pointer (some ⟨wr.heap.size, 0, none⟩)) (hy : a.eval y = .agg cells)
    (t : TypeId) (old : Array Value) (hw : w = wr.alloc (.cells old t)) (hi : (P.info? ty).map (·.size) = some cells.size)
    (hold : old.size = cells.size) (h1 : cells.all (·.oneCell') = true)
    (h : ∀ W', W'.heap[wr.heap.size]? = some (.cells cells t (0, 0)) → Below wr.heap.size wr W' → wpList P ops Q rest (a.put o.dst undef) W') : wpList P ops Q (o :: rest) a w := by
  subst hw
  have hg : (wr.alloc (.cells old t)).heap[wr.heap.size]? = some (.cells old t (0, 0)) := heap_alloc_new wr _
  refine wpList_store_row hgd ty x y ho wr.heap.size cells hx hy t old hg hi hold h1 (h _ (setRow_heap _ _ old cells t (0, 0) hg) ?_)
  refine ⟨rfl, rfl, rfl, ?_, fun i hi => ?_⟩
  · simp [World.setRow]
  · have e : ((wr.alloc (.cells old t)).setRow wr.heap.size cells).heap[i]? = (wr.alloc (.cells old t)).heap[i]? := by
      unfold World.setRow
      rw [Array.getElem?_modify, if_neg (by omega)]
    rw [e]
    exact Below.heap_alloc wr _ i hi
end Go.Proofs.YtoigjpkdcadlnaaGreatDoor
