/-
  LeaseTake: the law at messages that can be read.
-/
import Derived.Test.YtoigjpkdcadlnaaGreatDoorLzD
import Derived.Test.YtoigjpkdcadlnaaGreatDoorLzF
import Derived.Test.YtoigjpkdcadlnaaGreatDoorLvD
namespace Go.Proofs.YtoigjpkdcadlnaaGreatDoor
open Go Go.RowKit

/-- what a leader knows behind a message -/
noncomputable def nV (m : Msg) (hv : Int) : Int := @ite _ (Acc m hv) (Classical.propDecidable _) m.view hv
noncomputable def nL (m : Msg) (hv : Int) (L : List (Int × Int)) : List (Int × Int) := @ite _ (Acc m hv) (Classical.propDecidable _) (insG m.frm m.untl (baseL m hv L)) L
theorem nV_t {m : Msg} {hv : Int} (h : Acc m hv) : nV m hv = m.view := by unfold nV; exact if_pos h
theorem nV_f {m : Msg} {hv : Int} (h : ¬ Acc m hv) : nV m hv = hv := by unfold nV; exact if_neg h
theorem nL_t {m : Msg} {hv : Int} {L : List (Int × Int)} (h : Acc m hv) : nL m hv L = insG m.frm m.untl (baseL m hv L) := by unfold nL; exact if_pos h
theorem nL_f {m : Msg} {hv : Int} {L : List (Int × Int)} (h : ¬ Acc m hv) : nL m hv L = L := by unfold nL; exact if_neg h

theorem take_any (m : Msg) (hv : Int) (p : Option Addr) (n cap : Nat) (L : List (Int × Int)) (w : World) (hm : m.Ok w) (hg : GrP w p n cap L) (hh : HOk hv L) :
    Calls Tryz.prog 8 #[.agg #[.int .i64 hv, .slice p n cap], .agg m.cells.toArray] w (NewRet (nV m hv) (nL m hv L) w) := by
  by_cases h : Acc m hv
  · rw [nV_t h, nL_t h]
    exact take_new m hv p n cap L w hm hg hh h
  · rw [nV_f h, nL_f h]
    exact Calls.mono (take_back m hv p n cap w hm h) fun e w' ⟨h1, h2⟩ => ⟨p, n, cap, h1, hg.below h2, h2⟩
theorem takeRef_any (m : Msg) (hv : Int) (p : Option Addr) (n cap : Nat) (L : List (Int × Int)) (w : World) (hm : m.Ok w) (hg : GrP w p n cap L) (hh : HOk hv L) :
    Calls Tryz.prog 10 #[.agg #[.int .i64 hv, .slice p n cap], .agg m.cells.toArray] w (NewRet (nV m hv) (nL m hv L) w) := by
  by_cases h : Acc m hv
  · rw [nV_t h, nL_t h]
    by_cases hv' : m.view = hv
    · have e : baseL m hv L = L := if_pos hv'
      rw [e]
      exact takeRef_eq m hv p n cap L w hm hg hh h hv'
    · have e : baseL m hv L = [] := if_neg hv'
      rw [e]
      exact takeRef_ne m hv p n cap w hm (by have := asc_len12 hh.2.2.2.1 hh.2.2.2.2; have := hg.1; omega) h hv'
  · rw [nV_f h, nL_f h]
    exact Calls.mono (takeRef_back m hv p n cap w hm h) fun e w' ⟨h1, h2⟩ => ⟨p, n, cap, h1, hg.below h2, h2⟩
theorem next_ok {m : Msg} {hv : Int} {L : List (Int × Int)} (hu : m.untl ≤ 9223372036854775807) (hh : HOk hv L) : HOk (nV m hv) (nL m hv L) := by
  by_cases h : Acc m hv
  · rw [nV_t h, nL_t h]
    obtain ⟨_, hok, h1, _⟩ := h
    obtain ⟨g1, g2, _, _, g3, _, g4, _⟩ := hok
    unfold numB at g3
    have g3 := of_decide_eq_true g3
    have hb := hok_base (m := m) hh
    exact ⟨by omega, by omega, fun h0 => by omega, asc_insG hb.1, inR_insG hb.2 ⟨g1, g2⟩ ⟨g4, hu⟩⟩
  · rw [nV_f h, nL_f h]
    exact hh
theorem msg_one (m : Msg) : ∀ v ∈ m.cells, v.oneCell' = true := by
  intro v hv
  unfold Msg.cells at hv
  simp only [List.mem_cons, List.not_mem_nil, or_false] at hv
  rcases hv with rfl | rfl | rfl | rfl | rfl | rfl | rfl | rfl | rfl | rfl | rfl | rfl | rfl | rfl | rfl | rfl | rfl | rfl | rfl | rfl | rfl <;> rfl

theorem law_some3 (hA : Awake) (b off n cap : Nat) (ms : Nat → Msg) (w : World) (hn : n ≤ 12) (hb : b < w.heap.size) (hok : ∀ k, k < n → (ms k).Ok w) (hat : ∀ k, k < n → w.rangeAt b (off + k * 21) (ms k).cells) :
    Calls Tryz.prog 3 #[.slice (some ⟨b, off, none⟩) n cap] w (TrueRet w) :=
  law_take hA b off n cap (fun k => (ms k).cells) (fun k => nV (ms k)) (fun k => nL (ms k)) w hn hb (fun _ _ => rfl) (fun k _ => msg_one (ms k)) hat
    (fun k hk W hW => few_any (ms k) W ((hok k hk).below hW))
    (fun k hk W hv L p m c hW hg hh => take_any (ms k) hv p m c L W ((hok k hk).below hW) hg hh)
    (fun k hk W hv L p m c hW hg hh => takeRef_any (ms k) hv p m c L W ((hok k hk).below hW) hg hh)
    (fun k hk _ _ hh => next_ok (hok k hk).untlH.2 hh)

set_option maxHeartbeats 1600000 in
set_option maxRecDepth 1000000 in
theorem law_long3 (hA : Awake) (p : Option Addr) (n cap : Nat) (w : World) (hn : 12 < n) : Calls Tryz.prog 3 #[.slice p n cap] w (TrueRet w) := by
  have HA := Lib.hid hA
  clear hA
  go_enter Tryz.func3, Tryz.ntmps3
  go_upto_region 2 with (go_at_call 5; refine (HA.out _).mono ?_; rintro e w1 ⟨rfl, hb1⟩)
  go_wp2_with (go_at_call 5; refine (HA.out _).mono ?_; rintro e w2 ⟨rfl, hb2⟩)
  go_ret
  exact ⟨rfl, below_trans hb1 hb2⟩
set_option maxHeartbeats 1600000 in
set_option maxRecDepth 1000000 in
theorem law_none3 (hA : Awake) (p : Option Addr) (cap : Nat) (w : World) : Calls Tryz.prog 3 #[.slice p 0 cap] w (TrueRet w) := by
  have HA := Lib.hid hA
  clear hA
  go_enter Tryz.func3, Tryz.ntmps3
  go_upto_region 3 with (go_at_call 5; refine (HA.out _).mono ?_; rintro e w1 ⟨rfl, hb1⟩)
  have hb3 : Below w.heap.size w ((w1.alloc (.cells #[.int .i64 0, .slice none 0 0] 26)).alloc (.cells #[.int .i64 0, .slice none 0 0] 26)) := (hb1.alloc hb1.size _).alloc (by have := hb1.size; rw [World.size_alloc]; omega) _
  clear hb1
  go_wp2_with fail
  go_loopw [19] (fun i wr => i = .int .i64 0 ∧ Below w.heap.size w wr) (fun _ _ => 0)
  case atStart => exact ⟨rfl, hb3⟩
  case round =>
    obtain ⟨rfl, hb⟩ := hrel
    go_wp2_with fail
    go_ret
    exact ⟨rfl, hb⟩
end Go.Proofs.YtoigjpkdcadlnaaGreatDoor

/-
  LeaseTake: messages of small bulk can be read.
-/
namespace Go.Proofs.YtoigjpkdcadlnaaGreatDoor
open Go Go.ChangeShapes Go.WideShapes Go.ChangeAt Go.RowKit Go.Deep Go.Joins

theorem bulk_one {H : Type} (d : DataW H) : 1 ≤ Rows.uptoBulk d := by
  cases d with
  | lit l => cases l <;> simp [Rows.uptoBulk]
  | nil => simp [Rows.uptoBulk]
  | ptr d => simp [Rows.uptoBulk]
  | slice elems spare => simp [Rows.uptoBulk]
  | agg parts => simp [Rows.uptoBulk]
  | iface t d => simp [Rows.uptoBulk]
  | map entries => simp [Rows.uptoBulk]
  | held h => simp [Rows.uptoBulk]
theorem bulk_part {H : Type} {d : DataW H} {l : List (DataW H)} (h : d ∈ l) : Rows.uptoBulk d ≤ Rows.uptoBulkAll l := by
  induction l with
  | nil => cases h
  | cons x r ih =>
    simp only [Rows.uptoBulkAll]
    rcases List.mem_cons.1 h with e | e
    · subst e; omega
    · have := ih e; omega
theorem bulk_len {H : Type} (l : List (DataW H)) : l.length ≤ Rows.uptoBulkAll l := by
  induction l with
  | nil => simp [Rows.uptoBulkAll]
  | cons x r ih => have := bulk_one x; simp only [Rows.uptoBulkAll, List.length_cons]; omega

section
variable {H : Type} (enc : TypeId × Value → H) (W : World)
/-- it is read, and of small bulk -/
def Rd (t : TypeId) (cs : List Value) : Prop := ∃ fuel x, DataW.trod enc Tryz.prog W 0 (fun _ => true) true fuel t cs = some x ∧ Rows.uptoBulk x.1 ≤ 1048576

variable {enc W}
theorem rd_int {t : TypeId} (ht : Tryz.prog.underlying t = some (.int .i64)) {cs : List Value} (h : Rd enc W t cs) : ∃ n, I64 n ∧ cs = [.int .i64 n] := by
  obtain ⟨fuel, x, h, -⟩ := h
  obtain ⟨n, e, -, hw⟩ := DataW.trod_int ht h
  simp only [Lit.wf, Bool.and_eq_true, decide_eq_true_eq] at hw
  exact ⟨n, ⟨hw.1, hw.2⟩, e⟩
theorem rd_str {t : TypeId} (ht : Tryz.prog.underlying t = some .string) {cs : List Value} (h : Rd enc W t cs) : ∃ s : ByteArray, s.size ≤ 1048576 ∧ cs = [.string s] := by
  obtain ⟨fuel, x, h, hb⟩ := h
  obtain ⟨s, e, rfl, -⟩ := DataW.trod_string ht h
  simp only [Rows.uptoBulk] at hb
  have e2 : s.data.toList.length = s.size := by rw [Array.length_toList]; rfl
  exact ⟨s, by omega, e⟩
theorem rd_struct {t : TypeId} {fs : Array Field} (ht : Tryz.prog.underlying t = some (.struct fs)) {cs : List Value} (h : Rd enc W t cs) :
    cs.length = Tryz.prog.cellsOf t ∧ ∀ (i : Nat) (f : Field), fs[i]? = some f → Rd enc W f.type ((cs.drop f.offset).take (Tryz.prog.cellsOf f.type)) := by
  obtain ⟨fuel, x, h, hb⟩ := h
  obtain ⟨xs, n, -, rfl, hl, hxl, hf⟩ := DataW.trod_struct ht h
  refine ⟨hl, fun i f hi => ?_⟩
  have hil : i < xs.length := by rw [hxl]; exact (Array.getElem?_eq_some_iff.1 hi).1
  have hx : xs[i]? = some xs[i] := List.getElem?_eq_getElem hil
  refine ⟨n, xs[i], (hf i f hi).trans hx, ?_⟩
  simp only [Rows.uptoBulk] at hb
  have := bulk_part (List.mem_map_of_mem (f := (·.1)) (List.mem_of_getElem? hx))
  omega
theorem rd_slice {t e : TypeId} (ht : Tryz.prog.underlying t = some (.slice e)) (hc : 0 < Tryz.prog.cellsOf e) {cs : List Value} (h : Rd enc W t cs) :
    ∃ p n cap, cs = [.slice p n cap] ∧ n ≤ 1048576 ∧ (n = 0 ∨ ∃ b off, p = some ⟨b, off, none⟩ ∧ b < W.heap.size ∧ ∀ i, i < n → ∃ cs', Rd enc W e cs' ∧ W.rangeAt b (off + i * Tryz.prog.cellsOf e) cs') := by
  obtain ⟨fuel, x, h, hb⟩ := h
  rcases open_slice ht h with ⟨e0, -⟩ | ⟨a, len, cap, m, n, D, Pl, e0, -, hlc, hcap, hm, rfl, hi⟩
  · exact ⟨none, 0, 0, e0, by omega, .inl rfl⟩
  · have hml : len ≤ m := by rw [hm]; simpa using hlc
    simp only [Rows.uptoBulk] at hb
    have hlen := bulk_len ((List.range len).map D)
    rw [List.length_map, List.length_range] at hlen
    refine ⟨some a, len, cap, e0, by omega, ?_⟩
    by_cases hl : len = 0
    · exact .inl hl
    · right
      obtain ⟨b, off, spot⟩ := a
      have first : ∃ v, W.cell? ⟨b, off, spot⟩ = some v := by
        obtain ⟨cs', hcs, -⟩ := hi 0 (by omega)
        obtain ⟨-, hcl, hat⟩ := World.cells?_some hcs
        have := hat 0 hc
        rw [List.getElem?_eq_getElem (by omega)] at this
        simp only [Nat.zero_mul, Addr.add, if_pos] at this
        exact ⟨_, this⟩
      have hsp : spot = none := by
        obtain ⟨v, hv⟩ := first
        unfold World.cell? at hv
        split at hv
        · cases spot with
          | none => rfl
          | some s => simp at hv
        · cases hv
      subst hsp
      have hbl : b < W.heap.size := by
        obtain ⟨v, hv⟩ := first
        by_cases hh : b < W.heap.size
        · exact hh
        · simp [World.cell?, hh] at hv
      refine ⟨b, off, rfl, hbl, fun i hil => ?_⟩
      obtain ⟨cs', hcs, ht'⟩ := hi i (by omega)
      obtain ⟨-, hcl, hat⟩ := World.cells?_some hcs
      refine ⟨cs', ⟨n, _, ht', ?_⟩, fun j v hj => ?_⟩
      · have := bulk_part (List.mem_map_of_mem (f := D) (List.mem_range.2 hil))
        show Rows.uptoBulk (D i) ≤ _
        omega
      · have hjl : j < cs'.length := (List.getElem?_eq_some_iff.1 hj).1
        have := hat j (by omega)
        rw [Go.Deep.add_add, Addr.add_mid, hj] at this
        rw [Nat.add_assoc]
        exact this

theorem len3 {l : List Value} (h : l.length = 3) : ∃ c0 c1 c2, l = [c0, c1, c2] := by
  match l, h with
  | [c0, c1, c2], _ => exact ⟨c0, c1, c2, rfl⟩
theorem len4 {l : List Value} (h : l.length = 4) : ∃ c0 c1 c2 c3, l = [c0, c1, c2, c3] := by
  match l, h with
  | [c0, c1, c2, c3], _ => exact ⟨c0, c1, c2, c3, rfl⟩
theorem len5 {l : List Value} (h : l.length = 5) : ∃ c0 c1 c2 c3 c4, l = [c0, c1, c2, c3, c4] := by
  match l, h with
  | [c0, c1, c2, c3, c4], _ => exact ⟨c0, c1, c2, c3, c4, rfl⟩
theorem len6 {l : List Value} (h : l.length = 6) : ∃ c0 c1 c2 c3 c4 c5, l = [c0, c1, c2, c3, c4, c5] := by
  match l, h with
  | [c0, c1, c2, c3, c4, c5], _ => exact ⟨c0, c1, c2, c3, c4, c5, rfl⟩
theorem len12 {l : List Value} (h : l.length = 12) : ∃ c0 c1 c2 c3 c4 c5 c6 c7 c8 c9 c10 c11, l = [c0, c1, c2, c3, c4, c5, c6, c7, c8, c9, c10, c11] := by
  match l, h with
  | [c0, c1, c2, c3, c4, c5, c6, c7, c8, c9, c10, c11], _ => exact ⟨c0, c1, c2, c3, c4, c5, c6, c7, c8, c9, c10, c11, rfl⟩
theorem len21 {l : List Value} (h : l.length = 21) : ∃ c0 c1 c2 c3 c4 c5 c6 c7 c8 c9 c10 c11 c12 c13 c14 c15 c16 c17 c18 c19 c20, l = [c0, c1, c2, c3, c4, c5, c6, c7, c8, c9, c10, c11, c12, c13, c14, c15, c16, c17, c18, c19, c20] := by
  match l, h with
  | [c0, c1, c2, c3, c4, c5, c6, c7, c8, c9, c10, c11, c12, c13, c14, c15, c16, c17, c18, c19, c20], _ => exact ⟨c0, c1, c2, c3, c4, c5, c6, c7, c8, c9, c10, c11, c12, c13, c14, c15, c16, c17, c18, c19, c20, rfl⟩
theorem Tryz.cel2 : Tryz.prog.cellsOf 2 = 1 := by kernel_rfl
theorem Tryz.cel3 : Tryz.prog.cellsOf 3 = 1 := by kernel_rfl
theorem Tryz.cel9 : Tryz.prog.cellsOf 9 = 1 := by kernel_rfl
theorem Tryz.cel28 : Tryz.prog.cellsOf 28 = 6 := by kernel_rfl
theorem Tryz.cel29 : Tryz.prog.cellsOf 29 = 1 := by kernel_rfl
theorem Tryz.cel30 : Tryz.prog.cellsOf 30 = 1 := by kernel_rfl
theorem Tryz.cel31 : Tryz.prog.cellsOf 31 = 1 := by kernel_rfl
theorem Tryz.cel32 : Tryz.prog.cellsOf 32 = 1 := by kernel_rfl
theorem Tryz.cel33 : Tryz.prog.cellsOf 33 = 1 := by kernel_rfl
theorem Tryz.cel35 : Tryz.prog.cellsOf 35 = 5 := by kernel_rfl
theorem Tryz.cel37 : Tryz.prog.cellsOf 37 = 21 := by kernel_rfl
theorem Tryz.cel101 : Tryz.prog.cellsOf 101 = 12 := by kernel_rfl
theorem Tryz.cel110 : Tryz.prog.cellsOf 110 = 3 := by kernel_rfl
theorem Tryz.cel158 : Tryz.prog.cellsOf 158 = 4 := by kernel_rfl
theorem sgn_of {cs : List Value} (h : Rd enc W 28 cs) : ∃ (a0 a1 a2 a3 : Int) (x y : ByteArray), I64 a0 ∧ I64 a1 ∧ I64 a2 ∧ I64 a3 ∧ x.size ≤ 1048576 ∧ y.size ≤ 1048576 ∧ cs = [.int .i64 a0, .int .i64 a1, .int .i64 a2, .int .i64 a3, .string x, .string y] := by
  obtain ⟨hl, hf⟩ := rd_struct Tryz.underlying28 h
  rw [Tryz.cel28] at hl
  obtain ⟨c0, c1, c2, c3, c4, c5, rfl⟩ := len6 hl
  have f0 : Rd enc W 3 ((List.drop 0 _).take (Tryz.prog.cellsOf 3)) := hf 0 _ rfl
  rw [Tryz.cel3] at f0
  obtain ⟨a0, a0H, e0⟩ := rd_int Tryz.underlying3 f0
  obtain rfl : c0 = .int .i64 a0 := by simpa using e0
  have f1 : Rd enc W 3 ((List.drop 1 _).take (Tryz.prog.cellsOf 3)) := hf 1 _ rfl
  rw [Tryz.cel3] at f1
  obtain ⟨a1, a1H, e1⟩ := rd_int Tryz.underlying3 f1
  obtain rfl : c1 = .int .i64 a1 := by simpa using e1
  have f2 : Rd enc W 3 ((List.drop 2 _).take (Tryz.prog.cellsOf 3)) := hf 2 _ rfl
  rw [Tryz.cel3] at f2
  obtain ⟨a2, a2H, e2⟩ := rd_int Tryz.underlying3 f2
  obtain rfl : c2 = .int .i64 a2 := by simpa using e2
  have f3 : Rd enc W 3 ((List.drop 3 _).take (Tryz.prog.cellsOf 3)) := hf 3 _ rfl
  rw [Tryz.cel3] at f3
  obtain ⟨a3, a3H, e3⟩ := rd_int Tryz.underlying3 f3
  obtain rfl : c3 = .int .i64 a3 := by simpa using e3
  have f4 : Rd enc W 9 ((List.drop 4 _).take (Tryz.prog.cellsOf 9)) := hf 4 _ rfl
  rw [Tryz.cel9] at f4
  obtain ⟨x, xH, e4⟩ := rd_str Tryz.underlying9 f4
  obtain rfl : c4 = .string x := by simpa using e4
  have f5 : Rd enc W 9 ((List.drop 5 _).take (Tryz.prog.cellsOf 9)) := hf 5 _ rfl
  rw [Tryz.cel9] at f5
  obtain ⟨y, yH, e5⟩ := rd_str Tryz.underlying9 f5
  obtain rfl : c5 = .string y := by simpa using e5
  exact ⟨a0, a1, a2, a3, x, y, a0H, a1H, a2H, a3H, xH, yH, rfl⟩
theorem sgns_of {cs : List Value} (h : Rd enc W 32 cs) : ∃ p n cap, cs = [.slice p n cap] ∧ n ≤ 1048576 ∧ SgnsP W p n := by
  obtain ⟨p, n, cap, e, hn, hp⟩ := rd_slice Tryz.underlying32 (by rw [Tryz.cel28]; omega) h
  refine ⟨p, n, cap, e, hn, ?_⟩
  rcases hp with h0 | ⟨b, off, rfl, hb, hi⟩
  · exact .inl h0
  · refine .inr ⟨b, off, rfl, hb, fun i hil => ?_⟩
    obtain ⟨cs', hr, hc⟩ := hi i hil
    rw [Tryz.cel28] at hc
    obtain ⟨a0, a1, a2, a3, x, y, h0, h1, h2, h3, hx, hy, rfl⟩ := sgn_of hr
    exact ⟨a0, a1, a2, a3, x, y, h0, h1, h2, h3, hx, hy, hc 0 _ rfl, hc 1 _ rfl, hc 2 _ rfl, hc 3 _ rfl, hc 4 _ rfl, hc 5 _ rfl⟩
theorem strs_of {cs : List Value} (h : Rd enc W 31 cs) : ∃ p n cap, cs = [.slice p n cap] ∧ n ≤ 1048576 ∧ StrsP W p n 1048576 := by
  obtain ⟨p, n, cap, e, hn, hp⟩ := rd_slice Tryz.underlying31 (by rw [Tryz.cel9]; omega) h
  refine ⟨p, n, cap, e, hn, ?_⟩
  rcases hp with h0 | ⟨b, off, rfl, hb, hi⟩
  · exact .inl h0
  · refine .inr ⟨b, off, rfl, hb, fun i hil => ?_⟩
    obtain ⟨cs', hr, hc⟩ := hi i hil
    rw [Tryz.cel9, Nat.mul_one] at hc
    obtain ⟨s, hs, rfl⟩ := rd_str Tryz.underlying9 hr
    exact ⟨s, hc 0 _ rfl, hs⟩
theorem ent_of {cs : List Value} (h : Rd enc W 110 cs) : ∃ (a : Int) (x : ByteArray) (p : Option Addr) (n cap : Nat), I64 a ∧ x.size ≤ 1048576 ∧ n ≤ 1048576 ∧ SgnsP W p n ∧ cs = [.int .i64 a, .string x, .slice p n cap] := by
  obtain ⟨hl, hf⟩ := rd_struct Tryz.underlying110 h
  rw [Tryz.cel110] at hl
  obtain ⟨c0, c1, c2, rfl⟩ := len3 hl
  have f0 : Rd enc W 3 ((List.drop 0 _).take (Tryz.prog.cellsOf 3)) := hf 0 _ rfl
  rw [Tryz.cel3] at f0
  obtain ⟨a, aH, e0⟩ := rd_int Tryz.underlying3 f0
  obtain rfl : c0 = .int .i64 a := by simpa using e0
  have f1 : Rd enc W 9 ((List.drop 1 _).take (Tryz.prog.cellsOf 9)) := hf 1 _ rfl
  rw [Tryz.cel9] at f1
  obtain ⟨x, xH, e1⟩ := rd_str Tryz.underlying9 f1
  obtain rfl : c1 = .string x := by simpa using e1
  have f2 : Rd enc W 32 ((List.drop 2 _).take (Tryz.prog.cellsOf 32)) := hf 2 _ rfl
  rw [Tryz.cel32] at f2
  obtain ⟨pP, pN, pC, e2, pH, pR⟩ := sgns_of f2
  obtain rfl : c2 = .slice pP pN pC := by simpa using e2
  exact ⟨a, x, pP, pN, pC, aH, xH, pH, pR, rfl⟩
theorem ents_of {cs : List Value} (h : Rd enc W 30 cs) : ∃ p n cap, cs = [.slice p n cap] ∧ n ≤ 1048576 ∧ EntsP W p n := by
  obtain ⟨p, n, cap, e, hn, hp⟩ := rd_slice Tryz.underlying30 (by rw [Tryz.cel110]; omega) h
  refine ⟨p, n, cap, e, hn, ?_⟩
  rcases hp with h0 | ⟨b, off, rfl, hb, hi⟩
  · exact .inl h0
  · refine .inr ⟨b, off, rfl, hb, fun i hil => ?_⟩
    obtain ⟨cs', hr, hc⟩ := hi i hil
    rw [Tryz.cel110] at hc
    obtain ⟨a, x, p, n, cap, h0, h1, h2, h3, rfl⟩ := ent_of hr
    exact ⟨a, x, p, n, cap, h0, h1, h2, h3, hc 0 _ rfl, hc 1 _ rfl, hc 2 _ rfl⟩
theorem hand_of {cs : List Value} (h : Rd enc W 158 cs) : ∃ (s a : Int) (x : ByteArray) (p : Option Addr) (n cap : Nat), I64 s ∧ I64 a ∧ x.size ≤ 1048576 ∧ n ≤ 1048576 ∧ SgnsP W p n ∧ cs = [.int .i64 s, .int .i64 a, .string x, .slice p n cap] := by
  obtain ⟨hl, hf⟩ := rd_struct Tryz.underlying158 h
  rw [Tryz.cel158] at hl
  obtain ⟨c0, c1, c2, c3, rfl⟩ := len4 hl
  have f0 : Rd enc W 3 ((List.drop 0 _).take (Tryz.prog.cellsOf 3)) := hf 0 _ rfl
  rw [Tryz.cel3] at f0
  obtain ⟨s, sH, e0⟩ := rd_int Tryz.underlying3 f0
  obtain rfl : c0 = .int .i64 s := by simpa using e0
  have f1 : Rd enc W 110 ((List.drop 1 _).take (Tryz.prog.cellsOf 110)) := hf 1 _ rfl
  rw [Tryz.cel110] at f1
  obtain ⟨a, x, p, n, cap, h0, h1, h2, h3, e1⟩ := ent_of f1
  simp only [List.drop_succ_cons, List.drop_zero, List.take_succ_cons, List.take_zero, List.cons.injEq, and_true] at e1
  obtain ⟨rfl, rfl, rfl⟩ := e1
  exact ⟨s, a, x, p, n, cap, sH, h0, h1, h2, h3, rfl⟩
theorem hands_of {cs : List Value} (h : Rd enc W 33 cs) : ∃ p n cap, cs = [.slice p n cap] ∧ n ≤ 1048576 ∧ HandsP W p n := by
  obtain ⟨p, n, cap, e, hn, hp⟩ := rd_slice Tryz.underlying33 (by rw [Tryz.cel158]; omega) h
  refine ⟨p, n, cap, e, hn, ?_⟩
  rcases hp with h0 | ⟨b, off, rfl, hb, hi⟩
  · exact .inl h0
  · refine .inr ⟨b, off, rfl, hb, fun i hil => ?_⟩
    obtain ⟨cs', hr, hc⟩ := hi i hil
    rw [Tryz.cel158] at hc
    obtain ⟨s, a, x, p, n, cap, hs, h0, h1, h2, h3, rfl⟩ := hand_of hr
    exact ⟨s, hs, hc 0 _ rfl, a, x, p, n, cap, h0, h1, h2, h3, hc 1 _ rfl, hc 2 _ rfl, hc 3 _ rfl⟩
theorem stat_of {cs : List Value} (h : Rd enc W 101 cs) : ∃ (a b0 c d e0 e1 e2 e3 : Int) (x y z : ByteArray) (p : Option Addr) (n cap : Nat), I64 a ∧ I64 b0 ∧ I64 c ∧ I64 d ∧ I64 e0 ∧ I64 e1 ∧ I64 e2 ∧ I64 e3 ∧ x.size ≤ 1048576 ∧ y.size ≤ 1048576 ∧ z.size ≤ 1048576 ∧ n ≤ 1048576 ∧ SgnsP W p n ∧
    cs = [.int .i64 a, .int .i64 b0, .int .i64 c, .int .i64 d, .string x, .slice p n cap, .int .i64 e0, .int .i64 e1, .int .i64 e2, .int .i64 e3, .string y, .string z] := by
  obtain ⟨hl, hf⟩ := rd_struct Tryz.underlying101 h
  rw [Tryz.cel101] at hl
  obtain ⟨c0, c1, c2, c3, c4, c5, c6, c7, c8, c9, c10, c11, rfl⟩ := len12 hl
  have f0 : Rd enc W 3 ((List.drop 0 _).take (Tryz.prog.cellsOf 3)) := hf 0 _ rfl
  rw [Tryz.cel3] at f0
  obtain ⟨a, aH, e0⟩ := rd_int Tryz.underlying3 f0
  obtain rfl : c0 = .int .i64 a := by simpa using e0
  have f1 : Rd enc W 3 ((List.drop 1 _).take (Tryz.prog.cellsOf 3)) := hf 1 _ rfl
  rw [Tryz.cel3] at f1
  obtain ⟨b0, b0H, e1⟩ := rd_int Tryz.underlying3 f1
  obtain rfl : c1 = .int .i64 b0 := by simpa using e1
  have f2 : Rd enc W 3 ((List.drop 2 _).take (Tryz.prog.cellsOf 3)) := hf 2 _ rfl
  rw [Tryz.cel3] at f2
  obtain ⟨c, cH, e2⟩ := rd_int Tryz.underlying3 f2
  obtain rfl : c2 = .int .i64 c := by simpa using e2
  have f3 : Rd enc W 3 ((List.drop 3 _).take (Tryz.prog.cellsOf 3)) := hf 3 _ rfl
  rw [Tryz.cel3] at f3
  obtain ⟨d, dH, e3⟩ := rd_int Tryz.underlying3 f3
  obtain rfl : c3 = .int .i64 d := by simpa using e3
  have f4 : Rd enc W 9 ((List.drop 4 _).take (Tryz.prog.cellsOf 9)) := hf 4 _ rfl
  rw [Tryz.cel9] at f4
  obtain ⟨x, xH, e4⟩ := rd_str Tryz.underlying9 f4
  obtain rfl : c4 = .string x := by simpa using e4
  have f5 : Rd enc W 32 ((List.drop 5 _).take (Tryz.prog.cellsOf 32)) := hf 5 _ rfl
  rw [Tryz.cel32] at f5
  obtain ⟨pP, pN, pC, e5, pH, pR⟩ := sgns_of f5
  obtain rfl : c5 = .slice pP pN pC := by simpa using e5
  have f6 : Rd enc W 28 ((List.drop 6 _).take (Tryz.prog.cellsOf 28)) := hf 6 _ rfl
  rw [Tryz.cel28] at f6
  obtain ⟨g0, g1, g2, g3, y, z, h0, h1, h2, h3, hy, hz, e6⟩ := sgn_of f6
  simp only [List.drop_succ_cons, List.drop_zero, List.take_succ_cons, List.take_zero, List.cons.injEq, and_true] at e6
  obtain ⟨rfl, rfl, rfl, rfl, rfl, rfl⟩ := e6
  exact ⟨a, b0, c, d, g0, g1, g2, g3, x, y, z, pP, pN, pC, aH, b0H, cH, dH, h0, h1, h2, h3, xH, hy, hz, pH, pR, rfl⟩
theorem stats_of {cs : List Value} (h : Rd enc W 29 cs) : ∃ p n cap, cs = [.slice p n cap] ∧ n ≤ 1048576 ∧ StatsP W p n := by
  obtain ⟨p, n, cap, e, hn, hp⟩ := rd_slice Tryz.underlying29 (by rw [Tryz.cel101]; omega) h
  refine ⟨p, n, cap, e, hn, ?_⟩
  rcases hp with h0 | ⟨b, off, rfl, hb, hi⟩
  · exact .inl h0
  · refine .inr ⟨b, off, rfl, hb, fun i hil => ?_⟩
    obtain ⟨cs', hr, hc⟩ := hi i hil
    rw [Tryz.cel101] at hc
    obtain ⟨a, b0, c, d, g0, g1, g2, g3, x, y, z, p, n, cap, q0, q1, q2, q3, q4, q5, q6, q7, q8, q9, q10, q11, q12, rfl⟩ := stat_of hr
    exact ⟨a, b0, c, d, g0, g1, g2, g3, x, y, z, p, n, cap, q0, q1, q2, q3, q4, q5, q6, q7, q8, q9, q10, q11, q12, hc 0 _ rfl, hc 1 _ rfl, hc 2 _ rfl, hc 3 _ rfl, hc 4 _ rfl, hc 5 _ rfl, hc 6 _ rfl, hc 7 _ rfl, hc 8 _ rfl, hc 9 _ rfl, hc 10 _ rfl, hc 11 _ rfl⟩
theorem snap_of {cs : List Value} (h : Rd enc W 35 cs) : ∃ (s : Int) (r : ByteArray) (pc : Option Addr) (nc cc : Nat) (pp : Option Addr) (np cp : Nat) (ph : Option Addr) (nh ch : Nat), I64 s ∧ r.size ≤ 1048576 ∧ nc ≤ 1048576 ∧ StrsP W pc nc 1048576 ∧ np ≤ 1048576 ∧ SgnsP W pp np ∧ nh ≤ 1048576 ∧ HandsP W ph nh ∧
    cs = [.int .i64 s, .string r, .slice pc nc cc, .slice pp np cp, .slice ph nh ch] := by
  obtain ⟨hl, hf⟩ := rd_struct Tryz.underlying35 h
  rw [Tryz.cel35] at hl
  obtain ⟨c0, c1, c2, c3, c4, rfl⟩ := len5 hl
  have f0 : Rd enc W 3 ((List.drop 0 _).take (Tryz.prog.cellsOf 3)) := hf 0 _ rfl
  rw [Tryz.cel3] at f0
  obtain ⟨s, sH, e0⟩ := rd_int Tryz.underlying3 f0
  obtain rfl : c0 = .int .i64 s := by simpa using e0
  have f1 : Rd enc W 9 ((List.drop 1 _).take (Tryz.prog.cellsOf 9)) := hf 1 _ rfl
  rw [Tryz.cel9] at f1
  obtain ⟨r, rH, e1⟩ := rd_str Tryz.underlying9 f1
  obtain rfl : c1 = .string r := by simpa using e1
  have f2 : Rd enc W 31 ((List.drop 2 _).take (Tryz.prog.cellsOf 31)) := hf 2 _ rfl
  rw [Tryz.cel31] at f2
  obtain ⟨ckP, ckN, ckC, e2, ckH, ckR⟩ := strs_of f2
  obtain rfl : c2 = .slice ckP ckN ckC := by simpa using e2
  have f3 : Rd enc W 32 ((List.drop 3 _).take (Tryz.prog.cellsOf 32)) := hf 3 _ rfl
  rw [Tryz.cel32] at f3
  obtain ⟨pfP, pfN, pfC, e3, pfH, pfR⟩ := sgns_of f3
  obtain rfl : c3 = .slice pfP pfN pfC := by simpa using e3
  have f4 : Rd enc W 33 ((List.drop 4 _).take (Tryz.prog.cellsOf 33)) := hf 4 _ rfl
  rw [Tryz.cel33] at f4
  obtain ⟨hnP, hnN, hnC, e4, hnH, hnR⟩ := hands_of f4
  obtain rfl : c4 = .slice hnP hnN hnC := by simpa using e4
  exact ⟨s, r, ckP, ckN, ckC, pfP, pfN, pfC, hnP, hnN, hnC, sH, rH, ckH, ckR, pfH, pfR, hnH, hnR, rfl⟩
theorem msg_of {cs : List Value} (h : Rd enc W 37 cs) : ∃ m : Msg, m.Ok W ∧ cs = m.cells := by
  obtain ⟨hl, hf⟩ := rd_struct Tryz.underlying37 h
  rw [Tryz.cel37] at hl
  obtain ⟨c0, c1, c2, c3, c4, c5, c6, c7, c8, c9, c10, c11, c12, c13, c14, c15, c16, c17, c18, c19, c20, rfl⟩ := len21 hl
  have f0 : Rd enc W 3 ((List.drop 0 _).take (Tryz.prog.cellsOf 3)) := hf 0 _ rfl
  rw [Tryz.cel3] at f0
  obtain ⟨kind, kindH, e0⟩ := rd_int Tryz.underlying3 f0
  obtain rfl : c0 = .int .i64 kind := by simpa using e0
  have f1 : Rd enc W 3 ((List.drop 1 _).take (Tryz.prog.cellsOf 3)) := hf 1 _ rfl
  rw [Tryz.cel3] at f1
  obtain ⟨frm, frmH, e1⟩ := rd_int Tryz.underlying3 f1
  obtain rfl : c1 = .int .i64 frm := by simpa using e1
  have f2 : Rd enc W 3 ((List.drop 2 _).take (Tryz.prog.cellsOf 3)) := hf 2 _ rfl
  rw [Tryz.cel3] at f2
  obtain ⟨dst, dstH, e2⟩ := rd_int Tryz.underlying3 f2
  obtain rfl : c2 = .int .i64 dst := by simpa using e2
  have f3 : Rd enc W 3 ((List.drop 3 _).take (Tryz.prog.cellsOf 3)) := hf 3 _ rfl
  rw [Tryz.cel3] at f3
  obtain ⟨view, viewH, e3⟩ := rd_int Tryz.underlying3 f3
  obtain rfl : c3 = .int .i64 view := by simpa using e3
  have f4 : Rd enc W 3 ((List.drop 4 _).take (Tryz.prog.cellsOf 3)) := hf 4 _ rfl
  rw [Tryz.cel3] at f4
  obtain ⟨slot, slotH, e4⟩ := rd_int Tryz.underlying3 f4
  obtain rfl : c4 = .int .i64 slot := by simpa using e4
  have f5 : Rd enc W 9 ((List.drop 5 _).take (Tryz.prog.cellsOf 9)) := hf 5 _ rfl
  rw [Tryz.cel9] at f5
  obtain ⟨value, valueH, e5⟩ := rd_str Tryz.underlying9 f5
  obtain rfl : c5 = .string value := by simpa using e5
  have f6 : Rd enc W 2 ((List.drop 6 _).take (Tryz.prog.cellsOf 2)) := hf 6 _ rfl
  rw [Tryz.cel2] at f6
  obtain ⟨untl, untlH, e6⟩ := rd_int Tryz.underlying2 f6
  obtain rfl : c6 = .int .i64 untl := by simpa using e6
  have f7 : Rd enc W 28 ((List.drop 7 _).take (Tryz.prog.cellsOf 28)) := hf 7 _ rfl
  rw [Tryz.cel28] at f7
  obtain ⟨g0, g1, g2, g3, gd, gs, h0, h1, h2, h3, hgd, hgs, e7⟩ := sgn_of f7
  simp only [List.drop_succ_cons, List.drop_zero, List.take_succ_cons, List.take_zero, List.cons.injEq, and_true] at e7
  obtain ⟨rfl, rfl, rfl, rfl, rfl, rfl⟩ := e7
  have f8 : Rd enc W 29 ((List.drop 13 _).take (Tryz.prog.cellsOf 29)) := hf 8 _ rfl
  rw [Tryz.cel29] at f8
  obtain ⟨stP, stN, stC, e8, stH, stR⟩ := stats_of f8
  obtain rfl : c13 = .slice stP stN stC := by simpa using e8
  have f9 : Rd enc W 30 ((List.drop 14 _).take (Tryz.prog.cellsOf 30)) := hf 9 _ rfl
  rw [Tryz.cel30] at f9
  obtain ⟨enP, enN, enC, e9, enH, enR⟩ := ents_of f9
  obtain rfl : c14 = .slice enP enN enC := by simpa using e9
  have f10 : Rd enc W 35 ((List.drop 15 _).take (Tryz.prog.cellsOf 35)) := hf 10 _ rfl
  rw [Tryz.cel35] at f10
  obtain ⟨sl, rt, ckP, ckN, ckC, pfP, pfN, pfC, hnP, hnN, hnC, slH, rtH, ckH, ckR, pfH, pfR, hnH, hnR, e10⟩ := snap_of f10
  simp only [List.drop_succ_cons, List.drop_zero, List.take_succ_cons, List.take_zero, List.cons.injEq, and_true] at e10
  obtain ⟨rfl, rfl, rfl, rfl, rfl⟩ := e10
  have f11 : Rd enc W 31 ((List.drop 20 _).take (Tryz.prog.cellsOf 31)) := hf 11 _ rfl
  rw [Tryz.cel31] at f11
  obtain ⟨txP, txN, txC, e11, txH, txR⟩ := strs_of f11
  obtain rfl : c20 = .slice txP txN txC := by simpa using e11
  exact ⟨⟨kind, frm, dst, view, slot, value, untl, g0, g1, g2, g3, gd, gs, stP, stN, stC, enP, enN, enC, sl, rt, ckP, ckN, ckC, pfP, pfN, pfC, hnP, hnN, hnC, txP, txN, txC⟩,
    ⟨kindH, frmH, dstH, viewH, slotH, valueH, untlH, h0, h1, h2, h3, hgd, hgs, stH, enH, slH, rtH, ckH, pfH, hnH, txH, stR, enR, ckR, pfR, hnR, txR⟩, rfl⟩
/-- the argument: messages -/
theorem msgs_of {cs : List Value} (h : Rd enc W 22 cs) : ∃ p n cap, cs = [.slice p n cap] ∧ (n = 0 ∨ ∃ (b off : Nat) (ms : Nat → Msg), p = some ⟨b, off, none⟩ ∧ b < W.heap.size ∧ (∀ k, k < n → (ms k).Ok W) ∧ ∀ k, k < n → W.rangeAt b (off + k * 21) (ms k).cells) := by
  obtain ⟨p, n, cap, e, -, hp⟩ := rd_slice Tryz.underlying22 (by rw [Tryz.cel37]; omega) h
  refine ⟨p, n, cap, e, ?_⟩
  rcases hp with h0 | ⟨b, off, rfl, hb, hi⟩
  · exact .inl h0
  · right
    have hm : ∀ i, ∃ m : Msg, i < n → m.Ok W ∧ W.rangeAt b (off + i * 21) m.cells := fun i => by
      by_cases hil : i < n
      · obtain ⟨cs', hr, hc⟩ := hi i hil
        rw [Tryz.cel37] at hc
        obtain ⟨m, hm, rfl⟩ := msg_of hr
        exact ⟨m, fun _ => ⟨hm, hc⟩⟩
      · exact ⟨⟨0, 0, 0, 0, 0, ⟨#[]⟩, 0, 0, 0, 0, 0, ⟨#[]⟩, ⟨#[]⟩, none, 0, 0, none, 0, 0, 0, ⟨#[]⟩, none, 0, 0, none, 0, 0, none, 0, 0, none, 0, 0⟩, fun h => absurd h hil⟩
    obtain ⟨ms, hms⟩ := Classical.axiomOfChoice hm
    exact ⟨b, off, ms, rfl, hb, fun k hk => (hms k hk).1, fun k hk => (hms k hk).2⟩
end
end Go.Proofs.YtoigjpkdcadlnaaGreatDoor
