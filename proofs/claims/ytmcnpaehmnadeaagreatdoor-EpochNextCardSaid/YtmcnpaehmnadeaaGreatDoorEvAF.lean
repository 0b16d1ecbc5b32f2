/-
  EpochOf: what both Decodes say of a turn, exactly.
-/
import Derived.Test.YtmcnpaehmnadeaaGreatDoorEuH
import Derived.StillTailTactics
set_option maxHeartbeats 6400000
set_option maxRecDepth 1000000
namespace Go.Proofs.YtmcnpaehmnadeaaGreatDoor
open Go Go.RowKit
def isJ (s : ByteArray) (a : Int) : Bool := (List.range 6).any fun c => decide (s.data.toList = jS c) && decide ((c : Int) = a)
def isF (s : ByteArray) : Bool := decide (s.data.toList = fS)
theorem jS_inj : ∀ c, c < 6 → ∀ d, d < 6 → jS c = jS d → c = d := by decide
theorem jS_ne : ∀ c, c < 6 → jS c ≠ fS := by decide
theorem isJ_iff {s : ByteArray} {a : Int} : isJ s a = true ↔ ∃ c, c < 6 ∧ s.data.toList = jS c ∧ (c : Int) = a := by
 simp [isJ, List.any_eq_true]
theorem isJ_no {s : ByteArray} (h : ∀ c, c < 6 → s ≠ jB c) (a : Int) : isJ s a = false := by
 rw [Bool.eq_false_iff]
 intro h1
 obtain ⟨c, hc, h2, _⟩ := isJ_iff.mp h1
 refine h c hc ?_
 cases s with
 | mk d => exact congrArg ByteArray.mk (by rw [← h2])
theorem isJ_join {c : Nat} (hc : c < 6) (a : Int) : isJ (jB c) a = decide ((c : Int) = a) := by
 have hd : (jB c).data.toList = jS c := by simp [jB]
 by_cases h : (c : Int) = a
 ·rw [decide_eq_true h]
  exact isJ_iff.mpr ⟨c, hc, hd, h⟩
 ·rw [decide_eq_false h, Bool.eq_false_iff]
  intro h1
  obtain ⟨d, hd6, h2, h3⟩ := isJ_iff.mp h1
  rw [hd] at h2
  have := jS_inj c hc d hd6 h2
  subst this
  exact h h3
theorem isF_join {c : Nat} (hc : c < 6) : isF (jB c) = false := by
 have hd : (jB c).data.toList = jS c := by simp [jB]
 unfold isF
 rw [hd]
 exact decide_eq_false (jS_ne c hc)
theorem isF_fin : isF fB = true := by decide
theorem isJ_fin (a : Int) : isJ fB a = false := by
 refine isJ_no (fun c hc h => jS_ne c hc ?_) a
 have : fB.data.toList = (jB c).data.toList := by rw [h]
 simpa [fB, jB] using this.symm
theorem isF_no {s : ByteArray} (h : s ≠ fB) : isF s = false := by
 unfold isF
 refine decide_eq_false fun h2 => h ?_
 cases s with
 | mk d => exact congrArg ByteArray.mk (by rw [← h2])
def DecX (s : ByteArray) (w : World) (e : Ending) (w' : World) : Prop :=
 ∃ (kd cf : Int) (p : Option Addr) (k cap : Nat) (r : Int), e = .returned (.tuple #[.agg #[.int .i64 kd, .int .i64 cf, .slice p k cap], .int .i64 r]) ∧
  (∀ a, isJ s a = (decide (r = 0) && decide (kd = 2) && decide (cf = a))) ∧ isF s = (decide (r = 0) && decide (kd = 3)) ∧ Below w.heap.size w w'
theorem decX {f : FuncId} {s : ByteArray} {w : World} (hj : ∀ c, c < 6 → Calls Tryz.prog f #[.string (jB c)] w (TurnRet 2 c w)) (hf : Calls Tryz.prog f #[.string fB] w (TurnRet 3 0 w)) (hw : Calls Tryz.prog f #[.string s] w (DecRet s w)) :
  Calls Tryz.prog f #[.string s] w (DecX s w) := by
 by_cases h1 : ∃ c, c < 6 ∧ s = jB c
 ·obtain ⟨c, hc, rfl⟩ := h1
  exact (hj c hc).mono fun _ _ ⟨he, hb⟩ => ⟨2, c, none, 0, 0, 0, he, fun a => by rw [isJ_join hc]; simp, by rw [isF_join hc]; simp, hb⟩
 ·by_cases h2 : s = fB
  ·subst h2
   exact hf.mono fun _ _ ⟨he, hb⟩ => ⟨3, 0, none, 0, 0, 0, he, fun a => by rw [isJ_fin]; simp, by rw [isF_fin]; simp, hb⟩
  ·refine hw.mono fun _ _ ⟨kd, cf, p, k, cap, r, he, hr, hb⟩ => ⟨kd, cf, p, k, cap, r, he, fun a => ?_, ?_, hb⟩
   ·rw [isJ_no (fun c hc h => h1 ⟨c, hc, h⟩)]
    symm
    simp only [Bool.and_eq_false_iff, decide_eq_false_iff_not]
    by_cases hr0 : r = 0
    ·exact .inl (.inr fun hk => h1 ((hr hr0).1 hk))
    ·exact .inl (.inl hr0)
   ·rw [isF_no h2]
    symm
    simp only [Bool.and_eq_false_iff, decide_eq_false_iff_not]
    by_cases hr0 : r = 0
    ·exact .inr fun hk => h2 ((hr hr0).2 hk)
    ·exact .inl hr0
theorem decode_ex (s : ByteArray) (w : World) (hs : s.size ≤ 300) (hG : GL w) : Calls Tryz.prog 23 #[.string s] w (DecX s w) := decX (fun c hc => dec_join c hc w) (dec_finish w) (decode_weak s w hs hG)
theorem rdecode_ex (s : ByteArray) (w : World) (hs : s.size ≤ 300) : Calls Tryz.prog 31 #[.string s] w (DecX s w) := decX (fun c hc => ref_join c hc w) (ref_finish w) (rdecode_weak s w hs)
end Go.Proofs.YtmcnpaehmnadeaaGreatDoor
/-
  EpochOf: epoch.has, epoch.valid; sederuntref41.index, Valid: what they answer at a chain of so many places.
-/
namespace Go.Proofs.YtmcnpaehmnadeaaGreatDoor
open Go Go.RowKit
def ChW (W : World) (b off n : Nat) : Prop := b < W.heap.size ∧ ∀ i, i < n → W.cell? ⟨b, off + i, none⟩ = some (.int .i64 i)
theorem ChW.below {W W' : World} {b off n : Nat} (h : ChW W b off n) (hb : Below W.heap.size W W') : ChW W' b off n := ⟨Nat.lt_of_lt_of_le h.1 hb.size, fun i hi => (hb.cell (p := ⟨b, off + i, none⟩) h.1).trans (h.2 i hi)⟩
theorem has_ex (p0 : Option Addr) (n0 c0 : Nat) (x : Int) (gp : Option Addr) (gc b off cc n : Nat) (i : Nat) (w : World) (_hn : n ≤ 3) (hi : i ≤ 3) (hC : ChW w b off n) : Calls Tryz.prog 24 #[.agg #[.slice p0 n0 c0, .slice none 0 0, .int .u16 x, .slice gp n gc, .slice (some ⟨b, off, none⟩) n cc, .slice none 0 0], .int .i64 i] w (IsB (decide (i < n)) w) := by
 have hb : Below w.heap.size w (w.alloc (.cells #[.slice p0 n0 c0, .slice none 0 0, .int .u16 x, .slice gp n gc, .slice (some ⟨b, off, none⟩) n cc, .slice none 0 0] 33)) := (Below.refl _ _).alloc (Nat.le_refl _) _
 have HB := Lib.hid hb
 have HC := Lib.hid (hC.below hb)
 clear hC hb
 by_cases hin : i < n
 ·have hc := HC.out.2 i hin
  have e0 : (0 : Int) ≤ (i : Int) := by omega
  have e1 : (i : Int) < (n : Int) := by omega
  go_enter Tryz.func24, Tryz.ntmps24
  go_wp2_with fail
  go_quiet (fail)
  go_wp2_with fail
  go_ret
  exact ⟨by simp [hin], below_drewN HB.out _⟩
 ·have e0 : (0 : Int) ≤ (i : Int) := by omega
  have e1 : decide ((i : Int) < (n : Int)) = false := by simp; omega
  go_enter Tryz.func24, Tryz.ntmps24
  go_wp2_with fail
  go_quiet (fail)
  go_wp2_with fail
  go_ret
  exact ⟨by simp; omega, below_drewN HB.out _⟩
theorem has_ex1 (p0 : Option Addr) (n0 c0 : Nat) (x : Int) (gp : Option Addr) (gc b off cc n : Nat) (i : Nat) (w : World) (hn : n ≤ 3) (hi : i < n) (hC : ChW w b off n) : Calls Tryz.prog 24 #[.agg #[.slice p0 n0 c0, .slice none 0 0, .int .u16 x, .slice gp n gc, .slice (some ⟨b, off, none⟩) n cc, .slice none 0 0], .int .i64 ((i : Int) + 1)] w (IsB (decide (i + 1 < n)) w) := has_ex p0 n0 c0 x gp gc b off cc n (i + 1) w hn (by omega) hC
theorem rhas_ex (p0 : Option Addr) (n0 c0 : Nat) (x : Int) (gp : Option Addr) (gc b off cc n : Nat) (i : Nat) (w : World) (_hn : n ≤ 3) (hi : i ≤ 3) (hC : ChW w b off n) : Calls Tryz.prog 43 #[.agg #[.slice p0 n0 c0, .slice none 0 0, .int .u16 x, .slice gp n gc, .slice (some ⟨b, off, none⟩) n cc, .slice none 0 0], .int .i64 i] w (IsB (decide (i < n)) w) := by
 have hb : Below w.heap.size w (w.alloc (.cells #[.slice p0 n0 c0, .slice none 0 0, .int .u16 x, .slice gp n gc, .slice (some ⟨b, off, none⟩) n cc, .slice none 0 0] 33)) := (Below.refl _ _).alloc (Nat.le_refl _) _
 have HB := Lib.hid hb
 have HC := Lib.hid (hC.below hb)
 clear hC hb
 by_cases hin : i < n
 ·have hc := HC.out.2 i hin
  have e0 : (0 : Int) ≤ (i : Int) := by omega
  have e1 : (i : Int) < (n : Int) := by omega
  go_enter Tryz.func43, Tryz.ntmps43
  go_wp2_with fail
  go_quiet (fail)
  go_wp2_with fail
  go_ret
  exact ⟨by simp [hin], below_drewN HB.out _⟩
 ·have e0 : (0 : Int) ≤ (i : Int) := by omega
  have e1 : decide ((i : Int) < (n : Int)) = false := by simp; omega
  go_enter Tryz.func43, Tryz.ntmps43
  go_wp2_with fail
  go_quiet (fail)
  go_wp2_with fail
  go_ret
  exact ⟨by simp; omega, below_drewN HB.out _⟩
theorem rhas_ex1 (p0 : Option Addr) (n0 c0 : Nat) (x : Int) (gp : Option Addr) (gc b off cc n : Nat) (i : Nat) (w : World) (hn : n ≤ 3) (hi : i < n) (hC : ChW w b off n) : Calls Tryz.prog 43 #[.agg #[.slice p0 n0 c0, .slice none 0 0, .int .u16 x, .slice gp n gc, .slice (some ⟨b, off, none⟩) n cc, .slice none 0 0], .int .i64 ((i : Int) + 1)] w (IsB (decide (i + 1 < n)) w) := rhas_ex p0 n0 c0 x gp gc b off cc n (i + 1) w hn (by omega) hC
theorem valid_ex (p0 : Option Addr) (n0 c0 : Nat) (x : Int) (gp : Option Addr) (gc b off cc n : Nat) (i : Nat) (j : Bool) (w : World) (hn : n ≤ 3) (hi : i < n) (hC : ChW w b off n) : Calls Tryz.prog 22 #[.agg #[.slice p0 n0 c0, .slice none 0 0, .int .u16 x, .slice gp n gc, .slice (some ⟨b, off, none⟩) n cc, .slice none 0 0], .agg #[.int .i64 i, .bool j]] w (IsB (!j || decide (i + 1 < n)) w) := by
 obtain ⟨W0, hW0⟩ : ∃ W0, W0 = (w.alloc (.cells #[.slice p0 n0 c0, .slice none 0 0, .int .u16 x, .slice gp n gc, .slice (some ⟨b, off, none⟩) n cc, .slice none 0 0] 33)).alloc (.cells #[.int .i64 i, .bool j] 39) := ⟨_, rfl⟩
 have hb : Below w.heap.size w W0 := by rw [hW0]; exact ((Below.refl _ _).alloc (Nat.le_refl _) _).alloc (by simp) _
 have HB := Lib.hid hb
 have HC := Lib.hid (hC.below hb)
 have hsz : W0.heap.size = w.heap.size + 2 := by rw [hW0]; simp
 have HZ := Lib.hid hsz
 have hd : W0.heap[w.heap.size]? = some (.cells #[.slice p0 n0 c0, .slice none 0 0, .int .u16 x, .slice gp n gc, .slice (some ⟨b, off, none⟩) n cc, .slice none 0 0] 33 (0, 0)) := by rw [hW0]; exact heap_alloc2_old w _ _
 have HD := Lib.hid hd
 have he : W0.heap[w.heap.size + 1]? = some (.cells #[.int .i64 i, .bool j] 39 (0, 0)) := by rw [hW0]; exact heap_alloc2_new w _ _
 have HE := Lib.hid he
 clear hC hb hsz hd he
 go_enter Tryz.func22, Tryz.ntmps22
 go_upto_region 1 with fail
 rw [← hW0]
 clear hW0
 have d0 := cellOf HD.out (j := 0) rfl
 have d1 := cellOf HD.out (j := 1) rfl
 have d2 := cellOf HD.out (j := 2) rfl
 have d3 := cellOf HD.out (j := 3) rfl
 have d4 := cellOf HD.out (j := 4) rfl
 have d5 := cellOf HD.out (j := 5) rfl
 have g0 := cellOf HE.out (j := 0) rfl
 have g1 := cellOf HE.out (j := 1) rfl
 have hin : decide (i < n) = true := by simpa using hi
 cases j
 all_goals
  go_wp2_with (first
   | (go_at_call 24; (with_reducible refine (has_ex p0 n0 c0 x gp gc b off cc n i _ hn (by omega) HC.out).mono ?_); rw [hin]; rintro e w1 ⟨rfl, hb1⟩; have HB1 := Lib.hid hb1; have HC1 := Lib.hid (HC.out.below hb1); have hd1 := (hb1.block w.heap.size (by have := HZ.out; omega)).trans HD.out; have he1 := (hb1.block (w.heap.size + 1) (by have := HZ.out; omega)).trans HE.out; obtain ⟨d0, d1, d2, d3, d4, d5⟩ := cs6 hd1; obtain ⟨g0, g1⟩ := cs2 he1; clear hb1 hd1 he1)
   | (go_at_call 24; (with_reducible refine (has_ex1 p0 n0 c0 x gp gc b off cc n i _ hn (by omega) HC1.out).mono ?_); rintro e w2 ⟨rfl, hb2⟩; have HB2 := Lib.hid hb2; clear hb2))
  first
   | (go_ret; exact ⟨by simp, HB.out.trans ((HB1.out.trans (HB2.out.mono HB1.out.size)).mono HB.out.size)⟩)
   | (go_ret; exact ⟨by simp, HB.out.trans (HB1.out.mono HB.out.size)⟩)
theorem rvalid_ex (p0 : Option Addr) (n0 c0 : Nat) (x : Int) (gp : Option Addr) (gc b off cc n : Nat) (i : Nat) (j : Bool) (w : World) (hn : n ≤ 3) (hi : i < n) (hC : ChW w b off n) : Calls Tryz.prog 29 #[.agg #[.slice p0 n0 c0, .slice none 0 0, .int .u16 x, .slice gp n gc, .slice (some ⟨b, off, none⟩) n cc, .slice none 0 0], .agg #[.int .i64 i, .bool j]] w (IsB (!j || decide (i + 1 < n)) w) := by
 obtain ⟨W0, hW0⟩ : ∃ W0, W0 = (w.alloc (.cells #[.slice p0 n0 c0, .slice none 0 0, .int .u16 x, .slice gp n gc, .slice (some ⟨b, off, none⟩) n cc, .slice none 0 0] 33)).alloc (.cells #[.int .i64 i, .bool j] 39) := ⟨_, rfl⟩
 have hb : Below w.heap.size w W0 := by rw [hW0]; exact ((Below.refl _ _).alloc (Nat.le_refl _) _).alloc (by simp) _
 have HB := Lib.hid hb
 have HC := Lib.hid (hC.below hb)
 have hsz : W0.heap.size = w.heap.size + 2 := by rw [hW0]; simp
 have HZ := Lib.hid hsz
 have hd : W0.heap[w.heap.size]? = some (.cells #[.slice p0 n0 c0, .slice none 0 0, .int .u16 x, .slice gp n gc, .slice (some ⟨b, off, none⟩) n cc, .slice none 0 0] 33 (0, 0)) := by rw [hW0]; exact heap_alloc2_old w _ _
 have HD := Lib.hid hd
 have he : W0.heap[w.heap.size + 1]? = some (.cells #[.int .i64 i, .bool j] 39 (0, 0)) := by rw [hW0]; exact heap_alloc2_new w _ _
 have HE := Lib.hid he
 clear hC hb hsz hd he
 go_enter Tryz.func29, Tryz.ntmps29
 go_upto_region 1 with fail
 rw [← hW0]
 clear hW0
 have d0 := cellOf HD.out (j := 0) rfl
 have d1 := cellOf HD.out (j := 1) rfl
 have d2 := cellOf HD.out (j := 2) rfl
 have d3 := cellOf HD.out (j := 3) rfl
 have d4 := cellOf HD.out (j := 4) rfl
 have d5 := cellOf HD.out (j := 5) rfl
 have g0 := cellOf HE.out (j := 0) rfl
 have g1 := cellOf HE.out (j := 1) rfl
 have hin : decide (i < n) = true := by simpa using hi
 cases j
 all_goals
  go_wp2_with (first
   | (go_at_call 43; (with_reducible refine (rhas_ex p0 n0 c0 x gp gc b off cc n i _ hn (by omega) HC.out).mono ?_); rw [hin]; rintro e w1 ⟨rfl, hb1⟩; have HB1 := Lib.hid hb1; have HC1 := Lib.hid (HC.out.below hb1); have hd1 := (hb1.block w.heap.size (by have := HZ.out; omega)).trans HD.out; have he1 := (hb1.block (w.heap.size + 1) (by have := HZ.out; omega)).trans HE.out; obtain ⟨d0, d1, d2, d3, d4, d5⟩ := cs6 hd1; obtain ⟨g0, g1⟩ := cs2 he1; clear hb1 hd1 he1)
   | (go_at_call 43; (with_reducible refine (rhas_ex1 p0 n0 c0 x gp gc b off cc n i _ hn (by omega) HC1.out).mono ?_); rintro e w2 ⟨rfl, hb2⟩; have HB2 := Lib.hid hb2; clear hb2))
  first
   | (go_ret; exact ⟨by simp, HB.out.trans ((HB1.out.trans (HB2.out.mono HB1.out.size)).mono HB.out.size)⟩)
   | (go_ret; exact ⟨by simp, HB.out.trans (HB1.out.mono HB.out.size)⟩)
end Go.Proofs.YtmcnpaehmnadeaaGreatDoor
/-
  EpochOf: epoch.Next and sederuntref41.Next answer alike.
-/
namespace Go.Proofs.YtmcnpaehmnadeaaGreatDoor
open Go Go.RowKit
def nextP (n i : Nat) (j : Bool) (s : ByteArray) : Nat × Bool :=
 if isJ s ((i : Int) + 1) && !j && decide (i + 1 < n) then (i, true) else if isF s && j then (i + 1, false) else (i, j)
def okE (n i : Nat) (j : Bool) : Prop := i < n ∧ (j = true → i + 1 < n)
def EpRet (nx : Nat × Bool) (w : World) (e : Ending) (w' : World) : Prop := e = .returned (.agg #[.int .i64 nx.1, .bool nx.2]) ∧ Below w.heap.size w w'
theorem Tryz.size39 : (Tryz.prog.info? 39).map (·.size) = some 2 := by kernel_rfl
theorem row_set2 {W : World} {b : Nat} {a0 a1 : Value} {t : TypeId} (h : W.heap[b]? = some (.cells #[a0, a1] t (0, 0))) (v0 v1 : Value) : ((W.setCell ⟨b, 0, none⟩ v0).setCell ⟨b, 1, none⟩ v1).heap[b]? = some (.cells #[v0, v1] t (0, 0)) := by
 unfold World.setCell
 simp [Array.getElem?_modify, h]
theorem ep_end {w W : World} {fn : Func} {R : Nat} {a0 a1 : Value} (p : Tmp) (hfn : fn.results = #[.cell p 39]) (hR : W.heap[R]? = some (.cells #[a0, a1] 39 (0, 0))) (hb : Below w.heap.size w W) (hge : w.heap.size ≤ R) (a : Int) (j : Bool) (tmps : Array Value) (h6 : tmps.getD p undef = .pointer (some ⟨R, 0, none⟩))
  (nx : Nat × Bool) (hx : a = (nx.1 : Int) ∧ j = nx.2) :
  bodyPost Tryz.prog fn (EpRet nx w) Exit.ret { tmps := tmps, defers := [] } ((W.setCell ⟨R, 0, none⟩ (.int .i64 a)).setCell ⟨R, 1, none⟩ (.bool j)) := by
 obtain ⟨rfl, rfl⟩ := hx
 exact bodyPost_ret (results_cell_row hfn _ _ R 39 #[.int .i64 nx.1, .bool nx.2] (0, 0) _ h6 (row_set2 hR _ _) Tryz.underlying39 rfl Tryz.size39) rfl ⟨rfl, below_set (below_set hb (p := ⟨R, 0, none⟩) hge _) (p := ⟨R, 1, none⟩) hge _⟩
structure NS (w : World) (p0 : Option Addr) (n0 c0 : Nat) (x : Int) (gp : Option Addr) (gc b off cc n : Nat) (i : Nat) (j : Bool) (W : World) : Prop where
 da : W.heap[w.heap.size]? = some (.cells #[.slice p0 n0 c0, .slice none 0 0, .int .u16 x, .slice gp n gc, .slice (some ⟨b, off, none⟩) n cc, .slice none 0 0] 33 (0, 0))
 ea : W.heap[w.heap.size + 1]? = some (.cells #[.int .i64 i, .bool j] 39 (0, 0))
 ra : W.heap[w.heap.size + 2]? = some (.cells #[.int .i64 0, .bool false] 39 (0, 0))
 bl : Below w.heap.size w W
 ch : ChW W b off n
theorem NS.below {w : World} {p0 : Option Addr} {n0 c0 : Nat} {x : Int} {gp : Option Addr} {gc b off cc n : Nat} {i : Nat} {j : Bool} {W W' : World} (h : NS w p0 n0 c0 x gp gc b off cc n i j W) (hb : Below W.heap.size W W') : NS w p0 n0 c0 x gp gc b off cc n i j W' :=
 ⟨(hb.block _ (gLt h.da)).trans h.da, (hb.block _ (gLt h.ea)).trans h.ea, (hb.block _ (gLt h.ra)).trans h.ra, h.bl.trans (hb.mono h.bl.size), h.ch.below hb⟩
theorem NS.first {w : World} {p0 : Option Addr} {n0 c0 : Nat} {x : Int} {gp : Option Addr} {gc b off cc n : Nat} {i : Nat} {j : Bool} (hC : ChW w b off n) : NS w p0 n0 c0 x gp gc b off cc n i j (((w.alloc (.cells #[.slice p0 n0 c0, .slice none 0 0, .int .u16 x, .slice gp n gc, .slice (some ⟨b, off, none⟩) n cc, .slice none 0 0] 33)).alloc (.cells #[.int .i64 i, .bool j] 39)).alloc (.cells #[.int .i64 0, .bool false] 39)) := by
 have h1 : Below (w.heap.size + 2) ((w.alloc (.cells #[.slice p0 n0 c0, .slice none 0 0, .int .u16 x, .slice gp n gc, .slice (some ⟨b, off, none⟩) n cc, .slice none 0 0] 33)).alloc (.cells #[.int .i64 i, .bool j] 39)) (((w.alloc (.cells #[.slice p0 n0 c0, .slice none 0 0, .int .u16 x, .slice gp n gc, .slice (some ⟨b, off, none⟩) n cc, .slice none 0 0] 33)).alloc (.cells #[.int .i64 i, .bool j] 39)).alloc (.cells #[.int .i64 0, .bool false] 39)) := (Below.refl _ _).alloc (by simp) _
 have hb : Below w.heap.size w (((w.alloc (.cells #[.slice p0 n0 c0, .slice none 0 0, .int .u16 x, .slice gp n gc, .slice (some ⟨b, off, none⟩) n cc, .slice none 0 0] 33)).alloc (.cells #[.int .i64 i, .bool j] 39)).alloc (.cells #[.int .i64 0, .bool false] 39)) := (((Below.refl _ _).alloc (Nat.le_refl _) _).alloc (by simp) _).alloc (by simp; omega) _
 refine ⟨(h1.block _ (by omega)).trans (heap_alloc2_old w _ _), (h1.block _ (by omega)).trans (heap_alloc2_new w _ _), ?_, hb, hC.below hb⟩
 have h2 := heap_alloc_new ((w.alloc (.cells #[.slice p0 n0 c0, .slice none 0 0, .int .u16 x, .slice gp n gc, .slice (some ⟨b, off, none⟩) n cc, .slice none 0 0] 33)).alloc (.cells #[.int .i64 i, .bool j] 39)) (.cells #[.int .i64 0, .bool false] 39)
 have h3 : ((w.alloc (.cells #[.slice p0 n0 c0, .slice none 0 0, .int .u16 x, .slice gp n gc, .slice (some ⟨b, off, none⟩) n cc, .slice none 0 0] 33)).alloc (.cells #[.int .i64 i, .bool j] 39)).heap.size = w.heap.size + 2 := by simp
 rwa [h3] at h2
theorem next_ex (p0 : Option Addr) (n0 c0 : Nat) (x : Int) (gp : Option Addr) (gc b off cc n : Nat) (i : Nat) (j : Bool) (s : ByteArray) (w : World) (hn : n ≤ 3) (hv : okE n i j) (hs : s.size ≤ 300) (hC : ChW w b off n) (hG : GL w) : Calls Tryz.prog 10 #[.agg #[.slice p0 n0 c0, .slice none 0 0, .int .u16 x, .slice gp n gc, .slice (some ⟨b, off, none⟩) n cc, .slice none 0 0], .agg #[.int .i64 i, .bool j], .string s] w (EpRet (nextP n i j s) w) := by
 have HN0 := Lib.hid (NS.first (p0 := p0) (n0 := n0) (c0 := c0) (x := x) (gp := gp) (gc := gc) (cc := cc) (i := i) (j := j) hC)
 have HG := Lib.hid hG
 have hi := hv.1
 have hvt : (!j || decide (i + 1 < n)) = true := by
  cases j
  ·rfl
  ·simpa using hv.2 rfl
 clear hC hG
 go_enter Tryz.func10, Tryz.ntmps10
 go_upto_region 1 with fail
 revert HN0
 generalize ((w.alloc (.cells #[.slice p0 n0 c0, .slice none 0 0, .int .u16 x, .slice gp n gc, .slice (some ⟨b, off, none⟩) n cc, .slice none 0 0] 33)).alloc (.cells #[.int .i64 i, .bool j] 39)).alloc (.cells #[.int .i64 0, .bool false] 39) = W0
 intro HN0
 obtain ⟨d0, d1, d2, d3, d4, d5⟩ := cs6 HN0.out.da; obtain ⟨g0, g1⟩ := cs2 HN0.out.ea; obtain ⟨r0, r1⟩ := cs2 HN0.out.ra; have f0 := frozenOf HN0.out.ra (j := 0); have f1 := frozenOf HN0.out.ra (j := 1)
 go_upto_block 0 with (first
  | (go_at_call 22; refine (valid_ex p0 n0 c0 x gp gc b off cc n i j _ hn hi HN0.out.ch).mono ?_; rw [hvt]; rintro e w1 ⟨rfl, hb1⟩; have HN1 := Lib.hid (HN0.out.below hb1); clear hb1; obtain ⟨d0, d1, d2, d3, d4, d5⟩ := cs6 HN1.out.da; obtain ⟨g0, g1⟩ := cs2 HN1.out.ea; obtain ⟨r0, r1⟩ := cs2 HN1.out.ra; have f0 := frozenOf HN1.out.ra (j := 0); have f1 := frozenOf HN1.out.ra (j := 1))
  | (go_at_call 23; refine (decode_ex s _ hs (HG.out.below HN1.out.bl)).mono ?_; rintro e w2 ⟨kd, cf, dp, dk, dc, r, rfl, hJ, hF, hb2⟩; have HN2 := Lib.hid (HN1.out.below hb2); have HJ := Lib.hid (hJ ((i : Int) + 1)); have HF := Lib.hid hF; clear hb2 hJ hF))
 have HN3 := Lib.hid (HN2.out.below ((Below.refl _ _).alloc (Nat.le_refl _) (.cells #[.int .i64 kd, .int .i64 cf, .slice dp dk dc] 61)))
 have hx3 := Lib.hid (heap_alloc_new w2 (.cells #[.int .i64 kd, .int .i64 cf, .slice dp dk dc] 61))
 have hq3 : w2.heap.size < (w2.alloc (.cells #[.int .i64 kd, .int .i64 cf, .slice dp dk dc] 61)).heap.size := by simp
 clear d0 d1 d2 d3 d4 d5 g0 g1 r0 r1 f0 f1
 revert HN3 hx3 hq3
 generalize w2.alloc (.cells #[.int .i64 kd, .int .i64 cf, .slice dp dk dc] 61) = W3
 generalize w2.heap.size = X
 intro HN3 hx3 hq3
 obtain ⟨d0, d1, d2, d3, d4, d5⟩ := cs6 HN3.out.da; obtain ⟨g0, g1⟩ := cs2 HN3.out.ea; obtain ⟨r0, r1⟩ := cs2 HN3.out.ra; have f0 := frozenOf HN3.out.ra (j := 0); have f1 := frozenOf HN3.out.ra (j := 1)
 have x0 := cellOf hx3.out (j := 0) rfl
 have x1 := cellOf hx3.out (j := 1) rfl
 have x2 := cellOf hx3.out (j := 2) rfl
 by_cases hr : r = 0
 all_goals
  first | (have dr : (r != 0) = true := (by simpa using hr)) | subst hr
  cases j
 all_goals
  go_wp2_with (go_at_call 24; refine (has_ex1 p0 n0 c0 x gp gc b off cc n i _ hn hi HN3.out.ch).mono ?_; rintro e w4 ⟨rfl, hb4⟩; have HN4 := Lib.hid (HN3.out.below hb4); have hx4 := (hb4.block X hq3).trans hx3.out; clear hb4; obtain ⟨d0, d1, d2, d3, d4, d5⟩ := cs6 HN4.out.da; obtain ⟨g0, g1⟩ := cs2 HN4.out.ea; obtain ⟨r0, r1⟩ := cs2 HN4.out.ra; have f0 := frozenOf HN4.out.ra (j := 0); have f1 := frozenOf HN4.out.ra (j := 1); obtain ⟨x0, x1, x2⟩ := cs3 hx4)
 all_goals first
  | (refine ep_end 6 rfl HN4.out.ra HN4.out.bl (by omega) _ _ _ rfl _ ?_; have h1 := HJ.out; have h2 := HF.out; unfold nextP; rw [h1, h2]; simp [*])
  | (refine ep_end 6 rfl HN3.out.ra HN3.out.bl (by omega) _ _ _ rfl _ ?_; have h1 := HJ.out; have h2 := HF.out; unfold nextP; rw [h1, h2]; simp [*])
theorem rnext_ex (p0 : Option Addr) (n0 c0 : Nat) (x : Int) (gp : Option Addr) (gc b off cc n : Nat) (i : Nat) (j : Bool) (s : ByteArray) (w : World) (hn : n ≤ 3) (hv : okE n i j) (hs : s.size ≤ 300) (hC : ChW w b off n) : Calls Tryz.prog 17 #[.agg #[.slice p0 n0 c0, .slice none 0 0, .int .u16 x, .slice gp n gc, .slice (some ⟨b, off, none⟩) n cc, .slice none 0 0], .agg #[.int .i64 i, .bool j], .string s] w (EpRet (nextP n i j s) w) := by
 have HN0 := Lib.hid (NS.first (p0 := p0) (n0 := n0) (c0 := c0) (x := x) (gp := gp) (gc := gc) (cc := cc) (i := i) (j := j) hC)
 have hi := hv.1
 have hvt : (!j || decide (i + 1 < n)) = true := by
  cases j
  ·rfl
  ·simpa using hv.2 rfl
 clear hC
 go_enter Tryz.func17, Tryz.ntmps17
 go_upto_region 1 with fail
 revert HN0
 generalize ((w.alloc (.cells #[.slice p0 n0 c0, .slice none 0 0, .int .u16 x, .slice gp n gc, .slice (some ⟨b, off, none⟩) n cc, .slice none 0 0] 33)).alloc (.cells #[.int .i64 i, .bool j] 39)).alloc (.cells #[.int .i64 0, .bool false] 39) = W0
 intro HN0
 obtain ⟨d0, d1, d2, d3, d4, d5⟩ := cs6 HN0.out.da; obtain ⟨g0, g1⟩ := cs2 HN0.out.ea; obtain ⟨r0, r1⟩ := cs2 HN0.out.ra; have f0 := frozenOf HN0.out.ra (j := 0); have f1 := frozenOf HN0.out.ra (j := 1)
 go_upto_region 2 with (go_at_call 31; refine (rdecode_ex s _ hs).mono ?_; rintro e w2 ⟨kd, cf, dp, dk, dc, r, rfl, hJ, hF, hb2⟩; have HN2 := Lib.hid (HN0.out.below hb2); have HJ := Lib.hid (hJ ((i : Int) + 1)); have HF := Lib.hid hF; clear hb2 hJ hF)
 have HN3 := Lib.hid (HN2.out.below ((Below.refl _ _).alloc (Nat.le_refl _) (.cells #[.int .i64 kd, .int .i64 cf, .slice dp dk dc] 61)))
 have hx3 := Lib.hid (heap_alloc_new w2 (.cells #[.int .i64 kd, .int .i64 cf, .slice dp dk dc] 61))
 have hq3 : w2.heap.size < (w2.alloc (.cells #[.int .i64 kd, .int .i64 cf, .slice dp dk dc] 61)).heap.size := by simp
 clear d0 d1 d2 d3 d4 d5 g0 g1 r0 r1 f0 f1
 revert HN3 hx3 hq3
 generalize w2.alloc (.cells #[.int .i64 kd, .int .i64 cf, .slice dp dk dc] 61) = W3
 generalize w2.heap.size = X
 intro HN3 hx3 hq3
 obtain ⟨d0, d1, d2, d3, d4, d5⟩ := cs6 HN3.out.da; obtain ⟨g0, g1⟩ := cs2 HN3.out.ea; obtain ⟨r0, r1⟩ := cs2 HN3.out.ra; have f0 := frozenOf HN3.out.ra (j := 0); have f1 := frozenOf HN3.out.ra (j := 1)
 have x0 := cellOf hx3.out (j := 0) rfl
 have x1 := cellOf hx3.out (j := 1) rfl
 have x2 := cellOf hx3.out (j := 2) rfl
 by_cases hr : r = 0
 all_goals
  first | (have dr : (r != 0) = true := (by simpa using hr)) | subst hr
  cases j
 all_goals
  go_wp2_with (first
   | (go_at_call 29; (with_reducible refine (rvalid_ex p0 n0 c0 x gp gc b off cc n i _ _ hn hi HN3.out.ch).mono ?_); rw [hvt]; rintro e w4 ⟨rfl, hb4⟩; have HN4 := Lib.hid (HN3.out.below hb4); have hx4 := Lib.hid ((hb4.block X hq3).trans hx3.out); have hq4 := Nat.lt_of_lt_of_le hq3 hb4.size; clear hb4; obtain ⟨d0, d1, d2, d3, d4, d5⟩ := cs6 HN4.out.da; obtain ⟨g0, g1⟩ := cs2 HN4.out.ea; obtain ⟨r0, r1⟩ := cs2 HN4.out.ra; have f0 := frozenOf HN4.out.ra (j := 0); have f1 := frozenOf HN4.out.ra (j := 1); obtain ⟨x0, x1, x2⟩ := cs3 hx4.out)
   | (go_at_call 29; (with_reducible refine (rvalid_ex p0 n0 c0 x gp gc b off cc n i true _ hn hi HN4.out.ch).mono ?_); rintro e w5 ⟨rfl, hb5⟩; have HN5 := Lib.hid (HN4.out.below hb5); have hx5 := (hb5.block X hq4).trans hx4.out; clear hb5; obtain ⟨d0, d1, d2, d3, d4, d5⟩ := cs6 HN5.out.da; obtain ⟨g0, g1⟩ := cs2 HN5.out.ea; obtain ⟨r0, r1⟩ := cs2 HN5.out.ra; have f0 := frozenOf HN5.out.ra (j := 0); have f1 := frozenOf HN5.out.ra (j := 1); obtain ⟨x0, x1, x2⟩ := cs3 hx5))
 all_goals first
  | (refine ep_end 6 rfl HN5.out.ra HN5.out.bl (by omega) _ _ _ rfl _ ?_; have h1 := HJ.out; have h2 := HF.out; unfold nextP; rw [h1, h2]; simp [*])
  | (refine ep_end 6 rfl HN4.out.ra HN4.out.bl (by omega) _ _ _ rfl _ ?_; have h1 := HJ.out; have h2 := HF.out; unfold nextP; rw [h1, h2]; simp [*])
  | (refine ep_end 6 rfl HN3.out.ra HN3.out.bl (by omega) _ _ _ rfl _ ?_; have h1 := HJ.out; have h2 := HF.out; unfold nextP; rw [h1, h2]; simp [*])
end Go.Proofs.YtmcnpaehmnadeaaGreatDoor
/-
  EpochOf: Few, epoch.Of, sederuntref41.Behind, Of.
-/
namespace Go.Proofs.YtmcnpaehmnadeaaGreatDoor
open Go Go.RowKit
def ofE (n : Nat) (e : Nat × Bool) (vs : List ByteArray) : Nat × Bool := vs.foldl (fun e s => nextP n e.1 e.2 s) e
end Go.Proofs.YtmcnpaehmnadeaaGreatDoor
/-
  EpochOf: epoch.Changes, sederuntref41.Changes, sederuntref29.Numbers.
-/
namespace Go.Proofs.YtmcnpaehmnadeaaGreatDoor
open Go Go.RowKit
def chB (n : Nat) (vs : List ByteArray) (i : Nat) : Bool := decide (¬ ofE n (0, false) (vs.take (i + 1)) = ofE n (0, false) (vs.take i))
def chg (n : Nat) (vs : List ByteArray) (k : Nat) : List Nat := (List.range k).filter (chB n vs)
end Go.Proofs.YtmcnpaehmnadeaaGreatDoor
/-
  EpochOf: sederuntref41.Changes, sederuntref29.Numbers.
-/
namespace Go.Proofs.YtmcnpaehmnadeaaGreatDoor
open Go Go.RowKit
end Go.Proofs.YtmcnpaehmnadeaaGreatDoor
