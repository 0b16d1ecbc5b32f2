/-
  EpochOf: Few, epoch.Of, sederuntref41.Behind, Of.
-/
import Derived.Test.YtmcnpaehmnadeaaGreatDoorEvAC
import Derived.StillTailTactics
namespace Go.Proofs.YtmcnpaehmnadeaaGreatDoor
open Go Go.RowKit

/-- a slice of these strings -/
def StrL (W : World) (p : Option Addr) (vs : List ByteArray) : Prop := vs = [] ∨ ∃ b off, p = some ⟨b, off, none⟩ ∧ b < W.heap.size ∧ ∀ i (h : i < vs.length), W.cell? ⟨b, off + i, none⟩ = some (.string vs[i])
theorem StrL.below {W W' : World} {p : Option Addr} {vs : List ByteArray} (h : StrL W p vs) (hb : Below W.heap.size W W') : StrL W' p vs := by
  rcases h with h | ⟨b, off, h1, h2, h3⟩
  · exact .inl h
  · exact .inr ⟨b, off, h1, Nat.lt_of_lt_of_le h2 hb.size, fun i hi => (hb.cell (p := ⟨b, off + i, none⟩) h2).trans (h3 i hi)⟩
theorem StrL.at {W : World} {p : Option Addr} {vs : List ByteArray} (h : StrL W p vs) {k : Nat} (hk : k < vs.length) : ∃ b off, p = some ⟨b, off, none⟩ ∧ b < W.heap.size ∧ W.cell? ⟨b, off + k, none⟩ = some (.string vs[k]) := by
  rcases h with rfl | ⟨b, off, h1, h2, h3⟩
  · simp at hk
  · exact ⟨b, off, h1, h2, h3 k hk⟩
def Short (vs : List ByteArray) : Prop := vs.length ≤ 20 ∧ ∀ s ∈ vs, s.size ≤ 300

set_option maxHeartbeats 1600000 in
set_option maxRecDepth 1000000 in
theorem few_ex (p : Option Addr) (cap : Nat) (vs : List ByteArray) (w : World) (hl : vs.length ≤ 9223372036854775807) (h : StrL w p vs) : Calls Tryz.prog 7 #[.slice p vs.length cap] w fun e w' => ∃ r : Bool, e = .returned (.bool r) ∧ (r = true → Short vs) ∧ w' = w := by
  have H := Lib.hid h
  clear h
  generalize hn : vs.length = n at hl ⊢
  have HN := Lib.hid hn
  clear hn
  go_enter Tryz.func7, Tryz.ntmps7
  go_wp2
  go_loopw [3] (fun i wr => ∃ k : Nat, k ≤ n ∧ i = .int .i64 k ∧ (∀ j (h : j < vs.length), j < k → vs[j].size ≤ 300) ∧ wr = w) (fun i _ => n - (intOf i).toNat)
  case atStart => exact ⟨0, Nat.zero_le _, rfl, fun j _ h => by omega, rfl⟩
  case round =>
    obtain ⟨k, hk, rfl, hall, rfl⟩ := hrel
    have HA := Lib.hid hall
    clear hall
    by_cases hkn : k < n
    · obtain ⟨b, off, rfl, _, hc⟩ := H.out.at (k := k) (by have := HN.out; omega)
      by_cases h3 : (vs[k]'(by have := HN.out; omega)).size ≤ 300
      · go_wp2
        go_roundw
        case rel => exact ⟨k + 1, by omega, by go_num, fun j hj hj2 => by
          by_cases hjk : j = k
          · subst hjk; exact h3
          · exact HA.out j hj (by omega), by first | rfl | trivial⟩
        case measure => simp [intOf]; omega
      · go_wp2
        all_goals first
          | (exfalso; omega)
          | (go_ret; exact ⟨_, rfl, fun h => by simp at h, by first | rfl | trivial⟩)
    · go_wp2
      go_ret
      refine ⟨_, rfl, fun h => ⟨?_, fun s hs => ?_⟩, rfl⟩
      · have := HN.out
        simp at h
        omega
      · obtain ⟨j, hj, rfl⟩ := List.getElem_of_mem hs
        exact HA.out j hj (by have := HN.out; omega)

/-- the epoch behind values -/
def ofE (n : Nat) (e : Nat × Bool) (vs : List ByteArray) : Nat × Bool := vs.foldl (fun e s => nextP n e.1 e.2 s) e
theorem ofE_ok {n : Nat} : ∀ (vs : List ByteArray) {e : Nat × Bool}, okE n e.1 e.2 → okE n (ofE n e vs).1 (ofE n e vs).2
  | [], _, h => h
  | _ :: t, _, h => ofE_ok t (nextP_ok h)
theorem take_snoc {α : Type} {l : List α} {k : Nat} (h : k < l.length) : l.take (k + 1) = l.take k ++ [l[k]] := by simp
theorem ofE_snoc {n : Nat} {e : Nat × Bool} {vs : List ByteArray} {k : Nat} (h : k < vs.length) : ofE n e (vs.take (k + 1)) = nextP n (ofE n e (vs.take k)).1 (ofE n e (vs.take k)).2 vs[k] := by
  rw [take_snoc h]; simp only [ofE, List.foldl_append, List.foldl_cons, List.foldl_nil]

/-- a block with the deployment, one with a result, one with an epoch -/
structure OS (w : World) (p0 : Option Addr) (n0 c0 : Nat) (x : Int) (gp : Option Addr) (gc b off cc n : Nat) (A R E : Nat) (e : Nat × Bool) (W : World) : Prop where
  da : W.heap[A]? = some (.cells #[.slice p0 n0 c0, .slice none 0 0, .int .u16 x, .slice gp n gc, .slice (some ⟨b, off, none⟩) n cc, .slice none 0 0] 33 (0, 0))
  ra : W.heap[R]? = some (.cells #[.int .i64 0, .bool false] 39 (0, 0))
  ea : W.heap[E]? = some (.cells #[.int .i64 e.1, .bool e.2] 39 (0, 0))
  ne : A ≠ E ∧ R ≠ E
  ge : w.heap.size ≤ A ∧ w.heap.size ≤ R ∧ w.heap.size ≤ E
  bl : Below w.heap.size w W
  ch : ChW w b off n
theorem OS.below {w : World} {p0 : Option Addr} {n0 c0 : Nat} {x : Int} {gp : Option Addr} {gc b off cc n : Nat} {A R E : Nat} {e : Nat × Bool} {W W' : World} (h : OS w p0 n0 c0 x gp gc b off cc n A R E e W) (hb : Below W.heap.size W W') : OS w p0 n0 c0 x gp gc b off cc n A R E e W' :=
  ⟨(hb.block _ (Array.getElem?_eq_some_iff.mp h.da).1).trans h.da, (hb.block _ (Array.getElem?_eq_some_iff.mp h.ra).1).trans h.ra, (hb.block _ (Array.getElem?_eq_some_iff.mp h.ea).1).trans h.ea, h.ne, h.ge, h.bl.trans (hb.mono h.bl.size), h.ch⟩
theorem OS.set {w : World} {p0 : Option Addr} {n0 c0 : Nat} {x : Int} {gp : Option Addr} {gc b off cc n : Nat} {A R E : Nat} {e : Nat × Bool} {W : World} (h : OS w p0 n0 c0 x gp gc b off cc n A R E e W) (e' : Nat × Bool) : OS w p0 n0 c0 x gp gc b off cc n A R E e' ((W.setCell ⟨E, 0, none⟩ (.int .i64 e'.1)).setCell ⟨E, 1, none⟩ (.bool e'.2)) := by
  have hb : ∀ B, B ≠ E → ((W.setCell ⟨E, 0, none⟩ (.int .i64 e'.1)).setCell ⟨E, 1, none⟩ (.bool e'.2)).heap[B]? = W.heap[B]? := fun B hB => (Below.heap_setCell _ ⟨E, 1, none⟩ _ B hB).trans (Below.heap_setCell _ ⟨E, 0, none⟩ _ B hB)
  exact ⟨(hb A h.ne.1).trans h.da, (hb R h.ne.2).trans h.ra, row_set2 h.ea _ _, h.ne, h.ge, below_set (below_set h.bl (p := ⟨E, 0, none⟩) h.ge.2.2 _) (p := ⟨E, 1, none⟩) h.ge.2.2 _, h.ch⟩
theorem three {w : World} {o1 o2 o3 : Obj} : ((((w.alloc o1).alloc o2).alloc o3).heap[w.heap.size]? = some o1) ∧ ((((w.alloc o1).alloc o2).alloc o3).heap[w.heap.size + 1]? = some o2) ∧ ((((w.alloc o1).alloc o2).alloc o3).heap[w.heap.size + 2]? = some o3) ∧ Below w.heap.size w (((w.alloc o1).alloc o2).alloc o3) := by
  have h1 : Below (w.heap.size + 2) ((w.alloc o1).alloc o2) (((w.alloc o1).alloc o2).alloc o3) := (Below.refl _ _).alloc (by simp) _
  have h3 : ((w.alloc o1).alloc o2).heap.size = w.heap.size + 2 := by simp
  have h2 := heap_alloc_new ((w.alloc o1).alloc o2) o3
  rw [h3] at h2
  exact ⟨(h1.block _ (by omega)).trans (heap_alloc2_old w _ _), (h1.block _ (by omega)).trans (heap_alloc2_new w _ _), h2, (((Below.refl _ _).alloc (Nat.le_refl _) _).alloc (by simp) _).alloc (by simp; omega) _⟩

set_option maxHeartbeats 1600000 in
set_option maxRecDepth 1000000 in
theorem of_ex (p0 : Option Addr) (n0 c0 : Nat) (x : Int) (gp : Option Addr) (gc b off cc n : Nat) (p : Option Addr) (cap : Nat) (vs : List ByteArray) (w : World) (hn : n ≤ 3) (hn0 : 0 < n) (hs : Short vs) (hC : ChW w b off n) (hL : StrL w p vs) (hG : GL w) : Calls Tryz.prog 8 #[.agg #[.slice p0 n0 c0, .slice none 0 0, .int .u16 x, .slice gp n gc, .slice (some ⟨b, off, none⟩) n cc, .slice none 0 0], .slice p vs.length cap] w (EpRet (ofE n (0, false) vs) w) := by
  have hlen := hs.1
  have HS := Lib.hid hs.2
  have HL := Lib.hid hL
  have HG := Lib.hid hG
  have h3 := @three w (.cells #[.slice p0 n0 c0, .slice none 0 0, .int .u16 x, .slice gp n gc, .slice (some ⟨b, off, none⟩) n cc, .slice none 0 0] 33) (.cells #[.int .i64 0, .bool false] 39) (.cells #[.int .i64 0, .bool false] 39)
  have HO0 := Lib.hid (show OS w p0 n0 c0 x gp gc b off cc n w.heap.size (w.heap.size + 1) (w.heap.size + 2) (0, false) _ from ⟨h3.1, h3.2.1, by simpa using h3.2.2.1, by omega, by omega, h3.2.2.2, hC⟩)
  clear h3 hL hs hG
  go_enter Tryz.func8, Tryz.ntmps8
  go_upto_block 0 with fail
  revert HO0
  generalize ((w.alloc (.cells #[.slice p0 n0 c0, .slice none 0 0, .int .u16 x, .slice gp n gc, .slice (some ⟨b, off, none⟩) n cc, .slice none 0 0] 33)).alloc (.cells #[.int .i64 0, .bool false] 39)).alloc (.cells #[.int .i64 0, .bool false] 39) = W0
  intro HO0
  generalize hln : vs.length = ln at hlen ⊢
  have HLN := Lib.hid hln
  clear hln
  go_wp2_with fail
  go_loopw [10] (fun i wr => ∃ k : Nat, k ≤ ln ∧ i = .int .i64 k ∧ OS w p0 n0 c0 x gp gc b off cc n w.heap.size (w.heap.size + 1) (w.heap.size + 2) (ofE n (0, false) (vs.take k)) wr) (fun i _ => ln - (intOf i).toNat)
  case atStart => exact ⟨0, Nat.zero_le _, rfl, HO0.out⟩
  case round =>
    obtain ⟨k, hk, rfl, hO⟩ := hrel
    have HO := Lib.hid hO
    have d0 := cellOf hO.da (j := 0) rfl; have d1 := cellOf hO.da (j := 1) rfl; have d2 := cellOf hO.da (j := 2) rfl; have d3 := cellOf hO.da (j := 3) rfl; have d4 := cellOf hO.da (j := 4) rfl; have d5 := cellOf hO.da (j := 5) rfl; have g0 := cellOf hO.ea (j := 0) rfl; have g1 := cellOf hO.ea (j := 1) rfl; have h0 := frozenOf hO.ea (j := 0); have h1 := frozenOf hO.ea (j := 1)
    clear hO
    by_cases hkn : k < ln
    · have hkv : k < vs.length := by have := HLN.out; omega
      obtain ⟨sb, so, rfl, hsb, hc⟩ := HL.out.at hkv
      have hc1 := (HO.out.bl.cell (p := ⟨sb, so + k, none⟩) hsb).trans hc
      have hsk := HS.out _ (List.getElem_mem hkv)
      have hok := ofE_ok (vs.take k) (e := (0, false)) ⟨hn0, fun h => by cases h⟩
      have HSN := Lib.hid (ofE_snoc (n := n) (e := (0, false)) hkv)
      clear hc
      generalize he : ofE n (0, false) (vs.take k) = ek at HO HSN hok d0 d1 d2 d3 d4 d5 g0 g1 h0 h1 ⊢
      clear he
      
      go_wp2_with (go_at_call 10; refine (next_ex p0 n0 c0 x gp gc b off cc n ek.1 ek.2 vs[k] _ hn hok hsk (HO.out.ch.below HO.out.bl) (HG.out.below HO.out.bl)).mono ?_; rintro e w4 ⟨rfl, hb4⟩; have HO4 := Lib.hid (HO.out.below hb4); have d0 := cellOf HO4.out.da (j := 0) rfl; have d1 := cellOf HO4.out.da (j := 1) rfl; have d2 := cellOf HO4.out.da (j := 2) rfl; have d3 := cellOf HO4.out.da (j := 3) rfl; have d4 := cellOf HO4.out.da (j := 4) rfl; have d5 := cellOf HO4.out.da (j := 5) rfl; have g0 := cellOf HO4.out.ea (j := 0) rfl; have g1 := cellOf HO4.out.ea (j := 1) rfl; have h0 := frozenOf HO4.out.ea (j := 0); have h1 := frozenOf HO4.out.ea (j := 1); clear hb4)
      go_roundw
      case rel => exact ⟨k + 1, by omega, by go_num, by rw [HSN.out]; exact HO4.out.set _⟩
      case measure => simp [intOf]; omega
    · have hkl : vs.take k = vs := List.take_of_length_le (by have := HLN.out; omega)
      rw [hkl] at HO
      have r0 := cellOf HO.out.ra (j := 0) rfl; have r1 := cellOf HO.out.ra (j := 1) rfl; have f0 := frozenOf HO.out.ra (j := 0); have f1 := frozenOf HO.out.ra (j := 1)
      go_wp2_with fail
      exact ep_end 4 rfl HO.out.ra HO.out.bl HO.out.ge.2.1 _ _ _ rfl _ ⟨rfl, rfl⟩

set_option maxHeartbeats 1600000 in
set_option maxRecDepth 1000000 in
theorem behind_ex (p0 : Option Addr) (n0 c0 : Nat) (x : Int) (gp : Option Addr) (gc b off cc n : Nat) (i0 : Nat) (j0 : Bool) (p : Option Addr) (cap : Nat) (vs : List ByteArray) (w : World) (hn : n ≤ 3) (hok0 : okE n i0 j0) (hs : Short vs) (hC : ChW w b off n) (hL : StrL w p vs) : Calls Tryz.prog 25 #[.agg #[.slice p0 n0 c0, .slice none 0 0, .int .u16 x, .slice gp n gc, .slice (some ⟨b, off, none⟩) n cc, .slice none 0 0], .agg #[.int .i64 i0, .bool j0], .slice p vs.length cap] w (EpRet (ofE n (i0, j0) vs) w) := by
  have hlen := hs.1
  have HS := Lib.hid hs.2
  have HL := Lib.hid hL
  skip
  have h3 := @three w (.cells #[.slice p0 n0 c0, .slice none 0 0, .int .u16 x, .slice gp n gc, .slice (some ⟨b, off, none⟩) n cc, .slice none 0 0] 33) (.cells #[.int .i64 i0, .bool j0] 39) (.cells #[.int .i64 0, .bool false] 39)
  have HO0 := Lib.hid (show OS w p0 n0 c0 x gp gc b off cc n w.heap.size (w.heap.size + 2) (w.heap.size + 1) (i0, j0) _ from ⟨h3.1, h3.2.2.1, by simpa using h3.2.1, by omega, by omega, h3.2.2.2, hC⟩)
  clear h3 hL hs 
  go_enter Tryz.func25, Tryz.ntmps25
  go_upto_block 0 with fail
  revert HO0
  generalize ((w.alloc (.cells #[.slice p0 n0 c0, .slice none 0 0, .int .u16 x, .slice gp n gc, .slice (some ⟨b, off, none⟩) n cc, .slice none 0 0] 33)).alloc (.cells #[.int .i64 i0, .bool j0] 39)).alloc (.cells #[.int .i64 0, .bool false] 39) = W0
  intro HO0
  generalize hln : vs.length = ln at hlen ⊢
  have HLN := Lib.hid hln
  clear hln
  go_wp2_with fail
  go_loopw [7] (fun i wr => ∃ k : Nat, k ≤ ln ∧ i = .int .i64 k ∧ OS w p0 n0 c0 x gp gc b off cc n w.heap.size (w.heap.size + 2) (w.heap.size + 1) (ofE n (i0, j0) (vs.take k)) wr) (fun i _ => ln - (intOf i).toNat)
  case atStart => exact ⟨0, Nat.zero_le _, rfl, HO0.out⟩
  case round =>
    obtain ⟨k, hk, rfl, hO⟩ := hrel
    have HO := Lib.hid hO
    have d0 := cellOf hO.da (j := 0) rfl; have d1 := cellOf hO.da (j := 1) rfl; have d2 := cellOf hO.da (j := 2) rfl; have d3 := cellOf hO.da (j := 3) rfl; have d4 := cellOf hO.da (j := 4) rfl; have d5 := cellOf hO.da (j := 5) rfl; have g0 := cellOf hO.ea (j := 0) rfl; have g1 := cellOf hO.ea (j := 1) rfl; have h0 := frozenOf hO.ea (j := 0); have h1 := frozenOf hO.ea (j := 1)
    clear hO
    by_cases hkn : k < ln
    · have hkv : k < vs.length := by have := HLN.out; omega
      obtain ⟨sb, so, rfl, hsb, hc⟩ := HL.out.at hkv
      have hc1 := (HO.out.bl.cell (p := ⟨sb, so + k, none⟩) hsb).trans hc
      have hsk := HS.out _ (List.getElem_mem hkv)
      have hok := ofE_ok (vs.take k) (e := (i0, j0)) hok0
      have HSN := Lib.hid (ofE_snoc (n := n) (e := (i0, j0)) hkv)
      clear hc
      generalize he : ofE n (i0, j0) (vs.take k) = ek at HO HSN hok d0 d1 d2 d3 d4 d5 g0 g1 h0 h1 ⊢
      clear he
      go_upto_region 4 with fail
      go_still_tail 6, (by kernel_rfl)
      change wpList _ _ _ _ _ (World.drew _)
      have HOd := Lib.hid (HO.out.below (below_drew _))
      clear d0 d1 d2 d3 d4 d5 g0 g1 h0 h1 hc1
      clear HO
      revert HOd
      generalize World.drew wr = wr2
      intro HO
      have d0 := cellOf HO.out.da (j := 0) rfl; have d1 := cellOf HO.out.da (j := 1) rfl; have d2 := cellOf HO.out.da (j := 2) rfl; have d3 := cellOf HO.out.da (j := 3) rfl; have d4 := cellOf HO.out.da (j := 4) rfl; have d5 := cellOf HO.out.da (j := 5) rfl; have g0 := cellOf HO.out.ea (j := 0) rfl; have g1 := cellOf HO.out.ea (j := 1) rfl; have h0 := frozenOf HO.out.ea (j := 0); have h1 := frozenOf HO.out.ea (j := 1)
      go_wp2_with (go_at_call 17; refine (rnext_ex p0 n0 c0 x gp gc b off cc n ek.1 ek.2 vs[k] _ hn hok hsk (HO.out.ch.below HO.out.bl)).mono ?_; rintro e w4 ⟨rfl, hb4⟩; have HO4 := Lib.hid (HO.out.below hb4); have d0 := cellOf HO4.out.da (j := 0) rfl; have d1 := cellOf HO4.out.da (j := 1) rfl; have d2 := cellOf HO4.out.da (j := 2) rfl; have d3 := cellOf HO4.out.da (j := 3) rfl; have d4 := cellOf HO4.out.da (j := 4) rfl; have d5 := cellOf HO4.out.da (j := 5) rfl; have g0 := cellOf HO4.out.ea (j := 0) rfl; have g1 := cellOf HO4.out.ea (j := 1) rfl; have h0 := frozenOf HO4.out.ea (j := 0); have h1 := frozenOf HO4.out.ea (j := 1); clear hb4)
      go_roundw
      case rel => exact ⟨k + 1, by omega, by go_num, by rw [HSN.out]; exact HO4.out.set _⟩
      case measure => simp [intOf]; omega
    · have hkl : vs.take k = vs := List.take_of_length_le (by have := HLN.out; omega)
      rw [hkl] at HO
      have r0 := cellOf HO.out.ra (j := 0) rfl; have r1 := cellOf HO.out.ra (j := 1) rfl; have f0 := frozenOf HO.out.ra (j := 0); have f1 := frozenOf HO.out.ra (j := 1)
      go_wp2_with fail
      exact ep_end 6 rfl HO.out.ra HO.out.bl HO.out.ge.2.1 _ _ _ rfl _ ⟨rfl, rfl⟩

set_option maxHeartbeats 1600000 in
set_option maxRecDepth 1000000 in
theorem rof_ex (p0 : Option Addr) (n0 c0 : Nat) (x : Int) (gp : Option Addr) (gc b off cc n : Nat) (p : Option Addr) (cap : Nat) (vs : List ByteArray) (w : World) (hn : n ≤ 3) (hn0 : 0 < n) (hs : Short vs) (hC : ChW w b off n) (hL : StrL w p vs) : Calls Tryz.prog 11 #[.agg #[.slice p0 n0 c0, .slice none 0 0, .int .u16 x, .slice gp n gc, .slice (some ⟨b, off, none⟩) n cc, .slice none 0 0], .slice p vs.length cap] w (EpRet (ofE n (0, false) vs) w) := by
  have hb0 : Below w.heap.size w ((w.alloc (.cells #[.slice p0 n0 c0, .slice none 0 0, .int .u16 x, .slice gp n gc, .slice (some ⟨b, off, none⟩) n cc, .slice none 0 0] 33)).alloc (.cells #[.int .i64 0, .bool false] 39)) := ((Below.refl _ _).alloc (Nat.le_refl _) _).alloc (by simp) _
  have HB0 := Lib.hid hb0
  have HR := Lib.hid (heap_alloc2_new w (.cells #[.slice p0 n0 c0, .slice none 0 0, .int .u16 x, .slice gp n gc, .slice (some ⟨b, off, none⟩) n cc, .slice none 0 0] 33) (.cells #[.int .i64 0, .bool false] 39))
  have hlt : w.heap.size + 1 < ((w.alloc (.cells #[.slice p0 n0 c0, .slice none 0 0, .int .u16 x, .slice gp n gc, .slice (some ⟨b, off, none⟩) n cc, .slice none 0 0] 33)).alloc (.cells #[.int .i64 0, .bool false] 39)).heap.size := by simp
  have HC := Lib.hid (hC.below hb0)
  have HL := Lib.hid (hL.below hb0)
  clear hb0 hC hL
  go_enter Tryz.func11, Tryz.ntmps11
  go_upto_region 1 with fail
  go_wp2_with (go_at_call 25; refine (behind_ex p0 n0 c0 x gp gc b off cc n 0 false p cap vs _ hn ⟨hn0, fun h => by cases h⟩ hs HC.out HL.out).mono ?_; rintro e w4 ⟨rfl, hb4⟩; have HR4 := Lib.hid ((hb4.block _ hlt).trans HR.out); have HB4 := Lib.hid (HB0.out.trans (hb4.mono HB0.out.size)); have r0 := cellOf HR4.out (j := 0) rfl; have r1 := cellOf HR4.out (j := 1) rfl; have f0 := frozenOf HR4.out (j := 0); have f1 := frozenOf HR4.out (j := 1); clear hb4)
  exact ep_end 4 rfl HR4.out HB4.out (by omega) _ _ _ rfl _ ⟨rfl, rfl⟩
end Go.Proofs.YtmcnpaehmnadeaaGreatDoor

/-
  EpochOf: epoch.Changes, sederuntref41.Changes, sederuntref29.Numbers.
-/
namespace Go.Proofs.YtmcnpaehmnadeaaGreatDoor
open Go Go.RowKit

/-- does value number i change the epoch; the numbers of those before k that do -/
def chB (n : Nat) (vs : List ByteArray) (i : Nat) : Bool := decide (¬ ofE n (0, false) (vs.take (i + 1)) = ofE n (0, false) (vs.take i))
def chg (n : Nat) (vs : List ByteArray) (k : Nat) : List Nat := (List.range k).filter (chB n vs)
theorem chg_yes {n : Nat} {vs : List ByteArray} {k : Nat} (h : ¬ ofE n (0, false) (vs.take (k + 1)) = ofE n (0, false) (vs.take k)) : chg n vs (k + 1) = chg n vs k ++ [k] := by
  simp [chg, List.range_succ, List.filter_append, chB, h]
theorem chg_no {n : Nat} {vs : List ByteArray} {k : Nat} (h : ofE n (0, false) (vs.take (k + 1)) = ofE n (0, false) (vs.take k)) : chg n vs (k + 1) = chg n vs k := by
  simp [chg, List.range_succ, List.filter_append, chB, h]
theorem chg_len (n : Nat) (vs : List ByteArray) (k : Nat) : (chg n vs k).length ≤ k := by
  have := List.length_filter_le (chB n vs) (List.range k)
  simpa [chg] using this
def inV (l : List Nat) : List Value := l.map fun (i : Nat) => Value.int .i64 (i : Int)
theorem inV_snoc (l : List Nat) (k : Nat) : inV l ++ [.int .i64 (k : Int)] = inV (l ++ [k]) := by simp [inV]
/-- a slice of these numbers -/
def IntL (W : World) (p : Option Addr) (l : List Nat) : Prop := l = [] ∨ ∃ b off, p = some ⟨b, off, none⟩ ∧ b < W.heap.size ∧ ∀ i (h : i < l.length), W.cell? ⟨b, off + i, none⟩ = some (.int .i64 (l[i] : Nat))
theorem IntL.below {W W' : World} {p : Option Addr} {l : List Nat} (h : IntL W p l) (hb : Below W.heap.size W W') : IntL W' p l := by
  rcases h with h | ⟨b, off, h1, h2, h3⟩
  · exact .inl h
  · exact .inr ⟨b, off, h1, Nat.lt_of_lt_of_le h2 hb.size, fun i hi => (hb.cell (p := ⟨b, off + i, none⟩) h2).trans (h3 i hi)⟩
theorem intL_of_own {w : World} {base n : Nat} {v : Value} {l : List Nat} (h : w.ownsRow base 3 1 v n (inV l)) : ∃ p cap, v = .slice p l.length cap ∧ IntL w p l ∧ n = l.length := by
  have hl : l.length = n := by have := h.1; simp [inV] at this; omega
  subst hl
  rcases h.2 with ⟨rfl, h0⟩ | ⟨g, cap, cur, rfl, _, hc, hcap, _, hsz, hx⟩
  · have : l = [] := List.eq_nil_of_length_eq_zero h0
    subst this
    exact ⟨none, 0, rfl, .inl rfl, rfl⟩
  · have hg : g < w.heap.size := (Array.getElem?_eq_some_iff.mp hc).1
    refine ⟨_, cap, rfl, .inr ⟨g, 0, rfl, hg, fun i hi => ?_⟩, rfl⟩
    have hj2 : (cur.toList.take (l.length * 1))[i]? = some (.int .i64 ((l[i] : Nat) : Int)) := by rw [hx]; simp [inV, hi]
    rw [List.getElem?_take] at hj2
    split at hj2
    · simp [World.cell?, hc]
      simpa using hj2
    · cases hj2
theorem Tryz.info3 : (Tryz.prog.info? 3).map (fun i => (i.zero, i.size, i.bytes)) = some (some (.int .i64 0), 1, 8) := by kernel_rfl

/-- a block with the deployment, one with an epoch -/
structure CS (w : World) (p0 : Option Addr) (n0 c0 : Nat) (x : Int) (gp : Option Addr) (gc b off cc n : Nat) (A E : Nat) (e : Nat × Bool) (W : World) : Prop where
  da : W.heap[A]? = some (.cells #[.slice p0 n0 c0, .slice none 0 0, .int .u16 x, .slice gp n gc, .slice (some ⟨b, off, none⟩) n cc, .slice none 0 0] 33 (0, 0))
  ea : W.heap[E]? = some (.cells #[.int .i64 e.1, .bool e.2] 39 (0, 0))
  ne : A ≠ E
  ge : w.heap.size ≤ A ∧ w.heap.size ≤ E
  bl : Below w.heap.size w W
  ch : ChW w b off n
theorem CS.below {w : World} {p0 : Option Addr} {n0 c0 : Nat} {x : Int} {gp : Option Addr} {gc b off cc n : Nat} {A E B : Nat} {e : Nat × Bool} {W W' : World} (h : CS w p0 n0 c0 x gp gc b off cc n A E e W) (hb : Below B W W') (hA : A < B) (hE : E < B) (hB : w.heap.size ≤ B) : CS w p0 n0 c0 x gp gc b off cc n A E e W' :=
  ⟨(hb.block _ hA).trans h.da, (hb.block _ hE).trans h.ea, h.ne, h.ge, h.bl.trans (hb.mono hB), h.ch⟩
theorem CS.set {w : World} {p0 : Option Addr} {n0 c0 : Nat} {x : Int} {gp : Option Addr} {gc b off cc n : Nat} {A E : Nat} {e : Nat × Bool} {W : World} (h : CS w p0 n0 c0 x gp gc b off cc n A E e W) (e' : Nat × Bool) : CS w p0 n0 c0 x gp gc b off cc n A E e' ((W.setCell ⟨E, 0, none⟩ (.int .i64 e'.1)).setCell ⟨E, 1, none⟩ (.bool e'.2)) := by
  have hb : ∀ B, B ≠ E → ((W.setCell ⟨E, 0, none⟩ (.int .i64 e'.1)).setCell ⟨E, 1, none⟩ (.bool e'.2)).heap[B]? = W.heap[B]? := fun B hB => (Below.heap_setCell _ ⟨E, 1, none⟩ _ B hB).trans (Below.heap_setCell _ ⟨E, 0, none⟩ _ B hB)
  exact ⟨(hb A h.ne).trans h.da, row_set2 h.ea _ _, h.ne, h.ge, below_set (below_set h.bl (p := ⟨E, 0, none⟩) h.ge.2 _) (p := ⟨E, 1, none⟩) h.ge.2 _, h.ch⟩
def ListL (l : List Nat) (w : World) (e : Ending) (w' : World) : Prop := ∃ p cap, e = .returned (.slice p l.length cap) ∧ IntL w' p l ∧ Below w.heap.size w w'

set_option maxHeartbeats 1600000 in
set_option maxRecDepth 1000000 in
theorem changes_ex (p0 : Option Addr) (n0 c0 : Nat) (x : Int) (gp : Option Addr) (gc b off cc n : Nat) (p : Option Addr) (cap : Nat) (vs : List ByteArray) (w : World) (hn : n ≤ 3) (hn0 : 0 < n) (hs : Short vs) (hC : ChW w b off n) (hL : StrL w p vs) (hG : GL w) : Calls Tryz.prog 13 #[.agg #[.slice p0 n0 c0, .slice none 0 0, .int .u16 x, .slice gp n gc, .slice (some ⟨b, off, none⟩) n cc, .slice none 0 0], .slice p vs.length cap] w (ListL (chg n vs vs.length) w) := by
  obtain ⟨i0, hi, hz0, hz1, hz2⟩ := info_parts Tryz.info3
  have hlen := hs.1
  have HS := Lib.hid hs.2
  have HL := Lib.hid hL
  have HG := Lib.hid hG
  have hb0 : Below w.heap.size w ((w.alloc (.cells #[.slice p0 n0 c0, .slice none 0 0, .int .u16 x, .slice gp n gc, .slice (some ⟨b, off, none⟩) n cc, .slice none 0 0] 33)).alloc (.cells #[.int .i64 0, .bool false] 39)) := ((Below.refl _ _).alloc (Nat.le_refl _) _).alloc (by simp) _
  have HO0 := Lib.hid (show CS w p0 n0 c0 x gp gc b off cc n w.heap.size (w.heap.size + 1) (0, false) _ from ⟨heap_alloc2_old w (.cells #[.slice p0 n0 c0, .slice none 0 0, .int .u16 x, .slice gp n gc, .slice (some ⟨b, off, none⟩) n cc, .slice none 0 0] 33) (.cells #[.int .i64 0, .bool false] 39), by simpa using heap_alloc2_new w (.cells #[.slice p0 n0 c0, .slice none 0 0, .int .u16 x, .slice gp n gc, .slice (some ⟨b, off, none⟩) n cc, .slice none 0 0] 33) (.cells #[.int .i64 0, .bool false] 39), by omega, by omega, hb0, hC⟩)
  have hsz0 : ((w.alloc (.cells #[.slice p0 n0 c0, .slice none 0 0, .int .u16 x, .slice gp n gc, .slice (some ⟨b, off, none⟩) n cc, .slice none 0 0] 33)).alloc (.cells #[.int .i64 0, .bool false] 39)).heap.size = w.heap.size + 2 := by simp
  have HZ := Lib.hid (Nat.le_of_eq hsz0.symm)
  clear hL hs hG hb0 hsz0
  go_enter Tryz.func13, Tryz.ntmps13
  go_upto_block 0 with fail
  revert HO0 HZ
  generalize (w.alloc (.cells #[.slice p0 n0 c0, .slice none 0 0, .int .u16 x, .slice gp n gc, .slice (some ⟨b, off, none⟩) n cc, .slice none 0 0] 33)).alloc (.cells #[.int .i64 0, .bool false] 39) = W0
  intro HO0 HZ
  generalize hln : vs.length = ln at hlen ⊢
  have HLN := Lib.hid hln
  clear hln
  go_wp2_with fail
  go_loopw [5, 12] (fun v5 i wr => ∃ k : Nat, k ≤ ln ∧ i = .int .i64 k ∧ CS w p0 n0 c0 x gp gc b off cc n w.heap.size (w.heap.size + 1) (ofE n (0, false) (vs.take k)) wr ∧ wr.ownsRow (w.heap.size + 2) 3 1 v5 (chg n vs k).length (inV (chg n vs k)) ∧ w.heap.size + 2 ≤ wr.heap.size) (fun _ i _ => ln - (intOf i).toNat)
  case atStart => exact ⟨0, Nat.zero_le _, rfl, HO0.out, by simpa [chg, inV] using World.ownsRow_nil _ _ _ _, HZ.out⟩
  case round =>
    obtain ⟨k, hk, rfl, hO, hown, hsz⟩ := hrel
    have HO := Lib.hid hO
    have HW := Lib.hid hown
    have d0 := cellOf hO.da (j := 0) rfl; have d1 := cellOf hO.da (j := 1) rfl; have d2 := cellOf hO.da (j := 2) rfl; have d3 := cellOf hO.da (j := 3) rfl; have d4 := cellOf hO.da (j := 4) rfl; have d5 := cellOf hO.da (j := 5) rfl; have g0 := cellOf hO.ea (j := 0) rfl; have g1 := cellOf hO.ea (j := 1) rfl; have h0 := frozenOf hO.ea (j := 0); have h1 := frozenOf hO.ea (j := 1)
    clear hO hown
    by_cases hkn : k < ln
    · have hkv : k < vs.length := by have := HLN.out; omega
      obtain ⟨sb, so, rfl, hsb, hc⟩ := HL.out.at hkv
      have hc1 := (HO.out.bl.cell (p := ⟨sb, so + k, none⟩) hsb).trans hc
      have hsk := HS.out _ (List.getElem_mem hkv)
      have hok := ofE_ok (vs.take k) (e := (0, false)) (n := n) ⟨hn0, fun h => by cases h⟩
      have HSN := Lib.hid (ofE_snoc (n := n) (e := (0, false)) hkv)
      have HY := Lib.hid (@chg_yes n vs k)
      have HNO := Lib.hid (@chg_no n vs k)
      have hcl : (chg n vs k).length ≤ 20 := by have := chg_len n vs k; omega
      clear hc
      generalize he : ofE n (0, false) (vs.take k) = ek at HO HSN HY HNO hok d0 d1 d2 d3 d4 d5 g0 g1 h0 h1 ⊢
      clear he
      go_upto_region 7 with (go_at_call 10; refine (next_ex p0 n0 c0 x gp gc b off cc n ek.1 ek.2 vs[k] _ hn hok hsk (HO.out.ch.below HO.out.bl) (HG.out.below HO.out.bl)).mono ?_; rintro e w4 ⟨rfl, hb4⟩; have HO4 := Lib.hid (HO.out.below hb4 (by omega) (by omega) (by omega)); have HW4 := Lib.hid (own_below HW.out hb4); have hsz4 := Nat.le_trans hsz hb4.size; clear hb4)
      rw [← HSN.out]
      generalize he : ofE n (0, false) (vs.take (k + 1)) = e' at HY HNO ⊢
      have HE := Lib.hid he
      clear he
      have hb5 : Below w4.heap.size w4 (w4.alloc (.cells #[.int .i64 e'.1, .bool e'.2] 39)) := (Below.refl _ _).alloc (Nat.le_refl _) _
      have HO5 := Lib.hid (HO4.out.below hb5 (by omega) (by omega) (by omega))
      have HW5 := Lib.hid (own_below HW4.out hb5)
      have HX5 := Lib.hid (heap_alloc_new w4 (.cells #[.int .i64 e'.1, .bool e'.2] 39))
      have hsz5 := Nat.le_trans hsz4 hb5.size
      have hne5 : w.heap.size + 1 ≠ w4.heap.size := by omega
      have hq5 : w4.heap.size < (w4.alloc (.cells #[.int .i64 e'.1, .bool e'.2] 39)).heap.size := by simp
      have hbb5 : w.heap.size + 2 ≤ w4.heap.size := by omega
      have hneX : u5.ownBlock ≠ some w4.heap.size := fun e => by have := (HW4.out.lt _ e).2; omega
      clear d0 d1 d2 d3 d4 d5 g0 g1 h0 h1 hc1 hb5
      revert HO5 HW5 HX5 hsz5 hq5
      generalize w4.alloc (.cells #[.int .i64 e'.1, .bool e'.2] 39) = W5
      generalize w4.heap.size = X at hne5 hbb5 hneX
      intro HO5 HW5 HX5 hsz5 hq5
      have d0 := cellOf HO5.out.da (j := 0) rfl; have d1 := cellOf HO5.out.da (j := 1) rfl; have d2 := cellOf HO5.out.da (j := 2) rfl; have d3 := cellOf HO5.out.da (j := 3) rfl; have d4 := cellOf HO5.out.da (j := 4) rfl; have d5 := cellOf HO5.out.da (j := 5) rfl; have g0 := cellOf HO5.out.ea (j := 0) rfl; have g1 := cellOf HO5.out.ea (j := 1) rfl; have h0 := frozenOf HO5.out.ea (j := 0); have h1 := frozenOf HO5.out.ea (j := 1)
      have x0 := cellOf HX5.out (j := 0) rfl
      have x1 := cellOf HX5.out (j := 1) rfl
      by_cases heq : e' = ek
      · subst heq
        have hs6 := HO5.out.set e'
        have hw6 := own_set (own_set HW5.out (p := ⟨w.heap.size + 1, 0, none⟩) (by show w.heap.size + 1 < _; omega) (.int .i64 e'.1)) (p := ⟨w.heap.size + 1, 1, none⟩) (by show w.heap.size + 1 < _; omega) (.bool e'.2)
        have H6 := Lib.hid (And.intro hs6 hw6)
        clear hs6 hw6
        go_wp2_with fail
        go_roundw
        case rel => exact ⟨k + 1, by omega, by go_num, by rw [HE.out]; exact H6.out.1, by rw [HNO.out rfl]; exact H6.out.2, by simpa using hsz5⟩
        case measure => simp [intOf]; omega
      · obtain ⟨a', j'⟩ := e'
        obtain ⟨a, j⟩ := ek
        have hor : ¬ (a' : Int) = (a : Int) ∨ a' = a ∧ ¬ j' = j := by
          by_cases h : a' = a
          · exact .inr ⟨h, fun h2 => heq (by rw [h, h2])⟩
          · exact .inl (by omega)
        have HQ := Lib.hid heq
        clear heq
        rcases hor with hor | ⟨rfl, hor⟩
        all_goals
          dsimp only at d0 d1 d2 d3 d4 d5 g0 g1 h0 h1 x0 x1
          go_upto_if 23 with fail
          go_wp2_with (at_builtin; refine wpList_append_own _ rfl _ _ 30 rfl (w.heap.size + 2) 3 i0 (.int .i64 0) 1 8 Tryz.underlying30 hi hz0 hz1 hz2 rfl (by decide) _ _ _ rfl (HW5.out.alloc _) ⟨W5.heap.size, 0, none⟩ 1 1 [.int .i64 k] rfl rfl ?c1 ?c2 ?c3 ?c4 ?c5 ?_)
          case c2 => first | rfl | (intro u hu; simp at hu; subst hu; rfl)
          case c3 => unfold maxLen; omega
          case c4 => omega
          case c5 => first | omega | (simp; omega)
          intro v' w6 hown' hgrow _
          have hb6 : Below (w.heap.size + 2) W5 w6 := below_grown (Below.refl _ _) hsz5 HW5.out hgrow
          have HO6 := Lib.hid (HO5.out.below hb6 (by omega) (by omega) (by omega))
          have hsz6 := Nat.le_trans hsz5 hb6.size
          have hX6 : w6.heap[X]? = some (.cells #[.int .i64 a', .bool j'] 39 (0, 0)) := (hgrow.block X (by rw [World.size_alloc]; omega) (fun e => hneX e.symm)).trans ((((Below.refl _ _).alloc (Nat.le_refl _) _).block X hq5).trans HX5.out)
          rw [inV_snoc] at hown'
          have hs7 := HO6.out.set (a', j')
          have hw7 := own_set (own_set hown' (p := ⟨w.heap.size + 1, 0, none⟩) (by show w.heap.size + 1 < _; omega) (.int .i64 a')) (p := ⟨w.heap.size + 1, 1, none⟩) (by show w.heap.size + 1 < _; omega) (.bool j')
          have H7 := Lib.hid (And.intro hs7 hw7)
          clear hs7 hw7 hown' hgrow hb6
          have d0 := cellOf HO6.out.da (j := 0) rfl; have d1 := cellOf HO6.out.da (j := 1) rfl; have d2 := cellOf HO6.out.da (j := 2) rfl; have d3 := cellOf HO6.out.da (j := 3) rfl; have d4 := cellOf HO6.out.da (j := 4) rfl; have d5 := cellOf HO6.out.da (j := 5) rfl; have g0 := cellOf HO6.out.ea (j := 0) rfl; have g1 := cellOf HO6.out.ea (j := 1) rfl; have h0 := frozenOf HO6.out.ea (j := 0); have h1 := frozenOf HO6.out.ea (j := 1)
          have x0 := cellOf hX6 (j := 0) rfl
          have x1 := cellOf hX6 (j := 1) rfl
          go_wp2_with fail
          go_roundw
          case rel => exact ⟨k + 1, by omega, by go_num, by rw [HE.out]; exact H7.out.1, by rw [HY.out HQ.out, List.length_append]; exact H7.out.2, by simpa using hsz6⟩
          case measure => simp [intOf]; omega
    · have hkl : k = vs.length := by have := HLN.out; omega
      obtain ⟨p5, c5, hv5, hp5, _⟩ := intL_of_own HW.out
      subst hv5
      subst hkl
      go_wp2_with fail
      go_ret
      exact ⟨p5, c5, rfl, hp5, HO.out.bl⟩
end Go.Proofs.YtmcnpaehmnadeaaGreatDoor

/-
  EpochOf: sederuntref41.Changes, sederuntref29.Numbers.
-/
namespace Go.Proofs.YtmcnpaehmnadeaaGreatDoor
open Go Go.RowKit

theorem StrL.take {W : World} {p : Option Addr} {vs : List ByteArray} (h : StrL W p vs) (k : Nat) : StrL W p (vs.take k) := by
  rcases h with rfl | ⟨b, off, h1, h2, h3⟩
  · exact .inl (by simp)
  · exact .inr ⟨b, off, h1, h2, fun i hi => by
      have hi2 : i < vs.length := by simp at hi; omega
      rw [List.getElem_take]; exact h3 i hi2⟩
theorem Short.take {vs : List ByteArray} (h : Short vs) (k : Nat) : Short (vs.take k) := ⟨by have := h.1; simp; omega, fun s hs => h.2 s (List.mem_of_mem_take hs)⟩
/-- a block with the deployment; nothing older has changed; numbers of its own -/
def FA (w : World) (p0 : Option Addr) (n0 c0 : Nat) (x : Int) (gp : Option Addr) (gc b off cc n : Nat) (v5 : Value) (l : List Nat) (W : World) : Prop := W.heap[w.heap.size]? = some (.cells #[.slice p0 n0 c0, .slice none 0 0, .int .u16 x, .slice gp n gc, .slice (some ⟨b, off, none⟩) n cc, .slice none 0 0] 33 (0, 0)) ∧ Below w.heap.size w W ∧ W.ownsRow (w.heap.size + 1) 3 1 v5 l.length (inV l) ∧ w.heap.size + 1 ≤ W.heap.size
theorem FA.below {w : World} {p0 : Option Addr} {n0 c0 : Nat} {x : Int} {gp : Option Addr} {gc b off cc n : Nat} {v5 : Value} {l : List Nat} {W W' : World} (h : FA w p0 n0 c0 x gp gc b off cc n v5 l W) (hb : Below W.heap.size W W') : FA w p0 n0 c0 x gp gc b off cc n v5 l W' :=
  ⟨(hb.block _ (Array.getElem?_eq_some_iff.mp h.1).1).trans h.1, h.2.1.trans (hb.mono h.2.1.size), own_below h.2.2.1 hb, Nat.le_trans h.2.2.2 hb.size⟩
theorem FA.bl {w : World} {p0 : Option Addr} {n0 c0 : Nat} {x : Int} {gp : Option Addr} {gc b off cc n : Nat} {v5 : Value} {l : List Nat} {W : World} (h : FA w p0 n0 c0 x gp gc b off cc n v5 l W) : Below w.heap.size w W := h.2.1
theorem faS {w : World} {p0 : Option Addr} {n0 c0 : Nat} {x : Int} {gp : Option Addr} {gc b off cc n : Nat} {v5 : Value} {l : List Nat} {W : World} (h : FA w p0 n0 c0 x gp gc b off cc n v5 l W) : W.cell? ⟨w.heap.size, 0, none⟩ = some (.slice p0 n0 c0) ∧ W.cell? ⟨w.heap.size, 1, none⟩ = some (.slice none 0 0) ∧ W.cell? ⟨w.heap.size, 2, none⟩ = some (.int .u16 x) ∧ W.cell? ⟨w.heap.size, 3, none⟩ = some (.slice gp n gc) ∧ W.cell? ⟨w.heap.size, 4, none⟩ = some (.slice (some ⟨b, off, none⟩) n cc) ∧ W.cell? ⟨w.heap.size, 5, none⟩ = some (.slice none 0 0) ∧ FA w p0 n0 c0 x gp gc b off cc n v5 l W :=
  ⟨cellOf h.1 rfl, cellOf h.1 rfl, cellOf h.1 rfl, cellOf h.1 rfl, cellOf h.1 rfl, cellOf h.1 rfl, h⟩
theorem rof_take (p0 : Option Addr) (n0 c0 : Nat) (x : Int) (gp : Option Addr) (gc b off cc n : Nat) (p : Option Addr) (cap k : Nat) (vs : List ByteArray) (w0 w : World) (hk : k ≤ vs.length) (hn : n ≤ 3) (hn0 : 0 < n) (hs : Short vs) (hC : ChW w0 b off n) (hL : StrL w0 p vs) (hb : Below w0.heap.size w0 w) (e : Nat × Bool) (he : ofE n (0, false) (vs.take k) = e) : Calls Tryz.prog 11 #[.agg #[.slice p0 n0 c0, .slice none 0 0, .int .u16 x, .slice gp n gc, .slice (some ⟨b, off, none⟩) n cc, .slice none 0 0], .slice p k cap] w (EpRet e w) := by
  subst he
  have h := rof_ex p0 n0 c0 x gp gc b off cc n p cap (vs.take k) w hn hn0 (hs.take k) (hC.below hb) ((hL.below hb).take k)
  rwa [List.length_take, Nat.min_eq_left hk] at h

set_option maxHeartbeats 1600000 in
set_option maxRecDepth 1000000 in
theorem rchanges_ex (p0 : Option Addr) (n0 c0 : Nat) (x : Int) (gp : Option Addr) (gc b off cc n : Nat) (p : Option Addr) (cap : Nat) (vs : List ByteArray) (w : World) (hn : n ≤ 3) (hn0 : 0 < n) (hcap : vs.length ≤ cap) (hs : Short vs) (hC : ChW w b off n) (hL : StrL w p vs) : Calls Tryz.prog 14 #[.agg #[.slice p0 n0 c0, .slice none 0 0, .int .u16 x, .slice gp n gc, .slice (some ⟨b, off, none⟩) n cc, .slice none 0 0], .slice p vs.length cap] w (ListL (chg n vs vs.length) w) := by
  obtain ⟨i0, hi, hz0, hz1, hz2⟩ := info_parts Tryz.info3
  have hlen := hs.1
  have HS := Lib.hid hs
  have HL := Lib.hid hL
  have HC := Lib.hid hC
  have HF0 := Lib.hid (show FA w p0 n0 c0 x gp gc b off cc n (.slice none 0 0) [] (w.alloc (.cells #[.slice p0 n0 c0, .slice none 0 0, .int .u16 x, .slice gp n gc, .slice (some ⟨b, off, none⟩) n cc, .slice none 0 0] 33)) from ⟨heap_alloc_new w (.cells #[.slice p0 n0 c0, .slice none 0 0, .int .u16 x, .slice gp n gc, .slice (some ⟨b, off, none⟩) n cc, .slice none 0 0] 33), (Below.refl _ _).alloc (Nat.le_refl _) _, World.ownsRow_nil _ _ _ _, by simp⟩)
  clear hL hs hC
  go_enter Tryz.func14, Tryz.ntmps14
  go_upto_block 0 with fail
  revert HF0
  generalize w.alloc (.cells #[.slice p0 n0 c0, .slice none 0 0, .int .u16 x, .slice gp n gc, .slice (some ⟨b, off, none⟩) n cc, .slice none 0 0] 33) = W0
  intro HF0
  generalize hln : vs.length = ln at hlen hcap ⊢
  have HLN := Lib.hid hln
  clear hln
  go_wp2_with fail
  go_loopw [5, 6] (fun v5 i wr => ∃ k : Nat, k ≤ ln ∧ i = .int .i64 k ∧ FA w p0 n0 c0 x gp gc b off cc n v5 (chg n vs k) wr) (fun _ i _ => ln - (intOf i).toNat)
  case atStart => exact ⟨0, Nat.zero_le _, rfl, by simpa [chg] using HF0.out⟩
  case round =>
    obtain ⟨k, hk, rfl, hF⟩ := hrel
    have HF := Lib.hid hF
    clear hF
    by_cases hkn : k < ln
    · have hkv : k < vs.length := by have := HLN.out; omega
      have HY := Lib.hid (@chg_yes n vs k)
      have HNO := Lib.hid (@chg_no n vs k)
      have hcl : (chg n vs k).length ≤ 20 := by have := chg_len n vs k; omega
      have e0 : (0 : Int) ≤ (k : Int) := by omega
      have e1 : (k : Int) ≤ (cap : Int) := by omega
      have e2 : k ≤ cap := by omega
      have e3 : (0 : Int) ≤ (k : Int) + 1 := by omega
      have e4 : (k : Int) + 1 ≤ (cap : Int) := by omega
      have e5 : k + 1 ≤ cap := by omega
      have ew : IntKind.i64.wrap ((k : Int) + 1) = (k : Int) + 1 := by simp [IntKind.wrap, IntKind.bits, IntKind.signed]; omega
      have et : ((k : Int) + 1).toNat = k + 1 := by omega
      obtain ⟨⟨a, j⟩, hek⟩ : ∃ e : Nat × Bool, ofE n (0, false) (vs.take k) = e := ⟨_, rfl⟩
      obtain ⟨⟨a', j'⟩, hep⟩ : ∃ e : Nat × Bool, ofE n (0, false) (vs.take (k + 1)) = e := ⟨_, rfl⟩
      have HEK := Lib.hid hek
      have HEP := Lib.hid hep
      clear hek hep
      have hor : (a' = a ∧ j' = j) ∨ Hid (¬ (a', j') = (a, j)) ∧ (¬ (a : Int) = (a' : Int) ∨ a' = a ∧ ¬ j = j') := by
        by_cases h : a' = a
        · by_cases h2 : j = j'
          · exact .inl ⟨h, h2.symm⟩
          · exact .inr ⟨Lib.hid fun h3 => h2 (Prod.mk.inj h3).2.symm, .inr ⟨h, h2⟩⟩
        · exact .inr ⟨Lib.hid fun h3 => h (Prod.mk.inj h3).1, .inl (by omega)⟩
      rcases hor with ⟨rfl, rfl⟩ | ⟨HQ, hor | ⟨rfl, hor⟩⟩
      · go_upto_region 5 with fail
        go_region_held3 (fun W => W.cell? ⟨w.heap.size, 0, none⟩ = some (.slice p0 n0 c0) ∧ W.cell? ⟨w.heap.size, 1, none⟩ = some (.slice none 0 0) ∧ W.cell? ⟨w.heap.size, 2, none⟩ = some (.int .u16 x) ∧ W.cell? ⟨w.heap.size, 3, none⟩ = some (.slice gp n gc) ∧ W.cell? ⟨w.heap.size, 4, none⟩ = some (.slice (some ⟨b, off, none⟩) n cc) ∧ W.cell? ⟨w.heap.size, 5, none⟩ = some (.slice none 0 0) ∧ FA w p0 n0 c0 x gp gc b off cc n u5 (chg n vs k) W)
          (first | exact faS HF.out | exact faS (HF.out.below (below_drew _)) | exact faS hF2 | exact faS hF3)
          (first
            | (go_at_call 11; (with_reducible refine (rof_take p0 n0 c0 x gp gc b off cc n p cap k vs w _ (by omega) hn hn0 HS.out HC.out HL.out (HF.out.below (below_drew _)).bl _ HEK.out).mono ?_); rintro e w2 ⟨rfl, hb2⟩; have hF2 := (HF.out.below (below_drew _)).below hb2)
            | (go_at_call 11; (with_reducible refine (rof_take p0 n0 c0 x gp gc b off cc n p cap (k + 1) vs w _ (by omega) hn hn0 HS.out HC.out HL.out hF2.bl _ HEP.out).mono ?_); rintro e w3 ⟨rfl, hb3⟩; have hF3 := hF2.below hb3))
        have HF3 := Lib.hid hF3
        clear hF2 hF3 hb2 hb3 ew et
        go_wp2_with fail
        go_roundw
        case rel => exact ⟨k + 1, by omega, by go_num, by rw [HNO.out (by rw [HEK.out, HEP.out])]; exact HF3.out⟩
        case measure => simp [intOf]; omega
      all_goals
        go_upto_region 5 with fail
        go_region_held3 (fun W => W.cell? ⟨w.heap.size, 0, none⟩ = some (.slice p0 n0 c0) ∧ W.cell? ⟨w.heap.size, 1, none⟩ = some (.slice none 0 0) ∧ W.cell? ⟨w.heap.size, 2, none⟩ = some (.int .u16 x) ∧ W.cell? ⟨w.heap.size, 3, none⟩ = some (.slice gp n gc) ∧ W.cell? ⟨w.heap.size, 4, none⟩ = some (.slice (some ⟨b, off, none⟩) n cc) ∧ W.cell? ⟨w.heap.size, 5, none⟩ = some (.slice none 0 0) ∧ FA w p0 n0 c0 x gp gc b off cc n u5 (chg n vs k) W)
          (first | exact faS HF.out | exact faS (HF.out.below (below_drew _)) | exact faS hF2 | exact faS hF3)
          (first
            | (go_at_call 11; (with_reducible refine (rof_take p0 n0 c0 x gp gc b off cc n p cap k vs w _ (by omega) hn hn0 HS.out HC.out HL.out (HF.out.below (below_drew _)).bl _ HEK.out).mono ?_); rintro e w2 ⟨rfl, hb2⟩; have hF2 := (HF.out.below (below_drew _)).below hb2)
            | (go_at_call 11; (with_reducible refine (rof_take p0 n0 c0 x gp gc b off cc n p cap (k + 1) vs w _ (by omega) hn hn0 HS.out HC.out HL.out hF2.bl _ HEP.out).mono ?_); rintro e w3 ⟨rfl, hb3⟩; have hF3 := hF2.below hb3))
        have HF3 := Lib.hid hF3
        have hsz3 := hF3.2.2.2
        clear hF2 hF3 hb2 hb3 ew et
        go_wp2_with (at_builtin; refine wpList_append_own _ rfl _ _ 30 rfl (w.heap.size + 1) 3 i0 (.int .i64 0) 1 8 Tryz.underlying30 hi hz0 hz1 hz2 rfl (by decide) _ _ _ rfl (HF3.out.2.2.1.alloc _) ⟨w3.heap.size, 0, none⟩ 1 1 [.int .i64 k] rfl rfl ?c1 ?c2 ?c3 ?c4 ?c5 ?_)
        try (case c1 => (intro j u hj; cases j with | zero => (simp at hj; subst hj; simp [Addr.add]) | succ j => simp at hj))
        case c2 => first | rfl | (intro u hu; simp at hu; subst hu; rfl)
        case c3 => unfold maxLen; omega
        case c4 => omega
        case c5 => first | omega | (simp; omega)
        intro v' w6 hown' hgrow _
        have hb6 : Below (w.heap.size + 1) w3 w6 := below_grown (Below.refl _ _) hsz3 HF3.out.2.2.1 hgrow
        rw [inV_snoc] at hown'
        have H6 := Lib.hid (show FA w p0 n0 c0 x gp gc b off cc n v' (chg n vs k ++ [k]) w6 from ⟨(hb6.block _ (by omega)).trans HF3.out.1, HF3.out.2.1.trans (hb6.mono (by omega)), by rw [List.length_append]; exact hown', Nat.le_trans hsz3 hb6.size⟩)
        clear hown' hgrow hb6
        go_wp2_with fail
        go_roundw
        case rel => exact ⟨k + 1, by omega, by go_num, by rw [HY.out (by rw [HEK.out, HEP.out]; exact HQ.out)]; exact H6.out⟩
        case measure => simp [intOf]; omega
    · have hkl : k = vs.length := by have := HLN.out; omega
      obtain ⟨p5, c5, hv5, hp5, _⟩ := intL_of_own HF.out.2.2.1
      subst hv5
      subst hkl
      go_wp2_with fail
      go_ret
      exact ⟨p5, c5, rfl, hp5, HF.out.2.1⟩

set_option maxHeartbeats 1600000 in
set_option maxRecDepth 1000000 in
theorem numbers_ex (p q : Option Addr) (cp cq : Nat) (l : List Nat) (w : World) (hl : l.length ≤ 1000) (hp : IntL w p l) (hq : IntL w q l) : Calls Tryz.prog 12 #[.slice p l.length cp, .slice q l.length cq] w (IsB true w) := by
  have HP := Lib.hid hp
  have HQ := Lib.hid hq
  clear hp hq
  generalize hln : l.length = ln at hl ⊢
  have HLN := Lib.hid hln
  clear hln
  go_enter Tryz.func12, Tryz.ntmps12
  go_wp2_with fail
  go_loopw [5] (fun i wr => ∃ k : Nat, k ≤ ln ∧ i = .int .i64 k ∧ Below w.heap.size w wr) (fun i _ => ln - (intOf i).toNat)
  case atStart => exact ⟨0, Nat.zero_le _, rfl, Below.refl _ _⟩
  case round =>
    obtain ⟨k, hk, rfl, hb⟩ := hrel
    by_cases hkn : k < ln
    · have hkv : k < l.length := by have := HLN.out; omega
      obtain ⟨b1', o1, rfl, hb1, hc1⟩ : ∃ b off, p = some ⟨b, off, none⟩ ∧ b < w.heap.size ∧ w.cell? ⟨b, off + k, none⟩ = some (.int .i64 (l[k] : Nat)) := by
        rcases HP.out with h | ⟨b, off, h1, h2, h3⟩
        · subst h; simp at hkv
        · exact ⟨b, off, h1, h2, h3 k hkv⟩
      obtain ⟨b2', o2, rfl, hb2, hc2⟩ : ∃ b off, q = some ⟨b, off, none⟩ ∧ b < w.heap.size ∧ w.cell? ⟨b, off + k, none⟩ = some (.int .i64 (l[k] : Nat)) := by
        rcases HQ.out with h | ⟨b, off, h1, h2, h3⟩
        · subst h; simp at hkv
        · exact ⟨b, off, h1, h2, h3 k hkv⟩
      have d1 := (hb.cell (p := ⟨b1', o1 + k, none⟩) hb1).trans hc1
      have d2 := (hb.cell (p := ⟨b2', o2 + k, none⟩) hb2).trans hc2
      have e0 : (0 : Int) ≤ (k : Int) := by omega
      have e1 : (k : Int) < (ln : Int) := by omega
      have HB := Lib.hid hb
      clear hc1 hc2 hb
      go_upto_region 6 with fail
      go_quiet (fail)
      go_wp2_with fail
      go_roundw
      case rel => exact ⟨k + 1, by omega, by go_num, below_drewN HB.out _⟩
      case measure => simp [intOf]; omega
    · go_wp2_with fail
      go_ret
      exact ⟨rfl, hb⟩
end Go.Proofs.YtmcnpaehmnadeaaGreatDoor
