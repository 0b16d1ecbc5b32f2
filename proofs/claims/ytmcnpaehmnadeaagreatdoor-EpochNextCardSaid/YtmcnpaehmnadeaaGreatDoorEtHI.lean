/-
  EpochOf: entry.value of a batch returns.
-/
import Derived.Test.YtmcnpaehmnadeaaGreatDoorEtEG
import Derived.Deep.AppendLies
import Derived.Laws.ResultCell
import Derived.Deep.RegionLaw
import Derived.Deep.CutBlock
set_option maxHeartbeats 6400000
set_option maxRecDepth 1000000
namespace Go.Proofs.YtmcnpaehmnadeaaGreatDoor
open Go Go.RowKit
structure VB (w : World) (v : Value) (ss : List ByteArray) (W : World) : Prop where
 bl : Below w.heap.size w W
 own : W.ownsRow w.heap.size 9 1 v ss.length (strVs ss)
 all : AllSz 1000 ss
theorem VB.below {w : World} {v : Value} {ss : List ByteArray} {W W' : World} (h : VB w v ss W) (hb : Below W.heap.size W W') : VB w v ss W' :=
 ⟨h.bl.trans (hb.mono h.bl.size), own_below h.own hb, h.all⟩
def VQ (w : World) (v : Value) (ss : List ByteArray) (q : Nat) (c n : Int) (s : ByteArray) (W : World) : Prop :=
 VB w v ss W ∧ W.heap[q]? = some (.cells #[.int .i64 c, .int .i64 n, .string s] 81 (0, 0))
theorem VQ.below {w : World} {v : Value} {ss : List ByteArray} {q : Nat} {c n : Int} {s : ByteArray} {W W' : World} (h : VQ w v ss q c n s W) (hb : Below W.heap.size W W') : VQ w v ss q c n s W' :=
 ⟨h.1.below hb, (hb.block q (gLt h.2)).trans h.2⟩
theorem VQ.drew {w : World} {v : Value} {ss : List ByteArray} {q : Nat} {c n : Int} {s : ByteArray} {W : World} (h : VQ w v ss q c n s W) : VQ w v ss q c n s W.drew := h.below ⟨rfl, rfl, rfl, Nat.le_refl _, fun _ _ => rfl⟩
theorem VQ.alloc {w : World} {v : Value} {ss : List ByteArray} {q : Nat} {c n : Int} {s : ByteArray} {W : World} (h : VQ w v ss q c n s W) (o : Obj) : VQ w v ss q c n s (W.alloc o) := h.below ((Below.refl _ _).alloc (Nat.le_refl _) _)
def VP (w : World) (q : Nat) (c n : Int) (s : ByteArray) (W : World) : Prop := Below w.heap.size w W ∧ W.heap[q]? = some (.cells #[.int .i64 c, .int .i64 n, .string s] 81 (0, 0))
theorem vpS {w : World} {q : Nat} {c n : Int} {s : ByteArray} {W : World} (h : VP w q c n s W) :
  W.cell? ⟨q, 0, none⟩ = some (.int .i64 c) ∧ W.cell? ⟨q, 1, none⟩ = some (.int .i64 n) ∧ W.cell? ⟨q, 2, none⟩ = some (.string s) ∧ VP w q c n s W := ⟨cellOf h.2 rfl, cellOf h.2 rfl, cellOf h.2 rfl, h⟩
theorem vqS {w : World} {v : Value} {ss : List ByteArray} {q : Nat} {c n : Int} {s : ByteArray} {W : World} (h : VQ w v ss q c n s W) :
  W.cell? ⟨q, 0, none⟩ = some (.int .i64 c) ∧ W.cell? ⟨q, 1, none⟩ = some (.int .i64 n) ∧ W.cell? ⟨q, 2, none⟩ = some (.string s) ∧ VP w q c n s W := vpS ⟨h.1.bl, h.2⟩
def StrQ (B : Nat) (w : World) (v : Value) (ss : List ByteArray) (q : Nat) (c n : Int) (s : ByteArray) (e : Ending) (w' : World) : Prop := ∃ x : ByteArray, x.size ≤ B ∧ e = .returned (.string x) ∧ VQ w v ss q c n s w'
theorem itoaQ {w : World} {v : Value} {ss : List ByteArray} {q : Nat} {c n : Int} {s : ByteArray} {W : World} (hG : GL w) (x : Int) (hx : I64 x) (h : VQ w v ss q c n s W) : Calls Tryz.prog 60 #[.int .i64 x] W (StrQ 21 w v ss q c n s) :=
 (itoa_any x W hx (hG.below h.1.bl)).mono fun _ _ ⟨y, h1, h2, h3⟩ => ⟨y, h1, h2, h.below h3⟩
theorem strVs_app (ss : List ByteArray) (x y z : ByteArray) : strVs ss ++ [.string x, .string y, .string z] = strVs (ss ++ [x, y, z]) := by simp [strVs]
theorem AllSz.app3 {B : Nat} {ss : List ByteArray} (h : AllSz B ss) {x y z : ByteArray} (hx : x.size ≤ B) (hy : y.size ≤ B) (hz : z.size ≤ B) : AllSz B (ss ++ [x, y, z]) := by
 have := ((h.snoc hx).snoc hy).snoc hz
 simpa using this
theorem vb_grown {w : World} {v v' : Value} {ss ss' : List ByteArray} {W W' : World} (h : VB w v ss W) (ho : W'.ownsRow w.heap.size 9 1 v' ss'.length (strVs ss')) (ha : AllSz 1000 ss') (hg : W.grownBy W' v.ownBlock) : VB w v' ss' W' :=
 ⟨h.bl.grown hg h.bl.size (fun k hk => (h.own.lt k hk).1), ho, ha⟩
theorem vq_grown {w : World} {v : Value} {ss : List ByteArray} {q : Nat} {c n : Int} {s : ByteArray} {W W' : World} (h : VQ w v ss q c n s W) (hne : v.ownBlock ≠ some q) (hg : W.grownBy W' v.ownBlock) : VP w q c n s W' :=
 ⟨h.1.bl.grown hg h.1.bl.size (fun k hk => (h.1.own.lt k hk).1), (hg.block q (gLt h.2) (fun e => hne e.symm)).trans h.2⟩
theorem own_one (w : World) (o : Obj) (x : ByteArray) : ((w.alloc o).alloc (.cells #[.string x] 9)).ownsRow w.heap.size 9 1 (.slice (some ⟨w.heap.size + 1, 0, none⟩) 1 1) [x].length (strVs [x]) := by
 refine ⟨rfl, .inr ⟨w.heap.size + 1, 1, #[.string x], rfl, by omega, heap_alloc2_new w o _, Nat.le_refl _, by unfold maxLen; omega, rfl, rfl⟩⟩
theorem valueB_any (c0 : Int) (p : Option Addr) (k cap : Nat) (w : World) (hk : k ≤ 300) (hr : ReqsP w p k) (hG : GL w) : Calls Tryz.prog 39 #[.agg #[.int .i64 1, .int .i64 c0, .slice p k cap]] w (StrRet 1000000000 w) := by
 obtain ⟨i0, hi, hz0, hz1, hz2⟩ := info_parts Tryz.info9
 have HR := Lib.hid hr
 have HG := Lib.hid hG
 clear hr hG
 go_enter Tryz.func39, Tryz.ntmps39
 go_upto_region 8 with fail
 have hV0 : VB w (.slice (some ⟨w.heap.size + 1, 0, none⟩) 1 1) [⟨#[98, 97, 116, 99, 104]⟩] ((w.alloc (.cells #[.int .i64 1, .int .i64 c0, .slice p k cap] 61)).alloc (.cells #[.string ⟨#[98, 97, 116, 99, 104]⟩] 9)) :=
  ⟨((Below.refl _ _).alloc (Nat.le_refl _) _).alloc (by simp) _, own_one w _ _, fun x hx => by rcases List.mem_singleton.mp hx with rfl; exact (by decide)⟩
 have HV0 := Lib.hid hV0
 clear hV0
 generalize (w.alloc (.cells #[.int .i64 1, .int .i64 c0, .slice p k cap] 61)).alloc (.cells #[.string ⟨#[98, 97, 116, 99, 104]⟩] 9) = W2 at HV0 ⊢
 go_loopw [3, 23] (fun v i wr => ∃ (j : Nat) (ss : List ByteArray), j ≤ k ∧ i = .int .i64 j ∧ ss.length = 1 + j * 3 ∧ VB w v ss wr) (fun _ i _ => k - (intOf i).toNat)
 case atStart => exact ⟨0, _, Nat.zero_le _, rfl, rfl, HV0.out⟩
 case round =>
  obtain ⟨j, ss, hj, rfl, hl, hV⟩ := hrel
  have HV := Lib.hid hV
  by_cases hjk : j < k
  ·obtain ⟨b, off, rfl, hbb, c, n, s, hc, hn, hs, k0, k1, k2⟩ : ∃ b off, p = some ⟨b, off, none⟩ ∧ b < w.heap.size ∧ ReqAt w b (off + j * 3) := by
    rcases HR.out with h | ⟨b, off, h1, h2, h3⟩
    ·omega
    ·exact ⟨b, off, h1, h2, h3 j hjk⟩
   have d0 := (hV.bl.cell (p := ⟨b, off + j * 3, none⟩) hbb).trans k0
   have d1 := (hV.bl.cell (p := ⟨b, off + j * 3 + 1, none⟩) hbb).trans k1
   have d2 := (hV.bl.cell (p := ⟨b, off + j * 3 + 2, none⟩) hbb).trans k2
   have hsz := hV.bl.size
   have hne : u3.ownBlock ≠ some wr.heap.size := fun e => by have := (hV.own.lt _ e).2; omega
   clear k0 k1 k2
   go_upto_region 10 with fail
   have hQ : VQ w u3 ss wr.heap.size c n s (wr.alloc (.cells #[.int .i64 c, .int .i64 n, .string s] 81)) := ⟨hV.below ((Below.refl _ _).alloc (Nat.le_refl _) _), heap_alloc_new wr _⟩
   have hsz1 : w.heap.size < (wr.alloc (.cells #[.int .i64 c, .int .i64 n, .string s] 81)).heap.size := by rw [World.size_alloc]; omega
   clear d0 d1 d2 hV
   revert hQ hsz1
   generalize wr.alloc (.cells #[.int .i64 c, .int .i64 n, .string s] 81) = W1
   generalize wr.heap.size = q at hne hsz ⊢
   intro hQ hsz1
   have HQ := Lib.hid hQ
   have hss : ss.length ≤ 1000 := by omega
   have HL := Lib.hid hl
   clear hQ hl
   go_region_held3 (fun W => W.cell? ⟨q, 0, none⟩ = some (.int .i64 c) ∧ W.cell? ⟨q, 1, none⟩ = some (.int .i64 n) ∧ W.cell? ⟨q, 2, none⟩ = some (.string s) ∧ VP w q c n s W)
    (first | exact vqS HQ.out | exact vqS HQ.out.drew | exact vqS hQ2 | exact vqS hQ3 | exact vqS (hQ3.alloc _) | exact vpS hP5)
    (first
     | (go_at_call 60; (with_reducible refine (itoaQ HG.out c hc HQ.out.drew).mono ?_); rintro e w2 ⟨x2, hx2, rfl, hQ2⟩)
     | (go_at_call 60; (with_reducible refine (itoaQ HG.out n hn hQ2).mono ?_); rintro e w3 ⟨x3, hx3, rfl, hQ3⟩)
     | (refine step_append_lies _ (by rfl) _ _ _ (by rfl) w.heap.size 9 i0 (.string ⟨#[]⟩) 1 16 Tryz.underlying25 hi hz0 hz1 hz2 rfl (by omega) u3 ss.length (strVs ss) (by rfl) ((hQ3.alloc _).1.own) ⟨w3.heap.size, 0, none⟩ 3 3 [.string x2, .string x3, .string s] (by rfl) (by rfl) (World.news_of_block (cs := #[.string x2, .string x3, .string s]) (t := 9) (fr := (0, 0)) (heap_alloc_new w3 _)) (by simp [Value.oneCell']) (by omega) (by unfold maxLen; omega) (by omega) (by have := hQ3.1.bl.size; simp; omega) (w3.heap.size + 1) (by simp) ?_; intro g5 c5 w5 hown5 hgrow hat hlt; have hP5 := vq_grown (hQ3.alloc _) hne hgrow))
   rw [strVs_app] at hown5
   have hV5 := vb_grown (hQ3.alloc _).1 (ss' := ss ++ [x2, x3, s]) (by rw [List.length_append]; exact hown5) (HQ.out.1.all.app3 (by omega) (by omega) hs) hgrow
   have HV5 := Lib.hid hV5
   clear hown5 hgrow hat hV5
   go_wp2_with fail
   go_roundw
   case rel => exact ⟨j + 1, ss ++ [x2, x3, s], by omega, by go_num, by rw [List.length_append, HL.out]; show _ + 3 = _; omega, HV5.out⟩
   case measure => simp [intOf]; omega
  ·have hss : ss.length ≤ 1000 := by omega
   obtain ⟨p3, c3, hv, hp3⟩ := strsV_of_own hV.own hV.all
   subst hv
   have hbw := hV.bl
   clear hV hl
   go_wp2_with (go_at_call 59; refine (putList_any p3 ss.length c3 1000 _ hss (by omega) hp3).mono ?_; rintro e w2 ⟨x, hx, rfl, hb2⟩)
   go_ret
   exact ⟨x, Nat.le_trans hx (by have := Nat.mul_le_mul_right (1000 + 10) hss; omega), rfl, hbw.trans (hb2.mono hbw.size)⟩
end Go.Proofs.YtmcnpaehmnadeaaGreatDoor
/-
  EpochOf: requests in a row of the call's own.
-/
namespace Go.Proofs.YtmcnpaehmnadeaaGreatDoor
open Go Go.RowKit
def rqV : List (Int × Int × ByteArray) → List Value
 | [] => []
 | x :: t => .int .i64 x.1 :: .int .i64 x.2.1 :: .string x.2.2 :: rqV t
theorem rqV_append : ∀ A B, rqV (A ++ B) = rqV A ++ rqV B
 | [], _ => rfl
 | x :: t, B => by simp [rqV, rqV_append t B]
theorem rqV_get : ∀ {L : List (Int × Int × ByteArray)} {i : Nat} {x : Int × Int × ByteArray}, L[i]? = some x → (rqV L)[i * 3]? = some (.int .i64 x.1) ∧ (rqV L)[i * 3 + 1]? = some (.int .i64 x.2.1) ∧ (rqV L)[i * 3 + 2]? = some (.string x.2.2)
 | [], _, _, h => by simp at h
 | a :: t, 0, x, h => by simp at h; subst h; exact ⟨rfl, rfl, rfl⟩
 | a :: t, i + 1, x, h => by
  have := rqV_get (L := t) (i := i) (x := x) (by simpa using h)
  rw [show (i + 1) * 3 = i * 3 + 1 + 1 + 1 by omega]
  exact this
def AllRq (rs : List (Int × Int × ByteArray)) : Prop := ∀ x ∈ rs, I64 x.1 ∧ I64 x.2.1 ∧ x.2.2.size ≤ 1000
theorem AllRq.snoc {rs : List (Int × Int × ByteArray)} (h : AllRq rs) {c n : Int} {s : ByteArray} (hc : I64 c) (hn : I64 n) (hs : s.size ≤ 1000) : AllRq (rs ++ [(c, n, s)]) := fun x hx => by
 rcases List.mem_append.mp hx with hx | hx
 ·exact h x hx
 ·rcases List.mem_singleton.mp hx with rfl
  exact ⟨hc, hn, hs⟩
theorem reqs_of_own {w : World} {base : Nat} {v : Value} {rs : List (Int × Int × ByteArray)} (h : w.ownsRow base 81 3 v rs.length (rqV rs)) (ha : AllRq rs) : ∃ p cap, v = .slice p rs.length cap ∧ ReqsP w p rs.length ∧ rs.length ≤ cap := by
 rcases h.2 with ⟨rfl, h0⟩ | ⟨g, cap, cur, rfl, _, hc, hcap, _, hsz, hx⟩
 ·have : rs.length = 0 := by simpa using h0
  rw [this]
  exact ⟨none, 0, rfl, .inl rfl, Nat.le_refl _⟩
 ·have hg : g < w.heap.size := (gLt hc)
  refine ⟨_, cap, rfl, .inr ⟨g, 0, rfl, hg, fun i hi => ?_⟩, hcap⟩
  have hxi : rs[i]? = some rs[i] := List.getElem?_eq_getElem hi
  obtain ⟨g1, g2, g3⟩ := rqV_get hxi
  obtain ⟨a1, a2, a3⟩ := ha _ (List.mem_of_getElem? hxi)
  have cell : ∀ j u, (rqV rs)[j]? = some u → w.cell? ⟨g, 0 + j, none⟩ = some u := fun j u hj => by
   have hj2 : (cur.toList.take (rs.length * 3))[j]? = some u := by rw [hx]; exact hj
   rw [List.getElem?_take] at hj2
   split at hj2
   ·simp [World.cell?, hc]
    simpa using hj2
   ·cases hj2
  exact ⟨_, _, _, a1, a2, a3, cell _ _ g1, by have := cell _ _ g2; rwa [← Nat.add_assoc] at this, by have := cell _ _ g3; rwa [← Nat.add_assoc] at this⟩
theorem Tryz.info81 : (Tryz.prog.info? 81).map (fun i => (i.zero, i.size, i.bytes)) = some (some (.agg #[.int .i64 0, .int .i64 0, .string ⟨#[]⟩]), 3, 32) := by kernel_rfl
end Go.Proofs.YtmcnpaehmnadeaaGreatDoor
/-
  EpochOf: entry.Decode returns; it turns an epoch at seven values alone.
-/
namespace Go.Proofs.YtmcnpaehmnadeaaGreatDoor
open Go Go.RowKit
def DecRet (s : ByteArray) (w : World) (e : Ending) (w' : World) : Prop :=
 ∃ (kd cf : Int) (p : Option Addr) (k cap : Nat) (r : Int), e = .returned (.tuple #[.agg #[.int .i64 kd, .int .i64 cf, .slice p k cap], .int .i64 r]) ∧ (r = 0 → (kd = 2 → ∃ c : Nat, c < 6 ∧ s = jB c) ∧ (kd = 3 → s = fB)) ∧ Below w.heap.size w w'
theorem Tryz.size61 : (Tryz.prog.info? 61).map (·.size) = some 3 := by kernel_rfl
theorem ret61 {w : World} {fn : Func} {tmps : Array Value} {p u : Tmp} (h : fn.results = #[.cell p 61, .tmp u]) {R : Nat} {cs : Array Value} (hp : tmps.getD p undef = .pointer (some ⟨R, 0, none⟩)) (hg : w.heap[R]? = some (.cells cs 61 (0, 0))) (hs : cs.size = 3) :
  (results fn tmps).run Tryz.prog w = .ok (.tuple #[.agg cs, tmps.getD u undef]) w := by
 have hl := run_loadVar_row (P := Tryz.prog) w R 61 61 cs (0, 0) _ hg Tryz.underlying61 rfl (by rw [hs]; exact Tryz.size61)
 have hp' : tmps[p]?.getD undef = .pointer (some ⟨R, 0, none⟩) := by simpa using hp
 simp [results, h, hp', asAddr, hl]
structure DS (w : World) (R O : Nat) (kd cf : Int) (p : Option Addr) (k cap : Nat) (W : World) : Prop where
 rb : W.heap[R]? = some (.cells #[.int .i64 0, .int .i64 0, .slice none 0 0] 61 (0, 0))
 ob : W.heap[O]? = some (.cells #[.int .i64 kd, .int .i64 cf, .slice p k cap] 61 (0, 0))
 bl : Below w.heap.size w W
 ne : R ≠ O
 ge : w.heap.size ≤ R ∧ w.heap.size ≤ O
theorem DS.below {w : World} {R O : Nat} {kd cf : Int} {p : Option Addr} {k cap : Nat} {W W' : World} (h : DS w R O kd cf p k cap W) (hb : Below W.heap.size W W') : DS w R O kd cf p k cap W' :=
 ⟨(hb.block _ (gLt h.rb)).trans h.rb, (hb.block _ (gLt h.ob)).trans h.ob, h.bl.trans (hb.mono h.bl.size), h.ne, h.ge⟩
def Read (kd cf : Int) (p : Option Addr) (k cap : Nat) (W : World) : Prop :=
 (kd = 2 ∧ I64 cf ∧ p = none ∧ k = 0 ∧ cap = 0) ∨ (kd = 3 ∧ cf = 0 ∧ p = none ∧ k = 0 ∧ cap = 0) ∨ (kd = 1 ∧ cf = 0 ∧ ReqsP W p k ∧ k ≤ 300 ∧ k ≤ cap)
theorem row_set3 {W : World} {b : Nat} {a0 a1 a2 : Value} {t : TypeId} (h : W.heap[b]? = some (.cells #[a0, a1, a2] t (0, 0))) (v0 v1 v2 : Value) : (((W.setCell ⟨b, 0, none⟩ v0).setCell ⟨b, 1, none⟩ v1).setCell ⟨b, 2, none⟩ v2).heap[b]? = some (.cells #[v0, v1, v2] t (0, 0)) := by
 unfold World.setCell
 simp [Array.getElem?_modify, h]
theorem dec_end {s : ByteArray} {w W : World} {fn : Func} {R : Nat} {a0 a1 a2 : Value} (hfn : fn.results = #[.cell 2 61, .tmp 3]) (hR : W.heap[R]? = some (.cells #[a0, a1, a2] 61 (0, 0))) (hb : Below w.heap.size w W) (hge : w.heap.size ≤ R) (kd cf : Int) (p : Option Addr) (k cap : Nat) (r : Int)
  (hr : r = 0 → (kd = 2 → ∃ c : Nat, c < 6 ∧ s = jB c) ∧ (kd = 3 → s = fB)) (tmps : Array Value) (h2 : tmps.getD 2 undef = .pointer (some ⟨R, 0, none⟩)) (h3 : tmps.getD 3 undef = .int .i64 r) :
  bodyPost Tryz.prog fn (DecRet s w) Exit.ret { tmps := tmps, defers := [] } (((W.setCell ⟨R, 0, none⟩ (.int .i64 kd)).setCell ⟨R, 1, none⟩ (.int .i64 cf)).setCell ⟨R, 2, none⟩ (.slice p k cap)) := by
 have hrow := row_set3 hR (.int .i64 kd) (.int .i64 cf) (.slice p k cap)
 have hrun := ret61 (tmps := tmps) hfn h2 hrow rfl
 rw [h3] at hrun
 exact bodyPost_ret hrun rfl ⟨kd, cf, p, k, cap, r, rfl, hr, below_set (below_set (below_set hb (p := ⟨R, 0, none⟩) hge _) (p := ⟨R, 1, none⟩) hge _) (p := ⟨R, 2, none⟩) hge _⟩
def StrsLt (O : Nat) (w : World) (p : Option Addr) (n B : Nat) : Prop := n = 0 ∨ ∃ b off, p = some ⟨b, off, none⟩ ∧ b < O ∧ ∀ i, i < n → ∃ s : ByteArray, w.cell? ⟨b, off + i, none⟩ = some (.string s) ∧ s.size ≤ B
theorem StrsP.lt {w : World} {p : Option Addr} {n B O : Nat} (h : StrsP w p n B) (hlt : ∀ q, p = some q → n ≠ 0 → q.block < O) : StrsLt O w p n B := by
 by_cases hn : n = 0
 ·exact .inl hn
 ·rcases h with h0 | ⟨b, off, rfl, hb, hi⟩
  ·exact .inl h0
  ·exact .inr ⟨b, off, rfl, hlt _ rfl hn, hi⟩
def lenOf : Value → Nat
 | .slice _ n _ => n
 | _ => 0
theorem decL {w W W' : World} {R O : Nat} {pv : Option Addr} {kv cv : Nat} {rs : List (Int × Int × ByteArray)} (h : DS w R O 1 0 none 0 0 W) (hO : W'.heap[O]? = some (.cells #[.int .i64 1, .int .i64 0, .slice pv kv cv] 61 (0, 0))) (ho : W'.ownsRow (O + 1) 81 3 (.slice pv kv cv) rs.length (rqV rs)) (ha : AllRq rs) (hb : Below O W W') (hRO : R < O) (hl : rs.length ≤ 300) :
  ∃ (kd cf : Int) (p : Option Addr) (k cap : Nat), DS w R O kd cf p k cap W' ∧ Read kd cf p k cap W' := by
 obtain ⟨p, cap, e, hr, hc⟩ := reqs_of_own ho ha
 injection e with e1 e2 e3
 subst e1; subst e2; subst e3
 exact ⟨1, 0, pv, _, cv, ⟨(hb.block R hRO).trans h.rb, hO, h.bl.trans (hb.mono h.ge.2), h.ne, h.ge⟩, .inr (.inr ⟨rfl, rfl, hr, hl, hc⟩)⟩
theorem row3_0 {W : World} {b : Nat} {a0 a1 a2 : Value} {t : TypeId} (h : W.heap[b]? = some (.cells #[a0, a1, a2] t (0, 0))) (v : Value) : (W.setCell ⟨b, 0, none⟩ v).heap[b]? = some (.cells #[v, a1, a2] t (0, 0)) := by
 unfold World.setCell
 simp [Array.getElem?_modify, h]
theorem row3_1 {W : World} {b : Nat} {a0 a1 a2 : Value} {t : TypeId} (h : W.heap[b]? = some (.cells #[a0, a1, a2] t (0, 0))) (v : Value) : (W.setCell ⟨b, 1, none⟩ v).heap[b]? = some (.cells #[a0, v, a2] t (0, 0)) := by
 unfold World.setCell
 simp [Array.getElem?_modify, h]
theorem row3_2 {W : World} {b : Nat} {a0 a1 a2 : Value} {t : TypeId} (h : W.heap[b]? = some (.cells #[a0, a1, a2] t (0, 0))) (v : Value) : (W.setCell ⟨b, 2, none⟩ v).heap[b]? = some (.cells #[a0, a1, v] t (0, 0)) := by
 unfold World.setCell
 simp [Array.getElem?_modify, h]
theorem DS.kind {w : World} {R O : Nat} {kd cf : Int} {p : Option Addr} {k cap : Nat} {W : World} (h : DS w R O kd cf p k cap W) (kd' : Int) : DS w R O kd' cf p k cap (W.setCell ⟨O, 0, none⟩ (.int .i64 kd')) :=
 ⟨(Below.heap_setCell W ⟨O, 0, none⟩ _ R h.ne).trans h.rb, row3_0 h.ob _, below_set h.bl h.ge.2 _, h.ne, h.ge⟩
theorem DS.conf {w : World} {R O : Nat} {kd cf : Int} {p : Option Addr} {k cap : Nat} {W : World} (h : DS w R O kd cf p k cap W) (cf' : Int) : DS w R O kd cf' p k cap (W.setCell ⟨O, 1, none⟩ (.int .i64 cf')) :=
 ⟨(Below.heap_setCell W ⟨O, 1, none⟩ _ R h.ne).trans h.rb, row3_1 h.ob _, below_set h.bl h.ge.2 _, h.ne, h.ge⟩
theorem ba_eq {a b : ByteArray} (h : (!a.toList == b.toList) = false) : b = a := by
 have h1 : a.toList = b.toList := by simpa using h
 rw [ByteArray.toList_eq, ByteArray.toList_eq] at h1
 cases a; cases b; congr 1; exact (Array.toList_inj.mp h1).symm
structure LS (O : Nat) (w2 : World) (b8 o8 : Nat) (y0 y1 y2 : ByteArray) (pv : Option Addr) (kv cv : Nat) (rs : List (Int × Int × ByteArray)) (W : World) : Prop where
 ob : W.heap[O]? = some (.cells #[.int .i64 1, .int .i64 0, .slice pv kv cv] 61 (0, 0))
 own : W.ownsRow (O + 1) 81 3 (.slice pv kv cv) rs.length (rqV rs)
 bl : Below O w2 W
 c0 : W.cell? ⟨b8, o8, none⟩ = some (.string y0)
 c1 : W.cell? ⟨b8, o8 + 1, none⟩ = some (.string y1)
 c2 : W.cell? ⟨b8, o8 + 2, none⟩ = some (.string y2)
 lt : b8 < O
theorem LS.lt' {O : Nat} {w2 : World} {b8 o8 : Nat} {y0 y1 y2 : ByteArray} {pv : Option Addr} {kv cv : Nat} {rs : List (Int × Int × ByteArray)} {W : World} (h : LS O w2 b8 o8 y0 y1 y2 pv kv cv rs W) : O < W.heap.size := (gLt h.ob)
theorem LS.below {O : Nat} {w2 : World} {b8 o8 : Nat} {y0 y1 y2 : ByteArray} {pv : Option Addr} {kv cv : Nat} {rs : List (Int × Int × ByteArray)} {W W' : World} (h : LS O w2 b8 o8 y0 y1 y2 pv kv cv rs W) (hb : Below W.heap.size W W') : LS O w2 b8 o8 y0 y1 y2 pv kv cv rs W' := by
 have hO := h.lt'
 have hlt := h.lt
 exact ⟨(hb.block _ hO).trans h.ob, own_below h.own hb, h.bl.trans (hb.mono (by omega)), (hb.cell (p := ⟨b8, o8, none⟩) (by show b8 < _; omega)).trans h.c0, (hb.cell (p := ⟨b8, o8 + 1, none⟩) (by show b8 < _; omega)).trans h.c1, (hb.cell (p := ⟨b8, o8 + 2, none⟩) (by show b8 < _; omega)).trans h.c2, hlt⟩
theorem LS.grown {O : Nat} {w2 : World} {b8 o8 : Nat} {y0 y1 y2 : ByteArray} {pv : Option Addr} {kv cv : Nat} {rs : List (Int × Int × ByteArray)} {W W' : World} {o : Obj} {v' : Value} (h : LS O w2 b8 o8 y0 y1 y2 pv kv cv rs W) {n : Nat} {xs : List Value} (_ho : W'.ownsRow (O + 1) 81 3 v' n xs) (hg : (W.alloc o).drew.grownBy W' (Value.slice pv kv cv).ownBlock) :
  W'.heap[O]? = some (.cells #[.int .i64 1, .int .i64 0, .slice pv kv cv] 61 (0, 0)) ∧ Below O w2 W' := by
 have hO := h.lt'
 have hb : Below (O + 1) W W' := below_grown (o := o) (Below.refl _ _) hO h.own ⟨hg.os, hg.tape, hg.output, hg.size, hg.block⟩
 exact ⟨(hb.block O (by omega)).trans h.ob, h.bl.trans (hb.mono (by omega))⟩
theorem decode_weak (s : ByteArray) (w : World) (hs : s.size ≤ 300) (hG : GL w) : Calls Tryz.prog 23 #[.string s] w (DecRet s w) := by
 have HG := Lib.hid hG
 obtain ⟨i1, hi1, q0, q1, q2⟩ := info_parts Tryz.info81
 clear hG
 go_enter Tryz.func23, Tryz.ntmps23
 go_upto_region 2 with (go_at_call 36; refine (getList_any s _ (by omega)).mono ?_; rintro e w1 ⟨lp, ln, lc, kk, ec, rfl, hS, hln, hlc, hb1⟩)
 have hR1 : w1.heap[w.heap.size]? = some (.cells #[.int .i64 0, .int .i64 0, .slice none 0 0] 61 (0, 0)) := (hb1.block _ (by rw [World.size_alloc]; omega)).trans (heap_alloc_new w _)
 have hbw : Below w.heap.size w w1 := ((Below.refl _ _).alloc (Nat.le_refl _) _).trans (hb1.mono (by simp))
 have hlt1 : w.heap.size < w1.heap.size := (gLt hR1)
 have HR1 := Lib.hid hR1
 have HBW := Lib.hid hbw
 have HS := Lib.hid hS
 have r0 := cellOf hR1 (j := 0) rfl
 have r1 := cellOf hR1 (j := 1) rfl
 have r2 := cellOf hR1 (j := 2) rfl
 have f0 := frozenOf hR1 (j := 0)
 have f1 := frozenOf hR1 (j := 1)
 have f2 := frozenOf hR1 (j := 2)
 clear hR1 hbw hS hb1
 by_cases hec : ec = 0
 ·subst hec
  by_cases hl0 : ln = 0
  ·subst hl0
   go_wp2_with fail
   exact dec_end rfl HR1.out HBW.out (Nat.le_refl _) 0 0 none 0 0 2 (fun h => by omega) _ rfl rfl
  ·obtain ⟨b, off, rfl, hbb, hcells⟩ : ∃ b off, lp = some ⟨b, off, none⟩ ∧ StrsAt w1 b off ln s.size := by
    rcases HS.out with h | h
    ·exact absurd h hl0
    ·exact h
   obtain ⟨x0, hx0, hx0s⟩ := hcells 0 (by omega)
   have e1 : (1 : Int) ≤ (ln : Int) := by omega
   have e2 : (ln : Int) ≤ (lc : Int) := by omega
   have e3 : 1 ≤ ln := by omega
   go_upto_block 0 with fail
   obtain ⟨p8, hp8⟩ : ∃ p8 : Option Addr, p8 = (if lc = 1 then some ⟨b, off, none⟩ else some ⟨b, off + 1, none⟩) := ⟨_, rfl⟩
   have hS8 : StrsP w1 p8 (ln - 1) s.size := by
    by_cases h : ln = 1
    ·exact .inl (by omega)
    ·rw [if_neg (by omega)] at hp8
     exact .inr ⟨b, off + 1, hp8, hbb, fun i hi => by rw [Nat.add_assoc, Nat.add_comm 1 i]; exact hcells (i + 1) (by omega)⟩
   have hPB : ∀ q, p8 = some q → ln - 1 ≠ 0 → q.block < w1.heap.size := fun q hq _ => by
    rw [hp8] at hq
    split at hq <;> (injection hq with hq; subst hq; exact hbb)
   rw [← hp8]
   have hn8 : ln - 1 ≤ lc - 1 := by omega
   have hn8' : ln - 1 ≤ 300 := by omega
   have hbel : Below w1.heap.size w1 (w1.alloc (.cells #[.int .i64 1, .int .i64 0, .slice none 0 0] 61)) := (Below.refl _ _).alloc (Nat.le_refl _) _
   have hD : DS w w.heap.size w1.heap.size 1 0 none 0 0 (w1.alloc (.cells #[.int .i64 1, .int .i64 0, .slice none 0 0] 61)) := ⟨(hbel.block _ hlt1).trans HR1.out, heap_alloc_new w1 _, HBW.out.trans (hbel.mono (Nat.le_of_lt hlt1)), by omega, Nat.le_refl _, Nat.le_of_lt hlt1⟩
   have hS8' := hS8.below hbel
   have hx0' : (w1.alloc (.cells #[.int .i64 1, .int .i64 0, .slice none 0 0] 61)).cell? ⟨b, off, none⟩ = some (.string x0) := (hbel.cell (p := ⟨b, off, none⟩) hbb).trans hx0
   have hO1 : w1.heap.size < (w1.alloc (.cells #[.int .i64 1, .int .i64 0, .slice none 0 0] 61)).heap.size := by rw [World.size_alloc]; omega
   clear hp8 hS8 hbel hcells r0 r1 r2 f0 f1 f2 HS hx0
   revert hD hS8' hx0' hO1
   generalize w1.alloc (.cells #[.int .i64 1, .int .i64 0, .slice none 0 0] 61) = w2
   generalize w1.heap.size = O at hlt1 hbb hPB ⊢
   intro hD hS8' hx0' hO1
   generalize hn : ln - 1 = n8 at hS8' hn8 hn8' hPB ⊢
   have HPB := Lib.hid hPB
   clear hPB
   generalize lc - 1 = c8 at hn8 ⊢
   have HD := Lib.hid hD
   have HS8 := Lib.hid hS8'
   clear hD hS8' hn
   have hS8lt : ∀ q, p8 = some q → n8 ≠ 0 → q.block < O := HPB.out
   go_cut [] (fun wx => ∃ (kd cf : Int) (p : Option Addr) (k cap : Nat), DS w w.heap.size O kd cf p k cap wx ∧ Read kd cf p k cap wx)
   case first =>
    have o0 := cellOf HD.out.ob (j := 0) rfl
    have o1 := cellOf HD.out.ob (j := 1) rfl
    have g0 := frozenOf HD.out.ob (j := 0)
    have g1 := frozenOf HD.out.ob (j := 1)
    have HSL := Lib.hid (StrsP.lt HS8.out hS8lt)
    go_upto_if 60 with fail
    ·by_cases hn1 : n8 = 1
     ·subst hn1
      obtain ⟨b8, o8, rfl, hb8, y, hy, hys⟩ : ∃ b8 o8, p8 = some ⟨b8, o8, none⟩ ∧ b8 < O ∧ ∃ y : ByteArray, w2.cell? ⟨b8, o8, none⟩ = some (.string y) ∧ y.size ≤ s.size := by
       rcases HSL.out with h | ⟨b8, o8, h1, h2, h3⟩
       ·omega
       ·exact ⟨b8, o8, h1, h2, h3 0 (by omega)⟩
      go_upto_region 13 with fail
      have hD3 := HD.out.kind 2
      have hy3 : (w2.setCell ⟨O, 0, none⟩ (.int .i64 2)).cell? ⟨b8, o8, none⟩ = some (.string y) := by
       unfold World.cell?
       rw [Below.heap_setCell w2 ⟨O, 0, none⟩ _ b8 (by show b8 ≠ O; omega)]
       exact hy
      clear o0 o1 g0 g1 hy
      revert hD3 hy3
      generalize w2.setCell ⟨O, 0, none⟩ (.int .i64 2) = w3
      intro hD3 hy3
      have HD3 := Lib.hid hD3
      clear hD3
      go_wp2_with (go_at_call 37; refine (atoi_any y _ (by omega) (HG.out.below HD3.out.bl)).mono ?_; rintro e w4 ⟨a, er, ha, rfl, hb4⟩; have HD4 := Lib.hid (HD3.out.below hb4); have o1 := cellOf HD4.out.ob (j := 1) rfl; have g1 := frozenOf HD4.out.ob (j := 1); clear hb4)
      go_meet
      exact ⟨2, a, none, 0, 0, HD4.out.conf a, .inl ⟨rfl, ha, rfl, rfl, rfl⟩⟩
     ·have d3 : ((n8 : Int) == 1) = false := by simp; omega
      go_wp2_with fail
      go_loopw [8] (fun r wr => ∃ (p' : Option Addr) (n' c' : Nat) (pv : Option Addr) (kv cv : Nat) (rs : List (Int × Int × ByteArray)), r = .slice p' n' c' ∧ n' ≤ c' ∧ StrsLt O w2 p' n' s.size ∧ rs.length * 3 + n' ≤ 300 ∧ AllRq rs ∧ wr.heap[O]? = some (.cells #[.int .i64 1, .int .i64 0, .slice pv kv cv] 61 (0, 0)) ∧ wr.ownsRow (O + 1) 81 3 (.slice pv kv cv) rs.length (rqV rs) ∧ Below O w2 wr) (fun r _ => lenOf r)
      case atStart => exact ⟨p8, n8, c8, none, 0, 0, [], rfl, hn8, HSL.out, by simpa using hn8', fun _ h => (by cases h), HD.out.ob, World.ownsRow_nil _ _ _ _, Below.refl _ _⟩
      case round =>
       obtain ⟨p', n', c', pv, kv, cv, rs, rfl, hnc, hst, hcount, hall, hO, hown, hb⟩ := hrel
       have HST := Lib.hid hst
       have HALL := Lib.hid hall
       have HO := Lib.hid hO
       have HOW := Lib.hid hown
       have HB := Lib.hid hb
       have hszr := hb.size
       clear hst hall hO hown hb
       by_cases hn3 : 3 ≤ n'
       ·obtain ⟨b8, o8, rfl, hb8, hstr⟩ : ∃ b8 o8, p' = some ⟨b8, o8, none⟩ ∧ b8 < O ∧ ∀ i, i < n' → ∃ y : ByteArray, w2.cell? ⟨b8, o8 + i, none⟩ = some (.string y) ∧ y.size ≤ s.size := by
         rcases HST.out with h | h
         ·omega
         ·exact h
        obtain ⟨y0, hy0, hs0⟩ := hstr 0 (by omega)
        obtain ⟨y1, hy1, hs1⟩ := hstr 1 (by omega)
        obtain ⟨y2, hy2, hs2⟩ := hstr 2 (by omega)
        have hst3 : StrsLt O w2 (if c' = 3 then some ⟨b8, o8, none⟩ else some ⟨b8, o8 + 3, none⟩) (n' - 3) s.size := by
         by_cases h : n' = 3
         ·exact .inl (by omega)
         ·rw [if_neg (by omega)]
          exact .inr ⟨b8, o8 + 3, rfl, hb8, fun i hi => by rw [Nat.add_assoc, Nat.add_comm 3 i]; exact hstr (i + 3) (by omega)⟩
        have HST3 := Lib.hid hst3
        have hLS : LS O w2 b8 o8 y0 y1 y2 pv kv cv rs wr := ⟨HO.out, HOW.out, HB.out, (HB.out.cell (p := ⟨b8, o8, none⟩) hb8).trans hy0, (HB.out.cell (p := ⟨b8, o8 + 1, none⟩) hb8).trans hy1, (HB.out.cell (p := ⟨b8, o8 + 2, none⟩) hb8).trans hy2, hb8⟩
        have HLS := Lib.hid hLS
        have z0 := hLS.c0
        have z1 := hLS.c1
        have e3 : (3 : Int) ≤ (n' : Int) := by omega
        have e4 : (n' : Int) ≤ (c' : Int) := by omega
        have hGr : GL wr := HG.out.below (HD.out.bl.trans (HB.out.mono HD.out.ge.2))
        have HGr := Lib.hid hGr
        clear hstr hy0 hy1 hy2 hst3 hLS hGr HST
        go_upto_region 10 with (first
         | (go_at_call 37; (with_reducible refine (atoi_any y0 _ (by omega) HGr.out).mono ?_); rintro e w3 ⟨a0, er0, ha0, rfl, hb3⟩; have HL3 := Lib.hid (HLS.out.below hb3); have HG3 := Lib.hid (HGr.out.below hb3); have z1 := HL3.out.c1; clear hb3)
         | (go_at_call 37; (with_reducible refine (atoi_any y1 _ (by omega) HG3.out).mono ?_); rintro e w4 ⟨a1, er1, ha1, rfl, hb4⟩; have HL4 := Lib.hid (HL3.out.below hb4); clear hb4))
        have o2 : w4.cell? ⟨O, 2, none⟩ = some (.slice pv kv cv) := cellOf HL4.out.ob (j := 2) rfl
        have g2 := frozenOf HL4.out.ob (j := 2)
        have z2 := HL4.out.c2
        have hO4 := HL4.out.lt'
        have hb84 : b8 < w4.heap.size := by omega
        have e5 : (2 : Int) < (n' : Int) := by omega
        have hrs : rs.length ≤ 300 := by omega
        have HCN := Lib.hid hcount
        clear z0 z1 hcount
        go_region_law (refine step_append_lies _ (by rfl) (.tmp 50) (.tmp 57) 59 (by rfl) (O + 1) 81 i1 (.agg #[.int .i64 0, .int .i64 0, .string ⟨#[]⟩]) 3 32 Tryz.underlying59 hi1 q0 q1 q2 rfl (by omega) (.slice pv kv cv) rs.length (rqV rs) (by rfl) (by exact HL4.out.own.alloc (.cells #[.int .i64 a0, .int .i64 a1, .string y2] 81)) ⟨w4.heap.size, 0, none⟩ 1 1 [.int .i64 a0, .int .i64 a1, .string y2] (by rfl) (by rfl) (by exact World.news_of_block (w := w4.alloc (.cells #[.int .i64 a0, .int .i64 a1, .string y2] 81)) (cs := #[.int .i64 a0, .int .i64 a1, .string y2]) (t := 81) (fr := (0, 0)) (heap_alloc_new w4 _)) (by simp [Value.oneCell']) (by omega) (by unfold maxLen; omega) (by omega) (by simp; omega) (w4.heap.size + 1) (by simp) ?_; intro g5 c5 w5 hown5 hgrow hat hlt5; have hL5 := HL4.out.grown hown5 hgrow; have o2 := cellOf hL5.1 (j := 2) rfl; have g2 := frozenOf hL5.1 (j := 2))
        all_goals
         have hO6 := row3_2 hL5.1 (.slice (some ⟨g5, 0, none⟩) (rs.length + 1) c5)
         have hb6 := below_set hL5.2 (p := ⟨O, 2, none⟩) (Nat.le_refl _) (.slice (some ⟨g5, 0, none⟩) (rs.length + 1) c5)
         have hw6 := own_set hown5 (p := ⟨O, 2, none⟩) (by show O < O + 1; omega) (.slice (some ⟨g5, 0, none⟩) (rs.length + 1) c5)
         have hw7 : (w5.setCell ⟨O, 2, none⟩ (.slice (some ⟨g5, 0, none⟩) (rs.length + 1) c5)).ownsRow (O + 1) 81 3 (.slice (some ⟨g5, 0, none⟩) (rs.length + 1) c5) (rs ++ [(a0, a1, y2)]).length (rqV (rs ++ [(a0, a1, y2)])) := by rw [rqV_append, List.length_append]; exact hw6
         have HA6 := Lib.hid (HALL.out.snoc ha0 ha1 (show y2.size ≤ 1000 by omega))
         have H6 := Lib.hid (And.intro hO6 (And.intro hw7 hb6))
         clear hO6 hb6 hw6 hw7 hown5 hgrow hat hL5 o2 g2 z2
         go_wp2_with fail
         all_goals exact ⟨⟨_, _, _, ⟨rfl, rfl, rfl⟩, by omega, by first | exact .inl (by omega) | (have h := HST3.out; rw [if_neg (by assumption)] at h; exact h), _, _, _, rs ++ [(a0, a1, y2)], by rw [List.length_append]; show (rs.length + 1) * 3 + _ ≤ _; have := HCN.out; omega, HA6.out, H6.out.1, H6.out.2.1, H6.out.2.2⟩, by simp [lenOf]; omega⟩
       ·go_wp2_with fail
        go_meet
        exact decL HD.out HO.out HOW.out HALL.out HB.out (by omega) (by omega)
    ·go_upto_if 79 with fail
     go_wp2_with fail
     ·go_meet
      exact ⟨3, 0, none, 0, 0, HD.out.kind 3, .inr (.inl ⟨rfl, rfl, rfl, rfl, rfl⟩)⟩
     ·go_loopw [8] (fun r wr => ∃ (p' : Option Addr) (n' c' : Nat) (pv : Option Addr) (kv cv : Nat) (rs : List (Int × Int × ByteArray)), r = .slice p' n' c' ∧ n' ≤ c' ∧ StrsLt O w2 p' n' s.size ∧ rs.length * 3 + n' ≤ 300 ∧ AllRq rs ∧ wr.heap[O]? = some (.cells #[.int .i64 1, .int .i64 0, .slice pv kv cv] 61 (0, 0)) ∧ wr.ownsRow (O + 1) 81 3 (.slice pv kv cv) rs.length (rqV rs) ∧ Below O w2 wr) (fun r _ => lenOf r)
      case atStart => exact ⟨p8, n8, c8, none, 0, 0, [], rfl, hn8, HSL.out, by simpa using hn8', fun _ h => (by cases h), HD.out.ob, World.ownsRow_nil _ _ _ _, Below.refl _ _⟩
      case round =>
       obtain ⟨p', n', c', pv, kv, cv, rs, rfl, hnc, hst, hcount, hall, hO, hown, hb⟩ := hrel
       have HST := Lib.hid hst
       have HALL := Lib.hid hall
       have HO := Lib.hid hO
       have HOW := Lib.hid hown
       have HB := Lib.hid hb
       have hszr := hb.size
       clear hst hall hO hown hb
       by_cases hn3 : 3 ≤ n'
       ·obtain ⟨b8, o8, rfl, hb8, hstr⟩ : ∃ b8 o8, p' = some ⟨b8, o8, none⟩ ∧ b8 < O ∧ ∀ i, i < n' → ∃ y : ByteArray, w2.cell? ⟨b8, o8 + i, none⟩ = some (.string y) ∧ y.size ≤ s.size := by
         rcases HST.out with h | h
         ·omega
         ·exact h
        obtain ⟨y0, hy0, hs0⟩ := hstr 0 (by omega)
        obtain ⟨y1, hy1, hs1⟩ := hstr 1 (by omega)
        obtain ⟨y2, hy2, hs2⟩ := hstr 2 (by omega)
        have hst3 : StrsLt O w2 (if c' = 3 then some ⟨b8, o8, none⟩ else some ⟨b8, o8 + 3, none⟩) (n' - 3) s.size := by
         by_cases h : n' = 3
         ·exact .inl (by omega)
         ·rw [if_neg (by omega)]
          exact .inr ⟨b8, o8 + 3, rfl, hb8, fun i hi => by rw [Nat.add_assoc, Nat.add_comm 3 i]; exact hstr (i + 3) (by omega)⟩
        have HST3 := Lib.hid hst3
        have hLS : LS O w2 b8 o8 y0 y1 y2 pv kv cv rs wr := ⟨HO.out, HOW.out, HB.out, (HB.out.cell (p := ⟨b8, o8, none⟩) hb8).trans hy0, (HB.out.cell (p := ⟨b8, o8 + 1, none⟩) hb8).trans hy1, (HB.out.cell (p := ⟨b8, o8 + 2, none⟩) hb8).trans hy2, hb8⟩
        have HLS := Lib.hid hLS
        have z0 := hLS.c0
        have z1 := hLS.c1
        have e3 : (3 : Int) ≤ (n' : Int) := by omega
        have e4 : (n' : Int) ≤ (c' : Int) := by omega
        have hGr : GL wr := HG.out.below (HD.out.bl.trans (HB.out.mono HD.out.ge.2))
        have HGr := Lib.hid hGr
        clear hstr hy0 hy1 hy2 hst3 hLS hGr HST
        go_upto_region 10 with (first
         | (go_at_call 37; (with_reducible refine (atoi_any y0 _ (by omega) HGr.out).mono ?_); rintro e w3 ⟨a0, er0, ha0, rfl, hb3⟩; have HL3 := Lib.hid (HLS.out.below hb3); have HG3 := Lib.hid (HGr.out.below hb3); have z1 := HL3.out.c1; clear hb3)
         | (go_at_call 37; (with_reducible refine (atoi_any y1 _ (by omega) HG3.out).mono ?_); rintro e w4 ⟨a1, er1, ha1, rfl, hb4⟩; have HL4 := Lib.hid (HL3.out.below hb4); clear hb4))
        have o2 : w4.cell? ⟨O, 2, none⟩ = some (.slice pv kv cv) := cellOf HL4.out.ob (j := 2) rfl
        have g2 := frozenOf HL4.out.ob (j := 2)
        have z2 := HL4.out.c2
        have hO4 := HL4.out.lt'
        have hb84 : b8 < w4.heap.size := by omega
        have e5 : (2 : Int) < (n' : Int) := by omega
        have hrs : rs.length ≤ 300 := by omega
        have HCN := Lib.hid hcount
        clear z0 z1 hcount
        go_region_law (refine step_append_lies _ (by rfl) (.tmp 50) (.tmp 57) 59 (by rfl) (O + 1) 81 i1 (.agg #[.int .i64 0, .int .i64 0, .string ⟨#[]⟩]) 3 32 Tryz.underlying59 hi1 q0 q1 q2 rfl (by omega) (.slice pv kv cv) rs.length (rqV rs) (by rfl) (by exact HL4.out.own.alloc (.cells #[.int .i64 a0, .int .i64 a1, .string y2] 81)) ⟨w4.heap.size, 0, none⟩ 1 1 [.int .i64 a0, .int .i64 a1, .string y2] (by rfl) (by rfl) (by exact World.news_of_block (w := w4.alloc (.cells #[.int .i64 a0, .int .i64 a1, .string y2] 81)) (cs := #[.int .i64 a0, .int .i64 a1, .string y2]) (t := 81) (fr := (0, 0)) (heap_alloc_new w4 _)) (by simp [Value.oneCell']) (by omega) (by unfold maxLen; omega) (by omega) (by simp; omega) (w4.heap.size + 1) (by simp) ?_; intro g5 c5 w5 hown5 hgrow hat hlt5; have hL5 := HL4.out.grown hown5 hgrow; have o2 := cellOf hL5.1 (j := 2) rfl; have g2 := frozenOf hL5.1 (j := 2))
        all_goals
         have hO6 := row3_2 hL5.1 (.slice (some ⟨g5, 0, none⟩) (rs.length + 1) c5)
         have hb6 := below_set hL5.2 (p := ⟨O, 2, none⟩) (Nat.le_refl _) (.slice (some ⟨g5, 0, none⟩) (rs.length + 1) c5)
         have hw6 := own_set hown5 (p := ⟨O, 2, none⟩) (by show O < O + 1; omega) (.slice (some ⟨g5, 0, none⟩) (rs.length + 1) c5)
         have hw7 : (w5.setCell ⟨O, 2, none⟩ (.slice (some ⟨g5, 0, none⟩) (rs.length + 1) c5)).ownsRow (O + 1) 81 3 (.slice (some ⟨g5, 0, none⟩) (rs.length + 1) c5) (rs ++ [(a0, a1, y2)]).length (rqV (rs ++ [(a0, a1, y2)])) := by rw [rqV_append, List.length_append]; exact hw6
         have HA6 := Lib.hid (HALL.out.snoc ha0 ha1 (show y2.size ≤ 1000 by omega))
         have H6 := Lib.hid (And.intro hO6 (And.intro hw7 hb6))
         clear hO6 hb6 hw6 hw7 hown5 hgrow hat hL5 o2 g2 z2
         go_wp2_with fail
         all_goals exact ⟨⟨_, _, _, ⟨rfl, rfl, rfl⟩, by omega, by first | exact .inl (by omega) | (have h := HST3.out; rw [if_neg (by assumption)] at h; exact h), _, _, _, rs ++ [(a0, a1, y2)], by rw [List.length_append]; show (rs.length + 1) * 3 + _ ≤ _; have := HCN.out; omega, HA6.out, H6.out.1, H6.out.2.1, H6.out.2.2⟩, by simp [lenOf]; omega⟩
       ·go_wp2_with fail
        go_meet
        exact decL HD.out HO.out HOW.out HALL.out HB.out (by omega) (by omega)
   case rest =>
    obtain ⟨kd, cf, p, k, cap, hD, hRd⟩ := hcut
    have HE := Lib.hid hD
    have o0 := cellOf hD.ob (j := 0) rfl
    have o1 := cellOf hD.ob (j := 1) rfl
    have o2 := cellOf hD.ob (j := 2) rfl
    clear hD
    rcases hRd with ⟨rfl, hcf, rfl, rfl, rfl⟩ | ⟨rfl, rfl, rfl, rfl, rfl⟩ | ⟨rfl, rfl, hrq, hk3, hkc⟩
    ·go_upto_if 93 with (first
      | (go_at_call 38; refine (validJ_any cf _).mono ?_; rintro e w3 ⟨r, rfl, hr, hb3⟩; have HE3 := Lib.hid (HE.out.below hb3); have HV := Lib.hid hr; obtain ⟨o0, o1, o2⟩ := cs3 HE3.out.ob; clear hb3 hr)
      | (go_at_call 39; obtain ⟨hc0, hc1⟩ := HV.out (by assumption); obtain ⟨c, rfl⟩ := Int.eq_ofNat_of_zero_le hc0; refine (val_join c (by omega) _).mono ?_; rintro e w4 ⟨rfl, hb4⟩; have HE4 := Lib.hid (HE3.out.below hb4); obtain ⟨o0, o1, o2⟩ := cs3 HE4.out.ob; clear hb4))
     ·have r0 := cellOf HE4.out.rb (j := 0) rfl
      have r1 := cellOf HE4.out.rb (j := 1) rfl
      have r2 := cellOf HE4.out.rb (j := 2) rfl
      have f0 := frozenOf HE4.out.rb (j := 0)
      have f1 := frozenOf HE4.out.rb (j := 1)
      have f2 := frozenOf HE4.out.rb (j := 2)
      go_wp2_with fail
      ·exact dec_end rfl HE4.out.rb HE4.out.bl (Nat.le_refl _) 0 0 none 0 0 2 (fun h => by omega) _ rfl rfl
      ·exact dec_end rfl HE4.out.rb HE4.out.bl (Nat.le_refl _) 2 c none 0 0 0 (fun _ => ⟨fun _ => ⟨c, by omega, ba_eq (by assumption)⟩, fun h => by omega⟩) _ rfl rfl
     ·have r0 := cellOf HE3.out.rb (j := 0) rfl
      have r1 := cellOf HE3.out.rb (j := 1) rfl
      have r2 := cellOf HE3.out.rb (j := 2) rfl
      have f0 := frozenOf HE3.out.rb (j := 0)
      have f1 := frozenOf HE3.out.rb (j := 1)
      have f2 := frozenOf HE3.out.rb (j := 2)
      go_wp2_with fail
      exact dec_end rfl HE3.out.rb HE3.out.bl (Nat.le_refl _) 0 0 none 0 0 2 (fun h => by omega) _ rfl rfl
    ·go_upto_if 93 with (first
      | (go_at_call 38; refine (validF_any _).mono ?_; rintro e w3 ⟨r, rfl, hb3⟩; have HE3 := Lib.hid (HE.out.below hb3); obtain ⟨o0, o1, o2⟩ := cs3 HE3.out.ob; clear hb3)
      | (go_at_call 39; refine (val_finish _).mono ?_; rintro e w4 ⟨rfl, hb4⟩; have HE4 := Lib.hid (HE3.out.below hb4); obtain ⟨o0, o1, o2⟩ := cs3 HE4.out.ob; clear hb4))
     ·have r0 := cellOf HE4.out.rb (j := 0) rfl
      have r1 := cellOf HE4.out.rb (j := 1) rfl
      have r2 := cellOf HE4.out.rb (j := 2) rfl
      have f0 := frozenOf HE4.out.rb (j := 0)
      have f1 := frozenOf HE4.out.rb (j := 1)
      have f2 := frozenOf HE4.out.rb (j := 2)
      go_wp2_with fail
      ·exact dec_end rfl HE4.out.rb HE4.out.bl (Nat.le_refl _) 0 0 none 0 0 2 (fun h => by omega) _ rfl rfl
      ·exact dec_end rfl HE4.out.rb HE4.out.bl (Nat.le_refl _) 3 0 none 0 0 0 (fun _ => ⟨fun h => by omega, fun _ => ba_eq (by assumption)⟩) _ rfl rfl
     ·have r0 := cellOf HE3.out.rb (j := 0) rfl
      have r1 := cellOf HE3.out.rb (j := 1) rfl
      have r2 := cellOf HE3.out.rb (j := 2) rfl
      have f0 := frozenOf HE3.out.rb (j := 0)
      have f1 := frozenOf HE3.out.rb (j := 1)
      have f2 := frozenOf HE3.out.rb (j := 2)
      go_wp2_with fail
      exact dec_end rfl HE3.out.rb HE3.out.bl (Nat.le_refl _) 0 0 none 0 0 2 (fun h => by omega) _ rfl rfl
    ·have HRq := Lib.hid hrq
     clear hrq
     go_upto_if 93 with (first
      | (go_at_call 38; refine (validB_any 0 p k cap _ (by omega) hkc HRq.out).mono ?_; rintro e w3 ⟨r, rfl, hb3⟩; have HE3 := Lib.hid (HE.out.below hb3); have HR3 := Lib.hid (HRq.out.below hb3); obtain ⟨o0, o1, o2⟩ := cs3 HE3.out.ob; clear hb3)
      | (go_at_call 39; refine (valueB_any 0 p k cap _ hk3 HR3.out (HG.out.below HE3.out.bl)).mono ?_; rintro e w4 ⟨x, hx, rfl, hb4⟩; have HE4 := Lib.hid (HE3.out.below hb4); obtain ⟨o0, o1, o2⟩ := cs3 HE4.out.ob; clear hb4))
     ·have r0 := cellOf HE4.out.rb (j := 0) rfl
      have r1 := cellOf HE4.out.rb (j := 1) rfl
      have r2 := cellOf HE4.out.rb (j := 2) rfl
      have f0 := frozenOf HE4.out.rb (j := 0)
      have f1 := frozenOf HE4.out.rb (j := 1)
      have f2 := frozenOf HE4.out.rb (j := 2)
      go_wp2_with fail
      ·exact dec_end rfl HE4.out.rb HE4.out.bl (Nat.le_refl _) 0 0 none 0 0 2 (fun h => by omega) _ rfl rfl
      ·exact dec_end rfl HE4.out.rb HE4.out.bl (Nat.le_refl _) 1 0 p k cap 0 (fun _ => ⟨fun h => by omega, fun h => by omega⟩) _ rfl rfl
     ·have r0 := cellOf HE3.out.rb (j := 0) rfl
      have r1 := cellOf HE3.out.rb (j := 1) rfl
      have r2 := cellOf HE3.out.rb (j := 2) rfl
      have f0 := frozenOf HE3.out.rb (j := 0)
      have f1 := frozenOf HE3.out.rb (j := 1)
      have f2 := frozenOf HE3.out.rb (j := 2)
      go_wp2_with fail
      exact dec_end rfl HE3.out.rb HE3.out.bl (Nat.le_refl _) 0 0 none 0 0 2 (fun h => by omega) _ rfl rfl
 ·have d1 : (ec != 0) = true := by simpa using hec
  go_wp2_with fail
  exact dec_end rfl HR1.out HBW.out (Nat.le_refl _) 0 0 none 0 0 2 (fun h => by omega) _ rfl rfl
end Go.Proofs.YtmcnpaehmnadeaaGreatDoor
