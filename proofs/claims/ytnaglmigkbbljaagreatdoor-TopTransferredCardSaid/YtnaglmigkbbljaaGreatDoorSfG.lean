/-
  TopTransferred: session.Apply on a fit request keeps a machine valid (printed by mkSfG.py).
-/
import Derived.Test.YtnaglmigkbbljaaGreatDoorSgISfF
set_option maxHeartbeats 6400000
set_option maxRecDepth 1000000
set_option linter.unusedVariables false
set_option linter.unusedSimpArgs false
namespace Go.Proofs.YtnaglmigkbbljaaGreatDoor
open Go Go.RowKit
theorem own_elemS {w : World} {base n cap g i : Nat} {S : List Ses} {x y : Ses} (ho : w.ownsRow base 87 3 (.slice (some ⟨g, 0, none⟩) n cap) n (flat encS S)) (hx : S[i]? = some x) :
  (((w.setCell ⟨g, i * 3, none⟩ (.int .i64 y.c)).setCell ⟨g, i * 3 + 1, none⟩ (.int .i64 y.n)).setCell ⟨g, i * 3 + 2, none⟩ (.string y.r)).ownsRow base 87 3 (.slice (some ⟨g, 0, none⟩) n cap) n (flat encS (S.set i y)) := by
 have hi := (List.getElem?_eq_some_iff.mp hx).1
 have h1 := (own_cell encS3 ho hx (j := 0) (x' := ⟨y.c, x.n, x.r⟩) (u := .int .i64 y.c) (by decide) rfl).1
 have hx1 : (S.set i ⟨y.c, x.n, x.r⟩)[i]? = some ⟨y.c, x.n, x.r⟩ := by rw [List.getElem?_set_self hi]
 have h2 := (own_cell encS3 h1 hx1 (j := 1) (x' := ⟨y.c, y.n, x.r⟩) (u := .int .i64 y.n) (by decide) rfl).1
 rw [List.set_set] at h2
 have hx2 : (S.set i ⟨y.c, y.n, x.r⟩)[i]? = some ⟨y.c, y.n, x.r⟩ := by rw [List.getElem?_set_self hi]
 have h3 := (own_cell encS3 h2 hx2 (j := 2) (x' := ⟨y.c, y.n, y.r⟩) (u := .string y.r) (by decide) rfl).1
 rw [List.set_set] at h3
 exact h3
theorem vs_set {S : List Ses} {i : Nat} {x y : Ses} (h : VS S) (hx : S[i]? = some x) (hc : y.c = x.c) (hy : okS y) : VS (S.set i y) :=
 ⟨pw_set h.1 hx (fun z hz => by rw [hc]; exact hz) (fun z hz => by rw [hc]; exact hz), ok_set h.2 hy⟩
theorem vs_insert {S : List Ses} {i : Nat} {y : Ses} (h : VS S) (hcut : Cut (cfSes (y.c : Int)) S i i) (hf : foundSes S (y.c : Int) i = false) (hy : okS y) : VS (S.take i ++ y :: S.drop i) := by
 refine ⟨pw_insert h.1 (fun j z hz hj => ?_) (fun j z hz hj => ?_), ok_insert h.2 hy⟩
 ·have := hcut.2.2.1 j z hz hj
  unfold cfSes at this
  show z.c < y.c
  omega
 ·have h1 := hcut.2.2.2 j z hz hj
  unfold cfSes at h1
  show y.c < z.c
  obtain ⟨u, hu⟩ : ∃ u, S[i]? = some u := ⟨_, List.getElem?_eq_getElem (by have := (List.getElem?_eq_some_iff.mp hz).1; omega)⟩
  have h2 : cfSes (y.c : Int) u ≠ 0 := fun h => by
   unfold foundSes at hf
   rw [hu] at hf
   simp [h] at hf
  have h3 := hcut.2.2.2 i u hu (Nat.le_refl _)
  unfold cfSes at h2 h3
  by_cases hij : i = j
  ·subst hij
   rw [hu] at hz
   cases hz
   omega
  ·have h4 := pw_get h.1 hu hz (by omega)
   omega
theorem cl_far {W : World} {p : Option Addr} {xs : List Value} {a : Addr} {u : Value} (h : CL W p xs) (hne : ∀ k o, p = some ⟨k, o, none⟩ → k ≠ a.block) : CL (W.setCell a u) p xs := by
 rcases h with h | ⟨b, off, h1, h2, h3⟩
 ·exact .inl h
 ·refine .inr ⟨b, off, h1, by simpa [World.setCell] using h2, fun i hi => ?_⟩
  have e : (W.setCell a u).heap[b]? = W.heap[b]? := Below.heap_setCell _ _ _ _ (hne b off h1)
  have := h3 i hi
  simp only [World.cell?, e] at this ⊢
  exact this
theorem cl_set {W : World} {p : Option Addr} {xs ys : List Value} {b j : Nat} {t : TypeId} {u : Value} (h : CL W p xs) (hb : Blk W b t ys) (hne : ∀ x, xs[0]? = some x → x ∉ ys) : CL (W.setCell ⟨b, j, none⟩ u) p xs := by
 rcases h with h | ⟨k, off, h1, h2, h3⟩
 ·exact .inl h
 ·cases xs with
  | nil => exact .inl rfl
  | cons x t' =>
   refine cl_far (.inr ⟨k, off, h1, h2, h3⟩) (fun k' o' e hk => ?_)
   rw [h1] at e
   injection e with e
   injection e with e
   have h4 := h3 0 (Nat.succ_pos _)
   simp only [List.getElem_cons_zero, Nat.add_zero] at h4
   have hk2 : k = b := e.trans hk
   subst hk2
   refine hne x rfl ?_
   unfold World.cell? at h4
   rw [show W.heap[k]? = _ from hb] at h4
   simp at h4
   exact List.mem_of_getElem? h4
theorem cl_bel {W W' : World} {p : Option Addr} {xs : List Value} {N : Nat} (h : CL W p xs) (hlt : ∀ k o, p = some ⟨k, o, none⟩ → k < N) (hb : Below N W W') : CL W' p xs := by
 rcases h with h | ⟨b, off, h1, h2, h3⟩
 ·exact .inl h
 ·exact .inr ⟨b, off, h1, Nat.lt_of_lt_of_le h2 hb.size, fun i hi => (hb.cell (p := ⟨b, off + i, none⟩) (hlt b off h1)).trans (h3 i hi)⟩
theorem flP_first {L : List Par} {x : Value} (h : (flat encP L)[0]? = some x) : ∃ s, x = .string s := by
 cases L with
 | nil => simp [flat] at h
 | cons y t => simp [flat, encP] at h; exact ⟨_, h.symm⟩
def PLt (p : Option Addr) (N : Nat) : Prop := p = none ∨ ∃ b off, p = some ⟨b, off, none⟩ ∧ b < N
theorem PLt.lt {p : Option Addr} {N : Nat} (h : PLt p N) : ∀ k o, p = some ⟨k, o, none⟩ → k < N := fun k o e => by
 rcases h with h | ⟨b, off, h, h2⟩
 ·rw [h] at e; cases e
 ·rw [h] at e; injection e with e; injection e with e; omega
theorem PLt.mono {p : Option Addr} {N M : Nat} (h : PLt p N) (hm : N ≤ M) : PLt p M := by
 rcases h with h | ⟨b, off, h, h2⟩
 ·exact .inl h
 ·exact .inr ⟨b, off, h, Nat.lt_of_lt_of_le h2 hm⟩
theorem MW.far {w W : World} {pv sv r0 r1 c n : Value} {op : ByteArray} (h : MW w pv sv r0 r1 c n op W) {b j : Nat} {v : Value} (hb : w.heap.size + 2 < b) : MW w pv sv r0 r1 c n op (W.setCell ⟨b, j, none⟩ v) :=
 ⟨h.m.other (by omega), h.q.other (by omega), h.r.other (by omega), below_set h.bl (p := ⟨b, j, none⟩) (by show _ ≤ b; omega) v⟩
theorem MW.belowN {w W W' : World} {pv sv r0 r1 c n : Value} {op : ByteArray} {N : Nat} (h : MW w pv sv r0 r1 c n op W) (hN : w.heap.size + 2 < N) (hb : Below N W W') : MW w pv sv r0 r1 c n op W' :=
 ⟨(hb.block _ (by omega)).trans h.m, (hb.block _ (by omega)).trans h.q, (hb.block _ (by omega)).trans h.r, h.bl.trans (hb.mono (by omega))⟩
theorem apply_ok (pv sv : Value) (L : List Par) (S : List Ses) (c n : Nat) (op : ByteArray) (w : World) (hP : PrV w pv L) (hS : SeV w sv S) (hL : VP L) (hV : VS S) (hn : L.length ≤ 60) (hop : 0 < op.size ∧ op.size ≤ 200) (hc : c ≤ 5) (hn1 : 1 ≤ n ∧ n ≤ 1000000) (hG : GL w) :
    Calls Tryz.prog 7 #[.agg #[pv, sv], .agg #[.int .i64 c, .int .i64 n, .string op]] w (ApplyRet (L.length + 1) w) := by
  have HR := Lib.hid (fun W => right_ex c n W)
  unfold OneB at HR
  rw [show rightB c n = true by unfold rightB; simp; omega] at HR
  have HSL := Lib.hid (ses_len hV)
  have HGB := Lib.hid (fun W (hb : Below w.heap.size w W) => hG.below hb)
  have HEX := Lib.hid (fun W (hb : Below w.heap.size w W) k a b d ha hb' hd => exec_any pv L k a b d W ha hb' hd (hP.below hb) hL hn (hG.below hb))
  unfold PairsRet opV at HEX
  have HPA := Lib.hid (fun W (hb : Below w.heap.size w W) => parse_any op W (by omega) (hG.below hb))
  unfold ParseRet opV at HPA
  have HP := Lib.hid hP
  have HS := Lib.hid hS
  have HLV := Lib.hid (And.intro hL hV)
  obtain ⟨p, cp, rfl, hcp, hFL, hpp⟩ := hP
  obtain ⟨ps, cs, rfl, hcs, hFS, hps⟩ := hS
  obtain ⟨np, hN⟩ : ∃ n, n = L.length := ⟨_, rfl⟩
  obtain ⟨ns, hNS⟩ : ∃ n, n = S.length := ⟨_, rfl⟩
  rw [← hN] at HP HEX ⊢
  have hcp' : np ≤ cp := by rw [hN]; exact hcp
  rw [← hNS] at HS HSL ⊢
  have HFI := Lib.hid (fun W (hb : Below w.heap.size w W) => findSes_ex ps ns cs S c W hNS (by have := HSL.out; omega) (mono_ses hV.1 c) (fun x hx => by have := (hV.2 x hx).1; omega) (by omega) (hFS.below hb))
  unfold BsSes at HFI
  have HCL := Lib.hid (fun W (hb : Below w.heap.size w W) => cloneSes_ex ps ns cs S W hNS.symm (by have := HSL.out; omega) (hFS.below hb) (fun _ => by rcases hps with h | ⟨b, off, h, _⟩; exact .inl h; exact .inr ⟨b, off, h⟩))
  have HFS := Lib.hid hFS
  have HNSL := Lib.hid hNS
  have HN := Lib.hid hN
  clear hG hn hFL hFS hpp hps hL hV hN hNS
  go_enter Tryz.func7, Tryz.ntmps7
  go_upto_region 1 with fail
  have HM := Lib.hid (show MW w (.slice p np cp) (.slice ps ns cs) (.slice none 0 0) (.slice none 0 0) (.int .i64 c) (.int .i64 n) op (((w.alloc (.cells #[Value.slice p np cp, Value.slice ps ns cs] 29)).alloc (.cells #[.int .i64 c, .int .i64 n, .string op] 32)).alloc (.cells #[.slice none 0 0, .slice none 0 0] 29)) from
    ⟨((show Blk (w.alloc (.cells #[Value.slice p np cp, Value.slice ps ns cs] 29)) w.heap.size 29 [Value.slice p np cp, Value.slice ps ns cs] from heap_alloc_new w _).below ((Below.refl _ _).alloc (Nat.le_refl _) _)).below ((Below.refl _ _).alloc (Nat.le_refl _) _),
     (show Blk ((w.alloc (.cells #[Value.slice p np cp, Value.slice ps ns cs] 29)).alloc (.cells #[.int .i64 c, .int .i64 n, .string op] 32)) (w.heap.size + 1) 32 [.int .i64 c, .int .i64 n, .string op] by have := heap_alloc_new (w.alloc (.cells #[Value.slice p np cp, Value.slice ps ns cs] 29)) (.cells #[.int .i64 c, .int .i64 n, .string op] 32); rwa [World.size_alloc] at this).below ((Below.refl _ _).alloc (Nat.le_refl _) _),
     (by have := heap_alloc_new ((w.alloc (.cells #[Value.slice p np cp, Value.slice ps ns cs] 29)).alloc (.cells #[.int .i64 c, .int .i64 n, .string op] 32)) (.cells #[.slice none 0 0, .slice none 0 0] 29); rwa [World.size_alloc, World.size_alloc] at this),
     (((Below.refl _ w).alloc (Nat.le_refl _) _).alloc (by simp) _).alloc (by simp; omega) _⟩)
  generalize ((w.alloc (.cells #[Value.slice p np cp, Value.slice ps ns cs] 29)).alloc (.cells #[.int .i64 c, .int .i64 n, .string op] 32)).alloc (.cells #[.slice none 0 0, .slice none 0 0] 29) = W0 at HM ⊢
  have q0 := HM.out.q.cell (j := 0) (show 0 < 3 by decide); have q1 := HM.out.q.cell (j := 1) (show 1 < 3 by decide); have q2 := HM.out.q.cell (j := 2) (show 2 < 3 by decide)
  have m0 := HM.out.m.cell (j := 0) (show 0 < 2 by decide); have m1 := HM.out.m.cell (j := 1) (show 1 < 2 by decide)
  have r0 := HM.out.r.cell (j := 0) (show 0 < 2 by decide); have r1 := HM.out.r.cell (j := 1) (show 1 < 2 by decide)
  have f0 := HM.out.r.frozen 0; have f1 := HM.out.r.frozen 1
  simp only [List.getElem_cons_zero, List.getElem_cons_succ] at q0 q1 q2 m0 m1 r0 r1
  have h200 : ¬ ((200 : Int) < (op.size : Int)) := by omega
  have hse := empty_no (s := op) hop.1
  go_upto_region 4 with (first
    | (go_at_call 28; refine (HR.out _).mono ?_; rintro e w1 ⟨rfl, hw⟩; obtain rfl := hw.symm)
    | (go_at_call 29; refine (HFI.out _ HM.out.bl).mono ?_; rintro e w3 ⟨i, hcut, rfl, hb3⟩))
  have HM3 := Lib.hid (HM.out.below hb3)
  have HCT := Lib.hid hcut
  have hin : i ≤ ns := by rw [HNSL.out]; exact hcut.2.1
  clear q0 q1 q2 m0 m1 r0 r1 f0 f1 hcut hb3 HM HFI HR
  have q0 := HM3.out.q.cell (j := 0) (show 0 < 3 by decide); have q1 := HM3.out.q.cell (j := 1) (show 1 < 3 by decide); have q2 := HM3.out.q.cell (j := 2) (show 2 < 3 by decide)
  have m0 := HM3.out.m.cell (j := 0) (show 0 < 2 by decide); have m1 := HM3.out.m.cell (j := 1) (show 1 < 2 by decide)
  have r0 := HM3.out.r.cell (j := 0) (show 0 < 2 by decide); have r1 := HM3.out.r.cell (j := 1) (show 1 < 2 by decide)
  have f0 := HM3.out.r.frozen 0; have f1 := HM3.out.r.frozen 1
  simp only [List.getElem_cons_zero, List.getElem_cons_succ] at q0 q1 q2 m0 m1 r0 r1
  cases hf : foundSes S c i with
  | false =>
    have HF := Lib.hid hf
    clear hf
    go_region
    go_wp2_with fail
    go_region
    go_upto_region 8 with fail
    have HM4 := Lib.hid (HM3.out.drew.drew)
    clear q0 q1 q2 m0 m1 r0 r1 f0 f1
    generalize w3.drew.drew = W4 at HM4 ⊢
    have q2 := HM4.out.q.cell (j := 2) (show 2 < 3 by decide)
    simp only [List.getElem_cons_zero, List.getElem_cons_succ] at q2
    go_upto_region 10 with (go_at_call 30; refine (HPA.out _ HM4.out.bl).mono ?_; rintro e w5 ⟨k', a', b', d', er, rfl, ha', hb', hd', hb5⟩)
    have HM6 := Lib.hid ((HM4.out.below hb5).below ((Below.refl _ w5).alloc (Nat.le_refl _) (.cells #[.int .i64 k', .string a', .string b', .string d'] 89)))
    have HO6 := Lib.hid (heap_alloc_new w5 (.cells #[.int .i64 k', .string a', .string b', .string d'] 89))
    clear q2 hb5 HM4
    obtain ⟨bo, hbo⟩ : ∃ bo, bo = w5.heap.size := ⟨_, rfl⟩
    rw [← hbo] at HO6 ⊢
    clear hbo
    generalize w5.alloc (.cells #[.int .i64 k', .string a', .string b', .string d'] 89) = W6 at HM6 HO6 ⊢
    by_cases her : er = 0
    · subst her
      have o0 := cellOf (v := .int .i64 k') HO6.out (j := 0) rfl; have o1 := cellOf (v := .string a') HO6.out (j := 1) rfl; have o2 := cellOf (v := .string b') HO6.out (j := 2) rfl; have o3 := cellOf (v := .string d') HO6.out (j := 3) rfl
      have m0 := HM6.out.m.cell (j := 0) (show 0 < 2 by decide)
      simp only [List.getElem_cons_zero, List.getElem_cons_succ] at m0
      go_upto_region 12 with (go_at_call 31; refine (HEX.out _ HM6.out.bl k' a' b' d' ha' hb' hd').mono ?_; rintro e w7 ⟨pv7, L7, rs, rfl, h71, h72, h73, h74, h75⟩; obtain ⟨p7, c7, rfl, h76, h77, h78⟩ := h71; have HM7 := Lib.hid (HM6.out.below h75); have n0 := HM7.out.m.cell (j := 0) (show 0 < 2 by decide); have g0 := HM7.out.m.frozen 0; simp only [List.getElem_cons_zero, List.getElem_cons_succ] at n0)
      have HM8 := Lib.hid (HM7.out.setP (.slice p7 L7.length c7))
      have HFL8 := Lib.hid (show FL encP (w7.setCell ⟨w.heap.size, 0, none⟩ (.slice p7 L7.length c7)) p7 L7 from cl_set h77 HM7.out.m (fun x hx hm => by obtain ⟨s, rfl⟩ := flP_first hx; simp at hm))
      have HQ8 := Lib.hid (show PLt p7 (w7.setCell ⟨w.heap.size, 0, none⟩ (.slice p7 L7.length c7)).heap.size by simpa [PLt, World.setCell] using h78)
      have HV8 := Lib.hid h72
      clear o0 o1 o2 o3 m0 n0 g0 h72 h75 h77 h78 HM6 HM7 HO6
      generalize w7.setCell ⟨w.heap.size, 0, none⟩ (.slice p7 L7.length c7) = W8 at HM8 HFL8 HQ8 ⊢
      obtain ⟨n7, hn7⟩ : ∃ n7, n7 = L7.length := ⟨_, rfl⟩
      have HN7 := Lib.hid hn7
      rw [← hn7] at HM8 ⊢
      have h76x : n7 ≤ c7 := by rw [hn7]; omega
      clear hn7
      have q0 := HM8.out.q.cell (j := 0) (show 0 < 3 by decide); have q1 := HM8.out.q.cell (j := 1) (show 1 < 3 by decide)
      simp only [List.getElem_cons_zero, List.getElem_cons_succ] at q0 q1
      go_upto_region 13 with fail
      have HX9 := Lib.hid (heap_alloc_new W8 (.cells #[.int .i64 c, .int .i64 n, .string rs] 87))
      have HM9 := Lib.hid (HM8.out.below ((Below.refl _ W8).alloc (Nat.le_refl _) (.cells #[.int .i64 c, .int .i64 n, .string rs] 87)))
      have HFL9 := Lib.hid (HFL8.out.below ((Below.refl _ W8).alloc (Nat.le_refl _) (.cells #[.int .i64 c, .int .i64 n, .string rs] 87)))
      have hbs : W8.heap.size < (W8.alloc (.cells #[.int .i64 c, .int .i64 n, .string rs] 87)).heap.size := by simp
      have HQ9 := Lib.hid (HQ8.out.mono (Nat.le_of_lt hbs))
      have hsz9 : w.heap.size + 2 < (W8.alloc (.cells #[.int .i64 c, .int .i64 n, .string rs] 87)).heap.size := Nat.lt_trans HM8.out.r.lt hbs
      obtain ⟨bx, hbx⟩ : ∃ bx, bx = W8.heap.size := ⟨_, rfl⟩
      have hbx2 : w.heap.size + 2 < bx := by rw [hbx]; exact HM8.out.r.lt
      rw [← hbx] at HX9 hbs ⊢
      clear q0 q1 hbx HM8 HFL8 HQ8
      generalize W8.alloc (.cells #[.int .i64 c, .int .i64 n, .string rs] 87) = W9 at HX9 HM9 HFL9 HQ9 hbs hsz9 ⊢
      have m1 := HM9.out.m.cell (j := 1) (show 1 < 2 by decide)
      simp only [List.getElem_cons_zero, List.getElem_cons_succ] at m1
      go_upto_region 14 with (go_at_call 32; refine (HCL.out _ HM9.out.bl).mono ?_; rintro e w10 ⟨vs, rfl, hos, hb10⟩; have HM10 := Lib.hid (HM9.out.below hb10); rw [← HNSL.out] at hos; obtain ⟨p10, c10, rfl, _, _⟩ := fl_of_own hos; have n1 := HM10.out.m.cell (j := 1) (show 1 < 2 by decide); have g1 := HM10.out.m.frozen 1; simp only [List.getElem_cons_zero, List.getElem_cons_succ] at n1)
      have HM11 := Lib.hid (HM10.out.setS (.slice p10 ns c10))
      have HO11 := Lib.hid (own_set hos (p := ⟨w.heap.size, 1, none⟩) (show w.heap.size < _ by omega) (.slice p10 ns c10))
      have HX11 := Lib.hid (show (w10.setCell ⟨w.heap.size, 1, none⟩ (.slice p10 ns c10)).heap[bx]? = _ from (Below.heap_setCell _ _ _ _ (show bx ≠ w.heap.size by omega)).trans ((hb10.block bx hbs).trans HX9.out))
      have HFL11 := Lib.hid (show FL encP (w10.setCell ⟨w.heap.size, 1, none⟩ (.slice p10 ns c10)) p7 L7 from cl_set (HFL9.out.below hb10) HM10.out.m (fun x hx hm => by obtain ⟨s, rfl⟩ := flP_first hx; simp at hm))
      have hle11 : W9.heap.size ≤ (w10.setCell ⟨w.heap.size, 1, none⟩ (.slice p10 ns c10)).heap.size := by simpa [World.setCell] using hb10.size
      clear m1 n1 g1 hos hb10 HM9 HM10 HFL9
      generalize w10.setCell ⟨w.heap.size, 1, none⟩ (.slice p10 ns c10) = W11 at HM11 HO11 HX11 HFL11 hle11 ⊢
      have m1 := HM11.out.m.cell (j := 1) (show 1 < 2 by decide)
      have x0 := cellOf (v := .int .i64 c) HX11.out (j := 0) rfl; have x1 := cellOf (v := .int .i64 n) HX11.out (j := 1) rfl; have x2 := cellOf (v := .string rs) HX11.out (j := 2) rfl
      simp only [List.getElem_cons_zero, List.getElem_cons_succ] at m1
      have hnvb : p10.map (·.block) ≠ some W11.heap.size := fun e => by
        rcases HO11.out.2 with ⟨h1, _⟩ | ⟨g, cap', cur, h1, _, h2, _⟩
        · injection h1 with h1; rw [h1] at e; cases e
        · injection h1 with h1; rw [h1] at e; injection e with e
          have := (Array.getElem?_eq_some_iff.mp h2).1
          simp at e
          omega
      obtain ⟨n13, hn13⟩ : ∃ n13, n13 = ns + 1 := ⟨_, rfl⟩
      have HLL := Lib.hid (show (S.take i ++ (⟨c, n, rs⟩ : Ses) :: S.drop i).length = n13 by have := HNSL.out; simp; omega)
      clear hn13
      have hb12 := (Below.refl _ W11).alloc (Nat.le_refl _) (.cells #[.int .i64 c, .int .i64 n, .string rs] 87)
      have HIN := Lib.hid (insSes_ex W9.heap.size ns i W11.heap.size p10 c10 S ⟨c, n, rs⟩ (W11.alloc (.cells #[.int .i64 c, .int .i64 n, .string rs] 87)) hin (by have := HSL.out; omega) (own_below HO11.out hb12) hnvb (heap_alloc_new W11 _) (by have := hb12.size; omega))
      have HM12 := Lib.hid (HM11.out.below hb12)
      have HFL12 := Lib.hid (HFL11.out.below hb12)
      clear hnvb hb12 HO11 HM11 HFL11
      go_upto_region 17 with (go_at_call 33; refine HIN.out.mono ?_; rintro e w13 ⟨v13, rfl, ho13, hb13⟩; rw [HLL.out] at ho13; obtain ⟨p13, c13, rfl, _, _⟩ := fl_of_own ho13; have HM13 := Lib.hid (HM12.out.belowN hsz9 hb13); have n1 := HM13.out.m.cell (j := 1) (show 1 < 2 by decide); have g1 := HM13.out.m.frozen 1; simp only [List.getElem_cons_zero, List.getElem_cons_succ] at n1)
      have HO14 := Lib.hid (own_set ho13 (p := ⟨w.heap.size, 1, none⟩) (show w.heap.size < _ by omega) (.slice p13 n13 c13))
      have HM14 := Lib.hid (HM13.out.setS (.slice p13 n13 c13))
      have HFL14 := Lib.hid (show FL encP (w13.setCell ⟨w.heap.size, 1, none⟩ (.slice p13 n13 c13)) p7 L7 from cl_set (cl_bel HFL12.out HQ9.out.lt hb13) HM13.out.m (fun x hx hm => by obtain ⟨s, rfl⟩ := flP_first hx; simp at hm))
      have HVS := Lib.hid (vs_insert (y := ⟨c, n, rs⟩) HLV.out.2 HCT.out HF.out ⟨hc, hn1.1, hn1.2, h74⟩)
      have hle14 : W9.heap.size ≤ (w13.setCell ⟨w.heap.size, 1, none⟩ (.slice p13 n13 c13)).heap.size := by have := hb13.size; simp [World.setCell] at this ⊢; omega
      clear n1 g1 m1 x0 x1 x2 ho13 HM12 HM13 HFL12 HX11 hle11 hb13
      generalize w13.setCell ⟨w.heap.size, 1, none⟩ (.slice p13 n13 c13) = W14 at HO14 HM14 HFL14 hle14 ⊢
      have m0 := HM14.out.m.cell (j := 0) (show 0 < 2 by decide); have m1 := HM14.out.m.cell (j := 1) (show 1 < 2 by decide)
      have r0 := HM14.out.r.cell (j := 0) (show 0 < 2 by decide); have r1 := HM14.out.r.cell (j := 1) (show 1 < 2 by decide)
      have f0 := HM14.out.r.frozen 0; have f1 := HM14.out.r.frozen 1
      simp only [List.getElem_cons_zero, List.getElem_cons_succ] at m0 m1 r0 r1
      go_wp2_with fail
      refine bodyPost_ret (results_row_tmp rfl _ _ (w.heap.size + 2) 29 _ (0, 0) _ rfl (HM14.out.res (.slice p7 n7 c7) (.slice p13 n13 c13)) Tryz.underlying29 rfl Tryz.info29) rfl ?_
      refine ⟨_, _, L7, _, rs, rfl, ⟨p7, c7, by rw [← HN7.out], by rw [← HN7.out]; exact h76x, ?_, ?_⟩, sev_of_own (own_set (own_set HO14.out (p := ⟨w.heap.size + 2, 0, none⟩) (show w.heap.size + 2 < _ by omega) _) (p := ⟨w.heap.size + 2, 1, none⟩) (show w.heap.size + 2 < _ by omega) _), HV8.out, HVS.out, h73, HM14.out.resbl _ _⟩
      · exact cl_set (cl_set HFL14.out HM14.out.r (fun x hx hm => by obtain ⟨s, rfl⟩ := flP_first hx; simp at hm)) (HM14.out.r.set 0 _) (fun x hx hm => by obtain ⟨s, rfl⟩ := flP_first hx; simp at hm)
      · exact HQ9.out.mono (by simpa [World.setCell] using hle14)
    · have hne : ¬ ((er : Int) = 0) := her
      obtain ⟨rs, hrs⟩ : ∃ rs, rs = (⟨#[109, 97, 108, 102, 111, 114, 109, 101, 100]⟩ : ByteArray) := ⟨_, rfl⟩
      have h74 : rs.size ≤ 400 := by rw [hrs]; decide
      rw [← hrs]
      clear hrs
      go_upto_region 12 with fail
      obtain ⟨p7, c7, h70, h76, h77, h78⟩ := HP.out.below HM6.out.bl
      injection h70 with e1 e2 e3
      rw [← e1] at h77 h78
      have HM8 := Lib.hid HM6.out
      have HFL8 := Lib.hid h77
      have HQ8 := Lib.hid (show PLt p W6.heap.size from h78)
      have HV8 := Lib.hid HLV.out.1
      have h73 : L.length ≤ np + 1 := by omega
      have HN7 := Lib.hid e2
      have h76x : np ≤ cp := hcp'
      clear e1 e2 e3 h77 h78 HM6 HO6
      have q0 := HM8.out.q.cell (j := 0) (show 0 < 3 by decide); have q1 := HM8.out.q.cell (j := 1) (show 1 < 3 by decide)
      simp only [List.getElem_cons_zero, List.getElem_cons_succ] at q0 q1
      go_upto_region 13 with fail
      have HX9 := Lib.hid (heap_alloc_new W6 (.cells #[.int .i64 c, .int .i64 n, .string rs] 87))
      have HM9 := Lib.hid (HM8.out.below ((Below.refl _ W6).alloc (Nat.le_refl _) (.cells #[.int .i64 c, .int .i64 n, .string rs] 87)))
      have HFL9 := Lib.hid (HFL8.out.below ((Below.refl _ W6).alloc (Nat.le_refl _) (.cells #[.int .i64 c, .int .i64 n, .string rs] 87)))
      have hbs : W6.heap.size < (W6.alloc (.cells #[.int .i64 c, .int .i64 n, .string rs] 87)).heap.size := by simp
      have HQ9 := Lib.hid (HQ8.out.mono (Nat.le_of_lt hbs))
      have hsz9 : w.heap.size + 2 < (W6.alloc (.cells #[.int .i64 c, .int .i64 n, .string rs] 87)).heap.size := Nat.lt_trans HM8.out.r.lt hbs
      obtain ⟨bx, hbx⟩ : ∃ bx, bx = W6.heap.size := ⟨_, rfl⟩
      have hbx2 : w.heap.size + 2 < bx := by rw [hbx]; exact HM8.out.r.lt
      rw [← hbx] at HX9 hbs ⊢
      clear q0 q1 hbx HM8 HFL8 HQ8
      generalize W6.alloc (.cells #[.int .i64 c, .int .i64 n, .string rs] 87) = W9 at HX9 HM9 HFL9 HQ9 hbs hsz9 ⊢
      have m1 := HM9.out.m.cell (j := 1) (show 1 < 2 by decide)
      simp only [List.getElem_cons_zero, List.getElem_cons_succ] at m1
      go_upto_region 14 with (go_at_call 32; refine (HCL.out _ HM9.out.bl).mono ?_; rintro e w10 ⟨vs, rfl, hos, hb10⟩; have HM10 := Lib.hid (HM9.out.below hb10); rw [← HNSL.out] at hos; obtain ⟨p10, c10, rfl, _, _⟩ := fl_of_own hos; have n1 := HM10.out.m.cell (j := 1) (show 1 < 2 by decide); have g1 := HM10.out.m.frozen 1; simp only [List.getElem_cons_zero, List.getElem_cons_succ] at n1)
      have HM11 := Lib.hid (HM10.out.setS (.slice p10 ns c10))
      have HO11 := Lib.hid (own_set hos (p := ⟨w.heap.size, 1, none⟩) (show w.heap.size < _ by omega) (.slice p10 ns c10))
      have HX11 := Lib.hid (show (w10.setCell ⟨w.heap.size, 1, none⟩ (.slice p10 ns c10)).heap[bx]? = _ from (Below.heap_setCell _ _ _ _ (show bx ≠ w.heap.size by omega)).trans ((hb10.block bx hbs).trans HX9.out))
      have HFL11 := Lib.hid (show FL encP (w10.setCell ⟨w.heap.size, 1, none⟩ (.slice p10 ns c10)) p L from cl_set (HFL9.out.below hb10) HM10.out.m (fun x hx hm => by obtain ⟨s, rfl⟩ := flP_first hx; simp at hm))
      have hle11 : W9.heap.size ≤ (w10.setCell ⟨w.heap.size, 1, none⟩ (.slice p10 ns c10)).heap.size := by simpa [World.setCell] using hb10.size
      clear m1 n1 g1 hos hb10 HM9 HM10 HFL9
      generalize w10.setCell ⟨w.heap.size, 1, none⟩ (.slice p10 ns c10) = W11 at HM11 HO11 HX11 HFL11 hle11 ⊢
      have m1 := HM11.out.m.cell (j := 1) (show 1 < 2 by decide)
      have x0 := cellOf (v := .int .i64 c) HX11.out (j := 0) rfl; have x1 := cellOf (v := .int .i64 n) HX11.out (j := 1) rfl; have x2 := cellOf (v := .string rs) HX11.out (j := 2) rfl
      simp only [List.getElem_cons_zero, List.getElem_cons_succ] at m1
      have hnvb : p10.map (·.block) ≠ some W11.heap.size := fun e => by
        rcases HO11.out.2 with ⟨h1, _⟩ | ⟨g, cap', cur, h1, _, h2, _⟩
        · injection h1 with h1; rw [h1] at e; cases e
        · injection h1 with h1; rw [h1] at e; injection e with e
          have := (Array.getElem?_eq_some_iff.mp h2).1
          simp at e
          omega
      obtain ⟨n13, hn13⟩ : ∃ n13, n13 = ns + 1 := ⟨_, rfl⟩
      have HLL := Lib.hid (show (S.take i ++ (⟨c, n, rs⟩ : Ses) :: S.drop i).length = n13 by have := HNSL.out; simp; omega)
      clear hn13
      have hb12 := (Below.refl _ W11).alloc (Nat.le_refl _) (.cells #[.int .i64 c, .int .i64 n, .string rs] 87)
      have HIN := Lib.hid (insSes_ex W9.heap.size ns i W11.heap.size p10 c10 S ⟨c, n, rs⟩ (W11.alloc (.cells #[.int .i64 c, .int .i64 n, .string rs] 87)) hin (by have := HSL.out; omega) (own_below HO11.out hb12) hnvb (heap_alloc_new W11 _) (by have := hb12.size; omega))
      have HM12 := Lib.hid (HM11.out.below hb12)
      have HFL12 := Lib.hid (HFL11.out.below hb12)
      clear hnvb hb12 HO11 HM11 HFL11
      go_upto_region 17 with (go_at_call 33; refine HIN.out.mono ?_; rintro e w13 ⟨v13, rfl, ho13, hb13⟩; rw [HLL.out] at ho13; obtain ⟨p13, c13, rfl, _, _⟩ := fl_of_own ho13; have HM13 := Lib.hid (HM12.out.belowN hsz9 hb13); have n1 := HM13.out.m.cell (j := 1) (show 1 < 2 by decide); have g1 := HM13.out.m.frozen 1; simp only [List.getElem_cons_zero, List.getElem_cons_succ] at n1)
      have HO14 := Lib.hid (own_set ho13 (p := ⟨w.heap.size, 1, none⟩) (show w.heap.size < _ by omega) (.slice p13 n13 c13))
      have HM14 := Lib.hid (HM13.out.setS (.slice p13 n13 c13))
      have HFL14 := Lib.hid (show FL encP (w13.setCell ⟨w.heap.size, 1, none⟩ (.slice p13 n13 c13)) p L from cl_set (cl_bel HFL12.out HQ9.out.lt hb13) HM13.out.m (fun x hx hm => by obtain ⟨s, rfl⟩ := flP_first hx; simp at hm))
      have HVS := Lib.hid (vs_insert (y := ⟨c, n, rs⟩) HLV.out.2 HCT.out HF.out ⟨hc, hn1.1, hn1.2, h74⟩)
      have hle14 : W9.heap.size ≤ (w13.setCell ⟨w.heap.size, 1, none⟩ (.slice p13 n13 c13)).heap.size := by have := hb13.size; simp [World.setCell] at this ⊢; omega
      clear n1 g1 m1 x0 x1 x2 ho13 HM12 HM13 HFL12 HX11 hle11 hb13
      generalize w13.setCell ⟨w.heap.size, 1, none⟩ (.slice p13 n13 c13) = W14 at HO14 HM14 HFL14 hle14 ⊢
      have m0 := HM14.out.m.cell (j := 0) (show 0 < 2 by decide); have m1 := HM14.out.m.cell (j := 1) (show 1 < 2 by decide)
      have r0 := HM14.out.r.cell (j := 0) (show 0 < 2 by decide); have r1 := HM14.out.r.cell (j := 1) (show 1 < 2 by decide)
      have f0 := HM14.out.r.frozen 0; have f1 := HM14.out.r.frozen 1
      simp only [List.getElem_cons_zero, List.getElem_cons_succ] at m0 m1 r0 r1
      go_wp2_with fail
      refine bodyPost_ret (results_row_tmp rfl _ _ (w.heap.size + 2) 29 _ (0, 0) _ rfl (HM14.out.res (.slice p np cp) (.slice p13 n13 c13)) Tryz.underlying29 rfl Tryz.info29) rfl ?_
      refine ⟨_, _, L, _, rs, rfl, ⟨p, cp, by rw [← HN7.out], by rw [← HN7.out]; exact h76x, ?_, ?_⟩, sev_of_own (own_set (own_set HO14.out (p := ⟨w.heap.size + 2, 0, none⟩) (show w.heap.size + 2 < _ by omega) _) (p := ⟨w.heap.size + 2, 1, none⟩) (show w.heap.size + 2 < _ by omega) _), HV8.out, HVS.out, h73, HM14.out.resbl _ _⟩
      · exact cl_set (cl_set HFL14.out HM14.out.r (fun x hx hm => by obtain ⟨s, rfl⟩ := flP_first hx; simp at hm)) (HM14.out.r.set 0 _) (fun x hx hm => by obtain ⟨s, rfl⟩ := flP_first hx; simp at hm)
      · exact HQ9.out.mono (by simpa [World.setCell] using hle14)
  | true =>
    obtain ⟨x, hx, hxc⟩ : ∃ x, S[i]? = some x ∧ x.c = c := by
      unfold foundSes at hf
      cases hx : S[i]? with
      | none => rw [hx] at hf; simp at hf
      | some x => rw [hx] at hf; exact ⟨x, rfl, by have := of_decide_eq_true hf; unfold cfSes at this; omega⟩
    have HX := Lib.hid hx
    have HXC := Lib.hid hxc
    have him : i < ns := by rw [HNSL.out]; exact (List.getElem?_eq_some_iff.mp hx).1
    obtain ⟨bb, off, hpe, hbb, hcs3⟩ := HFS.out.at encS3 (by have := HNSL.out; omega)
    subst hpe
    have d1 := (HM3.out.bl.cell (p := ⟨bb, off + (i * 3 + 0), none⟩) hbb).trans (hcs3 _ _ ((flat_get encS3 hx (j := 0) (by omega)).trans rfl))
    have d2 := (HM3.out.bl.cell (p := ⟨bb, off + (i * 3 + 1), none⟩) hbb).trans (hcs3 _ _ ((flat_get encS3 hx (j := 1) (by omega)).trans rfl))
    have d3 := (HM3.out.bl.cell (p := ⟨bb, off + (i * 3 + 2), none⟩) hbb).trans (hcs3 _ _ ((flat_get encS3 hx (j := 2) (by omega)).trans rfl))
    replace d1 : w3.cell? ⟨bb, off + i * 3, none⟩ = some (.int .i64 x.c) := d1
    replace d2 : w3.cell? ⟨bb, off + i * 3 + 1, none⟩ = some (.int .i64 x.n) := d2
    replace d3 : w3.cell? ⟨bb, off + i * 3 + 2, none⟩ = some (.string x.r) := d3
    clear hx hxc hcs3 hf
    have e0 : (0 : Int) ≤ (i : Int) := by omega
    have e1 : (i : Int) < (ns : Int) := by omega
    by_cases hlt : n < x.n
    · have g1 : (n : Int) < (x.n : Int) := by omega
      go_region
      go_wp2_with fail
      refine bodyPost_ret (results_row_tmp rfl _ _ (w.heap.size + 2) 29 _ (0, 0) _ rfl (HM3.out.res (.slice p np cp) (.slice (some ⟨bb, off, none⟩) ns cs)) Tryz.underlying29 rfl Tryz.info29) rfl ?_
      exact ⟨_, _, L, S, _, rfl, HP.out.below (below_drewN (HM3.out.resbl _ _) 1), HS.out.below (below_drewN (HM3.out.resbl _ _) 1), HLV.out.1, HLV.out.2, by have := HN.out; omega, below_drewN (HM3.out.resbl _ _) 1⟩
    · have g1 : ¬ ((n : Int) < (x.n : Int)) := by omega
      by_cases hxe : x.n = n
      · have g2 : (x.n : Int) = (n : Int) := by omega
        go_region
        go_wp2_with fail
        go_region
        go_wp2_with fail
        go_region
        go_wp2_with fail
        refine bodyPost_ret (results_row_tmp rfl _ _ (w.heap.size + 2) 29 _ (0, 0) _ rfl (HM3.out.res (.slice p np cp) (.slice (some ⟨bb, off, none⟩) ns cs)) Tryz.underlying29 rfl Tryz.info29) rfl ?_
        exact ⟨_, _, L, S, _, rfl, HP.out.below (below_drewN (HM3.out.resbl _ _) 3), HS.out.below (below_drewN (HM3.out.resbl _ _) 3), HLV.out.1, HLV.out.2, by have := HN.out; omega, below_drewN (HM3.out.resbl _ _) 3⟩
      · have g2 : ¬ ((x.n : Int) = (n : Int)) := by omega
        go_region
        go_wp2_with fail
        go_region
        go_upto_region 8 with fail
        have HM4 := Lib.hid (HM3.out.drew.drew)
        clear q0 q1 q2 m0 m1 r0 r1 f0 f1 d1 d2 d3
        generalize w3.drew.drew = W4 at HM4 ⊢
        have q2 := HM4.out.q.cell (j := 2) (show 2 < 3 by decide)
        simp only [List.getElem_cons_zero, List.getElem_cons_succ] at q2
        go_upto_region 10 with (go_at_call 30; refine (HPA.out _ HM4.out.bl).mono ?_; rintro e w5 ⟨k', a', b', d', er, rfl, ha', hb', hd', hb5⟩)
        have HM6 := Lib.hid ((HM4.out.below hb5).below ((Below.refl _ w5).alloc (Nat.le_refl _) (.cells #[.int .i64 k', .string a', .string b', .string d'] 89)))
        have HO6 := Lib.hid (heap_alloc_new w5 (.cells #[.int .i64 k', .string a', .string b', .string d'] 89))
        clear q2 hb5 HM4
        obtain ⟨bo, hbo⟩ : ∃ bo, bo = w5.heap.size := ⟨_, rfl⟩
        rw [← hbo] at HO6 ⊢
        clear hbo
        generalize w5.alloc (.cells #[.int .i64 k', .string a', .string b', .string d'] 89) = W6 at HM6 HO6 ⊢
        by_cases her : er = 0
        · subst her
          have o0 := cellOf (v := .int .i64 k') HO6.out (j := 0) rfl; have o1 := cellOf (v := .string a') HO6.out (j := 1) rfl; have o2 := cellOf (v := .string b') HO6.out (j := 2) rfl; have o3 := cellOf (v := .string d') HO6.out (j := 3) rfl
          have m0 := HM6.out.m.cell (j := 0) (show 0 < 2 by decide)
          simp only [List.getElem_cons_zero, List.getElem_cons_succ] at m0
          go_upto_region 12 with (go_at_call 31; refine (HEX.out _ HM6.out.bl k' a' b' d' ha' hb' hd').mono ?_; rintro e w7 ⟨pv7, L7, rs, rfl, h71, h72, h73, h74, h75⟩; obtain ⟨p7, c7, rfl, h76, h77, h78⟩ := h71; have HM7 := Lib.hid (HM6.out.below h75); have n0 := HM7.out.m.cell (j := 0) (show 0 < 2 by decide); have g0 := HM7.out.m.frozen 0; simp only [List.getElem_cons_zero, List.getElem_cons_succ] at n0)
          have HM8 := Lib.hid (HM7.out.setP (.slice p7 L7.length c7))
          have HFL8 := Lib.hid (show FL encP (w7.setCell ⟨w.heap.size, 0, none⟩ (.slice p7 L7.length c7)) p7 L7 from cl_set h77 HM7.out.m (fun x hx hm => by obtain ⟨s, rfl⟩ := flP_first hx; simp at hm))
          have HQ8 := Lib.hid (show PLt p7 (w7.setCell ⟨w.heap.size, 0, none⟩ (.slice p7 L7.length c7)).heap.size by simpa [PLt, World.setCell] using h78)
          have HV8 := Lib.hid h72
          clear o0 o1 o2 o3 m0 n0 g0 h72 h75 h77 h78 HM6 HM7 HO6
          generalize w7.setCell ⟨w.heap.size, 0, none⟩ (.slice p7 L7.length c7) = W8 at HM8 HFL8 HQ8 ⊢
          obtain ⟨n7, hn7⟩ : ∃ n7, n7 = L7.length := ⟨_, rfl⟩
          have HN7 := Lib.hid hn7
          rw [← hn7] at HM8 ⊢
          have h76x : n7 ≤ c7 := by rw [hn7]; omega
          clear hn7
          have q0 := HM8.out.q.cell (j := 0) (show 0 < 3 by decide); have q1 := HM8.out.q.cell (j := 1) (show 1 < 3 by decide)
          simp only [List.getElem_cons_zero, List.getElem_cons_succ] at q0 q1
          go_upto_region 13 with fail
          have HX9 := Lib.hid (heap_alloc_new W8 (.cells #[.int .i64 c, .int .i64 n, .string rs] 87))
          have HM9 := Lib.hid (HM8.out.below ((Below.refl _ W8).alloc (Nat.le_refl _) (.cells #[.int .i64 c, .int .i64 n, .string rs] 87)))
          have HFL9 := Lib.hid (HFL8.out.below ((Below.refl _ W8).alloc (Nat.le_refl _) (.cells #[.int .i64 c, .int .i64 n, .string rs] 87)))
          have hbs : W8.heap.size < (W8.alloc (.cells #[.int .i64 c, .int .i64 n, .string rs] 87)).heap.size := by simp
          have HQ9 := Lib.hid (HQ8.out.mono (Nat.le_of_lt hbs))
          have hsz9 : w.heap.size + 2 < (W8.alloc (.cells #[.int .i64 c, .int .i64 n, .string rs] 87)).heap.size := Nat.lt_trans HM8.out.r.lt hbs
          obtain ⟨bx, hbx⟩ : ∃ bx, bx = W8.heap.size := ⟨_, rfl⟩
          have hbx2 : w.heap.size + 2 < bx := by rw [hbx]; exact HM8.out.r.lt
          rw [← hbx] at HX9 hbs ⊢
          clear q0 q1 hbx HM8 HFL8 HQ8
          generalize W8.alloc (.cells #[.int .i64 c, .int .i64 n, .string rs] 87) = W9 at HX9 HM9 HFL9 HQ9 hbs hsz9 ⊢
          have m1 := HM9.out.m.cell (j := 1) (show 1 < 2 by decide)
          simp only [List.getElem_cons_zero, List.getElem_cons_succ] at m1
          go_upto_region 14 with (go_at_call 32; refine (HCL.out _ HM9.out.bl).mono ?_; rintro e w10 ⟨vs, rfl, hos, hb10⟩; have HM10 := Lib.hid (HM9.out.below hb10); rw [← HNSL.out] at hos; obtain ⟨p10, c10, rfl, _, _⟩ := fl_of_own hos; have n1 := HM10.out.m.cell (j := 1) (show 1 < 2 by decide); have g1 := HM10.out.m.frozen 1; simp only [List.getElem_cons_zero, List.getElem_cons_succ] at n1)
          have HM11 := Lib.hid (HM10.out.setS (.slice p10 ns c10))
          have HO11 := Lib.hid (own_set hos (p := ⟨w.heap.size, 1, none⟩) (show w.heap.size < _ by omega) (.slice p10 ns c10))
          have HX11 := Lib.hid (show (w10.setCell ⟨w.heap.size, 1, none⟩ (.slice p10 ns c10)).heap[bx]? = _ from (Below.heap_setCell _ _ _ _ (show bx ≠ w.heap.size by omega)).trans ((hb10.block bx hbs).trans HX9.out))
          have HFL11 := Lib.hid (show FL encP (w10.setCell ⟨w.heap.size, 1, none⟩ (.slice p10 ns c10)) p7 L7 from cl_set (HFL9.out.below hb10) HM10.out.m (fun x hx hm => by obtain ⟨s, rfl⟩ := flP_first hx; simp at hm))
          have hle11 : W9.heap.size ≤ (w10.setCell ⟨w.heap.size, 1, none⟩ (.slice p10 ns c10)).heap.size := by simpa [World.setCell] using hb10.size
          clear m1 n1 g1 hos hb10 HM9 HM10 HFL9
          generalize w10.setCell ⟨w.heap.size, 1, none⟩ (.slice p10 ns c10) = W11 at HM11 HO11 HX11 HFL11 hle11 ⊢
          have m1 := HM11.out.m.cell (j := 1) (show 1 < 2 by decide)
          have x0 := cellOf (v := .int .i64 c) HX11.out (j := 0) rfl; have x1 := cellOf (v := .int .i64 n) HX11.out (j := 1) rfl; have x2 := cellOf (v := .string rs) HX11.out (j := 2) rfl
          simp only [List.getElem_cons_zero, List.getElem_cons_succ] at m1
          obtain ⟨g, c10', hg⟩ := own_some HO11.out (show 0 < ns by omega)
          injection hg with hg _ hc10
          subst hg
          subst hc10
          obtain ⟨_, y0, z0, hbg⟩ := own_cell encS3 HO11.out HX.out (j := 0) (x' := x) (u := .int .i64 x.c) (by decide) rfl
          obtain ⟨_, y1, z1, _⟩ := own_cell encS3 HO11.out HX.out (j := 1) (x' := x) (u := .int .i64 x.n) (by decide) rfl
          obtain ⟨_, y2, z2, _⟩ := own_cell encS3 HO11.out HX.out (j := 2) (x' := x) (u := .string x.r) (by decide) rfl
          replace y0 : W11.cell? ⟨g, i * 3, none⟩ = some (.int .i64 x.c) := y0
          replace y1 : W11.cell? ⟨g, i * 3 + 1, none⟩ = some (.int .i64 x.n) := y1
          replace y2 : W11.cell? ⟨g, i * 3 + 2, none⟩ = some (.string x.r) := y2
          replace z0 : W11.frozen? ⟨g, i * 3, none⟩ = false := z0
          go_upto_region 17 with fail
          have HO14 := Lib.hid (own_elemS (y := ⟨c, n, rs⟩) HO11.out HX.out)
          have HM14 := Lib.hid (((HM11.out.far (b := g) (j := i * 3) (v := .int .i64 c) (by omega)).far (b := g) (j := i * 3 + 1) (v := .int .i64 n) (by omega)).far (b := g) (j := i * 3 + 2) (v := .string rs) (by omega))
          have hfar : ∀ k o, p7 = some ⟨k, o, none⟩ → k ≠ g := fun k o e => by have := HQ9.out.lt k o e; omega
          have HFL14 := Lib.hid (show FL encP (((W11.setCell ⟨g, i * 3, none⟩ (.int .i64 c)).setCell ⟨g, i * 3 + 1, none⟩ (.int .i64 n)).setCell ⟨g, i * 3 + 2, none⟩ (.string rs)) p7 L7 from cl_far (cl_far (cl_far HFL11.out hfar) hfar) hfar)
          have HVS := Lib.hid (vs_set HLV.out.2 HX.out (y := ⟨c, n, rs⟩) HXC.out.symm ⟨hc, hn1.1, hn1.2, h74⟩)
          have hle14 : W9.heap.size ≤ (((W11.setCell ⟨g, i * 3, none⟩ (.int .i64 c)).setCell ⟨g, i * 3 + 1, none⟩ (.int .i64 n)).setCell ⟨g, i * 3 + 2, none⟩ (.string rs)).heap.size := by simpa [World.setCell] using hle11
          clear y0 y1 y2 z0 z1 z2 m1 x0 x1 x2 hfar HO11 HM11 HFL11 HX11 hle11
          generalize ((W11.setCell ⟨g, i * 3, none⟩ (.int .i64 c)).setCell ⟨g, i * 3 + 1, none⟩ (.int .i64 n)).setCell ⟨g, i * 3 + 2, none⟩ (.string rs) = W14 at HO14 HM14 HFL14 hle14 ⊢
          have m0 := HM14.out.m.cell (j := 0) (show 0 < 2 by decide); have m1 := HM14.out.m.cell (j := 1) (show 1 < 2 by decide)
          have r0 := HM14.out.r.cell (j := 0) (show 0 < 2 by decide); have r1 := HM14.out.r.cell (j := 1) (show 1 < 2 by decide)
          have f0 := HM14.out.r.frozen 0; have f1 := HM14.out.r.frozen 1
          simp only [List.getElem_cons_zero, List.getElem_cons_succ] at m0 m1 r0 r1
          go_wp2_with fail
          refine bodyPost_ret (results_row_tmp rfl _ _ (w.heap.size + 2) 29 _ (0, 0) _ rfl (HM14.out.res (.slice p7 n7 c7) (.slice (some ⟨g, 0, none⟩) ns c10)) Tryz.underlying29 rfl Tryz.info29) rfl ?_
          refine ⟨_, _, L7, _, rs, rfl, ⟨p7, c7, by rw [← HN7.out], by rw [← HN7.out]; exact h76x, ?_, ?_⟩, sev_of_own (own_set (own_set HO14.out (p := ⟨w.heap.size + 2, 0, none⟩) (show w.heap.size + 2 < _ by omega) _) (p := ⟨w.heap.size + 2, 1, none⟩) (show w.heap.size + 2 < _ by omega) _), HV8.out, HVS.out, h73, HM14.out.resbl _ _⟩
          · exact cl_set (cl_set HFL14.out HM14.out.r (fun x hx hm => by obtain ⟨s, rfl⟩ := flP_first hx; simp at hm)) (HM14.out.r.set 0 _) (fun x hx hm => by obtain ⟨s, rfl⟩ := flP_first hx; simp at hm)
          · exact HQ9.out.mono (by simpa [World.setCell] using hle14)
        · have hne : ¬ ((er : Int) = 0) := her
          obtain ⟨rs, hrs⟩ : ∃ rs, rs = (⟨#[109, 97, 108, 102, 111, 114, 109, 101, 100]⟩ : ByteArray) := ⟨_, rfl⟩
          have h74 : rs.size ≤ 400 := by rw [hrs]; decide
          rw [← hrs]
          clear hrs
          go_upto_region 12 with fail
          obtain ⟨p7, c7, h70, h76, h77, h78⟩ := HP.out.below HM6.out.bl
          injection h70 with e1 e2 e3
          rw [← e1] at h77 h78
          have HM8 := Lib.hid HM6.out
          have HFL8 := Lib.hid h77
          have HQ8 := Lib.hid (show PLt p W6.heap.size from h78)
          have HV8 := Lib.hid HLV.out.1
          have h73 : L.length ≤ np + 1 := by omega
          have HN7 := Lib.hid e2
          have h76x : np ≤ cp := hcp'
          clear e1 e2 e3 h77 h78 HM6 HO6
          have q0 := HM8.out.q.cell (j := 0) (show 0 < 3 by decide); have q1 := HM8.out.q.cell (j := 1) (show 1 < 3 by decide)
          simp only [List.getElem_cons_zero, List.getElem_cons_succ] at q0 q1
          go_upto_region 13 with fail
          have HX9 := Lib.hid (heap_alloc_new W6 (.cells #[.int .i64 c, .int .i64 n, .string rs] 87))
          have HM9 := Lib.hid (HM8.out.below ((Below.refl _ W6).alloc (Nat.le_refl _) (.cells #[.int .i64 c, .int .i64 n, .string rs] 87)))
          have HFL9 := Lib.hid (HFL8.out.below ((Below.refl _ W6).alloc (Nat.le_refl _) (.cells #[.int .i64 c, .int .i64 n, .string rs] 87)))
          have hbs : W6.heap.size < (W6.alloc (.cells #[.int .i64 c, .int .i64 n, .string rs] 87)).heap.size := by simp
          have HQ9 := Lib.hid (HQ8.out.mono (Nat.le_of_lt hbs))
          have hsz9 : w.heap.size + 2 < (W6.alloc (.cells #[.int .i64 c, .int .i64 n, .string rs] 87)).heap.size := Nat.lt_trans HM8.out.r.lt hbs
          obtain ⟨bx, hbx⟩ : ∃ bx, bx = W6.heap.size := ⟨_, rfl⟩
          have hbx2 : w.heap.size + 2 < bx := by rw [hbx]; exact HM8.out.r.lt
          rw [← hbx] at HX9 hbs ⊢
          clear q0 q1 hbx HM8 HFL8 HQ8
          generalize W6.alloc (.cells #[.int .i64 c, .int .i64 n, .string rs] 87) = W9 at HX9 HM9 HFL9 HQ9 hbs hsz9 ⊢
          have m1 := HM9.out.m.cell (j := 1) (show 1 < 2 by decide)
          simp only [List.getElem_cons_zero, List.getElem_cons_succ] at m1
          go_upto_region 14 with (go_at_call 32; refine (HCL.out _ HM9.out.bl).mono ?_; rintro e w10 ⟨vs, rfl, hos, hb10⟩; have HM10 := Lib.hid (HM9.out.below hb10); rw [← HNSL.out] at hos; obtain ⟨p10, c10, rfl, _, _⟩ := fl_of_own hos; have n1 := HM10.out.m.cell (j := 1) (show 1 < 2 by decide); have g1 := HM10.out.m.frozen 1; simp only [List.getElem_cons_zero, List.getElem_cons_succ] at n1)
          have HM11 := Lib.hid (HM10.out.setS (.slice p10 ns c10))
          have HO11 := Lib.hid (own_set hos (p := ⟨w.heap.size, 1, none⟩) (show w.heap.size < _ by omega) (.slice p10 ns c10))
          have HX11 := Lib.hid (show (w10.setCell ⟨w.heap.size, 1, none⟩ (.slice p10 ns c10)).heap[bx]? = _ from (Below.heap_setCell _ _ _ _ (show bx ≠ w.heap.size by omega)).trans ((hb10.block bx hbs).trans HX9.out))
          have HFL11 := Lib.hid (show FL encP (w10.setCell ⟨w.heap.size, 1, none⟩ (.slice p10 ns c10)) p L from cl_set (HFL9.out.below hb10) HM10.out.m (fun x hx hm => by obtain ⟨s, rfl⟩ := flP_first hx; simp at hm))
          have hle11 : W9.heap.size ≤ (w10.setCell ⟨w.heap.size, 1, none⟩ (.slice p10 ns c10)).heap.size := by simpa [World.setCell] using hb10.size
          clear m1 n1 g1 hos hb10 HM9 HM10 HFL9
          generalize w10.setCell ⟨w.heap.size, 1, none⟩ (.slice p10 ns c10) = W11 at HM11 HO11 HX11 HFL11 hle11 ⊢
          have m1 := HM11.out.m.cell (j := 1) (show 1 < 2 by decide)
          have x0 := cellOf (v := .int .i64 c) HX11.out (j := 0) rfl; have x1 := cellOf (v := .int .i64 n) HX11.out (j := 1) rfl; have x2 := cellOf (v := .string rs) HX11.out (j := 2) rfl
          simp only [List.getElem_cons_zero, List.getElem_cons_succ] at m1
          obtain ⟨g, c10', hg⟩ := own_some HO11.out (show 0 < ns by omega)
          injection hg with hg _ hc10
          subst hg
          subst hc10
          obtain ⟨_, y0, z0, hbg⟩ := own_cell encS3 HO11.out HX.out (j := 0) (x' := x) (u := .int .i64 x.c) (by decide) rfl
          obtain ⟨_, y1, z1, _⟩ := own_cell encS3 HO11.out HX.out (j := 1) (x' := x) (u := .int .i64 x.n) (by decide) rfl
          obtain ⟨_, y2, z2, _⟩ := own_cell encS3 HO11.out HX.out (j := 2) (x' := x) (u := .string x.r) (by decide) rfl
          replace y0 : W11.cell? ⟨g, i * 3, none⟩ = some (.int .i64 x.c) := y0
          replace y1 : W11.cell? ⟨g, i * 3 + 1, none⟩ = some (.int .i64 x.n) := y1
          replace y2 : W11.cell? ⟨g, i * 3 + 2, none⟩ = some (.string x.r) := y2
          replace z0 : W11.frozen? ⟨g, i * 3, none⟩ = false := z0
          go_upto_region 17 with fail
          have HO14 := Lib.hid (own_elemS (y := ⟨c, n, rs⟩) HO11.out HX.out)
          have HM14 := Lib.hid (((HM11.out.far (b := g) (j := i * 3) (v := .int .i64 c) (by omega)).far (b := g) (j := i * 3 + 1) (v := .int .i64 n) (by omega)).far (b := g) (j := i * 3 + 2) (v := .string rs) (by omega))
          have hfar : ∀ k o, p = some ⟨k, o, none⟩ → k ≠ g := fun k o e => by have := HQ9.out.lt k o e; omega
          have HFL14 := Lib.hid (show FL encP (((W11.setCell ⟨g, i * 3, none⟩ (.int .i64 c)).setCell ⟨g, i * 3 + 1, none⟩ (.int .i64 n)).setCell ⟨g, i * 3 + 2, none⟩ (.string rs)) p L from cl_far (cl_far (cl_far HFL11.out hfar) hfar) hfar)
          have HVS := Lib.hid (vs_set HLV.out.2 HX.out (y := ⟨c, n, rs⟩) HXC.out.symm ⟨hc, hn1.1, hn1.2, h74⟩)
          have hle14 : W9.heap.size ≤ (((W11.setCell ⟨g, i * 3, none⟩ (.int .i64 c)).setCell ⟨g, i * 3 + 1, none⟩ (.int .i64 n)).setCell ⟨g, i * 3 + 2, none⟩ (.string rs)).heap.size := by simpa [World.setCell] using hle11
          clear y0 y1 y2 z0 z1 z2 m1 x0 x1 x2 hfar HO11 HM11 HFL11 HX11 hle11
          generalize ((W11.setCell ⟨g, i * 3, none⟩ (.int .i64 c)).setCell ⟨g, i * 3 + 1, none⟩ (.int .i64 n)).setCell ⟨g, i * 3 + 2, none⟩ (.string rs) = W14 at HO14 HM14 HFL14 hle14 ⊢
          have m0 := HM14.out.m.cell (j := 0) (show 0 < 2 by decide); have m1 := HM14.out.m.cell (j := 1) (show 1 < 2 by decide)
          have r0 := HM14.out.r.cell (j := 0) (show 0 < 2 by decide); have r1 := HM14.out.r.cell (j := 1) (show 1 < 2 by decide)
          have f0 := HM14.out.r.frozen 0; have f1 := HM14.out.r.frozen 1
          simp only [List.getElem_cons_zero, List.getElem_cons_succ] at m0 m1 r0 r1
          go_wp2_with fail
          refine bodyPost_ret (results_row_tmp rfl _ _ (w.heap.size + 2) 29 _ (0, 0) _ rfl (HM14.out.res (.slice p np cp) (.slice (some ⟨g, 0, none⟩) ns c10)) Tryz.underlying29 rfl Tryz.info29) rfl ?_
          refine ⟨_, _, L, _, rs, rfl, ⟨p, cp, by rw [← HN7.out], by rw [← HN7.out]; exact h76x, ?_, ?_⟩, sev_of_own (own_set (own_set HO14.out (p := ⟨w.heap.size + 2, 0, none⟩) (show w.heap.size + 2 < _ by omega) _) (p := ⟨w.heap.size + 2, 1, none⟩) (show w.heap.size + 2 < _ by omega) _), HV8.out, HVS.out, h73, HM14.out.resbl _ _⟩
          · exact cl_set (cl_set HFL14.out HM14.out.r (fun x hx hm => by obtain ⟨s, rfl⟩ := flP_first hx; simp at hm)) (HM14.out.r.set 0 _) (fun x hx hm => by obtain ⟨s, rfl⟩ := flP_first hx; simp at hm)
          · exact HQ9.out.mono (by simpa [World.setCell] using hle14)
theorem apply_any (pv sv : Value) (L : List Par) (S : List Ses) (rc rn : Int) (op : ByteArray) (w : World) (hP : PrV w pv L) (hS : SeV w sv S) (hL : VP L) (hV : VS S) (hn : L.length ≤ 60) (hop : op.size ≤ 1048576) (hG : GL w) :
  Calls Tryz.prog 7 #[.agg #[pv, sv], .agg #[.int .i64 rc, .int .i64 rn, .string op]] w (ApplyRet (L.length + 1) w) := by
 by_cases h : rightB rc rn = true ∧ 0 < op.size ∧ op.size ≤ 200
 ·have h1 := h.1
  unfold rightB at h1
  simp only [Bool.and_eq_true, decide_eq_true_eq] at h1
  obtain ⟨c, rfl⟩ : ∃ c : Nat, rc = c := ⟨rc.toNat, by omega⟩
  obtain ⟨n, rfl⟩ : ∃ n : Nat, rn = n := ⟨rn.toNat, by omega⟩
  exact apply_ok pv sv L S c n op w hP hS hL hV hn h.2 (by omega) (by omega) hG
 ·refine apply_bad pv sv L S rc rn op w hP hS hL hV hop ?_
  cases hr : rightB rc rn with
  | false => exact .inl rfl
  | true =>
   right
   by_cases h0 : op.size = 0
   ·exact .inl h0
   ·right
    have : ¬ (0 < op.size ∧ op.size ≤ 200) := fun h2 => h ⟨hr, h2⟩
    omega
end Go.Proofs.YtnaglmigkbbljaaGreatDoor
