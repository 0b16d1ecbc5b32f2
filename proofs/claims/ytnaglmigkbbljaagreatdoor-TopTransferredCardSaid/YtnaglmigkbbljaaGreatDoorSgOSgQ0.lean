/-
  TopTransferred: session.sessions reads the first chunk back (printed by mkSgO.py).
-/
import Derived.Test.YtnaglmigkbbljaaGreatDoorSgKSgN
set_option maxHeartbeats 6400000
set_option maxRecDepth 1000000
set_option linter.unusedVariables false
set_option linter.unusedSimpArgs false
namespace Go.Proofs.YtnaglmigkbbljaaGreatDoor
open Go Go.RowKit Go.Shelf
attribute [local go_sem] Oper.semAt_some
theorem results_two {P : Program} {fn : Func} {p q : Tmp} {t u : TypeId} (h : fn.results = #[.cell p t, .cell q u]) (tmps : Array Value) (w : World) (a b : Addr) (x y : Value)
  (ha : tmps.getD p undef = .pointer (some a)) (hb : tmps.getD q undef = .pointer (some b)) (hx : w.cell? a = some x) (hy : w.cell? b = some y) (ht : ∀ w, (isAgg t).run P w = .ok false w) (hu : ∀ w, (isAgg u).run P w = .ok false w) :
  (results fn tmps).run P w = .ok (.tuple #[x, y]) w := by
 have ha' : tmps[p]?.getD undef = .pointer (some a) := by simpa using ha
 have hb' : tmps[q]?.getD undef = .pointer (some b) := by simpa using hb
 simp only [results, h]
 simp [ha', hb', asAddr, loadVar, ht, hu, hx, hy, go_sem]
def OldI (w2 : World) (B : Nat) (Bs : Nat → Prop) (W : World) : Prop := w2.heap.size ≤ W.heap.size ∧ ∀ b, b < w2.heap.size → ¬ Bs b → b ≠ B → W.heap[b]? = w2.heap[b]?
theorem old_own {w2 : World} {B : Nat} {Bs : Nat → Prop} : OwnX w2.heap.size Bs (fun _ W => OldI w2 B Bs W) := fun _ W W' row ⟨h1, h2⟩ hg hr =>
 ⟨Nat.le_trans h1 hg.size, fun b hb hn hB => (hg.block b (by omega) (fun e => by
  rcases hr b e.symm with h | ⟨h, _⟩
  ·exact hn h
  ·omega)).trans (h2 b hb hn hB)⟩
theorem ownX_and {N : Nat} {Bs : Nat → Prop} {I J : Nat → World → Prop} (h : OwnX N Bs I) (k : OwnX N Bs J) : OwnX N Bs (fun i W => I i W ∧ J i W) := fun s W W' row hs hg hr => ⟨h s W W' row hs.1 hg hr, k s W W' row hs.2 hg hr⟩
theorem hold_keep {W W5 w6 : World} {N B : Nat} {T : TypeId} {sz n : Nat} {xs : List Value} {v v' : Value} {tmp : Obj} (ho : W.ownsRow N T sz v n xs) (hn : N ≤ W.heap.size) (h5 : Below W.heap.size W W5) (hgrow : (W5.alloc tmp).grownBy w6 v.ownBlock) :
  ∀ b, b < N → b ≠ B → (w6.setCell ⟨B, 0, none⟩ v').heap[b]? = W.heap[b]? := fun b hb hB => by
 have hn5 : N ≤ W5.heap.size := Nat.le_trans hn h5.size
 have hgN : ∀ g, v.ownBlock = some g → N ≤ g := fun g e => by
  rcases ho.2 with ⟨rfl, _⟩ | ⟨g', cap, cur, rfl, hbg, _⟩
  ·simp [Value.ownBlock] at e
  ·simp [Value.ownBlock] at e; omega
 have e1 : (w6.setCell ⟨B, 0, none⟩ v').heap[b]? = w6.heap[b]? := Below.heap_setCell _ _ _ _ hB
 have e2 : w6.heap[b]? = (W5.alloc tmp).heap[b]? := hgrow.block b (by simp; omega) (fun e => by have := hgN b e.symm; omega)
 have e3 : (W5.alloc tmp).heap[b]? = W5.heap[b]? := Below.heap_alloc W5 tmp b (by omega)
 have e4 : W5.heap[b]? = W.heap[b]? := h5.block b (by omega)
 rw [e1, e2, e3, e4]
theorem cell_new {W : World} {b o : Nat} {u : Value} {x : Obj} (hc : W.cell? ⟨b, o, none⟩ = some u) : (W.alloc x).cell? ⟨b, o, none⟩ = some u :=
 (((Below.refl _ W).alloc (Nat.le_refl _) x).cell (p := ⟨b, o, none⟩) (cell_lt hc)).trans hc
theorem grown_cell {W W' : World} {N b o : Nat} {T : TypeId} {sz n : Nat} {xs : List Value} {v u : Value} (ho : W.ownsRow N T sz v n xs) (hg : W.grownBy W' v.ownBlock) (hb : b < N) (hc : W.cell? ⟨b, o, none⟩ = some u) : W'.cell? ⟨b, o, none⟩ = some u := by
 have e : W'.heap[b]? = W.heap[b]? := hg.block b (cell_lt hc) (fun e => by
  rcases ho.2 with ⟨rfl, _⟩ | ⟨g', cap, cur, rfl, hbg, _⟩
  ·simp [Value.ownBlock] at e
  ·simp [Value.ownBlock] at e; omega)
 simp only [World.cell?, e] at hc ⊢
 exact hc
def SesRet (S : List Ses) (w : World) (e : Ending) (w' : World) : Prop := ∃ v, e = .returned (.tuple #[v, .bool true]) ∧ w'.ownsRow w.heap.size 87 3 v S.length (flat encS S) ∧ Below w.heap.size w w'
theorem sessions_ex (S : List Ses) (w : World) (hV : VS S) (hG : GL w) : Calls Tryz.prog 49 #[.string (headB S)] w (SesRet S w) := by
 obtain ⟨i87, hi87, hz0, hz1, hz2⟩ := info_parts Tryz.info87
 have hsl := ses_len hV
 have HGL := Lib.hid (fun W => getList_ex (sesL S) W (by rw [sesL_len]; omega) (sesL_size hV.2))
 have HNU := Lib.hid (fun (m : Nat) (hm : m ≤ 1000000000000) W (hb : Below w.heap.size w W) => number_ex m W hm (hG.below hb))
 unfold ListRet at HGL
 have HV := Lib.hid hV
 unfold headB
 have HLN := Lib.hid (sesL_len S)
 obtain ⟨m, hm⟩ : ∃ m, m = S.length := ⟨_, rfl⟩
 rw [← hm] at hsl HLN
 have HM := Lib.hid hm
 rw [HLN.out] at HGL
 have hps : (putB (sesL S)).size ≤ 1048576 := by
  have := chunks_size hV (L := []) ⟨List.Pairwise.nil, fun x hx => by cases hx⟩ (by omega) (by simp) (headB S) (List.mem_cons_self ..)
  unfold headB at this
  omega
 clear hV hG hm
 generalize putB (sesL S) = s at HGL hps ⊢
 have hrem : ((m * 3 : Nat) : Int).tmod 3 = 0 := by
  rw [show ((m * 3 : Nat) : Int) = (m : Int) * 3 by omega]
  exact Int.mul_tmod_left _ _
 refine (callsIn_wide (n := 9)).1 ?_
 refine callsIn_of_wp_marks Tryz.func49 rfl trivial ?_ rfl
 simp only [Tryz.ntmps49, List.size_toArray, List.length_cons, List.length_nil, Nat.reduceAdd, Nat.reduceSub, Array.replicate_succ, Array.replicate_zero, List.push_toArray, List.append_toArray, List.nil_append, List.cons_append]
 have hmx : Tryz.prog.follows .mixedOrders = true := by kernel_rfl
 obtain ⟨n3, hn3⟩ : ∃ n3, n3 = m * 3 := ⟨_, rfl⟩
 rw [← hn3] at HGL hrem HLN
 have HN3 := Lib.hid hn3
 clear hn3
 gi_wp2_with (first
  | (refine ⟨trivial, ?_⟩; gi_at_call 102; refine (callsIn_wide.2 (HGL.out _)).mono ?_; rintro e w1 ⟨vl, rfl, hol, hb1⟩; have HOL := Lib.hid hol; have HB1 := Lib.hid hb1; obtain ⟨q, cq, rfl, hcq, hsq⟩ := strs_slice hol; have HSQ := Lib.hid hsq; clear hol hb1 hsq)
  | (refine ⟨trivial, ?_⟩; gi_at_call 103; refine (callsIn_wide.2 (chunkT_ex q n3 cq _)).mono ?_; rintro e w2 ⟨rfl, hw2⟩; have HW2e := Lib.hid hw2; clear hw2))
 have hw2 := HW2e.out
 -- the world in which the list was read
 obtain ⟨wa, hwa⟩ : ∃ wa, wa = (w.alloc (.cells #[.slice none 0 0] 27)).alloc (.cells #[.bool false] 4) := ⟨_, rfl⟩
 rw [← hwa] at HOL HB1
 have hwas : wa.heap.size = w.heap.size + 2 := by rw [hwa]; simp
 have hba : Below w.heap.size w wa := by rw [hwa]; exact ((Below.refl _ w).alloc (Nat.le_refl _) _).alloc (by simp) _
 have hx2 : Boxed wa w.heap.size 27 (.slice none 0 0) := by rw [hwa]; exact (Boxed.new w 27 (.slice none 0 0)).alloc _
 have hx3 : Boxed wa (w.heap.size + 1) 4 (.bool false) := by
  rw [hwa]
  have := Boxed.new (w.alloc (.cells #[.slice none 0 0] 27)) 4 (.bool false)
  rwa [World.size_alloc] at this
 have hbw1 : Below w.heap.size w w1 := hba.trans (HB1.out.mono hba.size)
 have hy2 : Boxed w1 w.heap.size 27 (.slice none 0 0) := (HB1.out.block _ hx2.lt).trans hx2
 have hy3 : Boxed w1 (w.heap.size + 1) 4 (.bool false) := (HB1.out.block _ hx3.lt).trans hx3
 have hsw1 := HB1.out.size
 have hbB : Boxed w2 w1.heap.size 27 (.slice none 0 0) := by rw [hw2]; exact ((Boxed.new w1 27 (.slice none 0 0)).alloc _).alloc _
 have hb12 : Below w1.heap.size w1 w2 := by
  rw [hw2]
  exact (((Below.refl _ w1).alloc (Nat.le_refl _) _).alloc (by simp) _).alloc (by simp; omega) _
 have hb1 : Blk w2 (w1.heap.size + 1) 35 [.slice q n3 cq] := by
  rw [hw2]
  have := heap_alloc_new (w1.alloc (.cells #[.slice none 0 0] 27)) (.cells #[.slice q n3 cq] 35)
  rw [World.size_alloc] at this
  exact (show Blk ((w1.alloc (.cells #[.slice none 0 0] 27)).alloc (.cells #[.slice q n3 cq] 35)) (w1.heap.size + 1) 35 [.slice q n3 cq] from this).below ((Below.refl _ _).alloc (Nat.le_refl _) _)
 have hb2 : Blk w2 (w1.heap.size + 1 + 1) 3 [.int .i64 3] := by
  rw [hw2]
  have := heap_alloc_new ((w1.alloc (.cells #[.slice none 0 0] 27)).alloc (.cells #[.slice q n3 cq] 35)) (.cells #[.int .i64 3] 3)
  rwa [World.size_alloc, World.size_alloc] at this
 have hsz2 : w2.heap.size = w1.heap.size + 3 := by rw [hw2]; simp
 have HB2 := Lib.hid (show Below w.heap.size w w2 from hbw1.trans (hb12.mono hbw1.size))
 have HX2 := Lib.hid (show Boxed w2 w.heap.size 27 (.slice none 0 0) from (hb12.block _ hy2.lt).trans hy2)
 have HX3 := Lib.hid (show Boxed w2 (w.heap.size + 1) 4 (.bool false) from (hb12.block _ hy3.lt).trans hy3)
 have hsw : w.heap.size + 2 ≤ w1.heap.size := by omega
 obtain ⟨g, off, hp, hgl, hcs⟩ : ∃ g off, (0 < n3 → q = some ⟨g, off, none⟩) ∧ (0 < n3 → g < w1.heap.size) ∧ (0 < n3 → ∀ j u, (strV (sesL S))[j]? = some u → w1.cell? ⟨g, off + j, none⟩ = some u) := by
  by_cases h0 : 0 < n3
  ·obtain ⟨g, off, h1, h2, h3⟩ := CL.at HSQ.out (j := 0) (by rw [strV_len, HLN.out]; exact h0)
   exact ⟨g, off, fun _ => h1, fun _ => h2, fun _ j u hu => by obtain ⟨hj, rfl⟩ := List.getElem?_eq_some_iff.mp hu; exact h3 j hj⟩
  ·exact ⟨0, 0, fun h => absurd h h0, fun h => absurd h h0, fun h => absurd h h0⟩
 have hcs2 : 0 < n3 → ∀ j u, (strV (sesL S))[j]? = some u → w2.cell? ⟨g, off + j, none⟩ = some u := fun h0 j u hu => (hb12.cell (p := ⟨g, off + j, none⟩) (hgl h0)).trans (hcs h0 j u hu)
 clear hw2 HW2e hwa hba hx2 hx3 hy2 hy3 hbw1 HB1 HOL hwas hsw1 hcs HSQ hb12
 obtain ⟨Bs, hBse⟩ : ∃ Bs : Nat → Prop, Bs = fun r => r = w1.heap.size + 1 ∨ r = w1.heap.size + 1 + 1 := ⟨_, rfl⟩
 have hseq := chunkS_seq 8 (by decide) _ _ g off n3 cq q hp hcq (by have := HN3.out; omega) w2 hb1 hb2
 rw [← hBse] at hseq
 have HBS := Lib.hid (show ∀ b, Bs b → b < w2.heap.size ∧ b ≠ w1.heap.size ∧ w.heap.size ≤ b from fun b hb => by rw [hBse] at hb; omega)
 have HBN := Lib.hid (show ∀ b, b < w1.heap.size → ¬ Bs b from fun b hb h => by rw [hBse] at h; omega)
 have HPP := Lib.hid (And.intro hgl hcs2)
 have hsz3 : w1.heap.size < w2.heap.size := by omega
 clear hBse hb1 hb2 hgl hcs2 hsz2
 refine wpIn_rangeY (n := 9) rfl (by decide) rfl trivial (enters_of Tryz.func150 (by kernel_rfl) rfl) hseq (fun b hb => (HBS.out b hb).1) (fun _ => rfl)
  (fun i W => HoldI w w2.heap.size w1.heap.size 27 87 3 (fun i => i) (fun i => flat encS (S.take i)) i W ∧ OldI w2 w1.heap.size Bs W) (ownX_and (hold_own HBS.out (by omega) (by omega)) old_own) ⟨⟨_, hbB, World.ownsRow_nil _ _ _ _, HB2.out, Nat.le_refl _⟩, Nat.le_refl _, fun _ _ _ _ => rfl⟩
  ?A ?assign ?body ?done
 case assign =>
  intro l i W K hK
  gi_wp2
  exact hK
 case body =>
  rintro l i W hl ⟨⟨v, hv, ho, hb, hnW⟩, hold⟩ hi
  dsimp only at ho
  have hi3 : i < m := by have := HN3.out; omega
  have HV1 := Lib.hid hv
  have HO1 := Lib.hid ho
  have HB3 := Lib.hid hb
  have HOLD := Lib.hid hold
  obtain ⟨x, hx⟩ : ∃ x, S[i]? = some x := ⟨_, List.getElem?_eq_getElem (by have := HM.out; omega)⟩
  obtain ⟨s1, s2, s3⟩ := sesL_at S i x hx
  have hn0 : 0 < n3 := by have := HN3.out; omega
  have hgl := HPP.out.1 hn0
  have hold2 : ∀ j u, (strV (sesL S))[j]? = some u → W.cell? ⟨g, off + j, none⟩ = some u := fun j u hu => by
   have e := hold.2 g (by omega) (HBN.out g hgl) (by omega)
   have := HPP.out.2 hn0 j u hu
   simp only [World.cell?, e] at this ⊢
   exact this
  have d1 := hold2 (i * 3) (.string (itoaB x.c)) (by unfold strV; rw [List.getElem?_map, s1]; rfl)
  have d2 := hold2 (i * 3 + 1) (.string (itoaB x.n)) (by unfold strV; rw [List.getElem?_map, s2]; rfl)
  have d3 := hold2 (i * 3 + 2) (.string x.r) (by unfold strV; rw [List.getElem?_map, s3]; rfl)
  rw [← Nat.add_assoc] at d2 d3
  have hgW : g < W.heap.size := by omega
  have hxo := HV.out.2 x (List.mem_of_getElem? hx)
  have HX := Lib.hid hx
  clear hv ho hb hold hold2 s1 s2 s3 hx
  have hm3 : min 3 (n3 - i * 3) = 3 := by have := HN3.out; omega
  rw [hm3]
  have HN1 := Lib.hid (HNU.out x.c (by have := hxo.1; omega))
  have HN2 := Lib.hid (HNU.out x.n (by have := hxo.2.2.1; omega))
  have HRT := Lib.hid (fun W => right_ex x.c x.n W)
  unfold OneB at HRT
  rw [show rightB x.c x.n = true by unfold rightB; have := hxo; unfold okS at this; simp; omega] at HRT
  have hr4 : ¬ ((400 : Int) < (x.r.size : Int)) := by have := hxo.2.2.2; omega
  obtain ⟨a, ha⟩ : ∃ a, a = off + i * 3 := ⟨_, rfl⟩
  rw [← ha] at d1 d2 d3 ⊢
  clear ha
  generalize itoaB (x.c : Int) = sa at HN1 d1
  generalize itoaB (x.n : Int) = sb at HN2 d2
  have HNX := Lib.hid (show flat encS (S.take i) ++ [.int .i64 x.c, .int .i64 x.n, .string x.r] = flat encS (S.take (i + 1)) by
   have e : S.take (i + 1) = S.take i ++ [x] := by rw [List.take_add_one, HX.out]; rfl
   rw [e, flat_append]
   rfl)
  obtain ⟨pv, cv, rfl, hcv, _⟩ := fl_of_own HO1.out
  have cB := HV1.out.cell
  have hBW : w1.heap.size < W.heap.size := HV1.out.lt
  by_cases hi0 : i = 0
  ·subst hi0
   gi_wp2_with (first
    | (refine ⟨trivial, ?_⟩; gi_at_call 104; (with_reducible refine (CallsIn.inRound l (callsIn_wide.2 (HN1.out W HB3.out))).mono ?_); rintro e w5 ⟨rfl, hb5⟩; have d25 := (hb5.cell (p := ⟨g, a + 1, none⟩) hgW).trans d2; have d35 := (hb5.cell (p := ⟨g, a + 2, none⟩) hgW).trans d3; have c5 := (hb5.cell (p := ⟨w1.heap.size, 0, none⟩) hBW).trans cB; have hsz5 := hb5.size; have HB5 := Lib.hid hb5; clear hb5)
    | (refine ⟨trivial, ?_⟩; gi_at_call 104; (with_reducible refine (CallsIn.inRound l (callsIn_wide.2 (HN2.out w5 (HB3.out.trans (HB5.out.mono HB3.out.size))))).mono ?_); rintro e w6 ⟨rfl, hb6⟩; have d36 := (hb6.cell (p := ⟨g, a + 2, none⟩) (Nat.lt_of_lt_of_le hgW hsz5)).trans d35; have c6 := (hb6.cell (p := ⟨w1.heap.size, 0, none⟩) (Nat.lt_of_lt_of_le hBW hsz5)).trans c5; have HB6 := Lib.hid (HB5.out.trans (hb6.mono HB5.out.size)); clear hb6)
    | (refine ⟨trivial, ?_⟩; gi_at_call 28; refine (CallsIn.inRound l (callsIn_wide.2 (HRT.out _))).mono ?_; rintro e w7 ⟨rfl, hw⟩; obtain rfl := hw.symm))
   have HO6 := Lib.hid (own_below HO1.out HB6.out)
   have HV6 := Lib.hid (show Boxed w6 w1.heap.size 27 (.slice pv 0 cv) from (HB6.out.block _ HV1.out.lt).trans HV1.out)
   have hsz6 := HB6.out.size
   have hSd : w6.drew.cell? ⟨w1.heap.size, 0, none⟩ = some (.slice pv 0 cv) ∧ w6.drew.cell? ⟨g, a + 2, none⟩ = some (.string x.r) := ⟨c6, d36⟩
   refine wpIn_region_y 9 (fun W => W.cell? ⟨w1.heap.size, 0, none⟩ = some (.slice pv 0 cv) ∧ W.cell? ⟨g, a + 2, none⟩ = some (.string x.r)) (by simp) (by rintro ⟨_, _, h⟩; exact h) hmx ?_ (fun hHeld => ?_)
   ·exact hSd
   refine wpAnyY_take (i := 0) (oi := { dst := some 85, op := _, type := _, pos := _, after := _, guard := _ }) (v := ?_) rfl (by kernel_rfl) (by kernel_rfl) (by kernel_rfl) (by kernel_rfl) (fun _ _ _ h => h) (Or.inl ⟨by rfl, ?_⟩) (by assumption) ?_
   rotate_left
   ·intro w hSw
    try dsimp only at hSw
    go_simp
    try with_reducible rfl
   try simp only [Act.put, List.setIfInBounds_toArray, List.set_cons_zero, List.set_cons_succ]
   refine wpAnyY_take (i := 1) (oi := { dst := some 86, op := _, type := _, pos := _, after := _, guard := _ }) (v := ?_) rfl (by kernel_rfl) (by kernel_rfl) (by kernel_rfl) (by kernel_rfl) (fun _ _ _ h => h) (Or.inl ⟨by rfl, ?_⟩) (by assumption) ?_
   rotate_left
   ·intro w hSw
    try dsimp only at hSw
    go_simp
    try with_reducible rfl
   try simp only [Act.put, List.setIfInBounds_toArray, List.set_cons_zero, List.set_cons_succ]
   refine wpAnyY_take (i := 2) (oi := { dst := some 87, op := _, type := _, pos := _, after := _, guard := _ }) (v := ?_) rfl (by kernel_rfl) (by kernel_rfl) (by kernel_rfl) (by kernel_rfl) (fun _ _ _ h => h) (Or.inl ⟨by rfl, ?_⟩) (by assumption) ?_
   rotate_left
   ·intro w hSw
    try dsimp only at hSw
    go_simp
    try with_reducible rfl
   try simp only [Act.put, List.setIfInBounds_toArray, List.set_cons_zero, List.set_cons_succ]
   refine wpAnyY_take (i := 3) (oi := { dst := some 88, op := _, type := _, pos := _, after := _, guard := _ }) (v := ?_) rfl (by kernel_rfl) (by kernel_rfl) (by kernel_rfl) (by kernel_rfl) (fun _ _ _ h => h) (Or.inl ⟨by rfl, ?_⟩) (by assumption) ?_
   rotate_left
   ·intro w hSw
    try dsimp only at hSw
    go_simp
    try with_reducible rfl
   try simp only [Act.put, List.setIfInBounds_toArray, List.set_cons_zero, List.set_cons_succ]
   refine wpAnyY_take (i := 4) (oi := { dst := some 89, op := _, type := _, pos := _, after := _, guard := _ }) (v := ?_) rfl (by kernel_rfl) (by kernel_rfl) (by kernel_rfl) (by kernel_rfl) (fun _ _ _ h => h) (Or.inl ⟨by rfl, ?_⟩) (by assumption) ?_
   rotate_left
   ·intro w hSw
    try dsimp only at hSw
    go_simp
    try with_reducible rfl
   try simp only [Act.put, List.setIfInBounds_toArray, List.set_cons_zero, List.set_cons_succ]
   refine wpAnyY_take (i := 5) (oi := { dst := some 90, op := _, type := _, pos := _, after := _, guard := _ }) (v := ?_) rfl (by kernel_rfl) (by kernel_rfl) (by kernel_rfl) (by kernel_rfl) (fun _ _ _ h => h) (Or.inl ⟨by rfl, ?_⟩) (by assumption) ?_
   rotate_left
   ·intro w hSw
    try dsimp only at hSw
    go_simp
    try with_reducible rfl
   try simp only [Act.put, List.setIfInBounds_toArray, List.set_cons_zero, List.set_cons_succ]
   refine wpAnyY_take (i := 6) (oi := { dst := some 91, op := _, type := _, pos := _, after := _, guard := _ }) (v := ?_) rfl (by kernel_rfl) (by kernel_rfl) (by kernel_rfl) (by kernel_rfl) (fun _ _ _ h => h) (Or.inl ⟨by rfl, ?_⟩) (by assumption) ?_
   rotate_left
   ·intro w hSw
    try dsimp only at hSw
    go_simp
    try with_reducible rfl
   try simp only [Act.put, List.setIfInBounds_toArray, List.set_cons_zero, List.set_cons_succ]
   refine wpAnyY_ready (rs := [7]) (by kernel_rfl) (by simp) ?_
   refine AllReadyY.cons (o := { dst := some 92, op := _, type := _, pos := _, after := _, guard := _ }) rfl (fun K hK => ?_) ?_
   ·go_simp
    refine hK.out _ _ ?_ (fun hHeld => ?_)
    ·exact ⟨cell_new c6, cell_new d36⟩
    clear hK K
    try simp only [Act.put, List.setIfInBounds_toArray, List.set_cons_zero, List.set_cons_succ]
    refine wpAnyY_ready (rs := [8]) (by kernel_rfl) (by simp) ?_
    refine AllReadyY.cons (o := { dst := some 93, op := _, type := _, pos := _, after := _, guard := _ }) rfl (fun K hK => ?_) ?_
    ·refine step_append_lies _ (by rfl) _ _ _ (by rfl) w2.heap.size 87 i87 (.agg #[.int .i64 0, .int .i64 0, .string ⟨#[]⟩]) 3 32 Tryz.underlying27 hi87 hz0 hz1 hz2 rfl (by omega) (.slice pv 0 cv) 0 (flat encS (S.take 0)) (by rfl) (HO6.out.alloc _) ⟨w6.heap.size, 0, none⟩ 1 1 [.int .i64 x.c, .int .i64 x.n, .string x.r] (by rfl) (by rfl) (World.news_of_block (cs := #[.int .i64 x.c, .int .i64 x.n, .string x.r]) (t := 87) (fr := (0, 0)) (heap_alloc_new w6.drew _)) (by simp [Value.oneCell']) (by omega) (by unfold maxLen; omega) (by omega) (by simp; omega) (w6.heap.size + 1) (by simp) ?_
     intro g5 c5' w7 hown7 hgrow hat hlt7
     have HV7 := Lib.hid ((show Boxed w6.drew w1.heap.size 27 (.slice pv 0 cv) from HV6.out).alloc (.cells #[.int .i64 x.c, .int .i64 x.n, .string x.r] 87) |>.kept hgrow ((HV6.out.alloc (.cells #[.int .i64 x.c, .int .i64 x.n, .string x.r] 87)).not_row (by decide) (HO6.out.alloc _)))
     have c7 := HV7.out.cell
     have f7 := HV7.out.frozen
     have HOW7 := Lib.hid hown7
     have HGR7 := Lib.hid hgrow
     have d37 := grown_cell (W := (w6.alloc (.cells #[.int .i64 x.c, .int .i64 x.n, .string x.r] 87)).drew) (HO6.out.alloc _) hgrow (show g < w2.heap.size by omega) (cell_new (W := w6) d36)
     clear hown7 hgrow hat hlt7
     refine hK.out _ _ ?_ (fun hHeld => ?_)
     ·exact ⟨c7, d37⟩
     clear hK K
     try simp only [Act.put, List.setIfInBounds_toArray, List.set_cons_zero, List.set_cons_succ]
     refine wpAnyY_ready (rs := [9]) (by kernel_rfl) (by simp) ?_
     refine AllReadyY.last (o := { dst := none, op := _, type := _, pos := _, after := _, guard := _ }) (by decide) rfl (fun K hK => ?_) ?_
     ·go_simp
      refine hK.out _ _ ?_
      clear hK K
      try simp only [Act.put, List.setIfInBounds_toArray, List.set_cons_zero, List.set_cons_succ]
      refine wpAnyY_done (by kernel_rfl) ?_ _
      gi_wp2
      have hs := hold_step (k := fun i => i) (f := fun i => flat encS (S.take i)) (i := 0) HBS.out (by omega) (by omega) (by omega) (by decide) HV1.out HO1.out HB3.out hnW (show Below W.heap.size W w6.drew from below_drewN HB6.out 1) (by rw [← HNX.out]; exact HOW7.out) HGR7.out
      have hk := hold_keep (B := w1.heap.size) (v' := .slice (some ⟨g5, 0, none⟩) (0 + 1) c5') HO1.out hnW (show Below W.heap.size W w6.drew from below_drewN HB6.out 1) HGR7.out
      exact ⟨hs.1, hs.2.1, hs.2.2, Nat.le_trans (by omega) hs.1.size, fun b hb hnb hbB => (hk b hb hbB).trans (HOLD.out.2 b hb hnb hbB)⟩
     exact AllReadyY.nil
    exact AllReadyY.nil
   exact AllReadyY.nil
  ·have hip : 0 < i := by omega
   obtain ⟨gv, cv', hgv⟩ := own_some HO1.out hip
   injection hgv with hgv _ hcv'
   subst hgv
   subst hcv'
   obtain ⟨y, hy⟩ : ∃ y, S[i - 1]? = some y := ⟨_, List.getElem?_eq_getElem (by have := HM.out; omega)⟩
   have hyt : (S.take i)[i - 1]? = some y := by rw [List.getElem?_take, if_pos (by omega)]; exact hy
   obtain ⟨_, y0, _, hgN⟩ := own_cell encS3 HO1.out hyt (j := 0) (x' := y) (u := .int .i64 y.c) (by decide) rfl
   replace y0 : W.cell? ⟨gv, (i - 1) * 3, none⟩ = some (.int .i64 y.c) := y0
   have hgvW : gv < W.heap.size := cell_lt y0
   have hlt : y.c < x.c := pw_get HV.out.1 hy HX.out (by omega)
   have g1 : (0 : Int) < (i : Int) := by omega
   have g2 : ¬ ((x.c : Int) ≤ (y.c : Int)) := by omega
   have ew : IntKind.i64.wrap ((i : Int) - 1) = (i : Int) - 1 := by rw [IntKind.wrap_i64]; omega
   have g3 : (0 : Int) ≤ (i : Int) - 1 := by omega
   have g4 : (i : Int) - 1 < (i : Int) := by omega
   have g5 : ((i : Int) - 1).toNat = i - 1 := by omega
   have g6 : (1 : Int) ≤ (i : Int) := by omega
   clear hy hyt hlt
   gi_wp2_with (first
    | (refine ⟨trivial, ?_⟩; gi_at_call 104; (with_reducible refine (CallsIn.inRound l (callsIn_wide.2 (HN1.out W HB3.out))).mono ?_); rintro e w5 ⟨rfl, hb5⟩; have d25 := (hb5.cell (p := ⟨g, a + 1, none⟩) hgW).trans d2; have d35 := (hb5.cell (p := ⟨g, a + 2, none⟩) hgW).trans d3; have c5 := (hb5.cell (p := ⟨w1.heap.size, 0, none⟩) hBW).trans cB; have hsz5 := hb5.size; have HB5 := Lib.hid hb5; have y5 := (hb5.cell (p := ⟨gv, (i - 1) * 3, none⟩) hgvW).trans y0; clear hb5)
    | (refine ⟨trivial, ?_⟩; gi_at_call 104; (with_reducible refine (CallsIn.inRound l (callsIn_wide.2 (HN2.out w5 (HB3.out.trans (HB5.out.mono HB3.out.size))))).mono ?_); rintro e w6 ⟨rfl, hb6⟩; have d36 := (hb6.cell (p := ⟨g, a + 2, none⟩) (Nat.lt_of_lt_of_le hgW hsz5)).trans d35; have c6 := (hb6.cell (p := ⟨w1.heap.size, 0, none⟩) (Nat.lt_of_lt_of_le hBW hsz5)).trans c5; have y6 := (hb6.cell (p := ⟨gv, (i - 1) * 3, none⟩) (Nat.lt_of_lt_of_le hgvW hsz5)).trans y5; have HB6 := Lib.hid (HB5.out.trans (hb6.mono HB5.out.size)); clear hb6)
    | (refine ⟨trivial, ?_⟩; gi_at_call 28; refine (CallsIn.inRound l (callsIn_wide.2 (HRT.out _))).mono ?_; rintro e w7 ⟨rfl, hw⟩; obtain rfl := hw.symm))
   have HO6 := Lib.hid (own_below HO1.out HB6.out)
   have HV6 := Lib.hid (show Boxed w6 w1.heap.size 27 (.slice (some ⟨gv, 0, none⟩) i cv) from (HB6.out.block _ HV1.out.lt).trans HV1.out)
   have hsz6 := HB6.out.size
   have hSd : w6.drew.cell? ⟨w1.heap.size, 0, none⟩ = some (.slice (some ⟨gv, 0, none⟩) i cv) ∧ w6.drew.cell? ⟨g, a + 2, none⟩ = some (.string x.r) := ⟨c6, d36⟩
   refine wpIn_region_y 9 (fun W => W.cell? ⟨w1.heap.size, 0, none⟩ = some (.slice (some ⟨gv, 0, none⟩) i cv) ∧ W.cell? ⟨g, a + 2, none⟩ = some (.string x.r)) (by simp) (by rintro ⟨_, _, h⟩; exact h) hmx ?_ (fun hHeld => ?_)
   ·exact hSd
   refine wpAnyY_take (i := 0) (oi := { dst := some 85, op := _, type := _, pos := _, after := _, guard := _ }) (v := ?_) rfl (by kernel_rfl) (by kernel_rfl) (by kernel_rfl) (by kernel_rfl) (fun _ _ _ h => h) (Or.inl ⟨by rfl, ?_⟩) (by assumption) ?_
   rotate_left
   ·intro w hSw
    try dsimp only at hSw
    go_simp
    try with_reducible rfl
   try simp only [Act.put, List.setIfInBounds_toArray, List.set_cons_zero, List.set_cons_succ]
   refine wpAnyY_take (i := 1) (oi := { dst := some 86, op := _, type := _, pos := _, after := _, guard := _ }) (v := ?_) rfl (by kernel_rfl) (by kernel_rfl) (by kernel_rfl) (by kernel_rfl) (fun _ _ _ h => h) (Or.inl ⟨by rfl, ?_⟩) (by assumption) ?_
   rotate_left
   ·intro w hSw
    try dsimp only at hSw
    go_simp
    try with_reducible rfl
   try simp only [Act.put, List.setIfInBounds_toArray, List.set_cons_zero, List.set_cons_succ]
   refine wpAnyY_take (i := 2) (oi := { dst := some 87, op := _, type := _, pos := _, after := _, guard := _ }) (v := ?_) rfl (by kernel_rfl) (by kernel_rfl) (by kernel_rfl) (by kernel_rfl) (fun _ _ _ h => h) (Or.inl ⟨by rfl, ?_⟩) (by assumption) ?_
   rotate_left
   ·intro w hSw
    try dsimp only at hSw
    go_simp
    try with_reducible rfl
   try simp only [Act.put, List.setIfInBounds_toArray, List.set_cons_zero, List.set_cons_succ]
   refine wpAnyY_take (i := 3) (oi := { dst := some 88, op := _, type := _, pos := _, after := _, guard := _ }) (v := ?_) rfl (by kernel_rfl) (by kernel_rfl) (by kernel_rfl) (by kernel_rfl) (fun _ _ _ h => h) (Or.inl ⟨by rfl, ?_⟩) (by assumption) ?_
   rotate_left
   ·intro w hSw
    try dsimp only at hSw
    go_simp
    try with_reducible rfl
   try simp only [Act.put, List.setIfInBounds_toArray, List.set_cons_zero, List.set_cons_succ]
   refine wpAnyY_take (i := 4) (oi := { dst := some 89, op := _, type := _, pos := _, after := _, guard := _ }) (v := ?_) rfl (by kernel_rfl) (by kernel_rfl) (by kernel_rfl) (by kernel_rfl) (fun _ _ _ h => h) (Or.inl ⟨by rfl, ?_⟩) (by assumption) ?_
   rotate_left
   ·intro w hSw
    try dsimp only at hSw
    go_simp
    try with_reducible rfl
   try simp only [Act.put, List.setIfInBounds_toArray, List.set_cons_zero, List.set_cons_succ]
   refine wpAnyY_take (i := 5) (oi := { dst := some 90, op := _, type := _, pos := _, after := _, guard := _ }) (v := ?_) rfl (by kernel_rfl) (by kernel_rfl) (by kernel_rfl) (by kernel_rfl) (fun _ _ _ h => h) (Or.inl ⟨by rfl, ?_⟩) (by assumption) ?_
   rotate_left
   ·intro w hSw
    try dsimp only at hSw
    go_simp
    try with_reducible rfl
   try simp only [Act.put, List.setIfInBounds_toArray, List.set_cons_zero, List.set_cons_succ]
   refine wpAnyY_take (i := 6) (oi := { dst := some 91, op := _, type := _, pos := _, after := _, guard := _ }) (v := ?_) rfl (by kernel_rfl) (by kernel_rfl) (by kernel_rfl) (by kernel_rfl) (fun _ _ _ h => h) (Or.inl ⟨by rfl, ?_⟩) (by assumption) ?_
   rotate_left
   ·intro w hSw
    try dsimp only at hSw
    go_simp
    try with_reducible rfl
   try simp only [Act.put, List.setIfInBounds_toArray, List.set_cons_zero, List.set_cons_succ]
   refine wpAnyY_ready (rs := [7]) (by kernel_rfl) (by simp) ?_
   refine AllReadyY.cons (o := { dst := some 92, op := _, type := _, pos := _, after := _, guard := _ }) rfl (fun K hK => ?_) ?_
   ·go_simp
    refine hK.out _ _ ?_ (fun hHeld => ?_)
    ·exact ⟨cell_new c6, cell_new d36⟩
    clear hK K
    try simp only [Act.put, List.setIfInBounds_toArray, List.set_cons_zero, List.set_cons_succ]
    refine wpAnyY_ready (rs := [8]) (by kernel_rfl) (by simp) ?_
    refine AllReadyY.cons (o := { dst := some 93, op := _, type := _, pos := _, after := _, guard := _ }) rfl (fun K hK => ?_) ?_
    ·refine step_append_lies _ (by rfl) _ _ _ (by rfl) w2.heap.size 87 i87 (.agg #[.int .i64 0, .int .i64 0, .string ⟨#[]⟩]) 3 32 Tryz.underlying27 hi87 hz0 hz1 hz2 rfl (by omega) (.slice (some ⟨gv, 0, none⟩) i cv) i (flat encS (S.take i)) (by rfl) (HO6.out.alloc _) ⟨w6.heap.size, 0, none⟩ 1 1 [.int .i64 x.c, .int .i64 x.n, .string x.r] (by rfl) (by rfl) (World.news_of_block (cs := #[.int .i64 x.c, .int .i64 x.n, .string x.r]) (t := 87) (fr := (0, 0)) (heap_alloc_new w6.drew _)) (by simp [Value.oneCell']) (by omega) (by unfold maxLen; omega) (by omega) (by simp; omega) (w6.heap.size + 1) (by simp) ?_
     intro g5 c5' w7 hown7 hgrow hat hlt7
     have HV7 := Lib.hid ((show Boxed w6.drew w1.heap.size 27 (.slice (some ⟨gv, 0, none⟩) i cv) from HV6.out).alloc (.cells #[.int .i64 x.c, .int .i64 x.n, .string x.r] 87) |>.kept hgrow ((HV6.out.alloc (.cells #[.int .i64 x.c, .int .i64 x.n, .string x.r] 87)).not_row (by decide) (HO6.out.alloc _)))
     have c7 := HV7.out.cell
     have f7 := HV7.out.frozen
     have HOW7 := Lib.hid hown7
     have HGR7 := Lib.hid hgrow
     have d37 := grown_cell (W := (w6.alloc (.cells #[.int .i64 x.c, .int .i64 x.n, .string x.r] 87)).drew) (HO6.out.alloc _) hgrow (show g < w2.heap.size by omega) (cell_new (W := w6) d36)
     clear hown7 hgrow hat hlt7
     refine hK.out _ _ ?_ (fun hHeld => ?_)
     ·exact ⟨c7, d37⟩
     clear hK K
     try simp only [Act.put, List.setIfInBounds_toArray, List.set_cons_zero, List.set_cons_succ]
     refine wpAnyY_ready (rs := [9]) (by kernel_rfl) (by simp) ?_
     refine AllReadyY.last (o := { dst := none, op := _, type := _, pos := _, after := _, guard := _ }) (by decide) rfl (fun K hK => ?_) ?_
     ·go_simp
      refine hK.out _ _ ?_
      clear hK K
      try simp only [Act.put, List.setIfInBounds_toArray, List.set_cons_zero, List.set_cons_succ]
      refine wpAnyY_done (by kernel_rfl) ?_ _
      gi_wp2
      have hs := hold_step (k := fun i => i) (f := fun i => flat encS (S.take i)) (i := i) HBS.out (by omega) (by omega) (by omega) (by decide) HV1.out HO1.out HB3.out hnW (show Below W.heap.size W w6.drew from below_drewN HB6.out 1) (by rw [← HNX.out]; exact HOW7.out) HGR7.out
      have hk := hold_keep (B := w1.heap.size) (v' := .slice (some ⟨g5, 0, none⟩) (i + 1) c5') HO1.out hnW (show Below W.heap.size W w6.drew from below_drewN HB6.out 1) HGR7.out
      exact ⟨hs.1, hs.2.1, hs.2.2, Nat.le_trans (by omega) hs.1.size, fun b hb hnb hbB => (hk b hb hbB).trans (HOLD.out.2 b hb hnb hbB)⟩
     exact AllReadyY.nil
    exact AllReadyY.nil
   exact AllReadyY.nil
 case done =>
  rintro D W hD ⟨⟨v, hv, ho, hb, hnW⟩, hold⟩ hK
  have hN : (n3 + 2) / 3 = m := by have := HN3.out; omega
  rw [hN] at ho
  dsimp only at ho
  rw [List.take_of_length_le (by have := HM.out; omega)] at ho
  obtain ⟨pv, cv, rfl, _, _⟩ := fl_of_own ho
  have HO1 := Lib.hid ho
  have X2 : Blk W w.heap.size 27 [.slice none 0 0] := (hold.2 w.heap.size (by omega) (HBN.out _ (by omega)) (by omega)).trans HX2.out
  have X3 : Blk W (w.heap.size + 1) 4 [.bool false] := (hold.2 (w.heap.size + 1) (by omega) (HBN.out _ (by omega)) (by omega)).trans HX3.out
  have HY2 := Lib.hid X2
  have HY3 := Lib.hid X3
  have c2 := cellOf (v := .slice none 0 0) X2 (j := 0) rfl
  have c3 := cellOf (v := .bool false) X3 (j := 0) rfl
  have f2 := X2.frozen 0
  have f3 := X3.frozen 0
  have cB := hv.cell
  have HBW := Lib.hid hb
  have HKK := Lib.hid hK
  have hw1 : w.heap.size < w2.heap.size := by omega
  have hw3 : w.heap.size + 1 < w2.heap.size := by omega
  clear hv ho hb hold X2 X3 hN
  gi_wp2
  have hK2 := (KeepsOthers.setCell (W.setCell ⟨w.heap.size, 0, none⟩ (.slice pv m cv)) ⟨w.heap.size + 1, 0, none⟩ (.bool true)).same D _ ((KeepsOthers.setCell W ⟨w.heap.size, 0, none⟩ (.slice pv m cv)).same D _ HKK.out rfl) rfl
  have z2 : Blk ((W.setCell ⟨w.heap.size, 0, none⟩ (.slice pv m cv)).setCell ⟨w.heap.size + 1, 0, none⟩ (.bool true)) w.heap.size 27 [.slice pv m cv] := (HY2.out.set 0 (.slice pv m cv)).other (by omega)
  have z3 : Blk ((W.setCell ⟨w.heap.size, 0, none⟩ (.slice pv m cv)).setCell ⟨w.heap.size + 1, 0, none⟩ (.bool true)) (w.heap.size + 1) 4 [.bool true] := (HY3.out.other (by omega)).set 0 (.bool true)
  have zo := own_set (own_set HO1.out (p := ⟨w.heap.size, 0, none⟩) hw1 (.slice pv m cv)) (p := ⟨w.heap.size + 1, 0, none⟩) hw3 (.bool true)
  have zb := below_set (below_set HBW.out (p := ⟨w.heap.size, 0, none⟩) (Nat.le_refl _) (.slice pv m cv)) (p := ⟨w.heap.size + 1, 0, none⟩) (Nat.le_succ _) (.bool true)
  refine ⟨by simp, .inl ⟨_, _, rfl, run_takeDeferred hK2, ?_⟩⟩
  have zp : ∀ b o, b ≠ D → ((W.setCell ⟨w.heap.size, 0, none⟩ (.slice pv m cv)).setCell ⟨w.heap.size + 1, 0, none⟩ (.bool true)).heap[b]? = some o → (((W.setCell ⟨w.heap.size, 0, none⟩ (.slice pv m cv)).setCell ⟨w.heap.size + 1, 0, none⟩ (.bool true)).putObj D (.deferred none)).heap[b]? = some o := fun b o hne h => (World.putObj_heap_other hne).trans h
  refine ⟨_, results_two rfl _ _ ⟨w.heap.size, 0, none⟩ ⟨w.heap.size + 1, 0, none⟩ _ _ rfl rfl (cellOf (v := .slice pv m cv) (zp _ _ (by omega) z2) (j := 0) rfl) (cellOf (v := .bool true) (zp _ _ (by omega) z3) (j := 0) rfl) Tryz.isAgg27 Tryz.isAgg4, .slice pv m cv, rfl, ?_, ?_⟩
  ·rw [← HM.out]
   exact own_mono (ownsRow_putObj zo _ hK2 rfl) (by omega)
  ·exact zb.trans (belowK_b (w := w2) (n₀ := w.heap.size) (by omega) _ D _ _ hD hK2 rfl rfl)
end Go.Proofs.YtnaglmigkbbljaaGreatDoor
/-
  TopTransferred: store.pair reads a line back (printed by mkSgP.py).
-/
namespace Go.Proofs.YtnaglmigkbbljaaGreatDoor
open Go Go.RowKit
def PairRet (x : Par) (w : World) (e : Ending) (w' : World) : Prop := e = .returned (.tuple #[.agg #[.string x.k, .string x.v, .int .i64 x.ver], .bool true]) ∧ Below w.heap.size w w'
theorem Tryz.info115s : (Tryz.prog.info? 115).map (·.size) = some 3 := by kernel_rfl
theorem pair_ex (x : Par) (w : World) (hx : okP x) (hG : GL w) : Calls Tryz.prog 106 #[.string (lineP x)] w (PairRet x w) := by
 have hls := line_size hx
 have hbs : (bodyP x).size ≤ 1048576 := by
  have := line_body x
  rw [this, ByteArray.size_append] at hls
  omega
 have HTS := Lib.hid (fun W => Tryz.strings_TrimSuffix (lineP x) nlS W (by omega))
 rw [line_trim] at HTS
 have HSP := Lib.hid (fun W (hb : Below w.heap.size w W) => split_ex (bodyP x) W hbs (hG.below hb))
 unfold SplitRet at HSP
 rw [body_words hx] at HSP
 have hdz := itoa_digits x.ver hx.2.2.2
 have HAT := Lib.hid (fun W => Tryz.strconv_Atoi_ok (itoaB x.ver) (by omega) x.ver (atoi_itoa x.ver (by have := hx.2.2.2; omega)) W)
 have HLX := Lib.hid (fun W (hb : Below w.heap.size w W) => line_ex x W hx (hG.below hb))
 unfold PairRet
 clear hx hG
 generalize lineP x = ln at HTS HLX hls ⊢
 generalize bodyP x = bd at HTS HSP hbs
 generalize itoaB (x.ver : Int) = sv at HSP HAT hdz
 have hq : (ln.toList == ln.toList) = true := beq_str rfl
 unfold nlS at HTS
 unfold spS at HSP
 go_enter Tryz.func106, Tryz.ntmps106
 go_upto_region 1 with fail
 have HB0 := Lib.hid (show Blk (w.alloc (.cells #[.string ⟨#[]⟩, .string ⟨#[]⟩, .int .i64 0] 115)) w.heap.size 115 [.string ⟨#[]⟩, .string ⟨#[]⟩, .int .i64 0] from heap_alloc_new w _)
 have HW0 := Lib.hid ((Below.refl _ w).alloc (Nat.le_refl _) (.cells #[.string ⟨#[]⟩, .string ⟨#[]⟩, .int .i64 0] 115))
 generalize w.alloc (.cells #[.string ⟨#[]⟩, .string ⟨#[]⟩, .int .i64 0] 115) = W0 at HB0 HW0 ⊢
 go_upto_region 2 with (first
  | (go_at_call 154; refine (HTS.out _).mono ?_; rintro e w1 ⟨rfl, hw⟩; obtain rfl := hw.symm)
  | (go_at_call 75; refine (HSP.out _ HW0.out).mono ?_; rintro e w2 ⟨rfl, hbk2, hb2⟩))
 have HP2 := Lib.hid hbk2
 have HB2 := Lib.hid (HB0.out.below hb2)
 have HW2 := Lib.hid (HW0.out.trans (hb2.mono HW0.out.size))
 clear hbk2 hb2
 obtain ⟨bp, hbp⟩ : ∃ bp, bp = W0.heap.size := ⟨_, rfl⟩
 rw [← hbp] at HP2 ⊢
 clear hbp
 have p1 := cellOf (v := .string sv) HP2.out (j := 1) rfl
 have h15 : ¬ ((15 : Int) < (sv.size : Int)) := by omega
 go_upto_region 5 with (go_at_call 151; refine (HAT.out _).mono ?_; rintro e w3 ⟨rfl, hw3⟩; have hb3 : Below w2.heap.size w2 w3 := (by rcases hw3 with h | ⟨t, h⟩; (rw [h]; exact Below.refl _ _); (rw [h]; exact Lib.bytesWorld_below _ _ _)))
 have HP3 := Lib.hid (HP2.out.below hb3)
 have HB3 := Lib.hid (HB2.out.below hb3)
 have HW3 := Lib.hid (HW2.out.trans (hb3.mono HW2.out.size))
 clear hw3 hb3 p1
 have hSd : w3.drew.cell? ⟨bp, 0, none⟩ = some (.string x.k) ∧ w3.drew.cell? ⟨bp, 2, none⟩ = some (.string x.v) := ⟨cellOf HP3.out (j := 0) rfl, cellOf HP3.out (j := 2) rfl⟩
 refine wp_region_noPanic ?_
 refine wp_region_y 9 (fun W => W.cell? ⟨bp, 0, none⟩ = some (.string x.k) ∧ W.cell? ⟨bp, 2, none⟩ = some (.string x.v)) (by kernel_rfl) ?_ (fun hHeld => ?_)
 ·exact hSd
 refine wpAnyY_take (i := 0) (oi := { dst := some 29, op := _, type := _, pos := _, after := _, guard := _ }) (v := ?_) rfl (by kernel_rfl) (by kernel_rfl) (by kernel_rfl) (by kernel_rfl) (fun _ _ _ h => h) (Or.inl ⟨by rfl, ?_⟩) (by assumption) ?_
 rotate_left
 ·intro w hSw
  try dsimp only at hSw
  go_simp
  try with_reducible rfl
 try simp only [Act.put, List.setIfInBounds_toArray, List.set_cons_zero, List.set_cons_succ]
 refine wpAnyY_take (i := 1) (oi := { dst := some 30, op := _, type := _, pos := _, after := _, guard := _ }) (v := ?_) rfl (by kernel_rfl) (by kernel_rfl) (by kernel_rfl) (by kernel_rfl) (fun _ _ _ h => h) (Or.inl ⟨by rfl, ?_⟩) (by assumption) ?_
 rotate_left
 ·intro w hSw
  try dsimp only at hSw
  go_simp
  try with_reducible rfl
 try simp only [Act.put, List.setIfInBounds_toArray, List.set_cons_zero, List.set_cons_succ]
 refine wpAnyY_take (i := 2) (oi := { dst := some 31, op := _, type := _, pos := _, after := _, guard := _ }) (v := ?_) rfl (by kernel_rfl) (by kernel_rfl) (by kernel_rfl) (by kernel_rfl) (fun _ _ _ h => h) (Or.inl ⟨by rfl, ?_⟩) (by assumption) ?_
 rotate_left
 ·intro w hSw
  try dsimp only at hSw
  go_simp
  try with_reducible rfl
 try simp only [Act.put, List.setIfInBounds_toArray, List.set_cons_zero, List.set_cons_succ]
 refine wpAnyY_take (i := 3) (oi := { dst := some 32, op := _, type := _, pos := _, after := _, guard := _ }) (v := ?_) rfl (by kernel_rfl) (by kernel_rfl) (by kernel_rfl) (by kernel_rfl) (fun _ _ _ h => h) (Or.inl ⟨by rfl, ?_⟩) (by assumption) ?_
 rotate_left
 ·intro w hSw
  try dsimp only at hSw
  go_simp
  try with_reducible rfl
 try simp only [Act.put, List.setIfInBounds_toArray, List.set_cons_zero, List.set_cons_succ]
 refine wpAnyY_take (i := 4) (oi := { dst := some 33, op := _, type := _, pos := _, after := _, guard := _ }) (v := ?_) rfl (by kernel_rfl) (by kernel_rfl) (by kernel_rfl) (by kernel_rfl) (fun _ _ _ h => h) (Or.inl ⟨by rfl, ?_⟩) (by assumption) ?_
 rotate_left
 ·intro w hSw
  try dsimp only at hSw
  go_simp
  try with_reducible rfl
 try simp only [Act.put, List.setIfInBounds_toArray, List.set_cons_zero, List.set_cons_succ]
 refine wpAnyY_take (i := 5) (oi := { dst := some 34, op := _, type := _, pos := _, after := _, guard := _ }) (v := ?_) rfl (by kernel_rfl) (by kernel_rfl) (by kernel_rfl) (by kernel_rfl) (fun _ _ _ h => h) (Or.inl ⟨by rfl, ?_⟩) (by assumption) ?_
 rotate_left
 ·intro w hSw
  try dsimp only at hSw
  go_simp
  try with_reducible rfl
 try simp only [Act.put, List.setIfInBounds_toArray, List.set_cons_zero, List.set_cons_succ]
 refine wpAnyY_take (i := 6) (oi := { dst := some 35, op := _, type := _, pos := _, after := _, guard := _ }) (v := ?_) rfl (by kernel_rfl) (by kernel_rfl) (by kernel_rfl) (by kernel_rfl) (fun _ _ _ h => h) (Or.inl ⟨by rfl, ?_⟩) (by assumption) ?_
 rotate_left
 ·intro w hSw
  try dsimp only at hSw
  go_simp
  try with_reducible rfl
 try simp only [Act.put, List.setIfInBounds_toArray, List.set_cons_zero, List.set_cons_succ]
 refine wpAnyY_take (i := 7) (oi := { dst := some 36, op := _, type := _, pos := _, after := _, guard := _ }) (v := ?_) rfl (by kernel_rfl) (by kernel_rfl) (by kernel_rfl) (by kernel_rfl) (fun _ _ _ h => h) (Or.inl ⟨by rfl, ?_⟩) (by assumption) ?_
 rotate_left
 ·intro w hSw
  try dsimp only at hSw
  go_simp
  try with_reducible rfl
 try simp only [Act.put, List.setIfInBounds_toArray, List.set_cons_zero, List.set_cons_succ]
 refine wpAnyY_ready (rs := [8]) (by kernel_rfl) (by simp) ?_
 refine AllReadyY.cons (o := { dst := some 7, op := _, type := _, pos := _, after := _, guard := _ }) rfl (fun K hK => ?_) ?_
 ·go_simp
  refine hK.out _ _ ?_ (fun hHeld => ?_)
  ·exact ⟨cell_new hSd.1, cell_new hSd.2⟩
  clear hK K
  have HZ4 := Lib.hid (show Blk (w3.drew.alloc (.cells #[.string ⟨#[]⟩, .string ⟨#[]⟩, .int .i64 0] 115)) w3.heap.size 115 [.string ⟨#[]⟩, .string ⟨#[]⟩, .int .i64 0] from heap_alloc_new w3.drew _)
  have z0 := cellOf (v := .string ⟨#[]⟩) HZ4.out (j := 0) rfl; have z1 := cellOf (v := .string ⟨#[]⟩) HZ4.out (j := 1) rfl; have z2 := cellOf (v := .int .i64 0) HZ4.out (j := 2) rfl
  have f0 := HZ4.out.frozen 0; have f1 := HZ4.out.frozen 1; have f2 := HZ4.out.frozen 2
  try simp only [Act.put, List.setIfInBounds_toArray, List.set_cons_zero, List.set_cons_succ]
  refine wpAnyY_ready (rs := [9]) (by kernel_rfl) (by simp) ?_
  refine AllReadyY.last (o := { dst := none, op := _, type := _, pos := _, after := _, guard := _ }) (by decide) rfl (fun K hK => ?_) ?_
  ·go_simp
   refine hK.out _ _ ?_
   clear hK K
   try simp only [Act.put, List.setIfInBounds_toArray, List.set_cons_zero, List.set_cons_succ]
   refine wpAnyY_done (by kernel_rfl) ?_ _
   refine NoPanic.normal ?_
   go_upto_region 6 with fail
   have HX4 := Lib.hid (show Blk (w3.alloc (.cells #[.string x.k, .string x.v, .int .i64 x.ver] 115)).drew w3.heap.size 115 [.string x.k, .string x.v, .int .i64 x.ver] from heap_alloc_new w3 _)
   have HB4 := Lib.hid (show Blk (w3.alloc (.cells #[.string x.k, .string x.v, .int .i64 x.ver] 115)).drew w.heap.size 115 [.string ⟨#[]⟩, .string ⟨#[]⟩, .int .i64 0] from HB3.out.below (below_drewN ((Below.refl _ w3).alloc (Nat.le_refl _) (.cells #[.string x.k, .string x.v, .int .i64 x.ver] 115)) 1))
   have HW4d := Lib.hid (show Below w.heap.size w (w3.alloc (.cells #[.string x.k, .string x.v, .int .i64 x.ver] 115)).drew.drew from below_drewN (below_drewN (HW3.out.alloc HW3.out.size (.cells #[.string x.k, .string x.v, .int .i64 x.ver] 115)) 1) 1)
   have hbx0 : w.heap.size < w3.heap.size := HB3.out.lt
   obtain ⟨bx, hbx⟩ : ∃ bx, bx = w3.heap.size := ⟨_, rfl⟩
   rw [← hbx] at HX4 hbx0 ⊢
   clear hbx z0 z1 z2 f0 f1 f2 HZ4 hSd HP3 HB3 HP2 HB2
   generalize (w3.alloc (.cells #[.string x.k, .string x.v, .int .i64 x.ver] 115)).drew = W4 at HX4 HB4 HW4d ⊢
   have hSe : W4.drew.cell? ⟨bx, 0, none⟩ = some (.string x.k) ∧ W4.drew.cell? ⟨bx, 1, none⟩ = some (.string x.v) ∧ W4.drew.cell? ⟨bx, 2, none⟩ = some (.int .i64 x.ver) := ks (show Blk W4.drew bx 115 [.string x.k, .string x.v, .int .i64 x.ver] from HX4.out)
   refine wp_region_noPanic ?_
   refine wp_region_held_drew (S := fun W => W.cell? ⟨bx, 0, none⟩ = some (.string x.k) ∧ W.cell? ⟨bx, 1, none⟩ = some (.string x.v) ∧ W.cell? ⟨bx, 2, none⟩ = some (.int .i64 x.ver)) (by kernel_rfl) ?_ (fun hHeld => ?_)
   ·exact hSe
   refine wpAnyH_take (i := 0) (oi := { dst := some 37, op := _, type := _, pos := _, after := _, guard := _ }) (v := ?_) rfl (by kernel_rfl) (by kernel_rfl) (by kernel_rfl) (fun _ _ _ h => h) (Or.inl ⟨by rfl, ?_⟩) (by assumption) ?_
   rotate_left
   ·intro w hSw
    try dsimp only at hSw
    go_simp
    try with_reducible rfl
   try simp only [Act.put, List.setIfInBounds_toArray, List.set_cons_zero, List.set_cons_succ]
   refine wpAnyH_take (i := 1) (oi := { dst := some 38, op := _, type := _, pos := _, after := _, guard := _ }) (v := ?_) rfl (by kernel_rfl) (by kernel_rfl) (by kernel_rfl) (fun _ _ _ h => h) (Or.inl ⟨by rfl, ?_⟩) (by assumption) ?_
   rotate_left
   ·intro w hSw
    try dsimp only at hSw
    go_simp
    try with_reducible rfl
   try simp only [Act.put, List.setIfInBounds_toArray, List.set_cons_zero, List.set_cons_succ]
   refine wpAnyH_take (i := 2) (oi := { dst := some 39, op := _, type := _, pos := _, after := _, guard := _ }) (v := ?_) rfl (by kernel_rfl) (by kernel_rfl) (by kernel_rfl) (fun _ _ _ h => h) (Or.inl ⟨by rfl, ?_⟩) (by assumption) ?_
   rotate_left
   ·intro w hSw
    try dsimp only at hSw
    go_simp
    try with_reducible rfl
   try simp only [Act.put, List.setIfInBounds_toArray, List.set_cons_zero, List.set_cons_succ]
   refine wpAnyH_take (i := 3) (oi := { dst := some 40, op := _, type := _, pos := _, after := _, guard := _ }) (v := ?_) rfl (by kernel_rfl) (by kernel_rfl) (by kernel_rfl) (fun _ _ _ h => h) (Or.inl ⟨by rfl, ?_⟩) (by assumption) ?_
   rotate_left
   ·intro w hSw
    try dsimp only at hSw
    go_simp
    try with_reducible rfl
   try simp only [Act.put, List.setIfInBounds_toArray, List.set_cons_zero, List.set_cons_succ]
   refine wpAnyH_take (i := 4) (oi := { dst := some 41, op := _, type := _, pos := _, after := _, guard := _ }) (v := ?_) rfl (by kernel_rfl) (by kernel_rfl) (by kernel_rfl) (fun _ _ _ h => h) (Or.inl ⟨by rfl, ?_⟩) (by assumption) ?_
   rotate_left
   ·intro w hSw
    try dsimp only at hSw
    go_simp
    try with_reducible rfl
   try simp only [Act.put, List.setIfInBounds_toArray, List.set_cons_zero, List.set_cons_succ]
   refine wpAnyH_take (i := 6) (oi := { dst := some 43, op := _, type := _, pos := _, after := _, guard := _ }) (v := ?_) rfl (by kernel_rfl) (by kernel_rfl) (by kernel_rfl) (fun _ _ _ h => h) (Or.inl ⟨by rfl, ?_⟩) (by assumption) ?_
   rotate_left
   ·intro w hSw
    try dsimp only at hSw
    go_simp
    try with_reducible rfl
   try simp only [Act.put, List.setIfInBounds_toArray, List.set_cons_zero, List.set_cons_succ]
   refine wpAnyH_ready (rs := [5]) (by kernel_rfl) (by simp) ?_
   refine AllReadyH.cons (o := { dst := some 42, op := _, type := _, pos := _, after := _, guard := _ }) rfl (fun K hK => ?_) ?_
   ·go_simp
    go_at_call 89
    (with_reducible refine (HLX.out W4.drew HW4d.out).mono ?_)
    rintro e w7 ⟨rfl, hb7⟩
    have HX7 := Lib.hid (HX4.out.below (W := W4.drew) hb7)
    have HB7 := Lib.hid (HB4.out.below (W := W4.drew) hb7)
    have HW7 := Lib.hid (HW4d.out.trans (hb7.mono HW4d.out.size))
    have b0 := cellOf (v := .string ⟨#[]⟩) HB7.out (j := 0) rfl; have b1 := cellOf (v := .string ⟨#[]⟩) HB7.out (j := 1) rfl; have b2 := cellOf (v := .int .i64 0) HB7.out (j := 2) rfl
    have g0 := HB7.out.frozen 0; have g1 := HB7.out.frozen 1; have g2 := HB7.out.frozen 2
    clear hb7
    go_simp
    refine hK.out _ _ ?_ (fun hHeld => ?_)
    ·exact ks HX7.out
    clear hK K
    try simp only [Act.put, List.setIfInBounds_toArray, List.set_cons_zero, List.set_cons_succ]
    refine wpAnyH_take (i := 7) (oi := { dst := some 44, op := _, type := _, pos := _, after := _, guard := _ }) (v := ?_) rfl (by kernel_rfl) (by kernel_rfl) (by kernel_rfl) (fun _ _ _ h => h) (Or.inl ⟨by rfl, ?_⟩) (by assumption) ?_
    rotate_left
    ·intro w hSw
     try dsimp only at hSw
     go_simp
     try with_reducible rfl
    try simp only [Act.put, List.setIfInBounds_toArray, List.set_cons_zero, List.set_cons_succ]
    refine wpAnyH_take (i := 8) (oi := { dst := some 45, op := _, type := _, pos := _, after := _, guard := _ }) (v := ?_) rfl (by kernel_rfl) (by kernel_rfl) (by kernel_rfl) (fun _ _ _ h => h) (Or.inl ⟨by rfl, ?_⟩) (by assumption) ?_
    rotate_left
    ·intro w hSw
     try dsimp only at hSw
     go_simp
     try with_reducible rfl
    try simp only [Act.put, List.setIfInBounds_toArray, List.set_cons_zero, List.set_cons_succ]
    refine wpAnyH_ready (rs := [9]) (by kernel_rfl) (by simp) ?_
    refine AllReadyH.cons (o := { dst := none, op := _, type := _, pos := _, after := _, guard := _ }) rfl (fun K hK => ?_) ?_
    ·go_simp
     refine hK.out _ _ ?_ (fun hHeld => ?_)
     ·exact ks (((HX7.out.other (by omega)).other (by omega)).other (by omega))
     clear hK K
     try simp only [Act.put, List.setIfInBounds_toArray, List.set_cons_zero, List.set_cons_succ]
     refine wpAnyH_take (i := 10) (oi := { dst := some 3, op := _, type := _, pos := _, after := _, guard := _ }) (v := ?_) rfl (by kernel_rfl) (by kernel_rfl) (by kernel_rfl) (fun _ _ _ h => h) (Or.inl ⟨by rfl, ?_⟩) (by assumption) ?_
     rotate_left
     ·intro w hSw
      try dsimp only at hSw
      go_simp
      try with_reducible rfl
     try simp only [Act.put, List.setIfInBounds_toArray, List.set_cons_zero, List.set_cons_succ]
     refine wpAnyH_done (by kernel_rfl) ?_ _
     refine NoPanic.normal ?_
     go_wp2_with fail
     refine bodyPost_ret (results_row_tmp rfl _ _ w.heap.size 115 _ (0, 0) _ rfl (show _ = _ from (((HB7.out.set 0 (.string x.k)).set 1 (.string x.v)).set 2 (.int .i64 x.ver))) Tryz.underlying115 rfl Tryz.info115s) rfl ?_
     exact ⟨rfl, below_set (below_set (below_set HW7.out (p := ⟨w.heap.size, 0, none⟩) (Nat.le_refl _) _) (p := ⟨w.heap.size, 1, none⟩) (Nat.le_refl _) _) (p := ⟨w.heap.size, 2, none⟩) (Nat.le_refl _) _⟩
    exact AllReadyH.nil
   exact AllReadyH.nil
  exact AllReadyY.nil
 exact AllReadyY.nil
end Go.Proofs.YtnaglmigkbbljaaGreatDoor
/-
  TopTransferred: 'a variable holds the row so far', across ranges over iterators within an ordinary loop; the marks they leave.
-/
namespace Go.Proofs.YtnaglmigkbbljaaGreatDoor
open Go Go.RowKit Go.Shelf
def Marks (lo hi : Nat) (ds : List Deferred) (W : World) : Prop := ds.Pairwise (fun a b => a.target ≠ b.target) ∧ ∀ d ∈ ds, ∃ D, d = { target := .collected D, args := #[] } ∧ lo ≤ D ∧ D < hi ∧ W.heap[D]? = some (.deferred (some []))
theorem Marks.keep {lo hi : Nat} {ds : List Deferred} {W W' : World} (h : Marks lo hi ds W) (hk : ∀ D, lo ≤ D → D < hi → W.heap[D]? = some (.deferred (some [])) → W'.heap[D]? = some (.deferred (some []))) : Marks lo hi ds W' :=
 ⟨h.1, fun d hd => by obtain ⟨D, h1, h2, h3, h4⟩ := h.2 d hd; exact ⟨D, h1, h2, h3, hk D h2 h3 h4⟩⟩
theorem Marks.hi {lo hi hi' : Nat} {ds : List Deferred} {W : World} (h : Marks lo hi ds W) (hh : hi ≤ hi') : Marks lo hi' ds W :=
 ⟨h.1, fun d hd => by obtain ⟨D, h1, h2, h3, h4⟩ := h.2 d hd; exact ⟨D, h1, h2, by omega, h4⟩⟩
def HoldJ (w w0 : World) (N B b : Nat) (t T : TypeId) (sz : Nat) (ds : List Deferred) (k : Nat → Nat) (f : Nat → List Value) (i : Nat) (W : World) : Prop :=
 ∃ v, Boxed W B t v ∧ W.ownsRow w0.heap.size T sz v (k i) (f i) ∧ Below w.heap.size w W ∧ N ≤ W.heap.size ∧ v.ownBlock ≠ some b ∧ OldI w0 B (fun _ => False) W ∧ Marks w0.heap.size b ds W
theorem holdJ_own {w w0 : World} {N B b : Nat} {t T : TypeId} {sz : Nat} {ds : List Deferred} {k : Nat → Nat} {f : Nat → List Value} (hb : b < N) (hB : B < b) (hw : w.heap.size ≤ w0.heap.size) (hw0 : w0.heap.size ≤ b) :
  OwnX N (fun r => r = b) (HoldJ w w0 N B b t T sz ds k f) := fun i W W' row ⟨v, hv, ho, hbl, hn, hvb, hold, hm⟩ hg hr => by
 have hge : ∀ r, row = some r → b ≤ r := fun r e => by
  rcases hr r e with h | ⟨h, _⟩
  ·omega
  ·omega
 have hne : ∀ r, row = some r → ∀ o : Obj, W.heap[r]? = some o → o.isCells = true → r = b := fun r e o ho hc => by
  rcases hr r e with h | ⟨h, o', ho', hc'⟩
  ·exact h
  ·rw [ho] at ho'; cases ho'; rw [hc] at hc'; cases hc'
 refine ⟨v, hv.kept hg (fun e => by have := hge B e.symm; omega), ho.kept hg ?_, hbl.grown hg hbl.size (fun r e => by have := hge r e; omega), Nat.le_trans hn hg.size, hvb, ⟨Nat.le_trans hold.1 hg.size, fun c hc hnc hcB => (hg.block c (by have := hold.1; omega) (fun e => by have := hge c e.symm; omega)).trans (hold.2 c hc hnc hcB)⟩, hm.keep (fun D h1 h2 h3 => (hg.block D (Array.getElem?_eq_some_iff.1 h3).1 (fun e => by have := hge D e.symm; omega)).trans h3)⟩
 rcases ho.2 with ⟨rfl, _⟩ | ⟨g, cap, cur, rfl, hbg, hgb, _⟩
 ·exact .inl rfl
 ·refine .inr fun e => ?_
  have e2 : row = some g := by simpa [Value.ownBlock] using e.symm
  exact hvb (by rw [hne g e2 _ hgb rfl] at *; simp [Value.ownBlock])
theorem holdJ_step {w w0 W W5 w6 : World} {N B b : Nat} {t T : TypeId} {sz : Nat} {ds : List Deferred} {k : Nat → Nat} {f : Nat → List Value} {i : Nat} {v v' : Value} {tmp : Obj} (hbN : b < N) (hBb : B < b) (hw : w.heap.size ≤ w0.heap.size) (hw0 : w0.heap.size ≤ b) (hwB : w.heap.size ≤ B) (htT : t ≠ T)
  (hv : Boxed W B t v) (ho : W.ownsRow w0.heap.size T sz v (k i) (f i)) (hb : Below w.heap.size w W) (hn : N ≤ W.heap.size) (hvb : v.ownBlock ≠ some b) (hold : OldI w0 B (fun _ => False) W) (hm : Marks w0.heap.size b ds W) (h5 : Below W.heap.size W W5)
  (hown' : w6.ownsRow w0.heap.size T sz v' (k (i + 1)) (f (i + 1))) (hgrow : (W5.alloc tmp).grownBy w6 v.ownBlock) (hat : v'.ownBlock = v.ownBlock ∨ v'.ownBlock = some (W5.alloc tmp).heap.size) :
  KeepsFrom N W (w6.setCell ⟨B, 0, none⟩ v') ∧ KeepX (fun r => r = b) W (w6.setCell ⟨B, 0, none⟩ v') ∧ HoldJ w w0 N B b t T sz ds k f (i + 1) (w6.setCell ⟨B, 0, none⟩ v') := by
 have hn5 : N ≤ W5.heap.size := Nat.le_trans hn h5.size
 have hv5 : Boxed W5 B t v := (h5.block B (by omega)).trans hv
 have ho5 := own_below ho h5
 have hgN : ∀ g, v.ownBlock = some g → w0.heap.size ≤ g ∧ g ≠ b ∧ g ≠ B ∧ ∃ o : Obj, W.heap[g]? = some o ∧ o.isCells = true := fun g e => by
  refine ⟨?_, fun e2 => hvb (by rw [e, e2]), fun e2 => hv.not_row htT ho (by rw [e, e2]), ?_⟩
  ·rcases ho.2 with ⟨rfl, _⟩ | ⟨g', cap, cur, rfl, hbg, _⟩
   ·simp [Value.ownBlock] at e
   ·simp [Value.ownBlock] at e; omega
  ·rcases ho.2 with ⟨rfl, _⟩ | ⟨g', cap, cur, rfl, hbg, hgb, _⟩
   ·simp [Value.ownBlock] at e
   ·simp [Value.ownBlock] at e
    subst e
    exact ⟨_, hgb, rfl⟩
 have keep : ∀ c, c < W.heap.size → (∀ g, v.ownBlock = some g → c ≠ g) → c ≠ B → (w6.setCell ⟨B, 0, none⟩ v').heap[c]? = W.heap[c]? := fun c hc hg hcB => by
  have e1 : (w6.setCell ⟨B, 0, none⟩ v').heap[c]? = w6.heap[c]? := Below.heap_setCell _ _ _ _ hcB
  have e2 : w6.heap[c]? = (W5.alloc tmp).heap[c]? := hgrow.block c (by have := h5.size; simp; omega) (fun e => hg c e.symm rfl)
  have e3 : (W5.alloc tmp).heap[c]? = W5.heap[c]? := Below.heap_alloc W5 tmp c (by have := h5.size; omega)
  have e4 : W5.heap[c]? = W.heap[c]? := h5.block c hc
  rw [e1, e2, e3, e4]
 have hv6 : Boxed w6 B t v := (hv5.alloc tmp).kept hgrow (hv5.not_row htT ho5)
 have hk : KeepsFrom N W5 (w6.setCell ⟨B, 0, none⟩ v') := by
  refine (((KeepsOthers.alloc W5 tmp).trans (KeepsOthers.of_grownBy hgrow fun j o ej hj => ?_)).trans (KeepsOthers.setCell _ _ _)).from N
  rcases (ho5.alloc tmp).2 with ⟨rfl, _⟩ | ⟨g, cap, cur, rfl, _, hgb, _⟩
  ·simp [Value.ownBlock] at ej
  ·obtain rfl : g = j := by simpa [Value.ownBlock] using ej
   rw [hgb] at hj; cases hj; rfl
 have hb5 := hb.trans (h5.mono hb.size)
 have hsz : W5.heap.size + 1 ≤ (w6.setCell ⟨B, 0, none⟩ v').heap.size := by
  have := hgrow.size
  simp [World.setCell] at this ⊢
  omega
 refine ⟨(below_keeps h5).trans hk, fun c hc => ?_, v', hv6.set v', hown'.kept (grownBy_setCell' w6 B v') (.inr (hv6.not_row htT hown').symm), ?_, by omega, ?_, ?_, ?_⟩
 ·have hc : c = b := hc
  subst hc
  exact keep c (by omega) (fun g e h => (hgN g e).2.1 h.symm) (by omega)
 ·exact ((hb5.alloc hb5.size tmp).grown hgrow (by have := hb5.size; simp; omega) (fun g e => by have := (hgN g e).1; omega)).setCell (p := ⟨B, 0, none⟩) hwB v'
 ·rcases hat with e | e
  ·rw [e]; exact hvb
  ·rw [e]
   simp
   have := h5.size
   omega
 ·exact ⟨by have := hold.1; have := h5.size; omega, fun c hc hnc hcB => (keep c (by have := hold.1; omega) (fun g e h => by have := (hgN g e).1; omega) hcB).trans (hold.2 c hc hnc hcB)⟩
 ·refine hm.keep (fun D h1 h2 h3 => (keep D (Array.getElem?_eq_some_iff.1 h3).1 (fun g e h => ?_) (fun e => by rw [e] at h3; have := (show W.heap[B]? = _ from hv).symm.trans h3; simp at this)).trans h3)
  obtain ⟨_, _, _, o, ho, hc⟩ := hgN g e
  rw [← h, h3] at ho
  cases ho
  cases hc
theorem wpListIn_append_own_at {F : Fence} {n : Nat} {P : Program} (w : World) {ops : Array Oper} {rest : List Oper} {o : Oper} {a : Act} {Q : Exit → Act → World → Prop}
  (hg : o.guard = none) (s x : Operand) (t : TypeId) (hop : o.op = Op.call { callee := Callee.builtin Builtin.append, args := #[s, x], argTypes := #[t, t] })
  (base : Nat) (e : TypeId) (i : TypeInfo) (z : Value) (size bytes : Nat) (h1 : P.underlying t = some (.slice e)) (h2 : P.info? e = some i) (h3 : i.zero = some z) (h4 : i.size = size) (h5 : i.bytes = bytes) (h6 : z.cells.size = size) (h7 : 0 < size)
  (v : Value) (k : Nat) (xs : List Value) (hs : a.eval s = v) (hown : w.ownsRow base e size v k xs) (ad : Addr) (m c : Nat) (news : List Value) (hx : a.eval x = .slice (some ad) m c) (hn : news.length = m * size)
  (hc : ∀ j u, news[j]? = some u → w.cell? (ad.add j) = some u) (h1c : ∀ u ∈ news, u.oneCell' = true) (b1 : k + m ≤ maxLen) (b2 : (k + m) * bytes ≤ 140737488355328) (b3 : base ≤ w.heap.size)
  (hK : ∀ v' w', w'.ownsRow base e size v' (k + m) (xs ++ news) → w.grownBy w' v.ownBlock → (v'.ownBlock = v.ownBlock ∨ v'.ownBlock = some w.heap.size) → wpListIn F n P ops Q rest (a.put o.dst v') w') :
  wpListIn F n P ops Q (o :: rest) a w := by
 refine wpListIn_plain hg fun K hK' => ?_
 obtain ⟨v', w', hrun, r1, r2, _, r4⟩ := run_append_own_at (P := P) w base t o.type e i z size bytes h1 h2 h3 h4 h5 h6 h7 v k xs hown ad m c news hn hc h1c b1 b2 b3
 unfold Oper.wpIn
 refine ⟨?_, ?_⟩
 ·simp [Oper.about, hop, resolve, Target.leads, Sem.run_pure]
 ·rw [Oper.semAt_plain F _ _ (by rw [hop]; intro c hc'; cases hc')]
  simp [execOp, hop, resolve, invoke, builtin, hs, hx, hrun, Result.andThen]
  exact hK' _ _ (hK v' w' r1 r2 r4)
theorem leaves_marks {F : Fence} {n : Nat} {P : Program} {fn : Func} {tmps : Array Value} {R : Ending → World → Prop} {lo hi : Nat} : ∀ (ds : List Deferred) (W : World), Marks lo hi ds W →
  (∀ W', W'.os = W.os → W'.tape = W.tape → W'.output = W.output → W'.heap.size = W.heap.size → (∀ b, b < lo → W'.heap[b]? = W.heap[b]?) → (∀ (b : Nat) (o : Obj), W.heap[b]? = some o → o.isCells = true → W'.heap[b]? = some o) → ∃ v, (results fn tmps).run P W' = .ok v W' ∧ R (.returned v) W') →
  LeavesInM F n P fn tmps R ds .returning W
 | [], W, _, h => h W rfl rfl rfl rfl (fun _ _ => rfl) (fun _ _ ho _ => ho)
 | d :: ds, W, hm, h => by
  obtain ⟨D, hd, h1, h2, h3⟩ := hm.2 d (List.mem_cons_self ..)
  have hp := List.pairwise_cons.mp hm.1
  refine ⟨by simp, .inl ⟨D, W.putObj D (.deferred none), by rw [hd], run_takeDeferred h3, ?_⟩⟩
  refine leaves_marks (lo := lo) (hi := hi) ds _ ⟨hp.2, fun d' hd' => ?_⟩ (fun W' e1 e2 e3 e4 e5 e6 => ?_)
  ·obtain ⟨D', q1, q2, q3, q4⟩ := hm.2 d' (List.mem_cons_of_mem _ hd')
   refine ⟨D', q1, q2, q3, (World.putObj_heap_other (fun e => ?_)).trans q4⟩
   have := hp.1 d' hd'
   rw [hd, q1] at this
   exact this (by rw [e])
  ·have g := grownBy_putObj' W D (.deferred none)
   refine h W' (e1.trans g.os) (e2.trans g.tape) (e3.trans g.output) (e4.trans (by simp [World.putObj])) (fun b hb => (e5 b hb).trans (World.putObj_heap_other (by omega))) (fun b o ho hc => e6 b o ((World.putObj_heap_other (fun e => ?_)).trans ho) hc)
   rw [e, h3] at ho
   cases ho
   cases hc
end Go.Proofs.YtnaglmigkbbljaaGreatDoor
