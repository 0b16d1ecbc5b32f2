/-
  EpochOf: sederuntref29.All returns configurations.
-/
import Derived.Test.YtmcnpaehmnadeaaGreatDoorEwK
import Derived.Laws.ResultCell
import Derived.Laws.Cover4
namespace Go.Proofs.YtmcnpaehmnadeaaGreatDoor
open Go Go.RowKit

/-- a draft of a configuration -/
structure DrfA (W : World) (b o : Nat) (a0 : Int) (a1 : Nat) (a2 : Int) (pr pw pf : Option Addr) (nr cr nw cw nf cf mv : Nat) : Prop where
  cells : W.cell? ⟨b, o, none⟩ = some (.int .u8 a0) ∧ W.cell? ⟨b, o + 1, none⟩ = some (.int .u8 a1) ∧ W.cell? ⟨b, o + 2, none⟩ = some (.int .u8 a2) ∧ W.cell? ⟨b, o + 3, none⟩ = some (.slice pr nr cr) ∧ W.cell? ⟨b, o + 4, none⟩ = some (.slice pw nw cw) ∧ W.cell? ⟨b, o + 5, none⟩ = some (.slice pf nf cf) ∧ W.cell? ⟨b, o + 6, none⟩ = some (.int .u8 mv)
  h1 : a1 < 256
  h2 : mv < 256
  h3 : nr ≤ 9223372036854775807
  h4 : nw ≤ 9223372036854775807
  s1 : SetP W pr nr
  s2 : SetP W pw nw
  s3 : FltP W pf nf
def DrfP (W : World) (p : Option Addr) (n : Nat) : Prop := n = 0 ∨ ∃ b off, p = some ⟨b, off, none⟩ ∧ b < W.heap.size ∧ ∀ i, i < n → ∃ (a0 : Int) (a1 : Nat) (a2 : Int) (pr pw pf : Option Addr) (nr cr nw cw nf cf mv : Nat), DrfA W b (off + i * 7) a0 a1 a2 pr pw pf nr cr nw cw nf cf mv
theorem DrfA.below {W W' : World} {b o : Nat} {a0 : Int} {a1 : Nat} {a2 : Int} {pr pw pf : Option Addr} {nr cr nw cw nf cf mv : Nat} (h : DrfA W b o a0 a1 a2 pr pw pf nr cr nw cw nf cf mv) (hb : Below W.heap.size W W') (hlt : b < W.heap.size) : DrfA W' b o a0 a1 a2 pr pw pf nr cr nw cw nf cf mv := by
  obtain ⟨⟨q0, q1, q2, q3, q4, q5, q6⟩, h1, h2, h3, h4, s1, s2, s3⟩ := h
  exact ⟨⟨(hb.cell (p := ⟨b, o, none⟩) hlt).trans q0, (hb.cell (p := ⟨b, o + 1, none⟩) hlt).trans q1, (hb.cell (p := ⟨b, o + 2, none⟩) hlt).trans q2, (hb.cell (p := ⟨b, o + 3, none⟩) hlt).trans q3, (hb.cell (p := ⟨b, o + 4, none⟩) hlt).trans q4, (hb.cell (p := ⟨b, o + 5, none⟩) hlt).trans q5, (hb.cell (p := ⟨b, o + 6, none⟩) hlt).trans q6⟩, h1, h2, h3, h4, s1.below hb, s2.below hb, s3.below hb⟩
theorem DrfP.below {W W' : World} {p : Option Addr} {n : Nat} (h : DrfP W p n) (hb : Below W.heap.size W W') : DrfP W' p n := by
  rcases h with h | ⟨b, off, h1, h2, h3⟩
  · exact .inl h
  · exact .inr ⟨b, off, h1, Nat.lt_of_lt_of_le h2 hb.size, fun i hi => by
      obtain ⟨a0, a1, a2, pr, pw, pf, nr, cr, nw, cw, nf, cf, mv, h⟩ := h3 i hi
      exact ⟨a0, a1, a2, pr, pw, pf, nr, cr, nw, cw, nf, cf, mv, h.below hb h2⟩⟩
theorem DrfP.at {W : World} {p : Option Addr} {n k : Nat} (h : DrfP W p n) (hk : k < n) : ∃ b off, p = some ⟨b, off, none⟩ ∧ b < W.heap.size ∧ ∃ (a0 : Int) (a1 : Nat) (a2 : Int) (pr pw pf : Option Addr) (nr cr nw cw nf cf mv : Nat), DrfA W b (off + k * 7) a0 a1 a2 pr pw pf nr cr nw cw nf cf mv := by
  rcases h with rfl | ⟨b, off, h1, h2, h3⟩
  · omega
  · exact ⟨b, off, h1, h2, h3 k hk⟩
/-- inside All: a draft; nothing older has changed -/
structure AL (w : World) (b o : Nat) (a0 : Int) (a1 : Nat) (a2 : Int) (pr pw pf : Option Addr) (nr cr nw cw nf cf mv : Nat) (W : World) : Prop where
  cells : W.cell? ⟨b, o, none⟩ = some (.int .u8 a0) ∧ W.cell? ⟨b, o + 1, none⟩ = some (.int .u8 a1) ∧ W.cell? ⟨b, o + 2, none⟩ = some (.int .u8 a2) ∧ W.cell? ⟨b, o + 3, none⟩ = some (.slice pr nr cr) ∧ W.cell? ⟨b, o + 4, none⟩ = some (.slice pw nw cw) ∧ W.cell? ⟨b, o + 5, none⟩ = some (.slice pf nf cf) ∧ W.cell? ⟨b, o + 6, none⟩ = some (.int .u8 mv)
  lt : b < W.heap.size
  bl : Below w.heap.size w W
theorem AL.below {w W W' : World} {b o : Nat} {a0 : Int} {a1 : Nat} {a2 : Int} {pr pw pf : Option Addr} {nr cr nw cw nf cf mv : Nat} (h : AL w b o a0 a1 a2 pr pw pf nr cr nw cw nf cf mv W) (hb : Below W.heap.size W W') : AL w b o a0 a1 a2 pr pw pf nr cr nw cw nf cf mv W' := by
  obtain ⟨⟨q0, q1, q2, q3, q4, q5, q6⟩, hlt, hbl⟩ := h
  exact ⟨⟨(hb.cell (p := ⟨b, o, none⟩) hlt).trans q0, (hb.cell (p := ⟨b, o + 1, none⟩) hlt).trans q1, (hb.cell (p := ⟨b, o + 2, none⟩) hlt).trans q2, (hb.cell (p := ⟨b, o + 3, none⟩) hlt).trans q3, (hb.cell (p := ⟨b, o + 4, none⟩) hlt).trans q4, (hb.cell (p := ⟨b, o + 5, none⟩) hlt).trans q5, (hb.cell (p := ⟨b, o + 6, none⟩) hlt).trans q6⟩, Nat.lt_of_lt_of_le hlt hb.size, hbl.trans (hb.mono hbl.size)⟩
theorem alS {w W : World} {b o : Nat} {a0 : Int} {a1 : Nat} {a2 : Int} {pr pw pf : Option Addr} {nr cr nw cw nf cf mv : Nat} (h : AL w b o a0 a1 a2 pr pw pf nr cr nw cw nf cf mv W) : W.cell? ⟨b, o, none⟩ = some (.int .u8 a0) ∧ W.cell? ⟨b, o + 1, none⟩ = some (.int .u8 a1) ∧ W.cell? ⟨b, o + 2, none⟩ = some (.int .u8 a2) ∧ W.cell? ⟨b, o + 3, none⟩ = some (.slice pr nr cr) ∧ W.cell? ⟨b, o + 4, none⟩ = some (.slice pw nw cw) ∧ W.cell? ⟨b, o + 5, none⟩ = some (.slice pf nf cf) ∧ W.cell? ⟨b, o + 6, none⟩ = some (.int .u8 mv) ∧ AL w b o a0 a1 a2 pr pw pf nr cr nw cw nf cf mv W := by
  obtain ⟨q0, q1, q2, q3, q4, q5, q6⟩ := h.cells
  exact ⟨q0, q1, q2, q3, q4, q5, q6, h⟩
theorem al_grown {w W W' : World} {b o : Nat} {a0 : Int} {a1 : Nat} {a2 : Int} {pr pw pf : Option Addr} {nr cr nw cw nf cf mv : Nat} {v : Value} {ob : Obj} {n : Nat} {xs : List Value} (h : AL w b o a0 a1 a2 pr pw pf nr cr nw cw nf cf mv W) (hb0 : b < w.heap.size) (hown : W.ownsRow w.heap.size 49 6 v n xs) (hg : (W.alloc ob).grownBy W' v.ownBlock) : AL w b o a0 a1 a2 pr pw pf nr cr nw cw nf cf mv W' := by
  have hb : Below w.heap.size W W' := below_grown (Below.refl _ _) h.bl.size hown hg
  obtain ⟨⟨q0, q1, q2, q3, q4, q5, q6⟩, hlt, hbl⟩ := h
  exact ⟨⟨(hb.cell (p := ⟨b, o, none⟩) hb0).trans q0, (hb.cell (p := ⟨b, o + 1, none⟩) hb0).trans q1, (hb.cell (p := ⟨b, o + 2, none⟩) hb0).trans q2, (hb.cell (p := ⟨b, o + 3, none⟩) hb0).trans q3, (hb.cell (p := ⟨b, o + 4, none⟩) hb0).trans q4, (hb.cell (p := ⟨b, o + 5, none⟩) hb0).trans q5, (hb.cell (p := ⟨b, o + 6, none⟩) hb0).trans q6⟩, Nat.lt_of_lt_of_le hlt hb.size, hbl.trans hb⟩
theorem Tryz.info49 : (Tryz.prog.info? 49).map (fun i => (i.zero, i.size, i.bytes)) = some (some (.agg #[.string ⟨#[]⟩, .int .i64 0, .int .u16 0, .slice none 0 0, .slice none 0 0, .slice none 0 0]), 6, 104) := by kernel_rfl
/-- a slice of that length -/
def SlRet (n : Nat) (w : World) (e : Ending) (w' : World) : Prop := ∃ gp gc, e = .returned (.slice gp n gc) ∧ Below w.heap.size w w'
/-- what a row of the call's own is: a slice -/
theorem slice_of_own {w : World} {base e sz n : Nat} {v : Value} {xs : List Value} (h : w.ownsRow base e sz v n xs) : ∃ p cap, v = .slice p n cap ∧ n ≤ cap := by
  rcases h.2 with ⟨rfl, rfl⟩ | ⟨g, cap, cur, rfl, _, _, hcap, _⟩
  · exact ⟨none, 0, rfl, Nat.le_refl _⟩
  · exact ⟨_, cap, rfl, hcap⟩

set_option maxHeartbeats 3200000 in
set_option maxRecDepth 1000000 in
theorem all_any (p : Option Addr) (n cap : Nat) (w : World) (hn : n ≤ 3) (hp : DrfP w p n) : Calls Tryz.prog 19 #[.slice p n cap] w (SlRet n w) := by
  obtain ⟨i0, hi, hz0, hz1, hz2⟩ := info_parts Tryz.info49
  have HP := Lib.hid hp
  clear hp
  go_enter Tryz.func19, Tryz.ntmps19
  go_wp2_with fail
  go_loopw [3, 4] (fun v i wr => ∃ (k : Nat) (xs : List Value), k ≤ n ∧ i = .int .i64 k ∧ wr.ownsRow w.heap.size 49 6 v k xs ∧ Below w.heap.size w wr) (fun _ i _ => n - (intOf i).toNat)
  case atStart => exact ⟨0, [], Nat.zero_le _, rfl, World.ownsRow_nil _ _ _ _, Below.refl _ _⟩
  case round =>
    obtain ⟨k, xs, hk, rfl, hown, hb⟩ := hrel
    have HW := Lib.hid hown
    have HB := Lib.hid hb
    clear hown hb
    have e0 : (0 : Int) ≤ (k : Int) := by omega
    have e4 : (k : Int) < 4 := by omega
    by_cases hkn : k < n
    · have e1 : (k : Int) < (n : Int) := by omega
      obtain ⟨b, off, rfl, hbb, a0, a1, a2, pr, pw, pf, nr, cr, nw, cw, nf, cf, mv, hD⟩ := HP.out.at hkn
      have HD := Lib.hid hD
      clear hD
      have HA := Lib.hid (show AL w b (off + k * 7) a0 a1 a2 pr pw pf nr cr nw cw nf cf mv wr from by
        obtain ⟨q0, q1, q2, q3, q4, q5, q6⟩ := HD.out.cells
        exact ⟨⟨(HB.out.cell (p := ⟨b, off + k * 7, none⟩) hbb).trans q0, (HB.out.cell (p := ⟨b, off + k * 7 + 1, none⟩) hbb).trans q1, (HB.out.cell (p := ⟨b, off + k * 7 + 2, none⟩) hbb).trans q2, (HB.out.cell (p := ⟨b, off + k * 7 + 3, none⟩) hbb).trans q3, (HB.out.cell (p := ⟨b, off + k * 7 + 4, none⟩) hbb).trans q4, (HB.out.cell (p := ⟨b, off + k * 7 + 5, none⟩) hbb).trans q5, (HB.out.cell (p := ⟨b, off + k * 7 + 6, none⟩) hbb).trans q6⟩, Nat.lt_of_lt_of_le hbb HB.out.size, HB.out⟩)
      generalize hgv : u3 = v3 at HW ⊢
      clear hgv
      go_upto_region 5 with fail
      have hAd := HA.out.below (below_drew wr)
      have e5 : k < 3 := by omega
      clear hk hkn
      refine wp_region_noPanic ?_
      refine wp_region_x 11 (fun W => W.cell? ⟨b, off + k * 7, none⟩ = some (.int .u8 a0) ∧ W.cell? ⟨b, off + k * 7 + 1, none⟩ = some (.int .u8 a1) ∧ W.cell? ⟨b, off + k * 7 + 2, none⟩ = some (.int .u8 a2) ∧ W.cell? ⟨b, off + k * 7 + 3, none⟩ = some (.slice pr nr cr) ∧ W.cell? ⟨b, off + k * 7 + 4, none⟩ = some (.slice pw nw cw) ∧ W.cell? ⟨b, off + k * 7 + 5, none⟩ = some (.slice pf nf cf) ∧ W.cell? ⟨b, off + k * 7 + 6, none⟩ = some (.int .u8 mv) ∧ AL w b (off + k * 7) a0 a1 a2 pr pw pf nr cr nw cw nf cf mv W) (by kernel_rfl) ?_ (fun hHeld => ?_)
      · exact alS hAd
      refine wpAnyX_take (i := 0) (oi := { dst := some 15, op := _, type := _, pos := _, after := _, guard := _ }) (v := ?_) rfl (by kernel_rfl) (by kernel_rfl) (by kernel_rfl) (by kernel_rfl) (fun _ _ _ h => h) (Or.inl ⟨by rfl, ?_⟩) (by assumption) ?_
      rotate_left
      · intro w hSw
        try dsimp only at hSw
        go_simp
        try with_reducible rfl
      try simp only [Act.put, List.setIfInBounds_toArray, List.set_cons_zero, List.set_cons_succ]
      refine wpAnyX_take (i := 1) (oi := { dst := some 16, op := _, type := _, pos := _, after := _, guard := _ }) (v := ?_) rfl (by kernel_rfl) (by kernel_rfl) (by kernel_rfl) (by kernel_rfl) (fun _ _ _ h => h) (Or.inl ⟨by rfl, ?_⟩) (by assumption) ?_
      rotate_left
      · intro w hSw
        try dsimp only at hSw
        go_simp
        try with_reducible rfl
      try simp only [Act.put, List.setIfInBounds_toArray, List.set_cons_zero, List.set_cons_succ]
      refine wpAnyX_take (i := 2) (oi := { dst := some 17, op := _, type := _, pos := _, after := _, guard := _ }) (v := ?_) rfl (by kernel_rfl) (by kernel_rfl) (by kernel_rfl) (by kernel_rfl) (fun _ _ _ h => h) (Or.inl ⟨by rfl, ?_⟩) (by assumption) ?_
      rotate_left
      · intro w hSw
        try dsimp only at hSw
        go_simp
        try with_reducible rfl
      try simp only [Act.put, List.setIfInBounds_toArray, List.set_cons_zero, List.set_cons_succ]
      refine wpAnyX_take (i := 3) (oi := { dst := some 18, op := _, type := _, pos := _, after := _, guard := _ }) (v := ?_) rfl (by kernel_rfl) (by kernel_rfl) (by kernel_rfl) (by kernel_rfl) (fun _ _ _ h => h) (Or.inl ⟨by rfl, ?_⟩) (by assumption) ?_
      rotate_left
      · intro w hSw
        try dsimp only at hSw
        go_simp
        try with_reducible rfl
      try simp only [Act.put, List.setIfInBounds_toArray, List.set_cons_zero, List.set_cons_succ]
      refine wpAnyX_take (i := 4) (oi := { dst := some 19, op := _, type := _, pos := _, after := _, guard := _ }) (v := ?_) rfl (by kernel_rfl) (by kernel_rfl) (by kernel_rfl) (by kernel_rfl) (fun _ _ _ h => h) (Or.inl ⟨by rfl, ?_⟩) (by assumption) ?_
      rotate_left
      · intro w hSw
        try dsimp only at hSw
        go_simp
        try with_reducible rfl
      try simp only [Act.put, List.setIfInBounds_toArray, List.set_cons_zero, List.set_cons_succ]
      refine wpAnyX_take (i := 5) (oi := { dst := some 20, op := _, type := _, pos := _, after := _, guard := _ }) (v := ?_) rfl (by kernel_rfl) (by kernel_rfl) (by kernel_rfl) (by kernel_rfl) (fun _ _ _ h => h) (Or.inl ⟨by rfl, ?_⟩) (by assumption) ?_
      rotate_left
      · intro w hSw
        try dsimp only at hSw
        go_simp
        try with_reducible rfl
      try simp only [Act.put, List.setIfInBounds_toArray, List.set_cons_zero, List.set_cons_succ]
      refine wpAnyX_take (i := 6) (oi := { dst := some 21, op := _, type := _, pos := _, after := _, guard := _ }) (v := ?_) rfl (by kernel_rfl) (by kernel_rfl) (by kernel_rfl) (by kernel_rfl) (fun _ _ _ h => h) (Or.inl ⟨by rfl, ?_⟩) (by assumption) ?_
      rotate_left
      · intro w hSw
        try dsimp only at hSw
        go_simp
        try with_reducible rfl
      try simp only [Act.put, List.setIfInBounds_toArray, List.set_cons_zero, List.set_cons_succ]
      refine wpAnyX_take (i := 7) (oi := { dst := some 22, op := _, type := _, pos := _, after := _, guard := _ }) (v := ?_) rfl (by kernel_rfl) (by kernel_rfl) (by kernel_rfl) (by kernel_rfl) (fun _ _ _ h => h) (Or.inl ⟨by rfl, ?_⟩) (by assumption) ?_
      rotate_left
      · intro w hSw
        try dsimp only at hSw
        go_simp
        try with_reducible rfl
      try simp only [Act.put, List.setIfInBounds_toArray, List.set_cons_zero, List.set_cons_succ]
      refine wpAnyX_ready (rs := [8]) (by kernel_rfl) (by simp) ?_
      refine AllReadyX.cons (o := { dst := some 23, op := _, type := _, pos := _, after := _, guard := _ }) rfl (fun K hK => ?_) ?_
      · go_simp
        go_at_call 34
        refine (made29_any a0 a1 a2 pr pw pf nr cr nw cw nf cf mv _ _ HD.out.h1 HD.out.h2 HD.out.h3 HD.out.h4 (HD.out.s1.below hAd.bl) (HD.out.s2.below hAd.bl) (HD.out.s3.below hAd.bl)).mono ?_
        rintro e w8 ⟨nm, kd, mb, p3, n3, c3, p4, n4, c4, p5, n5, c5, rfl, -, -, -, -, -, -, -, -, -, hb8⟩
        have hA8 := hAd.below hb8
        have hO8 := own_below HW.out ((below_drew wr).trans (hb8.mono (below_drew wr).size))
        go_simp
        refine hK.out _ _ ?_ (fun hHeld => ?_)
        · exact alS hA8
        clear hK K
        try simp only [Act.put, List.setIfInBounds_toArray, List.set_cons_zero, List.set_cons_succ]
        refine wpAnyX_ready (rs := [9]) (by kernel_rfl) (by simp) ?_
        refine AllReadyX.cons (o := { dst := some 24, op := _, type := _, pos := _, after := _, guard := _ }) rfl (fun K hK => ?_) ?_
        · go_simp
          have hA9 := hA8.below ((Below.refl _ _).alloc (Nat.le_refl _) (.cells #[.string nm, .int .i64 kd, .int .u16 mb, .slice p3 n3 c3, .slice p4 n4 c4, .slice p5 n5 c5] 49))
          refine hK.out _ _ ?_ (fun hHeld => ?_)
          · exact alS hA9
          clear hK K
          try simp only [Act.put, List.setIfInBounds_toArray, List.set_cons_zero, List.set_cons_succ]
          refine wpAnyX_ready (rs := [10]) (by kernel_rfl) (by simp) ?_
          refine AllReadyX.cons (o := { dst := some 25, op := _, type := _, pos := _, after := _, guard := _ }) rfl (fun K hK => ?_) ?_
          · refine step_append_lies _ (by rfl) _ _ _ (by rfl) w.heap.size 49 i0 (.agg #[.string ⟨#[]⟩, .int .i64 0, .int .u16 0, .slice none 0 0, .slice none 0 0, .slice none 0 0]) 6 104 Tryz.underlying29 hi hz0 hz1 hz2 rfl (by omega) v3 k xs (by rfl) (hO8.alloc _) ⟨w8.heap.size, 0, none⟩ 1 1 [.string nm, .int .i64 kd, .int .u16 mb, .slice p3 n3 c3, .slice p4 n4 c4, .slice p5 n5 c5] (by rfl) ?g1 (World.news_of_block (cs := #[.string nm, .int .i64 kd, .int .u16 mb, .slice p3 n3 c3, .slice p4 n4 c4, .slice p5 n5 c5]) (t := 49) (fr := (0, 0)) (heap_alloc_new w8 _)) ?g2 (by omega) (by unfold maxLen; omega) (by omega) (by simp; have := hA8.bl.size; omega) (w8.heap.size + 1) (by simp) ?_
            case g1 => rfl
            case g2 => simp [Value.oneCell']
            intro g5 c5' w5 hown5 hgrow hat hlt
            have hA10 := al_grown hA8 hbb hO8 hgrow
            refine hK.out _ _ ?_ (fun hHeld => ?_)
            · exact alS hA10
            clear hK K
            have HO5 := Lib.hid hown5
            clear hown5 hgrow hat hlt
            try simp only [Act.put, List.setIfInBounds_toArray, List.set_cons_zero, List.set_cons_succ]
            refine wpAnyX_ready (rs := [11]) (by kernel_rfl) (by simp) ?_
            refine AllReadyX.last (o := { dst := some 3, op := _, type := _, pos := _, after := _, guard := _ }) rfl (fun K hK => ?_) ?_
            · go_simp
              refine hK.out _ _ ?_
              clear hK K
              try simp only [Act.put, List.setIfInBounds_toArray, List.set_cons_zero, List.set_cons_succ]
              refine wpAnyX_done (by kernel_rfl) ?_ _
              refine NoPanic.normal ?_
              go_wp2_with fail
              go_roundw
              case rel => exact ⟨k + 1, _, by omega, by go_num, HO5.out, hA10.bl⟩
              case measure => simp [intOf]; omega
            exact AllReadyX.nil
          exact AllReadyX.nil
        exact AllReadyX.nil
      exact AllReadyX.nil
    · have e1 : ¬ (k : Int) < (n : Int) := by omega
      obtain rfl : k = n := by omega
      obtain ⟨p5, c5, hv5, _⟩ := slice_of_own HW.out
      subst hv5
      go_wp2_with fail
      go_ret
      exact ⟨p5, c5, rfl, HB.out⟩
end Go.Proofs.YtmcnpaehmnadeaaGreatDoor

/-
  EpochOf: sederuntref41.Made returns a deployment.
-/
namespace Go.Proofs.YtmcnpaehmnadeaaGreatDoor
open Go Go.RowKit

/-- inside Made: the draft, the result -/
structure OM (w : World) (p : Option Addr) (n cap : Nat) (x0 : Int) (W : World) : Prop where
  da : W.heap[w.heap.size]? = some (.cells #[.slice p n cap, .int .u8 x0] 24 (0, 0))
  ra : W.heap[w.heap.size + 1]? = some (.cells #[.slice none 0 0, .slice none 0 0, .int .u16 0, .slice none 0 0, .slice none 0 0, .slice none 0 0] 33 (0, 0))
  bl : Below w.heap.size w W
theorem OM.below {w W W' : World} {p : Option Addr} {n cap : Nat} {x0 : Int} (h : OM w p n cap x0 W) (hb : Below W.heap.size W W') : OM w p n cap x0 W' :=
  ⟨(hb.block _ (Array.getElem?_eq_some_iff.mp h.da).1).trans h.da, (hb.block _ (Array.getElem?_eq_some_iff.mp h.ra).1).trans h.ra, h.bl.trans (hb.mono h.bl.size)⟩
theorem OM.lt {w W : World} {p : Option Addr} {n cap : Nat} {x0 : Int} (h : OM w p n cap x0 W) : w.heap.size + 1 < W.heap.size := (Array.getElem?_eq_some_iff.mp h.ra).1
theorem omS {w W : World} {p : Option Addr} {n cap : Nat} {x0 : Int} (h : OM w p n cap x0 W) : W.cell? ⟨w.heap.size, 0, none⟩ = some (.slice p n cap) ∧ W.cell? ⟨w.heap.size, 1, none⟩ = some (.int .u8 x0) ∧ OM w p n cap x0 W := ⟨cellOf h.da rfl, cellOf h.da rfl, h⟩
theorem OM.set6 {w W : World} {p : Option Addr} {n cap : Nat} {x0 : Int} {b : Nat} (h : OM w p n cap x0 W) (hb : w.heap.size + 1 < b) (v0 v1 v2 v3 v4 v5 : Value) : OM w p n cap x0 ((((((W.setCell ⟨b, 0, none⟩ v0).setCell ⟨b, 1, none⟩ v1).setCell ⟨b, 2, none⟩ v2).setCell ⟨b, 3, none⟩ v3).setCell ⟨b, 4, none⟩ v4).setCell ⟨b, 5, none⟩ v5) :=
  ⟨(set6_other (by omega) v0 v1 v2 v3 v4 v5).trans h.da, (set6_other (by omega) v0 v1 v2 v3 v4 v5).trans h.ra, below_set6 h.bl (by omega) v0 v1 v2 v3 v4 v5⟩
/-- the deployment in the making; all that is older -/
structure DK (w w3 : World) (D : Nat) (v0 : Value) (x : Int) (gp : Option Addr) (n gc : Nat) (v4 : Value) (W : World) : Prop where
  le : w.heap.size ≤ w3.heap.size
  hD : D < w3.heap.size
  h0 : w.heap.size + 1 < D
  old : ∀ B, B < w3.heap.size → B ≠ D → W.heap[B]? = w3.heap[B]?
  ta : W.heap[D]? = some (.cells #[v0, .slice none 0 0, .int .u16 x, .slice gp n gc, v4, .slice none 0 0] 33 (0, 0))
  sz : w3.heap.size ≤ W.heap.size
  bl : Below w.heap.size w W
section
variable {w w3 : World} {D : Nat} {v0 : Value} {x : Int} {gp : Option Addr} {n gc : Nat} {v4 : Value} {W W' : World}
theorem DK.below3 (h : DK w w3 D v0 x gp n gc v4 W) (hb : Below w3.heap.size W W') : DK w w3 D v0 x gp n gc v4 W' :=
  ⟨h.le, h.hD, h.h0, fun B h1 h2 => (hb.block B h1).trans (h.old B h1 h2), (hb.block _ h.hD).trans h.ta, Nat.le_trans h.sz hb.size, h.bl.trans (hb.mono h.le)⟩
theorem DK.below (h : DK w w3 D v0 x gp n gc v4 W) (hb : Below W.heap.size W W') : DK w w3 D v0 x gp n gc v4 W' := h.below3 (hb.mono h.sz)
theorem DK.grown {u : Value} {ob : Obj} {e sz k : Nat} {xs : List Value} (h : DK w w3 D v0 x gp n gc v4 W) (hown : W.ownsRow w3.heap.size e sz u k xs) (hg : (W.alloc ob).grownBy W' u.ownBlock) : DK w w3 D v0 x gp n gc v4 W' :=
  h.below3 (below_grown (Below.refl _ _) h.sz hown hg)
theorem dkS (h : DK w w3 D v0 x gp n gc v4 W) : W.cell? ⟨D, 0, none⟩ = some v0 ∧ DK w w3 D v0 x gp n gc v4 W := ⟨cellOf h.ta rfl, h⟩
theorem DK.put0 (h : DK w w3 D v0 x gp n gc v4 W) (u : Value) : DK w w3 D u x gp n gc v4 (W.setCell ⟨D, 0, none⟩ u) :=
  ⟨h.le, h.hD, h.h0, fun B h1 h2 => (set1_other h2 u).trans (h.old B h1 h2), by
    have := h.ta
    unfold World.setCell
    simp [Array.getElem?_modify, this], by simpa using h.sz, below_set h.bl (p := ⟨D, 0, none⟩) (by show _ ≤ D; have := h.h0; omega) u⟩
theorem DK.put4 (h : DK w w3 D v0 x gp n gc v4 W) (u : Value) : DK w w3 D v0 x gp n gc u (W.setCell ⟨D, 4, none⟩ u) :=
  ⟨h.le, h.hD, h.h0, fun B h1 h2 => (set1_other h2 u).trans (h.old B h1 h2), by
    have := h.ta
    unfold World.setCell
    simp [Array.getElem?_modify, this], by simpa using h.sz, below_set h.bl (p := ⟨D, 4, none⟩) (by show _ ≤ D; have := h.h0; omega) u⟩
theorem DK.row {b : Nat} {o : Obj} (h : DK w w3 D v0 x gp n gc v4 W) (ho : w3.heap[b]? = some o) (hn : b ≠ D) : W.heap[b]? = some o := (h.old b (Array.getElem?_eq_some_iff.mp ho).1 hn).trans ho
end
/-- a deployment, and whether there is one -/
def MadeRet (n : Nat) (w : World) (e : Ending) (w' : World) : Prop := ∃ (p0 : Option Addr) (n0 c0 : Nat) (x : Int) (gp : Option Addr) (gn gc : Nat) (cp : Option Addr) (cn cc : Nat) (r : Bool),
  e = .returned (.tuple #[.agg #[.slice p0 n0 c0, .slice none 0 0, .int .u16 x, .slice gp gn gc, .slice cp cn cc, .slice none 0 0], .bool r]) ∧ Below w.heap.size w w' ∧
    (r = true → 0 < n ∧ n ≤ 3 ∧ gn = n ∧ cn = n ∧ n ≤ cc ∧ ∃ b off, cp = some ⟨b, off, none⟩ ∧ ChW w' b off n)
theorem results_row_tmp {P : Program} {fn : Func} {p u : Tmp} {ty : TypeId} (h : fn.results = #[.cell p ty, .tmp u]) (tmps : Array Value) (w : World) (g : Nat) (t : TypeId) (cs : Array Value) (fr : Nat × Nat) (d : TypeDesc)
    (hp : tmps.getD p undef = .pointer (some ⟨g, 0, none⟩)) (hg : w.heap[g]? = some (.cells cs t fr))
    (hu : P.underlying ty = some d) (hd : (match d with | .struct _ | .array _ _ => true | _ => false) = true) (hi : (P.info? ty).map (·.size) = some cs.size) :
    (results fn tmps).run P w = .ok (.tuple #[.agg cs, tmps.getD u undef]) w := by
  have hp' : tmps[p]?.getD undef = .pointer (some ⟨g, 0, none⟩) := by simpa using hp
  rw [results_cell_tmp h]
  simp [hp', asAddr, run_loadVar_row w g t ty cs fr d hg hu hd hi, Result.andThen]
theorem enc_small (i : Int) : ¬ 9223372036854775807 < 1 + (Utf8.encode i).size := by have := encode_size_le i; omega
theorem Tryz.size33 : (Tryz.prog.info? 33).map (·.size) = some 6 := by kernel_rfl
theorem md_end {w W : World} {fn : Func} {R n : Nat} {a0 a1 a2 a3 a4 a5 : Value} (pp uu : Tmp) (hfn : fn.results = #[.cell pp 33, .tmp uu]) (hR : W.heap[R]? = some (.cells #[a0, a1, a2, a3, a4, a5] 33 (0, 0))) (hb : Below w.heap.size w W) (hge : w.heap.size ≤ R)
    (p0 : Option Addr) (n0 c0 : Nat) (x : Int) (gp : Option Addr) (gn gc : Nat) (cp : Option Addr) (cn cc : Nat) (r : Bool) (tmps : Array Value) (h6 : tmps.getD pp undef = .pointer (some ⟨R, 0, none⟩)) (h7 : tmps.getD uu undef = .bool r)
    (hr : r = true → 0 < n ∧ n ≤ 3 ∧ gn = n ∧ cn = n ∧ n ≤ cc ∧ ∃ b off, cp = some ⟨b, off, none⟩ ∧ b ≠ R ∧ ChW W b off n) :
    bodyPost Tryz.prog fn (MadeRet n w) Exit.ret { tmps := tmps, defers := [] } ((((((W.setCell ⟨R, 0, none⟩ (.slice p0 n0 c0)).setCell ⟨R, 1, none⟩ (.slice none 0 0)).setCell ⟨R, 2, none⟩ (.int .u16 x)).setCell ⟨R, 3, none⟩ (.slice gp gn gc)).setCell ⟨R, 4, none⟩ (.slice cp cn cc)).setCell ⟨R, 5, none⟩ (.slice none 0 0)) := by
  refine bodyPost_ret (results_row_tmp hfn _ _ R 33 #[.slice p0 n0 c0, .slice none 0 0, .int .u16 x, .slice gp gn gc, .slice cp cn cc, .slice none 0 0] (0, 0) _ h6 (row_set6 hR _ _ _ _ _ _) Tryz.underlying33 rfl Tryz.size33) rfl ?_
  rw [h7]
  refine ⟨p0, n0, c0, x, gp, gn, gc, cp, cn, cc, r, rfl, below_set6 hb hge _ _ _ _ _ _, fun h => ?_⟩
  obtain ⟨h1, h2, h3, h4, h5, b, off, h8, h9, h10⟩ := hr h
  exact ⟨h1, h2, h3, h4, h5, b, off, h8, Nat.lt_of_lt_of_le h10.1 (Nat.le_of_eq (set6_size _ _ _ _ _ _).symm), fun i hi => (World.cell?_of_block (a := ⟨b, off + i, none⟩) (set6_other h9 _ _ _ _ _ _)).trans (h10.2 i hi)⟩

set_option maxHeartbeats 3200000 in
set_option maxRecDepth 1000000 in
theorem made41_any (p : Option Addr) (n cap : Nat) (x0 : Int) (w : World) (hp : n ≤ 3 → DrfP w p n) : Calls Tryz.prog 5 #[.agg #[.slice p n cap, .int .u8 x0]] w (MadeRet n w) := by
  obtain ⟨i0, hi, hz0, hz1, hz2⟩ := info_parts Tryz.info9
  obtain ⟨j0, hj, hy0, hy1, hy2⟩ := info_parts Tryz.info3
  have hb0 : Below w.heap.size w ((w.alloc (.cells #[.slice p n cap, .int .u8 x0] 24)).alloc (.cells #[.slice none 0 0, .slice none 0 0, .int .u16 0, .slice none 0 0, .slice none 0 0, .slice none 0 0] 33)) := ((Below.refl _ _).alloc (Nat.le_refl _) _).alloc (by simp) _
  have HO0 := Lib.hid (show OM w p n cap x0 _ from ⟨heap_alloc2_old w (.cells #[.slice p n cap, .int .u8 x0] 24) (.cells #[.slice none 0 0, .slice none 0 0, .int .u16 0, .slice none 0 0, .slice none 0 0, .slice none 0 0] 33), heap_alloc2_new w _ _, hb0⟩)
  have HP := Lib.hid hp
  clear hb0 hp
  go_enter Tryz.func5, Tryz.ntmps5
  go_upto_region 1 with fail
  revert HO0
  generalize (w.alloc (.cells #[.slice p n cap, .int .u8 x0] 24)).alloc (.cells #[.slice none 0 0, .slice none 0 0, .int .u16 0, .slice none 0 0, .slice none 0 0, .slice none 0 0] 33) = W0
  intro HO0
  have d0 := cellOf HO0.out.da (j := 0) rfl
  have r0 := cellOf HO0.out.ra (j := 0) rfl; have r1 := cellOf HO0.out.ra (j := 1) rfl; have r2 := cellOf HO0.out.ra (j := 2) rfl; have r3 := cellOf HO0.out.ra (j := 3) rfl; have r4 := cellOf HO0.out.ra (j := 4) rfl; have r5 := cellOf HO0.out.ra (j := 5) rfl
  have f0 := frozenOf HO0.out.ra (j := 0); have f1 := frozenOf HO0.out.ra (j := 1); have f2 := frozenOf HO0.out.ra (j := 2); have f3 := frozenOf HO0.out.ra (j := 3); have f4 := frozenOf HO0.out.ra (j := 4); have f5 := frozenOf HO0.out.ra (j := 5)
  by_cases hn1 : n < 1
  · obtain rfl : n = 0 := by omega
    go_wp2_with fail
    exact md_end 2 3 rfl HO0.out.ra HO0.out.bl (Nat.le_succ _) _ _ _ _ _ _ _ _ _ _ false _ rfl rfl (fun h => by cases h)
  · have e0 : ¬ (n : Int) < 1 := by omega
    by_cases hn3 : n ≤ 3
    · have e1 : ¬ (3 : Int) < (n : Int) := by omega
      have HD := Lib.hid (HP.out hn3)
      go_upto_region 3 with fail
      clear d0 r0 r1 r2 r3 r4 r5 f0 f1 f2 f3 f4 f5 HP e0 e1
      go_cut [4] (fun u wx => ∃ (D : Nat) (x : Int) (gp : Option Addr) (gc : Nat), u = .pointer (some ⟨D, 0, none⟩) ∧ w.heap.size + 1 < D ∧ OM w p n cap x0 wx ∧ wx.heap[D]? = some (.cells #[.slice none 0 0, .slice none 0 0, .int .u16 x, .slice gp n gc, .slice none 0 0, .slice none 0 0] 33 (0, 0)))
      case first =>
        have hOd := HO0.out.below (below_drew W0)
        refine wp_region_noPanic ?_
        refine wp_region_x 8 (fun W => W.cell? ⟨w.heap.size, 0, none⟩ = some (.slice p n cap) ∧ W.cell? ⟨w.heap.size, 1, none⟩ = some (.int .u8 x0) ∧ OM w p n cap x0 W) (by kernel_rfl) ?_ (fun hHeld => ?_)
        · exact omS hOd
        refine wpAnyX_take (i := 0) (oi := { dst := some 18, op := _, type := _, pos := _, after := _, guard := _ }) (v := ?_) rfl (by kernel_rfl) (by kernel_rfl) (by kernel_rfl) (by kernel_rfl) (fun _ _ _ h => h) (Or.inl ⟨by rfl, ?_⟩) (by assumption) ?_
        rotate_left
        · intro w hSw
          try dsimp only at hSw
          go_simp
          try with_reducible rfl
        try simp only [Act.put, List.setIfInBounds_toArray, List.set_cons_zero, List.set_cons_succ]
        refine wpAnyX_take (i := 1) (oi := { dst := some 19, op := _, type := _, pos := _, after := _, guard := _ }) (v := ?_) rfl (by kernel_rfl) (by kernel_rfl) (by kernel_rfl) (by kernel_rfl) (fun _ _ _ h => h) (Or.inl ⟨by rfl, ?_⟩) (by assumption) ?_
        rotate_left
        · intro w hSw
          try dsimp only at hSw
          go_simp
          try with_reducible rfl
        try simp only [Act.put, List.setIfInBounds_toArray, List.set_cons_zero, List.set_cons_succ]
        refine wpAnyX_take (i := 2) (oi := { dst := some 20, op := _, type := _, pos := _, after := _, guard := _ }) (v := ?_) rfl (by kernel_rfl) (by kernel_rfl) (by kernel_rfl) (by kernel_rfl) (fun _ _ _ h => h) (Or.inl ⟨by rfl, ?_⟩) (by assumption) ?_
        rotate_left
        · intro w hSw
          try dsimp only at hSw
          go_simp
          try with_reducible rfl
        try simp only [Act.put, List.setIfInBounds_toArray, List.set_cons_zero, List.set_cons_succ]
        refine wpAnyX_take (i := 3) (oi := { dst := some 21, op := _, type := _, pos := _, after := _, guard := _ }) (v := ?_) rfl (by kernel_rfl) (by kernel_rfl) (by kernel_rfl) (by kernel_rfl) (fun _ _ _ h => h) (Or.inl ⟨by rfl, ?_⟩) (by assumption) ?_
        rotate_left
        · intro w hSw
          try dsimp only at hSw
          go_simp
          try with_reducible rfl
        try simp only [Act.put, List.setIfInBounds_toArray, List.set_cons_zero, List.set_cons_succ]
        refine wpAnyX_take (i := 4) (oi := { dst := some 22, op := _, type := _, pos := _, after := _, guard := _ }) (v := ?_) rfl (by kernel_rfl) (by kernel_rfl) (by kernel_rfl) (by kernel_rfl) (fun _ _ _ h => h) (Or.inl ⟨by rfl, ?_⟩) (by assumption) ?_
        rotate_left
        · intro w hSw
          try dsimp only at hSw
          go_simp
          try with_reducible rfl
        try simp only [Act.put, List.setIfInBounds_toArray, List.set_cons_zero, List.set_cons_succ]
        refine wpAnyX_ready (rs := [5, 7]) (by kernel_rfl) (by simp) ?_
        refine AllReadyX.cons (o := { dst := some 23, op := _, type := _, pos := _, after := _, guard := _ }) rfl (fun K hK => ?_) ?_
        · go_simp
          go_at_call 19
          refine (all_any p n cap _ hn3 (HD.out.below hOd.bl)).mono ?_
          rintro e x1 ⟨gp, gc, rfl, hb1⟩
          have hO1 := hOd.below hb1
          go_simp
          refine hK.out _ _ ?_ (fun hHeld => ?_)
          · exact omS hO1
          clear hK K
          try simp only [Act.put, List.setIfInBounds_toArray, List.set_cons_zero, List.set_cons_succ]
          refine wpAnyX_take (i := 6) (oi := { dst := some 24, op := _, type := _, pos := _, after := _, guard := _ }) (v := ?_) rfl (by kernel_rfl) (by kernel_rfl) (by kernel_rfl) (by kernel_rfl) (fun _ _ _ h => h) (Or.inl ⟨by rfl, ?_⟩) (by assumption) ?_
          rotate_left
          · intro w hSw
            try dsimp only at hSw
            go_simp
            try with_reducible rfl
          try simp only [Act.put, List.setIfInBounds_toArray, List.set_cons_zero, List.set_cons_succ]
          refine wpAnyX_ready (rs := [7]) (by kernel_rfl) (by simp) ?_
          refine AllReadyX.cons (o := { dst := some 4, op := _, type := _, pos := _, after := _, guard := _ }) rfl (fun K hK => ?_) ?_
          · go_simp
            have hX2 : (x1.alloc (.cells #[.slice none 0 0, .slice none 0 0, .int .u16 0, .slice none 0 0, .slice none 0 0, .slice none 0 0] 33)).heap[x1.heap.size]? = some (.cells #[.slice none 0 0, .slice none 0 0, .int .u16 0, .slice none 0 0, .slice none 0 0, .slice none 0 0] 33) := heap_alloc_new x1 _
            have hO2 := hO1.below ((Below.refl _ _).alloc (Nat.le_refl _) (.cells #[.slice none 0 0, .slice none 0 0, .int .u16 0, .slice none 0 0, .slice none 0 0, .slice none 0 0] 33))
            have hL := hO1.lt
            refine hK.out _ _ ?_ (fun hHeld => ?_)
            · exact omS hO2
            clear hK K
            try simp only [Act.put, List.setIfInBounds_toArray, List.set_cons_zero, List.set_cons_succ]
            refine wpAnyX_ready (rs := [8]) (by kernel_rfl) (by simp) ?_
            refine AllReadyX.last (o := { dst := none, op := _, type := _, pos := _, after := _, guard := _ }) rfl (fun K hK => ?_) ?_
            · have z0 := cellOf hX2 (j := 0) rfl
              have z1 := cellOf hX2 (j := 1) rfl
              have z2 := cellOf hX2 (j := 2) rfl
              have z3 := cellOf hX2 (j := 3) rfl
              have z4 := cellOf hX2 (j := 4) rfl
              have z5 := cellOf hX2 (j := 5) rfl
              have y0 := frozenOf hX2 (j := 0)
              have y1 := frozenOf hX2 (j := 1)
              have y2 := frozenOf hX2 (j := 2)
              have y3 := frozenOf hX2 (j := 3)
              have y4 := frozenOf hX2 (j := 4)
              have y5 := frozenOf hX2 (j := 5)
              go_simp
              refine hK.out _ _ ?_
              clear hK K
              clear z0 z1 z2 z3 z4 z5 y0 y1 y2 y3 y4 y5
              try simp only [Act.put, List.setIfInBounds_toArray, List.set_cons_zero, List.set_cons_succ]
              refine wpAnyX_done (by kernel_rfl) ?_ _
              refine NoPanic.normal ?_
              go_wp2_with fail
              go_meet
              exact ⟨_, _, _, _, rfl, hL, hO1.below ((Below.refl _ _).alloc (Nat.le_refl _) _), heap_alloc_new _ _⟩
            exact AllReadyX.nil
          exact AllReadyX.nil
        refine AllReadyX.cons (o := { dst := some 4, op := _, type := _, pos := _, after := _, guard := _ }) rfl (fun K hK => ?_) ?_
        · go_simp
          have hX3 : (W0.drew.alloc (.cells #[.slice none 0 0, .slice none 0 0, .int .u16 0, .slice none 0 0, .slice none 0 0, .slice none 0 0] 33)).heap[W0.heap.size]? = some (.cells #[.slice none 0 0, .slice none 0 0, .int .u16 0, .slice none 0 0, .slice none 0 0, .slice none 0 0] 33) := heap_alloc_new W0.drew _
          have hO3 := hOd.below ((Below.refl _ _).alloc (Nat.le_refl _) (.cells #[.slice none 0 0, .slice none 0 0, .int .u16 0, .slice none 0 0, .slice none 0 0, .slice none 0 0] 33))
          have hL := hOd.lt
          refine hK.out _ _ ?_ (fun hHeld => ?_)
          · exact omS hO3
          clear hK K
          try simp only [Act.put, List.setIfInBounds_toArray, List.set_cons_zero, List.set_cons_succ]
          refine wpAnyX_ready (rs := [5]) (by kernel_rfl) (by simp) ?_
          refine AllReadyX.cons (o := { dst := some 23, op := _, type := _, pos := _, after := _, guard := _ }) rfl (fun K hK => ?_) ?_
          · go_simp
            go_at_call 19
            refine (all_any p n cap _ hn3 (HD.out.below hO3.bl)).mono ?_
            rintro e x4 ⟨gp, gc, rfl, hb4⟩
            have hO4 := hO3.below hb4
            have hX4 := (hb4.block _ (Array.getElem?_eq_some_iff.mp hX3).1).trans hX3
            go_simp
            refine hK.out _ _ ?_ (fun hHeld => ?_)
            · exact omS hO4
            clear hK K
            try simp only [Act.put, List.setIfInBounds_toArray, List.set_cons_zero, List.set_cons_succ]
            refine wpAnyX_take (i := 6) (oi := { dst := some 24, op := _, type := _, pos := _, after := _, guard := _ }) (v := ?_) rfl (by kernel_rfl) (by kernel_rfl) (by kernel_rfl) (by kernel_rfl) (fun _ _ _ h => h) (Or.inl ⟨by rfl, ?_⟩) (by assumption) ?_
            rotate_left
            · intro w hSw
              try dsimp only at hSw
              go_simp
              try with_reducible rfl
            try simp only [Act.put, List.setIfInBounds_toArray, List.set_cons_zero, List.set_cons_succ]
            refine wpAnyX_ready (rs := [8]) (by kernel_rfl) (by simp) ?_
            refine AllReadyX.last (o := { dst := none, op := _, type := _, pos := _, after := _, guard := _ }) rfl (fun K hK => ?_) ?_
            · have z0 := cellOf hX4 (j := 0) rfl
              have z1 := cellOf hX4 (j := 1) rfl
              have z2 := cellOf hX4 (j := 2) rfl
              have z3 := cellOf hX4 (j := 3) rfl
              have z4 := cellOf hX4 (j := 4) rfl
              have z5 := cellOf hX4 (j := 5) rfl
              have y0 := frozenOf hX4 (j := 0)
              have y1 := frozenOf hX4 (j := 1)
              have y2 := frozenOf hX4 (j := 2)
              have y3 := frozenOf hX4 (j := 3)
              have y4 := frozenOf hX4 (j := 4)
              have y5 := frozenOf hX4 (j := 5)
              go_simp
              refine hK.out _ _ ?_
              clear hK K
              clear z0 z1 z2 z3 z4 z5 y0 y1 y2 y3 y4 y5
              try simp only [Act.put, List.setIfInBounds_toArray, List.set_cons_zero, List.set_cons_succ]
              refine wpAnyX_done (by kernel_rfl) ?_ _
              refine NoPanic.normal ?_
              go_wp2_with fail
              go_meet
              exact ⟨_, _, _, _, rfl, hL, hO4.set6 hL _ _ _ _ _ _, row_set6 hX4 _ _ _ _ _ _⟩
            exact AllReadyX.nil
          exact AllReadyX.nil
        exact AllReadyX.nil
      case rest =>
        obtain ⟨D, x, gp, gc, rfl, hD, hO, hX⟩ := hcut
        obtain ⟨w3, hw3⟩ : ∃ w3 : World, w3 = wc := ⟨wc, rfl⟩
        subst hw3
        have HO := Lib.hid hO
        have HK0 := Lib.hid (show DK w w3 D (.slice none 0 0) x gp n gc (.slice none 0 0) w3 from ⟨hO.bl.size, (Array.getElem?_eq_some_iff.mp hX).1, hD, fun _ _ _ => rfl, hX, Nat.le_refl _, hO.bl⟩)
        have HDW := Lib.hid (show w.heap.size ≠ D by omega)
        have HDR := Lib.hid (show w.heap.size + 1 ≠ D by omega)
        clear hD hO hX
        go_upto_block 0 with fail
        go_cut [5] (fun _ wx => ∃ v0 : Value, (∃ p0 n0 c0, v0 = .slice p0 n0 c0) ∧ DK w w3 D v0 x gp n gc (.slice none 0 0) wx)
        case first =>
          go_wp2_with fail
          go_loopw [5] (fun i wr => ∃ (k : Nat) (v : Value) (xs : List Value), k ≤ 8 ∧ i = .int .i64 k ∧ DK w w3 D v x gp n gc (.slice none 0 0) wr ∧ wr.ownsRow w3.heap.size 9 1 v k xs) (fun i _ => 8 - (intOf i).toNat)
          case atStart => exact ⟨0, _, [], Nat.zero_le _, rfl, HK0.out, World.ownsRow_nil _ _ _ _⟩
          case round =>
            obtain ⟨k, v, xs, hk, rfl, hK, hown⟩ := hrel
            have HK := Lib.hid hK
            have HW := Lib.hid hown
            clear hK hown
            have e0 : (0 : Int) ≤ (k : Int) := by omega
            by_cases hk8 : k < 8
            · have e1 : (k : Int) < 8 := by omega
              go_upto_region 7 with fail
              have hKd := HK.out.below (below_drew wr)
              have HWd := Lib.hid (own_below HW.out (below_drew wr))
              refine wp_region_noPanic ?_
              refine wp_region_x 9 (fun W => W.cell? ⟨D, 0, none⟩ = some v ∧ DK w w3 D v x gp n gc (.slice none 0 0) W) (by kernel_rfl) ?_ (fun hHeld => ?_)
              · exact dkS hKd
              refine wpAnyX_take (i := 0) (oi := { dst := some 29, op := _, type := _, pos := _, after := _, guard := _ }) (v := ?_) rfl (by kernel_rfl) (by kernel_rfl) (by kernel_rfl) (by kernel_rfl) (fun _ _ _ h => h) (Or.inl ⟨by rfl, ?_⟩) (by assumption) ?_
              rotate_left
              · intro w hSw
                try dsimp only at hSw
                go_simp
                try with_reducible rfl
              try simp only [Act.put, List.setIfInBounds_toArray, List.set_cons_zero, List.set_cons_succ]
              refine wpAnyX_take (i := 1) (oi := { dst := some 30, op := _, type := _, pos := _, after := _, guard := _ }) (v := ?_) rfl (by kernel_rfl) (by kernel_rfl) (by kernel_rfl) (by kernel_rfl) (fun _ _ _ h => h) (Or.inl ⟨by rfl, ?_⟩) (by assumption) ?_
              rotate_left
              · intro w hSw
                try dsimp only at hSw
                go_simp
                try with_reducible rfl
              try simp only [Act.put, List.setIfInBounds_toArray, List.set_cons_zero, List.set_cons_succ]
              refine wpAnyX_take (i := 2) (oi := { dst := some 31, op := _, type := _, pos := _, after := _, guard := _ }) (v := ?_) rfl (by kernel_rfl) (by kernel_rfl) (by kernel_rfl) (by kernel_rfl) (fun _ _ _ h => h) (Or.inl ⟨by rfl, ?_⟩) (by assumption) ?_
              rotate_left
              · intro w hSw
                try dsimp only at hSw
                go_simp
                try with_reducible rfl
              try simp only [Act.put, List.setIfInBounds_toArray, List.set_cons_zero, List.set_cons_succ]
              refine wpAnyX_take (i := 3) (oi := { dst := some 32, op := _, type := _, pos := _, after := _, guard := _ }) (v := ?_) rfl (by kernel_rfl) (by kernel_rfl) (by kernel_rfl) (by kernel_rfl) (fun _ _ _ h => h) (Or.inl ⟨by rfl, ?_⟩) (by assumption) ?_
              rotate_left
              · intro w hSw
                try dsimp only at hSw
                go_simp
                try with_reducible rfl
              try simp only [Act.put, List.setIfInBounds_toArray, List.set_cons_zero, List.set_cons_succ]
              refine wpAnyX_take (i := 4) (oi := { dst := some 33, op := _, type := _, pos := _, after := _, guard := _ }) (v := ?_) rfl (by kernel_rfl) (by kernel_rfl) (by kernel_rfl) (by kernel_rfl) (fun _ _ _ h => h) (Or.inl ⟨by rfl, ?_⟩) (by assumption) ?_
              rotate_left
              · intro w hSw
                try dsimp only at hSw
                go_simp
                try with_reducible rfl
              try simp only [Act.put, List.setIfInBounds_toArray, List.set_cons_zero, List.set_cons_succ]
              refine wpAnyX_take (i := 5) (oi := { dst := some 34, op := _, type := _, pos := _, after := _, guard := _ }) (v := ?_) rfl (by kernel_rfl) (by kernel_rfl) (by kernel_rfl) (by kernel_rfl) (fun _ _ _ h => h) (Or.inl ⟨by rfl, ?_⟩) (by assumption) ?_
              rotate_left
              · intro w hSw
                try dsimp only at hSw
                go_simp
                rw [if_neg (enc_small _)]
                try with_reducible rfl
              try simp only [Act.put, List.setIfInBounds_toArray, List.set_cons_zero, List.set_cons_succ]
              refine wpAnyX_ready (rs := [6]) (by kernel_rfl) (by simp) ?_
              refine AllReadyX.cons (o := { dst := some 35, op := _, type := _, pos := _, after := _, guard := _ }) rfl (fun K hK => ?_) ?_
              · go_simp
                refine hK.out _ _ ?_ (fun hHeld => ?_)
                · exact dkS (hKd.below ((Below.refl _ _).alloc (Nat.le_refl _) _))
                clear hK K
                try simp only [Act.put, List.setIfInBounds_toArray, List.set_cons_zero, List.set_cons_succ]
                refine wpAnyX_ready (rs := [7]) (by kernel_rfl) (by simp) ?_
                refine AllReadyX.cons (o := { dst := some 36, op := _, type := _, pos := _, after := _, guard := _ }) rfl (fun K hK => ?_) ?_
                · refine step_append_lies _ (by rfl) _ _ _ (by rfl) w3.heap.size 9 i0 (.string ⟨#[]⟩) 1 16 Tryz.underlying25 hi hz0 hz1 hz2 rfl (by omega) v k xs (by rfl) (HWd.out.alloc _) ⟨wr.heap.size, 0, none⟩ 1 1 _ (by rfl) ?g1 (World.news_of_block (t := 9) (fr := (0, 0)) (heap_alloc_new wr.drew _)) ?g2 (by omega) (by unfold maxLen; omega) (by omega) (by simp; have := HK.out.sz; omega) (wr.heap.size + 1) (by simp) ?_
                  case g1 => rfl
                  case g2 => simp [Value.oneCell']
                  intro g5 c5' w5 hown5 hgrow hat hlt
                  have hK7 := hKd.grown HWd.out hgrow
                  refine hK.out _ _ ?_ (fun hHeld => ?_)
                  · exact dkS hK7
                  clear hK K
                  have HO5 := Lib.hid hown5
                  clear hown5 hgrow hat hlt
                  try simp only [Act.put, List.setIfInBounds_toArray, List.set_cons_zero, List.set_cons_succ]
                  refine wpAnyX_take (i := 8) (oi := { dst := some 37, op := _, type := _, pos := _, after := _, guard := _ }) (v := ?_) rfl (by kernel_rfl) (by kernel_rfl) (by kernel_rfl) (by kernel_rfl) (fun _ _ _ h => h) (Or.inl ⟨by rfl, ?_⟩) (by assumption) ?_
                  rotate_left
                  · intro w hSw
                    try dsimp only at hSw
                    go_simp
                    try with_reducible rfl
                  try simp only [Act.put, List.setIfInBounds_toArray, List.set_cons_zero, List.set_cons_succ]
                  refine wpAnyX_ready (rs := [9]) (by kernel_rfl) (by simp) ?_
                  refine AllReadyX.last (o := { dst := none, op := _, type := _, pos := _, after := _, guard := _ }) rfl (fun K hK => ?_) ?_
                  · have z0 := cellOf hK7.ta (j := 0) rfl
                    have y0 := frozenOf hK7.ta (j := 0)
                    go_simp
                    refine hK.out _ _ ?_
                    clear hK K
                    clear z0 y0
                    try simp only [Act.put, List.setIfInBounds_toArray, List.set_cons_zero, List.set_cons_succ]
                    refine wpAnyX_done (by kernel_rfl) ?_ _
                    refine NoPanic.normal ?_
                    go_wp2_with fail
                    go_roundw
                    case rel => exact ⟨k + 1, _, _, by omega, by go_num, hK7.put0 _, own_set HO5.out (p := ⟨D, 0, none⟩) hK7.hD _⟩
                    case measure => simp [intOf]; omega
                  exact AllReadyX.nil
                exact AllReadyX.nil
              exact AllReadyX.nil
            · have e1 : ¬ (k : Int) < 8 := by omega
              obtain ⟨p5, c5, hv5, _⟩ := slice_of_own HW.out
              subst hv5
              go_wp2_with fail
              go_meet
              exact ⟨_, ⟨_, _, _, rfl⟩, HK.out⟩
        case rest =>
          obtain ⟨v0, ⟨p0, n0, c0, rfl⟩, hK⟩ := hcut
          have HK1 := Lib.hid hK
          clear hK
          go_upto_block 2 with fail
          go_wp2_with fail
          go_loopw [6] (fun i wr => ∃ (k : Nat) (v4 : Value), k ≤ n ∧ i = .int .i64 k ∧ DK w w3 D (.slice p0 n0 c0) x gp n gc v4 wr ∧ wr.ownsRow w3.heap.size 3 1 v4 k (inV (List.range k))) (fun i _ => n - (intOf i).toNat)
          case atStart => exact ⟨0, _, Nat.zero_le _, rfl, HK1.out, World.ownsRow_nil _ _ _ _⟩
          case round =>
            obtain ⟨k, v4, hk, rfl, hK, hown⟩ := hrel
            have HK := Lib.hid hK
            have HW := Lib.hid hown
            have hd0 := cellOf (hK.row HO.out.da HDW.out) (j := 0) rfl
            clear hK hown
            have e0 : (0 : Int) ≤ (k : Int) := by omega
            by_cases hkn : k < n
            · have e1 : (k : Int) < (n : Int) := by omega
              have q4 := cellOf HK.out.ta (j := 4) rfl
              go_wp2_with (at_builtin; refine wpList_append_own _ rfl _ _ 30 rfl w3.heap.size 3 j0 (.int .i64 0) 1 8 Tryz.underlying30 hj hy0 hy1 hy2 rfl (by decide) v4 k _ rfl (HW.out.alloc _) ⟨wr.heap.size, 0, none⟩ 1 1 [.int .i64 k] rfl rfl ?c1 ?c2 ?c3 ?c4 ?c5 ?_)
              try (case c1 => (intro j u hj; cases j with | zero => (simp at hj; subst hj; simp [Addr.add]) | succ j => simp at hj))
              case c2 => first | rfl | (intro u hu; simp at hu; subst hu; rfl)
              case c3 => unfold maxLen; omega
              case c4 => omega
              case c5 => have := HK.out.sz; first | omega | (simp; omega)
              intro v' w6 hown' hgrow _
              obtain ⟨p9, c9, rfl, _⟩ := slice_of_own hown'
              have HK6 := Lib.hid (HK.out.grown HW.out hgrow)
              rw [inV_snoc, ← List.range_succ] at hown'
              have HO6 := Lib.hid hown'
              have z4 := cellOf HK6.out.ta (j := 4) rfl
              have y4 := frozenOf HK6.out.ta (j := 4)
              clear hown' hgrow q4 hd0
              go_wp2_with fail
              go_roundw
              case rel => exact ⟨k + 1, _, by omega, by go_num, HK6.out.put4 _, own_set HO6.out (p := ⟨D, 4, none⟩) HK6.out.hD _⟩
              case measure => simp [intOf]; omega
            · have e1 : ¬ (k : Int) < (n : Int) := by omega
              obtain rfl : k = n := by omega
              have hD2 : DK w w3 D (.slice p0 n0 c0) x gp k gc v4 wr := HK.out
              obtain ⟨p5, c5, hv5, hp5, -⟩ := intL_of_own HW.out
              obtain ⟨p6, c6, hv6, hc6⟩ := slice_of_own HW.out
              rw [List.length_range] at hv5
              obtain ⟨rfl, rfl⟩ : p6 = p5 ∧ c6 = c5 := by
                rw [hv5] at hv6
                injection hv6 with h1 h2 h3
                exact ⟨h1.symm, h3.symm⟩
              subst hv5
              have hfr := fresh_of_own HW.out
              have HCH := Lib.hid (show ∃ b off, p6 = some ⟨b, off, none⟩ ∧ b ≠ w.heap.size + 1 ∧ ChW wr b off k from by
                rcases hp5 with h | ⟨b, off, rfl, h2, h3⟩
                · have := congrArg List.length h
                  simp at this
                  omega
                · refine ⟨b, off, rfl, ?_, h2, fun i hi => ?_⟩
                  · have h4 : w3.heap.size ≤ b := hfr _ rfl
                    have := HK.out.h0
                    have := HK.out.hD
                    omega
                  · have h5 := h3 i (by rw [List.length_range]; exact hi)
                    rw [List.getElem_range] at h5
                    exact h5)
              have HR := Lib.hid (HK.out.row HO.out.ra HDR.out)
              clear hfr hp5 hv6 hD2
              have z0 := cellOf HK.out.ta (j := 0) rfl; have z1 := cellOf HK.out.ta (j := 1) rfl; have z2 := cellOf HK.out.ta (j := 2) rfl; have z3 := cellOf HK.out.ta (j := 3) rfl; have z4 := cellOf HK.out.ta (j := 4) rfl; have z5 := cellOf HK.out.ta (j := 5) rfl
              have r0 := cellOf HR.out (j := 0) rfl; have r1 := cellOf HR.out (j := 1) rfl; have r2 := cellOf HR.out (j := 2) rfl; have r3 := cellOf HR.out (j := 3) rfl; have r4 := cellOf HR.out (j := 4) rfl; have r5 := cellOf HR.out (j := 5) rfl
              have f0 := frozenOf HR.out (j := 0); have f1 := frozenOf HR.out (j := 1); have f2 := frozenOf HR.out (j := 2); have f3 := frozenOf HR.out (j := 3); have f4 := frozenOf HR.out (j := 4); have f5 := frozenOf HR.out (j := 5)
              go_wp2_with fail
              exact md_end 2 3 rfl HR.out HK.out.bl (Nat.le_succ _) _ _ _ _ _ _ _ _ _ _ true _ (by rfl) (by rfl) (fun _ => ⟨by omega, hn3, rfl, rfl, hc6, HCH.out⟩)
    · have e1 : (3 : Int) < (n : Int) := by omega
      go_wp2_with fail
      exact md_end 2 3 rfl HO0.out.ra HO0.out.bl (Nat.le_succ _) _ _ _ _ _ _ _ _ _ _ false _ rfl rfl (fun h => by cases h)
end Go.Proofs.YtmcnpaehmnadeaaGreatDoor
