/-
  EpochNext: for every input the law returns true, and the input reads as it did: the row, and its tied card. No condition beside the card's own.
-/
import Derived.Test.YtmcnpaehmnadeaaGreatDoorFgAC
import Derived.Test.YtmcnpaehmnadeaaGreatDoorExAB
import Derived.Test.YtmcnpaehmnadeaaGreatDoorFgE
import Derived.Test.YtmcnpaehmnadeaaGreatDoorEaAB
import Derived.Test.YtmcnpaehmnadeaaGreatDoorTie
import Derived.Test.YtmcnpaehmnadeaaGreatDoorCards
import Derived.SevenTiedAt
set_option maxHeartbeats 6400000
set_option maxRecDepth 1000000
namespace Go.Proofs.YtmcnpaehmnadeaaGreatDoor
open Go Go.ChangeShapes Go.WideShapes Go.ChangeAt Go.RowKit Go.Deep Go.Joins
section
variable {H : Type} {enc : TypeId × Value → H} {P : Program}
theorem post_of_below {f : Func} {s : ChangeSpec} {apart fresh handsOn again : Bool} {W W' : World} {args : Array Value} {v : Value} {ds gs : List (DataW H)} {before pa pv : List MemPlace}
  (hW : DataW.Whole enc P f.params.toList s.vars apart W args.toList ds gs before)
  (hres : ∀ (b : Nat) (sp : Nat → Bool) (hd : Bool), DataW.TrodAll enc P W' b sp hd f.resultTypes.toList (v.resultList f.resultTypes.size) (s.fn H (ds ++ gs)).results [])
  (hargs : ∀ sp : Nat → Bool, (∀ p ∈ before, sp p.block = true) → DataW.TrodAll enc P W' 0 sp true f.params.toList args.toList (s.fn H (ds ++ gs)).args pa)
  (hvars : ∀ sp : Nat → Bool, (∀ p ∈ before, sp p.block = true) → DataW.TrodVars enc P W' sp s.vars (s.fn H (ds ++ gs)).vars pv)
  (hps : before = pa ++ pv) (hb : Below W.heap.size W W')
  (hok : ∀ (j : Nat) (t : TypeId) (r : Value), f.resultTypes[j]? = some t → (v.resultList f.resultTypes.size)[j]? = some r → Value.okWide P W' .any 0 t r) :
  s.post enc P f apart fresh handsOn again W args v W' := by
 have hlt : ∀ p ∈ before, p.block < W.heap.size := fun p hp => hW.lt p hp
 have hold : ∀ p ∈ before, (fun b => decide (b < W.heap.size)) p.block = true := fun p hp => by simpa using hlt p hp
 refine ⟨ds, gs, before, [], pa, pv, hW, hres _ _ _, hargs _ hold, hvars _ hold, World.keptBut_mono (fun p hp => ⟨hp, ?_⟩) (hb.frame (· ∈ before)), fun _ => ?_⟩
 ·rw [hps, List.mem_append] at hp
  exact Or.inr hp
 ·obtain ⟨_, _, _, _, _, hz, hn⟩ := hW
  refine ⟨hok, _, _, ([] ++ pa) ++ pv, ⟨[] ++ pa, pv, trodAll_append (hargs _ (fun _ _ => rfl)) (hres _ _ _), hvars _ (fun _ _ => rfl), rfl, ?_, ?_⟩, ?_⟩
  ·intro b off hp
   have hin : MemPlace.cell b off ∈ before := by rw [hps]; simpa using hp
   rw [hb.frozen (hlt _ hin)]
   exact hz b off hin
  ·intro ha
   have := hn ha
   rw [hps] at this
   simpa using this
  ·intro p hp _
   rw [hps]
   simpa using hp
end
theorem one9 {W : World} {base : Nat} {v : Value} (hok : Value.okWide Tryz.prog W .any base 9 v) (c : Value) (hc : v.cells.toList = [c]) : v = c := by
 cases v <;> simp only [Value.cells, List.cons.injEq, and_true] at hc <;> first | exact hc | skip
 simp [Value.okWide, Cell.okWide, Tryz.underlying9, Cell.ok] at hok
theorem rd_bool4 {H : Type} {enc : TypeId × Value → H} {W : World} {cs : List Value} (h : Rd enc W 4 cs) : ∃ b, cs = [.bool b] := by
 obtain ⟨fuel, x, h⟩ := h
 obtain ⟨b, e, -⟩ := DataW.trod_bool Tryz.underlying4 h
 exact ⟨b, e⟩
theorem rd_i64 {H : Type} {enc : TypeId × Value → H} {W : World} {cs : List Value} (h : Rd enc W 3 cs) : ∃ n, cs = [.int .i64 n] := by
 obtain ⟨n, e, -⟩ := rd_int Tryz.underlying3 h
 exact ⟨n, e⟩
theorem gl_of_laid4 {W : World} (h : laidMetH Tryz.prog Rows.epochNextRow.laid W) : GL W := gl_of_laid h
theorem own0 : ownKnob Tryz.prog.godebug = none := by kernel_rfl
theorem laidOut : laidOutB Tryz.prog = true := by kernel_rfl
theorem door_met (os : Os) (args : Array Value) : laidMetH Tryz.prog Rows.epochNextRow.laid ((World.doorLaid Tryz.prog 400 os).forCall (fun _ _ => 0) ⟨#[], args, []⟩).memory :=
 laidMetH_of_parts3 (fuel := 8) (laidMet_of_run' 8 (by kernel_rfl) (by kernel_rfl)) (by kernel_rfl) (by kernel_rfl)
theorem lifted (hA : Awake) (os : Os) (started : os.Started) (H : Type) (enc : TypeId × Value → H) :
  ReturnsInHanded {} Tryz.checked os 4 .any (fun w args => (Rows.epochNextSpec.pre enc Tryz.prog Tryz.f4 [] false w args ∧ laidMetH Tryz.prog Rows.epochNextRow.laid w) ∧ sizedMet enc Tryz.prog Tryz.f4 (OpenSpec.ofChange Rows.epochNextSpec) false w args)
   (Rows.epochNextSpec.post enc Tryz.prog Tryz.f4 false true false false) := by
 refine returnsInHanded_of_change_and (C := Tryz.checked) (X := fun w _ => laidMetH Tryz.prog Rows.epochNextRow.laid w) (fun _ _ _ hh h => h.of_heap hh) own0 started (by kernel_rfl) Tryz.func4
  (ChangeSpec.witness_shaped (enc := enc) (C := Tryz.checked) (os := os) (X := fun w _ => laidMetH Tryz.prog Rows.epochNextRow.laid w) false (World.doorLaid Tryz.prog 400 os) #[.agg #[.slice none 0 0, .int .u8 0], .agg #[.int .i64 0, .bool false], .string ⟨#[]⟩] 8 rfl (World.shaped_of_RefB (by kernel_rfl) (by kernel_rfl)) (by kernel_rfl) (by kernel_rfl) (by kernel_rfl) (door_met os _)) ?_
 intro W base args ds gs before hval0 hW _ _ hL _
 have hval : ∀ (j : Nat) t v, Tryz.f4.params[j]? = some t → args[j]? = some v → Value.okWide Tryz.prog W .any base t v := hval0
 have hW' := hW
 obtain ⟨p, q, hA0, hV, rfl, hfz, hnd⟩ := hW
 have hA1 : DataW.TrodAll enc Tryz.prog W 0 (fun _ => true) true Tryz.f4.params.toList args.toList ds p := hA0
 rw [Tryz.params4] at hA1 hval
 obtain ⟨v0, v1, v2, d0, d1, d2, p0, p1, p2, rfl, rfl, rfl, h0, h1, h2⟩ := trodAll_three hA1
 obtain ⟨rfl, rfl⟩ := trodVars_none hV
 clear hA0 hval0
 simp only [List.append_nil] at hW'
 have st : ∀ {W'}, Below W.heap.size W W' → ∀ {sp : Nat → Bool}, (∀ x ∈ p0 ++ p1 ++ p2, sp x.block = true) → DataW.TrodAll enc Tryz.prog W' 0 sp true [24, 39, 9] [v0, v1, v2] [d0, d1, d2] (p0 ++ (p1 ++ p2)) := fun {W'} hb {sp} hsp =>
  trodAll_mk3
   (WideElems.Trod_stays laidOut (by kernel_rfl) (of_decide_eq_true (by kernel_rfl)) h0 (fun x hx => hb.same (hW'.lt x (by simp [hx]))) (fun x hx => hsp x (by simp [hx])))
   (WideElems.Trod_stays laidOut (by kernel_rfl) (of_decide_eq_true (by kernel_rfl)) h1 (fun x hx => hb.same (hW'.lt x (by simp [hx]))) (fun x hx => hsp x (by simp [hx])))
   (WideElems.Trod_stays laidOut (by kernel_rfl) (of_decide_eq_true (by kernel_rfl)) h2 (fun x hx => hb.same (hW'.lt x (by simp [hx]))) (fun x hx => hsp x (by simp [hx])))
 have fin : ∀ W', Below W.heap.size W W' → Rows.epochNextSpec.post enc Tryz.prog Tryz.f4 false true false false W #[v0, v1, v2] (.bool true) W' := fun W' hb =>
  post_of_below (pa := p0 ++ (p1 ++ p2)) (pv := []) hW' (fun _ _ _ => trodAll_mk1 (shut_bool Tryz.underlying4 _))
   (fun sp hsp => by
    have h := st hb hsp
    show DataW.TrodAll enc Tryz.prog W' 0 sp true Tryz.f4.params.toList _ _ _
    rw [Tryz.params4]
    exact h) (fun _ _ => rfl) (by simp) hb (ok_one (by kernel_rfl) rfl (okWide_bool_mk Tryz.underlying4 _))
 obtain ⟨v00, v01, y0, y1, nf, rfl, -, -, t0, t1⟩ := open_agg2 Tryz.underlying24 (by kernel_rfl) (by kernel_rfl) (hval 0 24 v0 rfl rfl) h0
 obtain ⟨dp, n, dc, e0, hD⟩ := rd_drafts ⟨nf, y0, t0⟩
 obtain ⟨x0, -, e1⟩ := rd_u8 ⟨nf, y1, t1⟩
 obtain rfl : v00 = .slice dp n dc := by simpa using e0
 obtain rfl : v01 = .int .u8 x0 := by simpa using e1
 obtain ⟨v10, v11, z0, z1, ng, rfl, -, -, s0, s1⟩ := open_agg2 Tryz.underlying39 (by kernel_rfl) (by kernel_rfl) (hval 1 39 v1 rfl rfl) h1
 obtain ⟨a, e2⟩ := rd_i64 ⟨ng, z0, s0⟩
 obtain ⟨j, e3⟩ := rd_bool4 ⟨ng, z1, s1⟩
 obtain rfl : v10 = .int .i64 a := by simpa using e2
 obtain rfl : v11 = .bool j := by simpa using e3
 obtain ⟨f2, hf2⟩ := h2
 obtain ⟨s, e4⟩ := rd_string ⟨f2, _, hf2⟩
 obtain rfl := one9 (hval 2 9 v2 rfl rfl) _ e4
 refine (law4 hA dp n dc x0 a j s W (fun _ => hD) (gl_of_laid4 hL)).mono ?_
 rintro e W' ⟨rfl, hb⟩
 exact ⟨_, rfl, fin W' hb⟩
theorem epochNext_holds : Rows.EpochNextSaid :=
 OpenClaim.holds_of_wide 4 Tryz.f4 rfl rfl rfl rfl rfl rfl rfl ⟨rfl, rfl, rfl, rfl, rfl⟩ rfl rfl rfl rfl rfl (by kernel_rfl) Tryz.func4 enfAll
  (of_decide_eq_true (by kernel_rfl)) (by unfold Func.isWrapper; first | (rw [if_pos (by decide +kernel)]; kernel_rfl) | (rw [if_neg (by decide +kernel)]; exact ⟨rfl, rfl⟩))
  (fun os started H enc _ => lifted awake_true os started H enc)
theorem epochNext_card : Rows.EpochNextCardSaid :=
 Claim7.holds_tied_plain_at .later [] [.data, .data, .data, .sentinel, .sentinel] true (true, "aa5d0bcedc899c0195b79abdbb4b352e990a052033f119c60f6d9eb111e83e8d") true
  epochNext_holds (fun _ h => by cases h) (by kernel_rfl) (fun _ h => by cases h) epochNext_row_tie rfl ⟨rfl, rfl⟩ (by kernel_rfl) rfl
  (fun f fn hf hfn => by
   obtain rfl : f = 4 := Option.some.inj ((show Tryz.prog.funcNamed Rows.epochNextRow.func = some 4 by kernel_rfl).symm.trans hf) |>.symm
   obtain rfl : fn = Tryz.f4 := (Option.some.inj (Tryz.func4.symm.trans hfn)).symm
   exact ⟨by kernel_rfl, fun j t ht => by
    rw [Tryz.params4] at ht
    have hm : t ∈ [24, 39, 9] := by simpa using Array.mem_of_getElem? ht
    have hall : ([24, 39, 9].all fun u => !Tryz.prog.wantsStandIn u) = true := by kernel_rfl
    exact (show Tryz.prog.wantsStandIn t = false by simpa using List.all_eq_true.1 hall t hm)⟩)
  (by kernel_rfl)
end Go.Proofs.YtmcnpaehmnadeaaGreatDoor
