/-
  LeaseTake: for every input of small bulk the law returns true, and the input reads as it did: the row of the second form. No condition beside the row's own.
-/
import Derived.Test.YtoigjpkdcadlnaaGreatDoorLzG
import Derived.Test.YtoigjpkdcadlnaaGreatDoorLzK
import Derived.Test.YtoigjpkdcadlnaaGreatDoorAwE
import Derived.Deep.DeepHandedRow
namespace Go.Proofs.YtoigjpkdcadlnaaGreatDoor
open Go Go.ChangeShapes Go.WideShapes Go.ChangeAt Go.RowKit Go.Deep Go.Joins

theorem door_met3 (os : Os) (args : Array Value) : laidMetH Tryz.prog Rows.leaseTakeUptoRow.laid ((World.doorLaid Tryz.prog 400 os).forCall (fun _ _ => 0) ⟨#[], args, []⟩).memory :=
  laidMetH_of_parts3 (fuel := 8) (laidMet_of_run' 8 (by kernel_rfl) (by kernel_rfl)) (by kernel_rfl) (by kernel_rfl)
theorem reads3 (os : Os) {H : Type} (enc : TypeId × Value → H) : DataW.whole enc Tryz.prog ((World.doorLaid Tryz.prog 400 os).forCall (fun _ _ => 0) ⟨#[], #[.slice none 0 0], []⟩).memory Tryz.f3.params.toList (Rows.OpenSpec.upto Rows.leaseTakeSpec).vars false #[Value.slice none 0 0].toList 8 = some ([.nil], [], []) := by kernel_rfl

/-- the law, whatever it is given -/
theorem law_all3 (hA : Awake) {H : Type} {enc : TypeId × Value → H} (W : World) (cs : List Value) (h : Rd enc W 22 cs) : ∃ p n cap, cs = [.slice p n cap] ∧ Calls Tryz.prog 3 #[.slice p n cap] W (TrueRet W) := by
  obtain ⟨p, n, cap, e, hp⟩ := msgs_of h
  refine ⟨p, n, cap, e, ?_⟩
  rcases hp with rfl | ⟨b, off, ms, rfl, hb, hok, hat⟩
  · exact law_none3 hA p cap W
  · by_cases hn : n ≤ 12
    · exact law_some3 hA b off n cap ms W hn hb hok hat
    · exact law_long3 hA _ n cap W (by omega)

set_option maxRecDepth 100000 in
theorem contract3 (hA : Awake) (H : Type) (enc : TypeId × Value → H) (F : Stop.Interp) (W : World) (base : Nat) (args : Array Value) (ds gs : List (DataW H)) (before : List MemPlace)
    (hval0 : ∀ (j : Nat) t v, Tryz.f3.params[j]? = some t → args[j]? = some v → Value.okWide Tryz.prog W .any base t v)
    (hW : DataW.Whole enc Tryz.prog Tryz.f3.params.toList (Rows.OpenSpec.upto Rows.leaseTakeSpec).vars false W args.toList ds gs before) (hk : Rows.uptoSmall H (ds ++ gs) = true) :
    Calls Tryz.prog 3 args W fun e W' => ∃ v, e = .returned v ∧ ((Rows.OpenSpec.upto Rows.leaseTakeSpec).at F).post enc Tryz.prog Tryz.f3 false true false false W args v W' := by
  have hval := hval0
  have hW' := hW
  obtain ⟨p, q, hA0, hV, rfl, hfz, hnd⟩ := hW
  have hA1 : DataW.TrodAll enc Tryz.prog W 0 (fun _ => true) true Tryz.f3.params.toList args.toList ds p := hA0
  rw [Tryz.params3] at hA1 hval
  obtain ⟨v0, d0, rfl, rfl, h0⟩ := trodAll_one hA1
  obtain ⟨rfl, rfl⟩ := trodVars_none hV
  clear hA0 hval0
  simp only [List.append_nil] at hW' hk
  have hbulk : Rows.uptoBulk d0 ≤ 1048576 := by
    have h : Rows.uptoBulkAll [d0] ≤ 1048576 := of_decide_eq_true hk
    simp only [Rows.uptoBulkAll] at h
    omega
  have hok := hval 0 22 v0 rfl rfl
  have hone : ∀ c, v0.cells.toList = [c] → v0 = c := fun c hc => by
    cases v0 <;> simp only [Value.cells, List.cons.injEq, and_true] at hc <;> first | exact hc | skip
    simp [Value.okWide, Cell.okWide, Tryz.underlying22, Cell.ok] at hok
  obtain ⟨fuel, hf⟩ := id h0
  obtain ⟨ps, n, cap, e, hC⟩ := law_all3 hA (enc := enc) W v0.cells.toList ⟨fuel, _, hf, hbulk⟩
  obtain rfl := hone _ e
  refine hC.mono ?_
  rintro e W' ⟨rfl, hb⟩
  exact ⟨_, rfl, post_of_below (pa := p) (pv := []) hW' (fun _ _ _ => trodAll_mk1 (shut_bool Tryz.underlying4 _))
      (fun sp hsp => trodAll_mk1 (WideElems.Trod_stays laidOut (by kernel_rfl) (of_decide_eq_true (by kernel_rfl)) h0 (fun x hx => hb.same (hW'.lt x (by simpa using hx))) (fun x hx => hsp x (by simpa using hx)))) (fun _ _ => rfl) (by simp) hb (ok_one (by kernel_rfl) rfl (okWide_bool_mk Tryz.underlying4 _))⟩

set_option maxRecDepth 100000 in
theorem lifted3 (hA : Awake) (os : Os) (started : os.Started) (H : Type) (enc : TypeId × Value → H) (F : Stop.Interp) :
    ReturnsInHanded {} Tryz.checked os 3 .any ((Rows.OpenSpec.upto Rows.leaseTakeSpec).preRow enc Tryz.prog Tryz.f3 Rows.leaseTakeUptoRow.domain false Rows.leaseTakeUptoRow.laid) (((Rows.OpenSpec.upto Rows.leaseTakeSpec).at F).post enc Tryz.prog Tryz.f3 false true false false) := by
  have hok : Input.okWideB Tryz.checked.prog ((World.doorLaid Tryz.prog 400 os).forCall (fun _ _ => 0) ⟨#[], #[.slice none 0 0], []⟩) 3 ⟨#[], #[.slice none 0 0], []⟩ = true := by kernel_rfl
  refine returnsInHanded_of_row (C := Tryz.checked) (s := Rows.OpenSpec.upto Rows.leaseTakeSpec) own started (by kernel_rfl) Tryz.func3
    ⟨World.doorLaid Tryz.prog 400 os, fun _ _ => 0, ⟨#[], #[.slice none 0 0], []⟩, rfl, World.shaped_of_RefB (by kernel_rfl) (by kernel_rfl), (Input.okWide_of_okWideB (base := 0) hok).1, (Input.okWide_of_okWideB hok).2,
      OpenSpec.preRow_of_cond 8 (reads3 os enc) (by kernel_rfl) (fun k hk => by cases hk; kernel_rfl) (by kernel_rfl) (door_met3 os _), by
        simp only [Assume.holds]
        exact ⟨by simp, by simp, fun _ => Modest.zero, by simp, by simp⟩⟩ ?_
  intro W base args ds gs before hval hW _ hcond _ _ _ _
  exact contract3 hA H enc F W base args ds gs before hval hW (hcond _ rfl)

theorem leaseTake_holds : Rows.LeaseTakeUptoSaid :=
  OpenClaim.holds_of_cond 3 Tryz.f3 rfl rfl rfl rfl rfl rfl rfl ⟨rfl, rfl, rfl, rfl, rfl⟩ rfl rfl rfl rfl rfl (by kernel_rfl) Tryz.func3 ltfAll
    (of_decide_eq_true (by kernel_rfl)) (by unfold Func.isWrapper; first | (rw [if_pos (by decide +kernel)]; kernel_rfl) | (rw [if_neg (by decide +kernel)]; exact ⟨rfl, rfl⟩))
    (fun os started H enc _ F => by rw [OpenClaim.pre_eq_preRow]; exact lifted3 awake_true os started H enc F)
end Go.Proofs.YtoigjpkdcadlnaaGreatDoor
