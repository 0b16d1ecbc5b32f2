/-
  LeaseValid: the row and its card, over what awake answers.
-/
import Derived.Test.YtoigjpkdcadlnaaGreatDoorLvABC
import Derived.Test.YtoigjpkdcadlnaaGreatDoorRows
import Derived.Test.YtoigjpkdcadlnaaGreatDoorTie
import Derived.Test.YtoigjpkdcadlnaaGreatDoorCards
import Derived.ProofKit
import Derived.LaidMore
import Derived.OpenShut
import Derived.Stop.Joined
import Derived.Lib.SmallJoins
import Derived.Deep.Slices
import Derived.Deep.Fields
import Derived.ChangeSame
import Derived.Carry
import Derived.SevenTiedAt
namespace Go.Proofs.YtoigjpkdcadlnaaGreatDoor
open Go Go.ChangeShapes Go.WideShapes Go.ChangeAt Go.RowKit Go.Deep Go.Joins

section
variable {H : Type} {enc : TypeId × Value → H} {P : Program}
theorem post_of_below {f : Func} {s : ChangeSpec} {apart fresh handsOn again : Bool} {W W' : World} {args : Array Value} {v : Value} {ds gs : List (DataW H)} {before pa pv : List MemPlace}
    (hW : DataW.Whole enc P f.params.toList s.vars apart W args.toList ds gs before)
    (hres : ∀ (b : Nat) (sp : Nat → Bool) (hd : Bool), DataW.TrodAll enc P W' b sp hd f.resultTypes.toList (v.resultList f.resultTypes.size) (s.fn H (ds ++ gs)).results [])
    (hargs : ∀ sp : Nat → Bool, (∀ p ∈ before, sp p.block = true) → DataW.TrodAll enc P W' 0 sp true f.params.toList args.toList (s.fn H (ds ++ gs)).args pa)
    (hvars : ∀ sp : Nat → Bool, (∀ p ∈ before, sp p.block = true) → DataW.TrodVars enc P W' sp s.vars (s.fn H (ds ++ gs)).vars pv)
    (hps : before = pa ++ pv) (hb : Below W.heap.size W W')
    (hok : ∀ (j : Nat) (t : TypeId) (r : Value), f.resultTypes[j]? = some t → (v.resultList f.resultTypes.size)[j]? = some r → Value.okWide P W' .any 0 t r) :
    s.post enc P f apart fresh handsOn again W args v W' := by
  have hlt : ∀ p ∈ before, p.block < W.heap.size := fun p hp => hW.lt p hp
  have hold : ∀ p ∈ before, (fun b => decide (b < W.heap.size)) p.block = true := fun p hp => by simpa using hlt p hp
  refine ⟨ds, gs, before, [], pa, pv, hW, hres _ _ _, hargs _ hold, hvars _ hold, World.keptBut_mono (fun p hp => ⟨hp, ?_⟩) (hb.frame (· ∈ before)), fun _ => ?_⟩
  · rw [hps, List.mem_append] at hp
    exact Or.inr hp
  · obtain ⟨_, _, _, _, _, hz, hn⟩ := hW
    refine ⟨hok, _, _, ([] ++ pa) ++ pv, ⟨[] ++ pa, pv, trodAll_append (hargs _ (fun _ _ => rfl)) (hres _ _ _), hvars _ (fun _ _ => rfl), rfl, ?_, ?_⟩, ?_⟩
    · intro b off hp
      have hin : MemPlace.cell b off ∈ before := by rw [hps]; simpa using hp
      rw [hb.frozen (hlt _ hin)]
      exact hz b off hin
    · intro ha
      have := hn ha
      rw [hps] at this
      simpa using this
    · intro p hp _
      rw [hps]
      simpa using hp
end

section
variable {H : Type} {enc : TypeId × Value → H} {P : Program} {w : World} {base : Nat} {spare : Nat → Bool} {held : Bool}
theorem open_slice_fields {t e : TypeId} {fs : Array Field} {fuel : Nat} {cs : List Value} {x : DataW H × List MemPlace} (ht : P.underlying t = some (.slice e)) (he : P.underlying e = some (.struct fs))
    (hone : oneCellFields P fs = true) (hC : P.cellsOf e = fs.size) (h : DataW.trod enc P w base spare held fuel t cs = some x) :
    (cs = [.slice none 0 0] ∧ x = (.nil, [])) ∨
    ∃ (a : Addr) (len cap m : Nat) (D : Nat → DataW H) (Pl : Nat → List MemPlace), cs = [.slice (some a) len cap] ∧ base ≤ a.block ∧ len ≤ cap ∧ cap ≤ maxLen ∧ m = (if spare a.block then cap else len) ∧
      x = (.slice ((List.range len).map D) ((List.range (m - len)).map fun j => D (len + j)), MemPlace.row a (m * fs.size) ++ (List.range m).flatMap Pl) ∧
      ∀ i, i < m → ∃ (ys : List (DataW H × List MemPlace)) (n : Nat), D i = .agg (ys.map (·.1)) ∧ Pl i = ys.flatMap (·.2) ∧ ys.length = fs.size ∧
        ∀ (j : Nat) (f : Field), fs[j]? = some f → ∃ (v : Value) (y : DataW H × List MemPlace), w.cell? (a.add (i * fs.size + j)) = some v ∧ ys[j]? = some y ∧ DataW.trod enc P w base spare held n f.type [v] = some y := by
  rcases open_slice ht h with h0 | ⟨a, len, cap, m, n, D, Pl, hcs, hb, hl, hm, hmm, hx, hi⟩
  · exact .inl h0
  · refine .inr ⟨a, len, cap, m, D, Pl, hcs, hb, hl, hm, hmm, by rw [hC] at hx; exact hx, fun i him => ?_⟩
    obtain ⟨cs', hc, ht'⟩ := hi i him
    rw [hC] at hc
    obtain ⟨ys, n', hn', hy, hlen, hyl, hf⟩ := DataW.trod_struct he ht'
    obtain ⟨_, hcl, hat⟩ := World.cells?_some hc
    simp only [Prod.mk.injEq] at hy
    refine ⟨ys, n', hy.1, hy.2, hyl, fun j f hj => ?_⟩
    obtain ⟨ho, hk⟩ := hone_of hone j f hj
    have hjl : j < fs.size := (Array.getElem?_eq_some_iff.1 hj).1
    have hcell := hat j hjl
    have hv : cs'[j]? = some (cs'[j]'(by omega)) := List.getElem?_eq_getElem (by omega)
    have h1 := hf j f hj
    rw [ho, hk] at h1
    have hone' : (cs'.drop j).take 1 = [cs'[j]'(by omega)] := by
      rw [List.drop_eq_getElem_cons (by omega)]
      rfl
    rw [hone'] at h1
    have hys : ys[j]? = some (ys[j]'(by omega)) := List.getElem?_eq_getElem (by omega)
    refine ⟨_, _, ?_, hys, h1.trans hys⟩
    rw [← Go.Deep.add_add, hcell, hv]
end

theorem own : ownKnob Tryz.prog.godebug = none := by kernel_rfl
theorem laidOut : laidOutB Tryz.prog = true := by kernel_rfl
theorem door_met (os : Os) (args : Array Value) : laidMetH Tryz.prog Rows.leaseValidRow.laid ((World.doorLaid Tryz.prog 400 os).forCall (fun _ _ => 0) ⟨#[], args, []⟩).memory :=
  laidMetH_of_parts3 (fuel := 8) (laidMet_of_run' 8 (by kernel_rfl) (by kernel_rfl)) (by kernel_rfl) (by kernel_rfl)

set_option maxRecDepth 100000 in
theorem lifted (hA : Awake) (os : Os) (started : os.Started) (H : Type) (enc : TypeId × Value → H) :
    ReturnsInHanded {} Tryz.checked os 4 .any (fun w args => (Rows.leaseValidSpec.pre enc Tryz.prog Tryz.f4 [] false w args ∧ laidMetH Tryz.prog Rows.leaseValidRow.laid w) ∧ sizedMet enc Tryz.prog Tryz.f4 (OpenSpec.ofChange Rows.leaseValidSpec) false w args)
      (Rows.leaseValidSpec.post enc Tryz.prog Tryz.f4 false true false false) := by
  refine returnsInHanded_of_change_and (C := Tryz.checked) (X := fun w _ => laidMetH Tryz.prog Rows.leaseValidRow.laid w) (fun _ _ _ hh h => h.of_heap hh) own started (by kernel_rfl) Tryz.func4
    (ChangeSpec.witness_shaped (enc := enc) (C := Tryz.checked) (os := os) (X := fun w _ => laidMetH Tryz.prog Rows.leaseValidRow.laid w) false (World.doorLaid Tryz.prog 400 os) #[.agg #[.int .i64 0, .slice none 0 0]] 8 rfl (World.shaped_of_RefB (by kernel_rfl) (by kernel_rfl)) (by kernel_rfl) (by kernel_rfl) (by kernel_rfl) (door_met os _)) ?_
  intro W base args ds gs before hval0 hW _ _ _ _
  have hval : ∀ (j : Nat) t v, Tryz.f4.params[j]? = some t → args[j]? = some v → Value.okWide Tryz.prog W .any base t v := hval0
  have hW' := hW
  obtain ⟨p, q, hA0, hV, rfl, hfz, hnd⟩ := hW
  have hA1 : DataW.TrodAll enc Tryz.prog W 0 (fun _ => true) true Tryz.f4.params.toList args.toList ds p := hA0
  rw [Tryz.params4] at hA1 hval
  obtain ⟨v0, d0, rfl, rfl, h0⟩ := trodAll_one hA1
  obtain ⟨rfl, rfl⟩ := trodVars_none hV
  clear hA0 hval0
  simp only [List.append_nil] at hW'
  have fin : ∀ W', Below W.heap.size W W' → Rows.leaseValidSpec.post enc Tryz.prog Tryz.f4 false true false false W #[v0] (.bool true) W' := fun W' hb =>
    post_of_below (pa := p) (pv := []) hW' (fun _ _ _ => trodAll_mk1 (shut_bool Tryz.underlying4 _))
      (fun sp hsp => trodAll_mk1 (WideElems.Trod_stays laidOut (by kernel_rfl) (of_decide_eq_true (by kernel_rfl)) h0 (fun x hx => hb.same (hW'.lt x (by simpa using hx))) (fun x hx => hsp x (by simpa using hx)))) (fun _ _ => rfl) (by simp) hb (ok_one (by kernel_rfl) rfl (okWide_bool_mk Tryz.underlying4 _))
  have run : ∀ v, Calls Tryz.prog 4 #[v] W (fun e w' => e = .returned (.bool true) ∧ Below W.heap.size W w') → v = v0 → Calls Tryz.prog 4 #[v0] W fun e w' => ∃ v, e = .returned v ∧ Rows.leaseValidSpec.post enc Tryz.prog Tryz.f4 false true false false W #[v0] v w' := by
    rintro v h rfl
    exact h.mono fun e w' ⟨he, hb⟩ => ⟨_, he, fin w' hb⟩
  obtain ⟨v00, v01, y0, y1, nf, hv0, -, -, t0, t1⟩ := open_agg2 Tryz.underlying26 (by kernel_rfl) (by kernel_rfl) (hval 0 26 v0 rfl rfl) h0
  obtain ⟨view, e1, -, -⟩ := DataW.trod_int Tryz.underlying3 t0
  obtain rfl : v00 = .int .i64 view := by simpa using e1
  rcases open_slice_fields Tryz.underlying24 Tryz.underlying41 (by kernel_rfl) (by kernel_rfl) t1 with ⟨e2, -⟩ | ⟨a, len, cap, m, D, Pl, e2, -, hlc, hcap, hm, -, hi⟩
  · obtain rfl : v01 = .slice none 0 0 := by simpa using e2
    exact run _ (law_none hA view none 0 W) hv0.symm
  · obtain rfl : v01 = .slice (some a) len cap := by simpa using e2
    by_cases hl : len = 0
    · subst hl
      exact run _ (law_none hA view _ cap W) hv0.symm
    · have hml : m = cap := by rw [hm]; rfl
      have cell1 : ∀ i, i < len → ∃ k, W.cell? (a.add (i * 2)) = some (.int .i64 k) := fun i hil => by
        obtain ⟨ys, nn, -, -, -, hf⟩ := hi i (by omega)
        obtain ⟨v, y, hc, -, ht⟩ := hf 0 _ rfl
        obtain ⟨k, e, -, -⟩ := DataW.trod_int Tryz.underlying3 ht
        obtain rfl : v = .int .i64 k := by simpa using e
        exact ⟨k, hc⟩
      have cell2 : ∀ i, i < len → ∃ k, W.cell? (a.add (i * 2 + 1)) = some (.int .i64 k) := fun i hil => by
        obtain ⟨ys, nn, -, -, -, hf⟩ := hi i (by omega)
        obtain ⟨v, y, hc, -, ht⟩ := hf 1 _ rfl
        obtain ⟨k, e, -, -⟩ := DataW.trod_int Tryz.underlying2 ht
        obtain rfl : v = .int .i64 k := by simpa using e
        exact ⟨k, hc⟩
      obtain ⟨b, off, spot⟩ := a
      have hsp : spot = none := by
        obtain ⟨k, hc⟩ := cell1 0 (by omega)
        simp only [Nat.zero_mul, Addr.add, if_pos] at hc
        unfold World.cell? at hc
        split at hc
        · cases spot with
          | none => rfl
          | some s => simp at hc
        · cases hc
      subst hsp
      have hb : b < W.heap.size := by
        obtain ⟨k, hc⟩ := cell1 0 (by omega)
        simp only [Nat.zero_mul, Addr.add, if_pos] at hc
        by_cases h : b < W.heap.size
        · exact h
        · simp [World.cell?, h] at hc
      have hadd : ∀ j, (Addr.add ⟨b, off, none⟩ j) = ⟨b, off + j, none⟩ := fun j => by
        unfold Addr.add
        split
        · rename_i h; subst h; rfl
        · rfl
      unfold maxLen at hcap
      refine run _ (law_some hA view b off len cap (fun i => match W.cell? ⟨b, off + i * 2, none⟩ with | some (.int _ k) => k | _ => 0) (fun i => match W.cell? ⟨b, off + i * 2 + 1, none⟩ with | some (.int _ k) => k | _ => 0) W (by omega) hb (fun i hil => ?_) (fun i hil => ?_)) hv0.symm
      · obtain ⟨k, hc⟩ := cell1 i hil
        rw [hadd] at hc
        rw [hc]
      · obtain ⟨k, hc⟩ := cell2 i hil
        rw [hadd, ← Nat.add_assoc] at hc
        rw [hc]

end Go.Proofs.YtoigjpkdcadlnaaGreatDoor
