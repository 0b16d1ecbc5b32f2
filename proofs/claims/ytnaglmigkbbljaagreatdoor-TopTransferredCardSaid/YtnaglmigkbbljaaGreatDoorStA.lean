/-
  TopTransferred: store.graphic, store.field; the map of forms; store.formOf, exactly.
-/
import Derived.Test.YtnaglmigkbbljaaGreatDoorSeBSpC
import Derived.Laws.IdiomRangeMap
set_option maxHeartbeats 6400000
set_option maxRecDepth 1000000
namespace Go.Proofs.YtnaglmigkbbljaaGreatDoor
open Go Go.RowKit
def grX (x : UInt8) : Bool := decide (33 ≤ x.toNat) && decide (x.toNat ≤ 126)
def grB (s : ByteArray) (m : Nat) : Bool := s.data.toList.all grX && (decide (0 < s.size) && decide (s.size ≤ m))
theorem allX_false {s : ByteArray} {f : UInt8 → Bool} {i : Nat} (h : i < s.size) (hf : f s[i] = false) : s.data.toList.all f = false := by
 rw [Bool.eq_false_iff]
 intro h2
 have := List.all_eq_true.mp h2 _ (mem_data h)
 rw [hf] at this
 cases this
theorem allX_true {s : ByteArray} {f : UInt8 → Bool} (h : ∀ i (h : i < s.size), f s[i] = true) : s.data.toList.all f = true := by
 rw [List.all_eq_true]
 intro x hx
 obtain ⟨i, hi, rfl⟩ := List.getElem_of_mem hx
 have hi2 : i < s.size := by simpa using hi
 have := h i hi2
 have e : s[i] = s.data.toList[i] := by simp; rfl
 rwa [e] at this
def OneB (b : Bool) (w : World) (e : Ending) (w' : World) : Prop := e = .returned (.bool b) ∧ w' = w
theorem graphic_nil (m : Nat) (w : World) : Calls Tryz.prog 141 #[.string ⟨#[]⟩, .int .i64 m] w (OneB false w) := by
 go_enter Tryz.func141, Tryz.ntmps141
 go_wp2_with fail
 go_loopw [8] (fun v wr => v = .int .i64 0 ∧ wr = w) (fun v _ => 0)
 case atStart => exact ⟨rfl, rfl⟩
 case round =>
  obtain ⟨rfl, rfl⟩ := hrel
  go_wp2_with fail
  go_ret
  exact ⟨rfl, rfl⟩
theorem graphic_some (s : ByteArray) (m : Nat) (w : World) (h0 : 0 < s.size) (hs : s.size ≤ 1048576) (_hm : m ≤ 1000000) : Calls Tryz.prog 141 #[.string s, .int .i64 m] w (OneB (grB s m) w) := by
 go_enter Tryz.func141, Tryz.ntmps141
 go_wp2_with fail
 go_loopw [8] (fun v wr => ∃ k : Nat, k ≤ s.size ∧ v = .int .i64 k ∧ (∀ i (h : i < s.size), i < k → grX s[i] = true) ∧ wr = w) (fun v _ => s.size - (intOf v).toNat)
 case atStart => exact ⟨0, by omega, rfl, fun i _ hi => absurd hi (Nat.not_lt_zero i), rfl⟩
 case round =>
  obtain ⟨k, hk, rfl, hall, rfl⟩ := hrel
  have HA := Lib.hid hall
  clear hall
  by_cases hkn : k < s.size
  ·have e0 : (0 : Int) ≤ (k : Int) := by omega
   have e1 : (k : Int) < (s.size : Int) := by omega
   by_cases hg : grX s[k] = true
   ·have HG := Lib.hid hg
    have hg1 : ¬ ((s[k].toNat : Int) < 33) := by simp [grX] at hg; omega
    have hg2 : ¬ ((126 : Int) < (s[k].toNat : Int)) := by simp [grX] at hg; omega
    clear hg
    go_wp2_with fail
    go_roundw
    case rel =>
     refine ⟨k + 1, by omega, by go_num, fun i hi hik => ?_, by first | rfl | trivial⟩
     by_cases he : i = k
     ·subst he; exact HG.out
     ·exact HA.out i hi (by omega)
    case measure => simp [intOf]; omega
   ·have hg := Bool.eq_false_iff.mpr hg
    have HF := Lib.hid (show grB s m = false by unfold grB; rw [allX_false hkn hg]; rfl)
    have hg3 : (s[k].toNat : Int) < 33 ∨ (¬ ((s[k].toNat : Int) < 33) ∧ (126 : Int) < (s[k].toNat : Int)) := by
     simp [grX] at hg
     omega
    clear hg
    rcases hg3 with hg1 | ⟨hg1, hg2⟩
    all_goals
     go_wp2_with fail
     go_ret
     rw [HF.out]
     exact ⟨rfl, rfl⟩
  ·have hk2 : k = s.size := by omega
   subst hk2
   have hT := allX_true fun i hi => HA.out i hi hi
   have HF := Lib.hid (show grB s m = (decide (0 < s.size) && decide (s.size ≤ m)) by unfold grB; rw [hT]; rfl)
   clear hT hkn
   have hse := empty_no h0
   by_cases hsm : s.size ≤ m
   ·have e1 : (s.size : Int) ≤ (m : Int) := by omega
    go_wp2_with fail
    go_ret
    rw [HF.out]
    simp [h0, hsm, OneB]
   ·have e1 : ¬ ((s.size : Int) ≤ (m : Int)) := by omega
    go_wp2_with fail
    go_ret
    rw [HF.out]
    simp [hsm, OneB]
theorem graphic_ex (s : ByteArray) (m : Nat) (w : World) (hs : s.size ≤ 1048576) (hm : m ≤ 1000000) : Calls Tryz.prog 141 #[.string s, .int .i64 m] w (OneB (grB s m) w) := by
 by_cases h0 : 0 < s.size
 ·exact graphic_some s m w h0 hs hm
 ·have hr0 := size0 (r := s) (by omega)
  subst hr0
  have : grB ⟨#[]⟩ m = false := rfl
  rw [this]
  exact graphic_nil m w
def fldB (s : ByteArray) (b : Bool) : Bool := if b then grB s 64 else decide (s.size = 0)
theorem field_ex (s : ByteArray) (b : Bool) (w : World) (hs : s.size ≤ 1048576) : Calls Tryz.prog 134 #[.string s, .bool b] w (OneB (fldB s b) w) := by
 cases b with
 | true =>
  have HG := Lib.hid (graphic_ex s 64 w hs (by decide))
  have HF := Lib.hid (show fldB s true = grB s 64 from rfl)
  go_enter Tryz.func134, Tryz.ntmps134
  go_wp2_with (go_at_call 141; refine HG.out.mono ?_; rintro e w1 ⟨rfl, hw⟩; obtain rfl := hw.symm)
  go_ret
  rw [HF.out]
  exact ⟨rfl, rfl⟩
 | false =>
  have HF := Lib.hid (show fldB s false = decide (s.size = 0) from rfl)
  by_cases h0 : 0 < s.size
  ·have hse := empty_no h0
   go_enter Tryz.func134, Tryz.ntmps134
   go_wp2_with fail
   go_ret
   rw [HF.out]
   have h1 : ¬ (s.size = 0) := by omega
   simp [h1, OneB]
  ·have hr0 := size0 (r := s) (by omega)
   subst hr0
   go_enter Tryz.func134, Tryz.ntmps134
   go_wp2_with fail
   go_ret
   rw [HF.out]
   exact ⟨rfl, rfl⟩
/-! the map of forms -/
def formV (nm : ByteArray) (x y z : Bool) : Value := .agg #[.string nm, .bool x, .bool y, .bool z]
def nmPut : ByteArray := ⟨#[112, 117, 116]⟩
def nmGet : ByteArray := ⟨#[103, 101, 116]⟩
def nmDel : ByteArray := ⟨#[100, 101, 108, 101, 116, 101]⟩
def nmApp : ByteArray := ⟨#[97, 112, 112, 101, 110, 100]⟩
def nmCas : ByteArray := ⟨#[99, 97, 115]⟩
def nmCnt : ByteArray := ⟨#[99, 111, 117, 110, 116]⟩
def fe (k : Int) (v : Value) (b : Nat) : MapEntry := { key := .int .i64 k, val := v, born := b }
def formES : Array MapEntry := #[fe 1 (formV nmPut true false true) 0, fe 2 (formV nmGet true false false) 1, fe 3 (formV nmDel true false false) 2, fe 4 (formV nmApp true false true) 3, fe 5 (formV nmCas true true true) 4, fe 6 (formV nmCnt false false false) 5]
theorem und154 : Tryz.prog.underlying 154 = some (.map 3 157) := by kernel_rfl
theorem run_upd (w : World) (es : Array MapEntry) (c : Nat) (k : Int) (v : Value) (hk : Instr.findNow (.int .i64) (.int .i64 k) es.toList 0 = some none) :
  (Instr.mapUpdate 154 (.map (some w.heap.size)) (.int .i64 k) v).run Tryz.prog (w.alloc (.map es c)) = .ok () (w.alloc (.map (es.push (fe k v c)) (c + 1))) := by
 have hp : ∀ (h : Array Obj) (x y : Obj), (h.push x).setIfInBounds h.size y = h.push y := by
  intro h x y
  apply Array.toList_inj.1
  simp
 have hset : ∀ (o' : Obj), (setObj w.heap.size o').run Tryz.prog (w.alloc (.map es c)) = .ok () (w.alloc o') := fun o' => by
  simp only [setObj, Sem.run]
  rw [heap_alloc_new]
  show Result.ok () ({ w.alloc (.map es c) with heap := (w.heap.push (.map es c)).setIfInBounds w.heap.size o' } : World) = _
  rw [hp]
  rfl
 have hck : (Instr.checkKey false 10000 3 (.int .i64 k)).run Tryz.prog (w.alloc (.map es c)) = .ok () (w.alloc (.map es c)) := by
  have : ∀ n, (Instr.checkKey false (n + 1) 3 (.int .i64 k)).run Tryz.prog (w.alloc (.map es c)) = .ok () (w.alloc (.map es c)) := fun n => by
   simp only [Instr.checkKey, Sem.run_bind, run_underlying Tryz.underlying3, Result.andThen]
   rfl
  exact this 9999
 have hfk : (Instr.findKey 3 (.int .i64 k) es.toList).run Tryz.prog (w.alloc (.map es c)) = .ok none (w.alloc (.map es c)) := by
  simp only [Instr.findKey, Sem.run_bind, run_underlying Tryz.underlying3, Result.andThen, hk]
  rfl
 simp only [Instr.mapUpdate, Sem.run_bind, run_underlying und154, Result.andThen, MapKept.run_getObj_map (heap_alloc_new w (.map es c)), hck, hfk, hset]
 rfl
def FormsRet (w : World) (e : Ending) (w' : World) : Prop := e = .returned (.map (some w.heap.size)) ∧ w' = w.alloc (.map formES 6)
theorem forms_ex (w : World) : Calls Tryz.prog 76 #[] w (FormsRet w) := by
 have h1 := run_upd w #[] 0 1 (formV nmPut true false true) rfl
 have h2 := run_upd w (#[fe 1 (formV nmPut true false true) 0]) 1 2 (formV nmGet true false false) rfl
 have h3 := run_upd w (#[fe 1 (formV nmPut true false true) 0, fe 2 (formV nmGet true false false) 1]) 2 3 (formV nmDel true false false) rfl
 have h4 := run_upd w (#[fe 1 (formV nmPut true false true) 0, fe 2 (formV nmGet true false false) 1, fe 3 (formV nmDel true false false) 2]) 3 4 (formV nmApp true false true) rfl
 have h5 := run_upd w (#[fe 1 (formV nmPut true false true) 0, fe 2 (formV nmGet true false false) 1, fe 3 (formV nmDel true false false) 2, fe 4 (formV nmApp true false true) 3]) 4 5 (formV nmCas true true true) rfl
 have h6 := run_upd w (#[fe 1 (formV nmPut true false true) 0, fe 2 (formV nmGet true false false) 1, fe 3 (formV nmDel true false false) 2, fe 4 (formV nmApp true false true) 3, fe 5 (formV nmCas true true true) 4]) 5 6 (formV nmCnt false false false) rfl
 have h0 : (Instr.makeMap 154 none).run Tryz.prog w = .ok (.map (some w.heap.size)) (w.alloc (.map #[] 0)) := by simp [Instr.makeMap]
 simp only [formV, nmPut, nmGet, nmDel, nmApp, nmCas, nmCnt, List.push_toArray, List.cons_append, List.nil_append, fe, Nat.zero_add] at h1 h2 h3 h4 h5 h6
 go_enter Tryz.func76, Tryz.ntmps76
 go_wp2
 go_ret
 exact ⟨rfl, rfl⟩
def fmV (k : Int) : Value := if k = 1 then formV nmPut true false true else if k = 2 then formV nmGet true false false else if k = 3 then formV nmDel true false false else if k = 4 then formV nmApp true false true else if k = 5 then formV nmCas true true true else if k = 6 then formV nmCnt false false false else formV ⟨#[]⟩ false false false
theorem zero157 : ∀ w, (zeroValue 157).run Tryz.prog w = .ok (formV ⟨#[]⟩ false false false) w := fun w => by kernel_rfl
theorem look_ex (W : World) (b : Nat) (k : Int) (h : W.heap[b]? = some (.map formES 6)) : (Instr.lookup 154 (.map (some b)) (.int .i64 k) true).run Tryz.prog W = .ok (.tuple #[fmV k, .bool (decide (1 ≤ k) && decide (k ≤ 6))]) W := by
 have hck : (Instr.checkKey formES.isEmpty 10000 3 (.int .i64 k)).run Tryz.prog W = .ok () W := by
  have : ∀ n, (Instr.checkKey formES.isEmpty (n + 1) 3 (.int .i64 k)).run Tryz.prog W = .ok () W := fun n => by
   simp only [Instr.checkKey, Sem.run_bind, run_underlying Tryz.underlying3, Result.andThen]
   rfl
  exact this 9999
 have hfk : ∃ r, (Instr.findKey 3 (.int .i64 k) formES.toList).run Tryz.prog W = .ok r W ∧ ((∃ i v, r = some (i, v) ∧ v = fmV k ∧ (decide (1 ≤ k) && decide (k ≤ 6)) = true) ∨ (r = none ∧ fmV k = formV ⟨#[]⟩ false false false ∧ (decide (1 ≤ k) && decide (k ≤ 6)) = false)) := by
  have hn : Instr.findNow (.int .i64) (.int .i64 k) formES.toList 0 = some (if k = 1 then some (0, fmV 1) else if k = 2 then some (1, fmV 2) else if k = 3 then some (2, fmV 3) else if k = 4 then some (3, fmV 4) else if k = 5 then some (4, fmV 5) else if k = 6 then some (5, fmV 6) else none) := by
   by_cases h1 : k = 1
   ·subst h1; rfl
   ·by_cases h2 : k = 2
    ·subst h2; rfl
    ·by_cases h3 : k = 3
     ·subst h3; rfl
     ·by_cases h4 : k = 4
      ·subst h4; rfl
      ·by_cases h5 : k = 5
       ·subst h5; rfl
       ·by_cases h6 : k = 6
        ·subst h6; rfl
        ·have hb : ∀ j : Int, k ≠ j → Instr.sameNow (.int .i64) (.int .i64 k) (.int .i64 j) = some false := fun j hj => by
          show some (k == j) = some false
          rw [beq_eq_false_iff_ne.mpr hj]
         simp only [formES, fe, Instr.findNow, hb 1 h1, hb 2 h2, hb 3 h3, hb 4 h4, hb 5 h5, hb 6 h6, h1, h2, h3, h4, h5, h6, if_false]
  refine ⟨_, by simp only [Instr.findKey, Sem.run_bind, run_underlying Tryz.underlying3, Result.andThen, hn]; rfl, ?_⟩
  by_cases h1 : k = 1
  ·subst h1; exact .inl ⟨0, _, rfl, rfl, rfl⟩
  ·by_cases h2 : k = 2
   ·subst h2; exact .inl ⟨1, _, rfl, rfl, rfl⟩
   ·by_cases h3 : k = 3
    ·subst h3; exact .inl ⟨2, _, rfl, rfl, rfl⟩
    ·by_cases h4 : k = 4
     ·subst h4; exact .inl ⟨3, _, rfl, rfl, rfl⟩
     ·by_cases h5 : k = 5
      ·subst h5; exact .inl ⟨4, _, rfl, rfl, rfl⟩
      ·by_cases h6 : k = 6
       ·subst h6; exact .inl ⟨5, _, rfl, rfl, rfl⟩
       ·refine .inr ⟨by simp only [h1, h2, h3, h4, h5, h6, if_false], by simp only [fmV, h1, h2, h3, h4, h5, h6, if_false], ?_⟩
        simp
        omega
 obtain ⟨r, hr, hc⟩ := hfk
 generalize hES : formES = ES at *
 have h1 := MapKept.run_getObj_map (P := Tryz.prog) h
 simp only [Instr.lookup, Sem.run_bind, run_underlying und154, Result.andThen, h1, Sem.run_pure, hck, hr]
 rcases hc with ⟨i, v, rfl, rfl, h3⟩ | ⟨rfl, h2, h3⟩
 ·rw [h3]; rfl
 ·rw [h3, h2]
  simp only [Sem.run_bind, zero157, Result.andThen]
  rfl
end Go.Proofs.YtnaglmigkbbljaaGreatDoor
