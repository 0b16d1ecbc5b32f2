/-
  TopTransferred: SHA-256, exactly: the rotations and the tables.
-/
import Derived.Test.YtnaglmigkbbljaaGreatDoorTbATbC
set_option maxHeartbeats 6400000
set_option maxRecDepth 1000000
namespace Go.Proofs.YtnaglmigkbbljaaGreatDoor
open Go Go.AM Go.RowKit
def U32Ret (r : Int) (w : World) (e : Ending) (w' : World) : Prop := e = .returned (.int .u32 r) ∧ w' = w
def rotE (x : Int) (s : Nat) : Int := bits BinOp.or IntKind.u32 (x * 2 ^ s % 4294967296) (x / 2 ^ (32 - s))
theorem rotl_ex (x k : Int) (s : Nat) (w : World) (hs : s ≤ 31) (h : bits .and .u64 (IntKind.u64.wrap k) 31 = (s : Int)) : Calls Tryz.prog 238 #[.int .u32 x, .int .i64 k] w (U32Ret (rotE x s) w) := by
 go_enter Tryz.func238, Tryz.ntmps238
 go_wp2_with fail
 go_ret
 exact ⟨rfl, rfl⟩
def rotOk : Bool := (List.range 32).all fun m => m == 0 || decide (bits .and .u64 (IntKind.u64.wrap (-(m : Int))) 31 = ((32 - m : Nat) : Int))
theorem rotOk_yes : rotOk = true := by kernel_rfl
theorem rot_at (m : Nat) (h1 : 1 ≤ m) (h2 : m ≤ 31) : bits .and .u64 (IntKind.u64.wrap (-(m : Int))) 31 = ((32 - m : Nat) : Int) := by
 have := List.all_eq_true.mp rotOk_yes m (List.mem_range.mpr (by omega))
 simp only [Bool.or_eq_true, beq_iff_eq, decide_eq_true_eq] at this
 rcases this with h | h
 ·omega
 ·exact h
theorem rotr_ex (x : Int) (m : Nat) (w : World) (h1 : 1 ≤ m) (h2 : m ≤ 31) : Calls Tryz.prog 194 #[.int .u32 x, .int .i64 (m : Nat)] w (U32Ret (rotE x (32 - m)) w) := by
 have h := rot_at m h1 h2
 go_enter Tryz.func194, Tryz.ntmps194
 go_wp2_with (go_at_call 238; refine (rotl_ex x _ (32 - m) _ (by omega) h).mono ?_; rintro e w1 ⟨rfl, rfl⟩)
 go_ret
 exact ⟨rfl, rfl⟩
def u32V (l : List Int) : List Value := l.map fun i => Value.int .u32 i
theorem u32V_len (l : List Int) : (u32V l).length = l.length := by simp [u32V]
theorem u32V_set (l : List Int) (j : Nat) (x : Int) : u32V (l.set j x) = (u32V l).set j (.int .u32 x) := by simp [u32V, List.map_set]
def at0 (l : List Int) (i : Nat) : Int := l[i]?.getD 0
def Words (W : World) (b : Nat) (t : TypeId) (l : List Int) (rest : List Value) : Prop := W.heap[b]? = some (.cells (u32V l ++ rest).toArray t (0, 0))
theorem Words.cell {W : World} {b : Nat} {t : TypeId} {l : List Int} {rest : List Value} (h : Words W b t l rest) {j : Nat} (hj : j < l.length) : W.cell? ⟨b, j, none⟩ = some (.int .u32 (at0 l j)) := by
 refine cellOf h ?_
 simp [u32V, at0, hj, List.getElem?_append]
theorem Words.frozen {W : World} {b : Nat} {t : TypeId} {l : List Int} {rest : List Value} (h : Words W b t l rest) (j : Nat) : W.frozen? ⟨b, j, none⟩ = false := frozenOf h
theorem Words.lt {W : World} {b : Nat} {t : TypeId} {l : List Int} {rest : List Value} (h : Words W b t l rest) : b < W.heap.size := (Array.getElem?_eq_some_iff.mp h).1
theorem Words.kept {W W' : World} {b : Nat} {t : TypeId} {l : List Int} {rest : List Value} (h : Words W b t l rest) (hb : Below W.heap.size W W') : Words W' b t l rest := (hb.block b h.lt).trans h
theorem Words.set {W : World} {b : Nat} {t : TypeId} {l : List Int} {rest : List Value} (h : Words W b t l rest) {j : Nat} (hj : j < l.length) (x : Int) : Words (W.setCell ⟨b, j, none⟩ (.int .u32 x)) b t (l.set j x) rest := by
 unfold Words at *
 unfold World.setCell
 simp only [Array.getElem?_modify, h, if_true, Option.map_some]
 rw [u32V_set]
 simp [u32V_len, hj]
theorem Words.other {W : World} {b b' j : Nat} {t : TypeId} {l : List Int} {rest : List Value} {v : Value} (h : Words W b t l rest) (hne : b ≠ b') : Words (W.setCell ⟨b', j, none⟩ v) b t l rest := by
 unfold Words at *
 unfold World.setCell
 simp only [Array.getElem?_modify]
 rw [if_neg (by omega), h]
theorem Words.drew {W : World} {b : Nat} {t : TypeId} {l : List Int} {rest : List Value} (h : Words W b t l rest) (n : Nat) : Words (W.drewN n) b t l rest := h
def startL : List Int := [1779033703, 3144134277, 1013904242, 2773480762, 1359893119, 2600822924, 528734635, 1541459225]
theorem Tryz.info240 : (Tryz.prog.info? 240).map (·.size) = some 8 := by kernel_rfl
theorem start_ex (w : World) : Calls Tryz.prog 147 #[] w fun e w' => e = .returned (.agg (u32V startL).toArray) ∧ Below w.heap.size w w' := by
 go_enter Tryz.func147, Tryz.ntmps147
 go_wp2_with fail
 exact bodyPost_ret (results_cell_row rfl _ _ w.heap.size 240 (u32V startL).toArray (0, 0) _ rfl (heap_alloc_new w _) Tryz.underlying240 rfl Tryz.info240) rfl ⟨rfl, (Below.refl _ w).alloc (Nat.le_refl _) _⟩
def constL : List Int := [1116352408, 1899447441, 3049323471, 3921009573, 961987163, 1508970993, 2453635748, 2870763221, 3624381080, 310598401, 607225278, 1426881987, 1925078388, 2162078206, 2614888103, 3248222580, 3835390401, 4022224774, 264347078, 604807628, 770255983, 1249150122, 1555081692, 1996064986, 2554220882, 2821834349, 2952996808, 3210313671, 3336571891, 3584528711, 113926993, 338241895, 666307205, 773529912, 1294757372, 1396182291, 1695183700, 1986661051, 2177026350, 2456956037, 2730485921, 2820302411, 3259730800, 3345764771, 3516065817, 3600352804, 4094571909, 275423344, 430227734, 506948616, 659060556, 883997877, 958139571, 1322822218, 1537002063, 1747873779, 1955562222, 2024104815, 2227730452, 2361852424, 2428436474, 2756734187, 3204031479, 3329325298]
def isU32 : List AV → List Int → Bool
 | [], [] => true
 | .int .u32 x :: xs, y :: l => x == y && isU32 xs l
 | _, _ => false
theorem isU32_rel : ∀ (xs : List AV) (l : List Int) (vs : List Value), isU32 xs l = true → LR (CR μ0) xs vs → vs = u32V l
 | [], [], [], _, _ => rfl
 | [], [], _ :: _, _, h => h.elim
 | [], _ :: _, _, h, _ => by simp [isU32] at h
 | _ :: _, [], _, h, _ => by simp [isU32] at h
 | _ :: _, _ :: _, [], _, h => h.elim
 | a :: xs, y :: l, v :: vs, h, ⟨h1, h2⟩ => by
  unfold isU32 at h
  split at h
  ·rename_i e
   cases e
  ·rename_i e1 e2
   injection e1 with e3 e4
   injection e2 with e5 e6
   subst e3 e4 e5 e6
   simp only [Bool.and_eq_true] at h
   obtain ⟨h3, h4⟩ := h
   rw [isU32_rel _ _ vs h4 h2]
   have h5 := eq_of_beq h3
   subst h5
   have h6 : v = .int .u32 _ := h1
   rw [h6]
   rfl
  ·cases h
def outU (l : List Int) : Option (AV × St) → Bool
 | some (.agg cs, _) => isU32 cs l && allB plainV [.agg cs]
 | _ => false
theorem outU_some {l : List Int} {o : Option (AV × St)} (h : outU l o = true) : ∃ cs s, o = some (.agg cs, s) ∧ isU32 cs l = true ∧ plainV (.agg cs) = true := by
 unfold outU at h
 split at h
 ·rename_i cs s
  simp only [Bool.and_eq_true, allB] at h
  refine ⟨cs, s, rfl, h.1, ?_⟩
  have := h.2
  split at this
  ·assumption
  ·cases this
 ·cases h
theorem u32_closed {f : FuncId} {l : List Int} (h : outU l ((runF Tryz.prog same0 known0 kindOf 60).call f [] s00) = true) (w : World) : Calls Tryz.prog f #[] w fun e w' => e = .returned (.agg (u32V l).toArray) ∧ Below w.heap.size w w' := by
 obtain ⟨cs, s, hs, h1, h2⟩ := outU_some h
 rw [runF_eq] at hs
 refine ((plain_call progOk0 (args := []) rfl h2 hs).2 μ0 [] w trivial).mono ?_
 rintro e w' ⟨v', rfl, ⟨vs, h3, rfl⟩, hb⟩
 rw [isU32_rel cs l vs h1 h3]
 exact ⟨rfl, hb⟩
theorem constants_ex (w : World) : Calls Tryz.prog 195 #[] w fun e w' => e = .returned (.agg (u32V constL).toArray) ∧ Below w.heap.size w w' := u32_closed (by kernel_rfl) w
end Go.Proofs.YtnaglmigkbbljaaGreatDoor
