/-
  LeaseTake: the reference's code of a status is short.
-/
import Derived.Test.YtoigjpkdcadlnaaGreatDoorLtABCD
import Derived.Deep.AppendLies
namespace Go.Proofs.YtoigjpkdcadlnaaGreatDoor
open Go Go.RowKit

theorem box12 {w W : World} {c0 c1 c2 c3 c4 c5 c6 c7 c8 c9 c10 c11 : Value} (h : Box w W [c0, c1, c2, c3, c4, c5, c6, c7, c8, c9, c10, c11]) : W.cell? ⟨w.heap.size, 0, none⟩ = some c0 ∧ W.cell? ⟨w.heap.size, 1, none⟩ = some c1 ∧ W.cell? ⟨w.heap.size, 2, none⟩ = some c2 ∧ W.cell? ⟨w.heap.size, 3, none⟩ = some c3 ∧ W.cell? ⟨w.heap.size, 4, none⟩ = some c4 ∧ W.cell? ⟨w.heap.size, 5, none⟩ = some c5 ∧ W.cell? ⟨w.heap.size, 6, none⟩ = some c6 ∧ W.cell? ⟨w.heap.size, 7, none⟩ = some c7 ∧ W.cell? ⟨w.heap.size, 8, none⟩ = some c8 ∧ W.cell? ⟨w.heap.size, 9, none⟩ = some c9 ∧ W.cell? ⟨w.heap.size, 10, none⟩ = some c10 ∧ W.cell? ⟨w.heap.size, 11, none⟩ = some c11 ∧ Box w W [c0, c1, c2, c3, c4, c5, c6, c7, c8, c9, c10, c11] :=
  ⟨h.2 0 _ rfl, h.2 1 _ rfl, h.2 2 _ rfl, h.2 3 _ rfl, h.2 4 _ rfl, h.2 5 _ rfl, h.2 6 _ rfl, h.2 7 _ rfl, h.2 8 _ rfl, h.2 9 _ rfl, h.2 10 _ rfl, h.2 11 _ rfl, h⟩

set_option maxHeartbeats 3200000 in
set_option maxRecDepth 1000000 in
theorem statusEnc_any (a b c d e0 e1 e2 e3 : Int) (x y z : ByteArray) (p : Option Addr) (n cap : Nat) (ha : I64 a) (hb : I64 b) (hc : I64 c) (hd : I64 d) (k0 : I64 e0) (k1 : I64 e1) (k2 : I64 e2) (k3 : I64 e3)
    (hx : x.size ≤ 1048576) (hy : y.size ≤ 1048576) (hz : z.size ≤ 1048576) (hn : n ≤ 1048576) (w : World) (hp : SgnsP w p n) :
    Calls Tryz.prog 44 #[.agg #[.int .i64 a, .int .i64 b, .int .i64 c, .int .i64 d, .string x, .slice p n cap, .int .i64 e0, .int .i64 e1, .int .i64 e2, .int .i64 e3, .string y, .string z]] w (StrRet 2199140000000 w) := by
  have hB0 := Box.first w [.int .i64 a, .int .i64 b, .int .i64 c, .int .i64 d, .string x, .slice p n cap, .int .i64 e0, .int .i64 e1, .int .i64 e2, .int .i64 e3, .string y, .string z] 101
  have HP := Lib.hid hp
  have HM := Lib.hid (mulB (B := 2097222) hn)
  clear hp
  go_enter Tryz.func44, Tryz.ntmps44
  go_wp2
  revert hB0
  generalize w.alloc _ = W1
  intro hB0
  have o2 := ov2
  have o3 := ov3
  have o4 := ov4
  go_region_held3 (fun W => W.cell? ⟨w.heap.size, 0, none⟩ = some (.int .i64 a) ∧ W.cell? ⟨w.heap.size, 1, none⟩ = some (.int .i64 b) ∧ W.cell? ⟨w.heap.size, 2, none⟩ = some (.int .i64 c) ∧ W.cell? ⟨w.heap.size, 3, none⟩ = some (.int .i64 d) ∧
      W.cell? ⟨w.heap.size, 4, none⟩ = some (.string x) ∧ W.cell? ⟨w.heap.size, 5, none⟩ = some (.slice p n cap) ∧ W.cell? ⟨w.heap.size, 6, none⟩ = some (.int .i64 e0) ∧ W.cell? ⟨w.heap.size, 7, none⟩ = some (.int .i64 e1) ∧ W.cell? ⟨w.heap.size, 8, none⟩ = some (.int .i64 e2) ∧
      W.cell? ⟨w.heap.size, 9, none⟩ = some (.int .i64 e3) ∧ W.cell? ⟨w.heap.size, 10, none⟩ = some (.string y) ∧ W.cell? ⟨w.heap.size, 11, none⟩ = some (.string z) ∧
      Box w W [.int .i64 a, .int .i64 b, .int .i64 c, .int .i64 d, .string x, .slice p n cap, .int .i64 e0, .int .i64 e1, .int .i64 e2, .int .i64 e3, .string y, .string z])
    (first | exact box12 (by assumption) | exact box12 (Box.alloc (by assumption) _) | exact box12 (Box.drew (by assumption)) | exact box12 (Box.drew (Box.alloc (by assumption) _)))
    (first
      | (go_at_call 46; refine (strBox (by first | assumption | exact Box.alloc (by assumption) _ | exact Box.drew (Box.alloc (by assumption) _)) (putInts_any _ 0 4 _ _ _ (by omega) (by first | exact (ints4 ha hb hc hd _).drew | exact ints4 ha hb hc hd _))).mono ?_; rintro e w2 ⟨s2, hs2, rfl, hB2⟩; have hs2' : s2.size ≤ 1152921504606846976 := Nat.le_trans hs2 (by omega))
      | (go_at_call 47; refine (strBox (by first | assumption | exact Box.drew (by assumption)) (putString_any _ (by omega) _)).mono ?_; rintro e w3 ⟨s3, hs3, rfl, hB3⟩; have hs3' : s3.size ≤ 1152921504606846976 := Nat.le_trans hs3 (by omega))
      | (go_at_call 93; refine (strsBox (by first | assumption | exact Box.drew (by assumption)) (seals_any _ _ _ _ hn (HP.out.below (by first | exact hB3.1.1 | exact hB2.1.1)))).mono ?_; rintro e w4 ⟨p4, c4, rfl, hP4, hB4⟩; have HP4 := Lib.hid hP4; clear hP4)
      | (go_at_call 49; refine (strBox (by first | assumption | exact Box.drew (by assumption)) (putList_any _ _ _ 2097222 _ hn (by omega) HP4.out)).mono ?_; rintro e w5 ⟨s5, hs5, rfl, hB5⟩; have hs5' : s5.size ≤ 1152921504606846976 := Nat.le_trans hs5 (by have := HM.out; omega))
      | (go_at_call 48; refine (strBox (by first | assumption | exact Box.drew (by assumption)) (signedEnc_any _ _ _ _ _ _ k0 k1 k2 k3 hy hz _)).mono ?_; rintro e w6 ⟨s6, hs6, rfl, hB6⟩))
  all_goals
    clear o2 o3 o4
    go_wp2
    go_ret
    exact ⟨_, by simp only [ByteArray.size_append]; have := HM.out; omega, rfl, hB3.1.1⟩
end Go.Proofs.YtoigjpkdcadlnaaGreatDoor

/-
  LeaseTake: the reference's code of a snapshot is short.
-/
namespace Go.Proofs.YtoigjpkdcadlnaaGreatDoor
open Go Go.RowKit

theorem box5 {w W : World} {c0 c1 c2 c3 c4 : Value} (h : Box w W [c0, c1, c2, c3, c4]) : W.cell? ⟨w.heap.size, 0, none⟩ = some c0 ∧ W.cell? ⟨w.heap.size, 1, none⟩ = some c1 ∧ W.cell? ⟨w.heap.size, 2, none⟩ = some c2 ∧ W.cell? ⟨w.heap.size, 3, none⟩ = some c3 ∧ W.cell? ⟨w.heap.size, 4, none⟩ = some c4 ∧ Box w W [c0, c1, c2, c3, c4] :=
  ⟨h.2 0 _ rfl, h.2 1 _ rfl, h.2 2 _ rfl, h.2 3 _ rfl, h.2 4 _ rfl, h⟩

/-- an entry lies there; a handover lies there -/
def EntAt (w : World) (b o : Nat) : Prop := ∃ (a : Int) (x : ByteArray) (p : Option Addr) (n cap : Nat), I64 a ∧ x.size ≤ 1048576 ∧ n ≤ 1048576 ∧ SgnsP w p n ∧
  w.cell? ⟨b, o, none⟩ = some (.int .i64 a) ∧ w.cell? ⟨b, o + 1, none⟩ = some (.string x) ∧ w.cell? ⟨b, o + 2, none⟩ = some (.slice p n cap)
def HandAt (w : World) (b o : Nat) : Prop := ∃ s : Int, I64 s ∧ w.cell? ⟨b, o, none⟩ = some (.int .i64 s) ∧ EntAt w b (o + 1)
def HandsP (w : World) (p : Option Addr) (n : Nat) : Prop := n = 0 ∨ ∃ b off, p = some ⟨b, off, none⟩ ∧ b < w.heap.size ∧ ∀ i, i < n → HandAt w b (off + i * 4)

/-- what stays behind a call -/
def Keeps (F : World → Prop) : Prop := ∀ W W', F W → Below W.heap.size W W' → F W'
theorem Keeps.alloc {F : World → Prop} (h : Keeps F) {W : World} (hF : F W) (o : Obj) : F (W.alloc o) := h _ _ hF ((Below.refl _ _).alloc (Nat.le_refl _) _)
theorem Keeps.drew {F : World → Prop} (h : Keeps F) {W : World} (hF : F W) : F W.drew := h _ _ hF ⟨rfl, rfl, rfl, Nat.le_refl _, fun _ _ => rfl⟩
def StrF (B : Nat) (F : World → Prop) (e : Ending) (w' : World) : Prop := ∃ s : ByteArray, s.size ≤ B ∧ e = .returned (.string s) ∧ F w'
theorem strF {B : Nat} {F : World → Prop} (hk : Keeps F) {W : World} {f : FuncId} {args : Array Value} (hF : F W) (h : Calls Tryz.prog f args W (StrRet B W)) : Calls Tryz.prog f args W (StrF B F) :=
  h.mono fun _ _ ⟨s, h1, h2, h3⟩ => ⟨s, h1, h2, hk _ _ hF h3⟩
def StrsF (n B : Nat) (F : World → Prop) (e : Ending) (w' : World) : Prop := ∃ p cap, e = .returned (.slice p n cap) ∧ StrsP w' p n B ∧ F w'
theorem strsF {n B : Nat} {F : World → Prop} (hk : Keeps F) {W : World} {f : FuncId} {args : Array Value} (hF : F W) (h : Calls Tryz.prog f args W (StrsRet n B W)) : Calls Tryz.prog f args W (StrsF n B F) :=
  h.mono fun _ _ ⟨p, cap, h1, h2, h3⟩ => ⟨p, cap, h1, h2, hk _ _ hF h3⟩

def BoxOwn (w : World) (cs : List Value) (v : Value) (n : Nat) (xs : List Value) (W : World) : Prop := Box w W cs ∧ W.ownsRow (w.heap.size + 1) 9 1 v n xs
theorem BoxOwn.keeps (w : World) (cs : List Value) (v : Value) (n : Nat) (xs : List Value) : Keeps (BoxOwn w cs v n xs) := fun _ _ h hb => ⟨h.1.below hb, own_below h.2 hb⟩
theorem box_grown {w W w1 : World} {cs : List Value} {e sz n : Nat} {v : Value} {xs : List Value} (h : Box w W cs) (hown : W.ownsRow (w.heap.size + 1) e sz v n xs) (hg : W.grownBy w1 v.ownBlock) : Box w w1 cs := by
  have hne : ∀ i, i ≤ w.heap.size → some i ≠ v.ownBlock := fun i hi he => by
    rcases hown.2 with ⟨rfl, _⟩ | ⟨g, cap, cur, rfl, hbg, _⟩
    · cases he
    · simp [Value.ownBlock] at he; omega
  have hlt := h.1.2
  refine ⟨⟨⟨hg.os.trans h.1.1.os, hg.tape.trans h.1.1.tape, hg.output.trans h.1.1.output, Nat.le_trans h.1.1.size hg.size, fun i hi => ?_⟩, Nat.lt_of_lt_of_le h.1.2 hg.size⟩, fun j u hj => ?_⟩
  · exact (hg.block i (by omega) (hne i (by omega))).trans (h.1.1.block i hi)
  · have := hg.block w.heap.size h.1.2 (hne _ (Nat.le_refl _))
    rw [← h.2 j u hj]
    unfold World.cell?
    simp only [this]

theorem snapS {w W : World} {cs : List Value} {c4 : Value} (h4 : cs[4]? = some c4) {b o : Nat} (hb : b < w.heap.size) {s a : Int} {x : ByteArray} {p : Option Addr} {n cap : Nat}
    (k0 : w.cell? ⟨b, o, none⟩ = some (.int .i64 s)) (k1 : w.cell? ⟨b, o + 1, none⟩ = some (.int .i64 a)) (k2 : w.cell? ⟨b, o + 2, none⟩ = some (.string x)) (k3 : w.cell? ⟨b, o + 3, none⟩ = some (.slice p n cap)) (h : Box w W cs) :
    W.cell? ⟨w.heap.size, 4, none⟩ = some c4 ∧ W.cell? ⟨b, o, none⟩ = some (.int .i64 s) ∧ W.cell? ⟨b, o + 1, none⟩ = some (.int .i64 a) ∧ W.cell? ⟨b, o + 2, none⟩ = some (.string x) ∧ W.cell? ⟨b, o + 3, none⟩ = some (.slice p n cap) ∧ Box w W cs :=
  ⟨h.2 4 _ h4, (h.1.1.cell (by exact hb)).trans k0, (h.1.1.cell (by exact hb)).trans k1, (h.1.1.cell (by exact hb)).trans k2, (h.1.1.cell (by exact hb)).trans k3, h⟩

theorem ovL : ∀ x y z u v : Nat, x ≤ 1152921504606846976 → y ≤ 1152921504606846976 → z ≤ 1152921504606846976 → u ≤ 1152921504606846976 → v ≤ 2306100000000000000 → (9223372036854775807 < x + y + z + u + v) = False := fun x y z u v h1 h2 h3 h4 h5 => by simp; omega

def BoxStrs (w : World) (cs : List Value) (p : Option Addr) (n B : Nat) (W : World) : Prop := Box w W cs ∧ StrsP W p n B
theorem BoxStrs.keeps (w : World) (cs : List Value) (p : Option Addr) (n B : Nat) : Keeps (BoxStrs w cs p n B) := fun _ _ h hb => ⟨h.1.below hb, h.2.below hb⟩

set_option maxHeartbeats 3200000 in
set_option maxRecDepth 1000000 in
theorem snapEnc_any (s : Int) (r : ByteArray) (pc pp ph : Option Addr) (nc cc np cp nh ch : Nat) (hs : I64 s) (hr : r.size ≤ 1048576) (hnc : nc ≤ 1048576) (hnp : np ≤ 1048576) (hnh : nh ≤ 1048576) (w : World)
    (hc : StrsP w pc nc 1048576) (hp : SgnsP w pp np) (hh : HandsP w ph nh) :
    Calls Tryz.prog 50 #[.agg #[.int .i64 s, .string r, .slice pc nc cc, .slice pp np cp, .slice ph nh ch]] w (StrRet 2306100000000000000 w) := by
  obtain ⟨i0, hi, hz0, hz1, hz2⟩ := info_parts Tryz.info9
  have hB0 := Box.first w [.int .i64 s, .string r, .slice pc nc cc, .slice pp np cp, .slice ph nh ch] 35
  have HC := Lib.hid hc
  have HP := Lib.hid hp
  have HH := Lib.hid hh
  have HM1 := Lib.hid (mulB (B := 1048576) hnc)
  have HM2 := Lib.hid (mulB (B := 2097222) hnp)
  have HM3 := Lib.hid (mulB (B := 2199140000020) hnh)
  clear hc hp hh
  go_enter Tryz.func50, Tryz.ntmps50
  go_wp2
  go_loopw [3, 4] (fun v i wr => ∃ (k : Nat) (ss : List ByteArray), k ≤ nh ∧ i = .int .i64 k ∧ AllSz 2199140000020 ss ∧ BoxOwn w [.int .i64 s, .string r, .slice pc nc cc, .slice pp np cp, .slice ph nh ch] v k (strVs ss) wr) (fun _ i _ => nh - (intOf i).toNat)
  case atStart => exact ⟨0, [], Nat.zero_le _, rfl, fun _ hx => (by cases hx), hB0, World.ownsRow_nil _ _ _ _⟩
  case round =>
    obtain ⟨k, ss, hk, rfl, hss, hF⟩ := hrel
    clear hB0
    have hcell4 : wr.cell? ⟨w.heap.size, 4, none⟩ = some (.slice ph nh ch) := hF.1.2 4 _ rfl
    by_cases hkn : k < nh
    · obtain ⟨b, off, rfl, hb, hh⟩ : ∃ b off, ph = some ⟨b, off, none⟩ ∧ b < w.heap.size ∧ ∀ i, i < nh → HandAt w b (off + i * 4) := by
        rcases HH.out with h0 | h1
        · omega
        · exact h1
      obtain ⟨s', q0, k0, a, x, p, n, cap, q1, q2, q3, q4, k1, k2, k3⟩ := hh k hkn
      clear hh
      have HQ := Lib.hid q4
      have e0 : (0 : Int) ≤ (k : Int) := by omega
      have e1 : (k : Int) < (nh : Int) := by omega
      have o2 := ov2
      clear q4
      go_wp2_with fail
      go_region_held3 (fun W => W.cell? ⟨w.heap.size, 4, none⟩ = some (.slice (some ⟨b, off, none⟩) nh ch) ∧ W.cell? ⟨b, off + k * 4, none⟩ = some (.int .i64 s') ∧ W.cell? ⟨b, off + k * 4 + 1, none⟩ = some (.int .i64 a) ∧ W.cell? ⟨b, off + k * 4 + 2, none⟩ = some (.string x) ∧
          W.cell? ⟨b, off + k * 4 + 3, none⟩ = some (.slice p n cap) ∧ Box w W [.int .i64 s, .string r, .slice pc nc cc, .slice pp np cp, .slice (some ⟨b, off, none⟩) nh ch])
        (first
          | exact snapS rfl hb k0 k1 k2 k3 hF.1 | exact snapS rfl hb k0 k1 k2 k3 hF.1.drew | exact snapS rfl hb k0 k1 k2 k3 (hF.1.alloc _) | exact snapS rfl hb k0 k1 k2 k3 (hF.1.alloc _).drew
          | exact snapS rfl hb k0 k1 k2 k3 hF2.1 | exact snapS rfl hb k0 k1 k2 k3 hF3.1 | exact snapS rfl hb k0 k1 k2 k3 (hF3.1.alloc _) | exact snapS rfl hb k0 k1 k2 k3 hB5)
        (first
          | (go_at_call 46; refine (strF (BoxOwn.keeps w [.int .i64 s, .string r, .slice pc nc cc, .slice pp np cp, .slice (some ⟨b, off, none⟩) nh ch] u3 k (strVs ss)) (by first | exact (BoxOwn.keeps _ _ _ _ _).drew ((BoxOwn.keeps _ _ _ _ _).alloc hF _) | exact (BoxOwn.keeps _ _ _ _ _).alloc hF _) (putInts_any _ 0 1 _ _ _ (by omega) (by first | exact (ints1 q0 _).drew | exact ints1 q0 _))).mono ?_; rintro e w2 ⟨s2, hs2, rfl, hF2⟩; have hs2' : s2.size ≤ 1152921504606846976 := Nat.le_trans hs2 (by omega))
          | (go_at_call 45; refine (strF (BoxOwn.keeps w [.int .i64 s, .string r, .slice pc nc cc, .slice pp np cp, .slice (some ⟨b, off, none⟩) nh ch] u3 k (strVs ss)) (by first | exact hF2 | exact (BoxOwn.keeps _ _ _ _ _).drew hF2) (entryEnc_any _ _ _ _ _ q1 q2 q3 _ (HQ.out.below (by exact hF2.1.1.1)))).mono ?_; rintro e w3 ⟨s3, hs3, rfl, hF3⟩; have hs3' : s3.size ≤ 1152921504606846976 := Nat.le_trans hs3 (by omega))
          | (refine step_append_lies _ (by rfl) _ _ _ (by rfl) (w.heap.size + 1) 9 i0 (.string ⟨#[]⟩) 1 16 Tryz.underlying31 hi hz0 hz1 hz2 rfl (by omega) u3 k (strVs ss) (by rfl) (hF3.2.alloc _) ⟨w3.heap.size, 0, none⟩ 1 1 [.string (s2 ++ s3)] (by rfl) (by rfl) (World.news_of_block (cs := #[.string (s2 ++ s3)]) (t := 9) (fr := (0, 0)) (heap_alloc_new w3 _)) (by simp [Value.oneCell']) (by omega) (by unfold maxLen; omega) (by omega) (by have := hF3.1.1.2; simp; omega) (w3.heap.size + 1) (by simp) ?_; intro g5 c5 w5 hown5 hgrow hat hlt; have hB5 := box_grown (hF3.1.alloc _) (hF3.2.alloc _) hgrow))
      clear o2
      have hsum : (s2 ++ s3).size ≤ 2199140000020 := by rw [ByteArray.size_append]; omega
      rw [strVs_snoc] at hown5
      have HO := Lib.hid hown5
      have HS := Lib.hid (hss.snoc hsum)
      clear hown5 hgrow hat hss hF hF2 hF3 k0 k1 k2 k3
      go_wp2
      go_roundw
      case rel => exact ⟨k + 1, ss ++ [s2 ++ s3], by omega, by go_num, HS.out, hB5, HO.out⟩
      case measure => simp [intOf]; omega
    · obtain rfl : k = nh := by omega
      obtain ⟨p3, c3, hv, hp3⟩ := strsV_of_own hF.2 hss
      subst hv
      have hG : BoxStrs w [.int .i64 s, .string r, .slice pc nc cc, .slice pp np cp, .slice ph k ch] p3 k 2199140000020 wr := ⟨hF.1, hp3⟩
      clear hF hp3 hss
      have o2 := ov2
      have o3 := ov3
      have o4 := ov4
      have oL := ovL
      go_wp2_with fail
      go_region_held3 (fun W => W.cell? ⟨w.heap.size, 0, none⟩ = some (.int .i64 s) ∧ W.cell? ⟨w.heap.size, 1, none⟩ = some (.string r) ∧ W.cell? ⟨w.heap.size, 2, none⟩ = some (.slice pc nc cc) ∧ W.cell? ⟨w.heap.size, 3, none⟩ = some (.slice pp np cp) ∧
          W.cell? ⟨w.heap.size, 4, none⟩ = some (.slice ph k ch) ∧ Box w W [.int .i64 s, .string r, .slice pc nc cc, .slice pp np cp, .slice ph k ch])
        (first | exact box5 hG.1 | exact box5 hG.1.drew | exact box5 (hG.1.alloc _) | exact box5 (hG.1.alloc _).drew | exact box5 hG2.1 | exact box5 hG3.1 | exact box5 hG4.1 | exact box5 hG5.1 | exact box5 hG6.1 | exact box5 hG7.1)
        (first
          | (go_at_call 46; (with_reducible refine (strF (BoxStrs.keeps w [.int .i64 s, .string r, .slice pc nc cc, .slice pp np cp, .slice ph k ch] p3 k 2199140000020) (by first | exact (BoxStrs.keeps _ _ _ _ _).drew ((BoxStrs.keeps _ _ _ _ _).alloc hG _) | exact (BoxStrs.keeps _ _ _ _ _).alloc hG _) (putInts_any _ 0 1 _ _ _ (by omega) (by first | exact (ints1 hs _).drew | exact ints1 hs _))).mono ?_); rintro e w2 ⟨s2, hs2, rfl, hG2⟩; have hs2' : s2.size ≤ 1152921504606846976 := Nat.le_trans hs2 (by omega))
          | (go_at_call 47; (with_reducible refine (strF (BoxStrs.keeps w [.int .i64 s, .string r, .slice pc nc cc, .slice pp np cp, .slice ph k ch] p3 k 2199140000020) hG2 (putString_any _ (by omega) _)).mono ?_); rintro e w3 ⟨s3, hs3, rfl, hG3⟩; have HC3 := Lib.hid (HC.out.below hG3.1.1.1); have hs3' : s3.size ≤ 1152921504606846976 := Nat.le_trans hs3 (by omega))
          | (go_at_call 49; (with_reducible refine (strF (BoxStrs.keeps w [.int .i64 s, .string r, .slice pc nc cc, .slice pp np cp, .slice ph k ch] p3 k 2199140000020) hG3 (putList_any pc nc _ 1048576 _ hnc (by omega) HC3.out)).mono ?_); rintro e w4 ⟨s4, hs4, rfl, hG4⟩; have HP4 := Lib.hid (HP.out.below hG4.1.1.1); have hs4' : s4.size ≤ 1152921504606846976 := Nat.le_trans hs4 (by have := HM1.out; omega))
          | (go_at_call 93; (with_reducible refine (strsF (BoxStrs.keeps w [.int .i64 s, .string r, .slice pc nc cc, .slice pp np cp, .slice ph k ch] p3 k 2199140000020) hG4 (seals_any _ _ _ _ hnp HP4.out)).mono ?_); rintro e w5 ⟨p5, c5, rfl, hP5, hG5⟩; have HP5 := Lib.hid hP5; clear hP5)
          | (go_at_call 49; (with_reducible refine (strF (BoxStrs.keeps w [.int .i64 s, .string r, .slice pc nc cc, .slice pp np cp, .slice ph k ch] p3 k 2199140000020) hG5 (putList_any p5 np _ 2097222 _ hnp (by omega) HP5.out)).mono ?_); rintro e w6 ⟨s6, hs6, rfl, hG6⟩; have HP6 := Lib.hid hG6.2; have hs6' : s6.size ≤ 1152921504606846976 := Nat.le_trans hs6 (by have := HM2.out; omega))
          | (go_at_call 49; (with_reducible refine (strF (BoxStrs.keeps w [.int .i64 s, .string r, .slice pc nc cc, .slice pp np cp, .slice ph k ch] p3 k 2199140000020) hG6 (putList_any p3 k _ 2199140000020 _ hnh (by omega) HP6.out)).mono ?_); rintro e w7 ⟨s7, hs7, rfl, hG7⟩; have hs7' : s7.size ≤ 2306100000000000000 := Nat.le_trans hs7 (by have := HM3.out; omega)))
      all_goals
        clear o2 o3 o4 oL
        go_wp2
        go_ret
        exact ⟨_, by simp only [ByteArray.size_append]; have := HM1.out; have := HM2.out; have := HM3.out; omega, rfl, hG7.1.1.1⟩
end Go.Proofs.YtoigjpkdcadlnaaGreatDoor
