/-
  Contracts of Go's library at this program (Builder.String, bits.Len8, strconv.Itoa, strconv.Atoi, slices.Clone), laid by the kit's tools out of its shelf.
-/
import Derived.Shelf.Strings.Builder1
import Derived.Shelf.Small.Bits
import Derived.Shelf.Small.Wraps
import Derived.Shelf.Strings.BuilderF
import Derived.Shelf.Strings.BuilderK
import Derived.Shelf.Strconv.Atoi
import Derived.Shelf.Strconv.Itoa0
import Derived.Shelf.Strconv.Itoa1
import Derived.Shelf.LaysM
import Derived.Shelf.Strconv.Itoa2
import Derived.Shelf.Strconv.Itoa3
import Derived.Shelf.Strconv.AtoiErrFast
import Derived.Shelf.Strconv.ParseIntEmpty
import Derived.Shelf.Strconv.AtoiFail
import Derived.Shelf.Strconv.Clone
import Derived.Shelf.Strconv.SyntaxError
import Derived.Shelf.LaysC
import Derived.Shelf.Strconv.ToError
import Derived.Shelf.Strconv.Lower
import Derived.Shelf.Strconv.ParseUint10
import Derived.Shelf.Strconv.ParseUint10Empty
import Derived.Shelf.Strconv.ParseUint10Any
import Derived.Shelf.Strconv.ParseInt10
import Derived.Shelf.Strconv.AtoiLong
import Derived.Shelf.Strconv.AtoiInnerAll
import Derived.Shelf.Strconv.RangeError
import Derived.Shelf.Strconv.ToErrorRange
import Derived.Shelf.Strconv.AtoiAll
import Derived.Shelf.Strconv.ErrVarAll
import Derived.Ground.Names2Prog
import Derived.Shelf.Slices.Clone
import Derived.Shelf.Slices.SearchI
import Derived.Ground.SlgnProg
import Derived.Shelf.SlicesE.Clone
import Derived.Test.YtmcnpaehmnadeaaGreatDoorProg
set_option maxHeartbeats 6400000
set_option maxRecDepth 1000000
namespace Go.Proofs
open Go.Shelf
def Tryz.lays169_ren : Go.Shelf.Ren := ⟨fun | 169 => 90 | n => n, fun | 70 => 136 | 9 => 9 | 0 => 0 | 72 => 138 | 37 => 129 | 127 => 163 | 3 => 3 | 5 => 5 | n => n, fun | n => n⟩
theorem Tryz.lays169 : Go.Proofs.Lays.n169 Tryz.prog Tryz.lays169_ren := {
 mixed := by kernel_rfl
 f169 := Tryz.func90.trans (congrArg some (by kernel_rfl))
 t0 := Tryz.underlying0
 a0 := Tryz.isAgg0
 z0 := Tryz.sizeOf0
 v0 := Tryz.zeroValue0
 t3 := Tryz.underlying3
 a3 := Tryz.isAgg3
 z3 := Tryz.sizeOf3
 v3 := Tryz.zeroValue3
 t9 := Tryz.underlying9
 a9 := Tryz.isAgg9
 z9 := Tryz.sizeOf9
 v9 := Tryz.zeroValue9
 t37 := Tryz.underlying129
 a37 := Tryz.isAgg129
 z37 := Tryz.sizeOf129
 v37 := Tryz.zeroValue129
 t70 := Tryz.underlying136
 a70 := Tryz.isAgg136
 z70 := Tryz.sizeOf136
 v70 := Tryz.zeroValue136
 t72 := Tryz.underlying138
 a72 := Tryz.isAgg138
 z72 := Tryz.sizeOf138
 v72 := Tryz.zeroValue138
 t127 := Tryz.underlying163
 a127 := Tryz.isAgg163
 z127 := Tryz.sizeOf163
 v127 := Tryz.zeroValue163 }
theorem Tryz.Builder_Extra_169 : Builder.Extra Tryz.prog Tryz.lays169_ren := {
 sizeBuilder := by kernel_rfl
 liesBuilder := by kernel_rfl
 t5 := Tryz.underlying5
 a5 := Tryz.isAgg5
 z5 := Tryz.sizeOf5
 v5 := Tryz.zeroValue5
 infoByte := by kernel_rfl
 cellsByte := by kernel_rfl
 sizeByte := by kernel_rfl
 neB5 := by decide }
open Go.RowKit in
theorem Tryz.Builder_String_any (B b : Nat) (l : List UInt8) (w : World) (h : Lib.IsBuilder 138 5 B b (Lib.byteCells l) w) (hBw : B ≤ w.heap.size) :
  Calls Tryz.prog 90 #[.pointer (some ⟨b, 0, none⟩)] w fun e w' => e = .returned (.string ⟨l.toArray⟩) ∧ Below B w w' := Any.Builder_String_any Tryz.lays169 Tryz.Builder_Extra_169 B b l w h hBw
def Tryz.lays126_ren : Go.Shelf.Ren := ⟨fun | 126 => 115 | n => n, fun | 5 => 5 | 3 => 3 | 9 => 9 | n => n, fun | n => n⟩
theorem Tryz.lays126 : Go.Proofs.Lays.n126 Tryz.prog Tryz.lays126_ren := {
 mixed := by kernel_rfl
 f126 := Tryz.func115.trans (congrArg some (by kernel_rfl))
 t3 := Tryz.underlying3
 a3 := Tryz.isAgg3
 z3 := Tryz.sizeOf3
 v3 := Tryz.zeroValue3
 t5 := Tryz.underlying5
 a5 := Tryz.isAgg5
 z5 := Tryz.sizeOf5
 v5 := Tryz.zeroValue5
 t9 := Tryz.underlying9
 a9 := Tryz.isAgg9
 z9 := Tryz.sizeOf9
 v9 := Tryz.zeroValue9 }
theorem Tryz.bits_Len8 (x : Int) (w : World) (h0 : 0 ≤ x) (h1 : x ≤ 255) :
  Calls Tryz.prog 115 #[.int .u8 x] w fun e w' => e = .returned (.int .i64 (Lib.bitLen x.toNat)) ∧ w' = w := Any.bits_Len8 Tryz.lays126 x w h0 h1
def Tryz.laysM171_ren : Go.Shelf.Ren := ⟨fun | 171 => 60 | 243 => 91 | 246 => 124 | 283 => 154 | 284 => 155 | 285 => 156 | 286 => 157 | 129 => 171 | 317 => 170 | 318 => 172 | 319 => 173 | 320 => 174 | 337 => 196 | 338 => 197 | n => n, fun | 3 => 3 | 9 => 9 | 2 => 2 | 4 => 4 | 171 => 182 | 0 => 0 | 53 => 124 | 37 => 129 | 5 => 5 | 173 => 185 | 212 => 197 | 51 => 198 | 20 => 20 | 213 => 199 | 46 => 79 | 232 => 225 | 233 => 226 | n => n, fun | 17 => 2 | 18 => 3 | 19 => 4 | n => n⟩
theorem Tryz.laysM171 : Go.Proofs.LaysM.n171 Tryz.prog Tryz.laysM171_ren := {
 mixed := by kernel_rfl
 f129 := Tryz.func171.trans (congrArg some (by kernel_rfl))
 f171 := Tryz.func60.trans (congrArg some (by kernel_rfl))
 f243 := Tryz.func91.trans (congrArg some (by kernel_rfl))
 f246 := Tryz.func124.trans (congrArg some (by kernel_rfl))
 f283 := Tryz.func154.trans (congrArg some (by kernel_rfl))
 f284 := Tryz.func155.trans (congrArg some (by kernel_rfl))
 f285 := Tryz.func156.trans (congrArg some (by kernel_rfl))
 f286 := Tryz.func157.trans (congrArg some (by kernel_rfl))
 f317 := Tryz.func170.trans (congrArg some (by kernel_rfl))
 f318 := Tryz.func172.trans (congrArg some (by kernel_rfl))
 f319 := Tryz.func173.trans (congrArg some (by kernel_rfl))
 f320 := Tryz.func174.trans (congrArg some (by kernel_rfl))
 f337 := Tryz.func196.trans (congrArg some (by kernel_rfl))
 f338 := Tryz.func197.trans (congrArg some (by kernel_rfl))
 t0 := Tryz.underlying0
 a0 := Tryz.isAgg0
 z0 := Tryz.sizeOf0
 v0 := Tryz.zeroValue0
 t2 := Tryz.underlying2
 a2 := Tryz.isAgg2
 z2 := Tryz.sizeOf2
 v2 := Tryz.zeroValue2
 t3 := Tryz.underlying3
 a3 := Tryz.isAgg3
 z3 := Tryz.sizeOf3
 v3 := Tryz.zeroValue3
 t4 := Tryz.underlying4
 a4 := Tryz.isAgg4
 z4 := Tryz.sizeOf4
 v4 := Tryz.zeroValue4
 t5 := Tryz.underlying5
 a5 := Tryz.isAgg5
 z5 := Tryz.sizeOf5
 v5 := Tryz.zeroValue5
 t9 := Tryz.underlying9
 a9 := Tryz.isAgg9
 z9 := Tryz.sizeOf9
 v9 := Tryz.zeroValue9
 t20 := Tryz.underlying20
 a20 := Tryz.isAgg20
 z20 := Tryz.sizeOf20
 v20 := Tryz.zeroValue20
 t37 := Tryz.underlying129
 a37 := Tryz.isAgg129
 z37 := Tryz.sizeOf129
 v37 := Tryz.zeroValue129
 t46 := Tryz.underlying79
 a46 := Tryz.isAgg79
 z46 := Tryz.sizeOf79
 v46 := Tryz.zeroValue79
 t51 := Tryz.underlying198
 a51 := Tryz.isAgg198
 z51 := Tryz.sizeOf198
 v51 := Tryz.zeroValue198
 t53 := Tryz.underlying124
 a53 := Tryz.isAgg124
 z53 := Tryz.sizeOf124
 v53 := Tryz.zeroValue124
 t171 := Tryz.underlying182
 a171 := Tryz.isAgg182
 z171 := Tryz.sizeOf182
 v171 := Tryz.zeroValue182
 t173 := Tryz.underlying185
 a173 := Tryz.isAgg185
 z173 := Tryz.sizeOf185
 v173 := Tryz.zeroValue185
 t212 := Tryz.underlying197
 a212 := Tryz.isAgg197
 z212 := Tryz.sizeOf197
 v212 := Tryz.zeroValue197
 t213 := Tryz.underlying199
 a213 := Tryz.isAgg199
 z213 := Tryz.sizeOf199
 t232 := Tryz.underlying225
 a232 := Tryz.isAgg225
 z232 := Tryz.sizeOf225
 v232 := Tryz.zeroValue225
 t233 := Tryz.underlying226
 a233 := Tryz.isAgg226
 z233 := Tryz.sizeOf226
 v233 := Tryz.zeroValue226
 g17 := by kernel_rfl
 g18 := by kernel_rfl
 g19 := by kernel_rfl
 i0 := by kernel_rfl
 i2 := by kernel_rfl
 i3 := by kernel_rfl
 i4 := by kernel_rfl
 i5 := by kernel_rfl
 i9 := by kernel_rfl
 i20 := by kernel_rfl
 i37 := by kernel_rfl
 i46 := by kernel_rfl
 i51 := by kernel_rfl
 i53 := by kernel_rfl
 i171 := by kernel_rfl
 i173 := by kernel_rfl
 i212 := by kernel_rfl
 i232 := by kernel_rfl
 i233 := by kernel_rfl
 m17 := by kernel_rfl
 m18 := by kernel_rfl
 m19 := by kernel_rfl }
open Go.RowKit Go.Sort Go.Lib in
theorem Tryz.strconv_Itoa (n : Int) (h0 : -9223372036854775808 ≤ n) (h1 : n ≤ 9223372036854775807) (w : World) (htab : Lib.TabIs Tryz.prog w "internal/strconv.uint64pow10" .u64 Lib.pow10Tab) :
  Calls Tryz.prog 60 #[.int .i64 n] w fun e w' => e = .returned (.string ⟨(Lib.itoa n).toArray⟩) ∧ ∃ k os, w' = grow (w.drewN k) os := Any.strconv_Itoa Tryz.laysM171 n h0 h1 w htab
def Tryz.laysC172_ren : Go.Shelf.Ren := ⟨fun | 172 => 37 | 244 => 56 | 245 => 57 | 247 => 82 | 279 => 83 | 280 => 84 | 281 => 85 | 282 => 86 | 287 => 116 | 316 => 117 | 171 => 60 | 205 => 118 | 321 => 150 | 322 => 151 | 243 => 91 | 246 => 124 | 283 => 154 | 284 => 155 | 285 => 156 | 286 => 157 | 129 => 171 | 317 => 170 | 318 => 172 | 319 => 173 | 320 => 174 | 337 => 196 | 338 => 197 | n => n, fun | 9 => 9 | 3 => 3 | 75 => 87 | 76 => 88 | 4 => 4 | 5 => 5 | 167 => 128 | 37 => 129 | 0 => 0 | 85 => 130 | 2 => 2 | 168 => 132 | 53 => 124 | 175 => 153 | 46 => 79 | 210 => 157 | 127 => 163 | 145 => 178 | 143 => 176 | 21 => 21 | 171 => 182 | 173 => 185 | 212 => 197 | 51 => 198 | 20 => 20 | 213 => 199 | 232 => 225 | 233 => 226 | 80 => 140 | n => n, fun | 15 => 0 | 16 => 1 | 17 => 2 | 18 => 3 | 19 => 4 | n => n⟩
theorem Tryz.laysC172 : Go.Proofs.LaysC.n172 Tryz.prog Tryz.laysC172_ren := {
 mixed := by kernel_rfl
 f129 := Tryz.func171.trans (congrArg some (by kernel_rfl))
 f171 := Tryz.func60.trans (congrArg some (by kernel_rfl))
 f172 := Tryz.func37.trans (congrArg some (by kernel_rfl))
 f205 := Tryz.func118.trans (congrArg some (by kernel_rfl))
 f243 := Tryz.func91.trans (congrArg some (by kernel_rfl))
 f244 := Tryz.func56.trans (congrArg some (by kernel_rfl))
 f245 := Tryz.func57.trans (congrArg some (by kernel_rfl))
 f246 := Tryz.func124.trans (congrArg some (by kernel_rfl))
 f247 := Tryz.func82.trans (congrArg some (by kernel_rfl))
 f279 := Tryz.func83.trans (congrArg some (by kernel_rfl))
 f280 := Tryz.func84.trans (congrArg some (by kernel_rfl))
 f281 := Tryz.func85.trans (congrArg some (by kernel_rfl))
 f282 := Tryz.func86.trans (congrArg some (by kernel_rfl))
 f283 := Tryz.func154.trans (congrArg some (by kernel_rfl))
 f284 := Tryz.func155.trans (congrArg some (by kernel_rfl))
 f285 := Tryz.func156.trans (congrArg some (by kernel_rfl))
 f286 := Tryz.func157.trans (congrArg some (by kernel_rfl))
 f287 := Tryz.func116.trans (congrArg some (by kernel_rfl))
 f316 := Tryz.func117.trans (congrArg some (by kernel_rfl))
 f317 := Tryz.func170.trans (congrArg some (by kernel_rfl))
 f318 := Tryz.func172.trans (congrArg some (by kernel_rfl))
 f319 := Tryz.func173.trans (congrArg some (by kernel_rfl))
 f320 := Tryz.func174.trans (congrArg some (by kernel_rfl))
 f321 := Tryz.func150.trans (congrArg some (by kernel_rfl))
 f322 := Tryz.func151.trans (congrArg some (by kernel_rfl))
 f337 := Tryz.func196.trans (congrArg some (by kernel_rfl))
 f338 := Tryz.func197.trans (congrArg some (by kernel_rfl))
 t0 := Tryz.underlying0
 a0 := Tryz.isAgg0
 z0 := Tryz.sizeOf0
 v0 := Tryz.zeroValue0
 t2 := Tryz.underlying2
 a2 := Tryz.isAgg2
 z2 := Tryz.sizeOf2
 v2 := Tryz.zeroValue2
 t3 := Tryz.underlying3
 a3 := Tryz.isAgg3
 z3 := Tryz.sizeOf3
 v3 := Tryz.zeroValue3
 t4 := Tryz.underlying4
 a4 := Tryz.isAgg4
 z4 := Tryz.sizeOf4
 v4 := Tryz.zeroValue4
 t5 := Tryz.underlying5
 a5 := Tryz.isAgg5
 z5 := Tryz.sizeOf5
 v5 := Tryz.zeroValue5
 t9 := Tryz.underlying9
 a9 := Tryz.isAgg9
 z9 := Tryz.sizeOf9
 v9 := Tryz.zeroValue9
 t20 := Tryz.underlying20
 a20 := Tryz.isAgg20
 z20 := Tryz.sizeOf20
 v20 := Tryz.zeroValue20
 t21 := Tryz.underlying21
 a21 := Tryz.isAgg21
 z21 := Tryz.sizeOf21
 v21 := Tryz.zeroValue21
 t37 := Tryz.underlying129
 a37 := Tryz.isAgg129
 z37 := Tryz.sizeOf129
 v37 := Tryz.zeroValue129
 t46 := Tryz.underlying79
 a46 := Tryz.isAgg79
 z46 := Tryz.sizeOf79
 v46 := Tryz.zeroValue79
 t51 := Tryz.underlying198
 a51 := Tryz.isAgg198
 z51 := Tryz.sizeOf198
 v51 := Tryz.zeroValue198
 t53 := Tryz.underlying124
 a53 := Tryz.isAgg124
 z53 := Tryz.sizeOf124
 v53 := Tryz.zeroValue124
 t75 := Tryz.underlying87
 a75 := Tryz.isAgg87
 z75 := Tryz.sizeOf87
 v75 := Tryz.zeroValue87
 t76 := Tryz.underlying88
 a76 := Tryz.isAgg88
 z76 := Tryz.sizeOf88
 v76 := Tryz.zeroValue88
 t85 := Tryz.underlying130
 a85 := Tryz.isAgg130
 z85 := Tryz.sizeOf130
 v85 := Tryz.zeroValue130
 t127 := Tryz.underlying163
 a127 := Tryz.isAgg163
 z127 := Tryz.sizeOf163
 v127 := Tryz.zeroValue163
 t143 := Tryz.underlying176
 a143 := Tryz.isAgg176
 z143 := Tryz.sizeOf176
 v143 := Tryz.zeroValue176
 t145 := Tryz.underlying178
 a145 := Tryz.isAgg178
 z145 := Tryz.sizeOf178
 v145 := Tryz.zeroValue178
 t167 := Tryz.underlying128
 a167 := Tryz.isAgg128
 z167 := Tryz.sizeOf128
 v167 := Tryz.zeroValue128
 t168 := Tryz.underlying132
 a168 := Tryz.isAgg132
 z168 := Tryz.sizeOf132
 v168 := Tryz.zeroValue132
 t171 := Tryz.underlying182
 a171 := Tryz.isAgg182
 z171 := Tryz.sizeOf182
 v171 := Tryz.zeroValue182
 t173 := Tryz.underlying185
 a173 := Tryz.isAgg185
 z173 := Tryz.sizeOf185
 v173 := Tryz.zeroValue185
 t175 := Tryz.underlying153
 a175 := Tryz.isAgg153
 z175 := Tryz.sizeOf153
 v175 := Tryz.zeroValue153
 t210 := Tryz.underlying157
 a210 := Tryz.isAgg157
 z210 := Tryz.sizeOf157
 v210 := Tryz.zeroValue157
 t212 := Tryz.underlying197
 a212 := Tryz.isAgg197
 z212 := Tryz.sizeOf197
 v212 := Tryz.zeroValue197
 t213 := Tryz.underlying199
 a213 := Tryz.isAgg199
 z213 := Tryz.sizeOf199
 t232 := Tryz.underlying225
 a232 := Tryz.isAgg225
 z232 := Tryz.sizeOf225
 v232 := Tryz.zeroValue225
 t233 := Tryz.underlying226
 a233 := Tryz.isAgg226
 z233 := Tryz.sizeOf226
 v233 := Tryz.zeroValue226
 g15 := by kernel_rfl
 g16 := by kernel_rfl
 g17 := by kernel_rfl
 g18 := by kernel_rfl
 g19 := by kernel_rfl
 t80 := Tryz.underlying140
 a80 := Tryz.isAgg140
 z80 := Tryz.sizeOf140
 v80 := Tryz.zeroValue140
 i0 := by kernel_rfl
 i2 := by kernel_rfl
 i3 := by kernel_rfl
 i4 := by kernel_rfl
 i5 := by kernel_rfl
 i9 := by kernel_rfl
 i20 := by kernel_rfl
 i21 := by kernel_rfl
 i37 := by kernel_rfl
 i46 := by kernel_rfl
 i51 := by kernel_rfl
 i53 := by kernel_rfl
 i75 := by kernel_rfl
 i76 := by kernel_rfl
 i80 := by kernel_rfl
 i85 := by kernel_rfl
 i127 := by kernel_rfl
 i143 := by kernel_rfl
 i145 := by kernel_rfl
 i167 := by kernel_rfl
 i168 := by kernel_rfl
 i171 := by kernel_rfl
 i173 := by kernel_rfl
 i175 := by kernel_rfl
 i210 := by kernel_rfl
 i212 := by kernel_rfl
 i232 := by kernel_rfl
 i233 := by kernel_rfl
 m15 := by kernel_rfl
 m16 := by kernel_rfl
 m17 := by kernel_rfl
 m18 := by kernel_rfl
 m19 := by kernel_rfl
 c0 := by kernel_rfl
 c2 := by kernel_rfl
 c3 := by kernel_rfl
 c4 := by kernel_rfl
 c5 := by kernel_rfl
 c9 := by kernel_rfl
 c20 := by kernel_rfl
 c21 := by kernel_rfl
 c37 := by kernel_rfl
 c46 := by kernel_rfl
 c51 := by kernel_rfl
 c53 := by kernel_rfl
 c75 := by kernel_rfl
 c76 := by kernel_rfl
 c80 := by kernel_rfl
 c85 := by kernel_rfl
 c127 := by kernel_rfl
 c143 := by kernel_rfl
 c145 := by kernel_rfl
 c167 := by kernel_rfl
 c168 := by kernel_rfl
 c171 := by kernel_rfl
 c173 := by kernel_rfl
 c175 := by kernel_rfl
 c210 := by kernel_rfl
 c212 := by kernel_rfl
 c213 := by kernel_rfl
 c232 := by kernel_rfl
 c233 := by kernel_rfl }
open Go.RowKit in
theorem Tryz.strconv_Atoi_ok (s : ByteArray) (hmax : s.size ≤ 9223372036854775806) (v : Int) (h : Lib.atoiAll s.data.toList = .ok v) (w : World) :
  Calls Tryz.prog 37 #[.string s] w fun e w' => e = .returned (.tuple #[.int .i64 v, .nilIface]) ∧ (w' = w ∨ ∃ t, w' = Lib.bytesWorld w 5 t) := Any.strconv_Atoi_ok Tryz.laysC172 s hmax v h w
open Go.RowKit in
theorem Tryz.strconv_Atoi_range_var (s : ByteArray) (hlim : s.size ≤ 281474976710656) (h : Lib.atoiAll s.data.toList = .range) (tp : TypeId) (p : Value) (w : World) (hvar : w.var? Tryz.prog "strconv.ErrRange" = some #[.iface tp p]) :
  Calls Tryz.prog 37 #[.string s] w fun e w' => ∃ N, e = .returned (.tuple #[.int .i64 (Lib.atoiSat s.data.toList), .iface 132 (.pointer (some ⟨N, 0, none⟩))]) ∧ w.heap.size ≤ N ∧ w'.heap[N]? = some (.cells #[.string ⟨#[65, 116, 111, 105]⟩, .string s, .iface tp p] 157 (0, 0)) ∧ Below w.heap.size w w' := Any.strconv_Atoi_range_var Tryz.laysC172 s hlim h tp p w hvar
end Go.Proofs
/-
  Contracts of strings.Builder's WriteByte and WriteString at this program, out of the kit's shelf.
-/
namespace Go.Proofs
open Go.Shelf
def Tryz.lays167_ren : Go.Shelf.Ren := ⟨fun | 166 => 89 | 167 => 122 | 240 => 123 | 276 => 153 | n => n, fun | 0 => 0 | 3 => 3 | 4 => 4 | 5 => 5 | 9 => 9 | 20 => 20 | 37 => 129 | 70 => 136 | 72 => 138 | 75 => 87 | 80 => 140 | 164 => 180 | n => n, fun | n => n⟩
theorem Tryz.lays167 : Go.Proofs.Lays.n167 Tryz.prog Tryz.lays167_ren := {
 mixed := by kernel_rfl
 f167 := Tryz.func122.trans (congrArg some (by kernel_rfl))
 f240 := Tryz.func123.trans (congrArg some (by kernel_rfl))
 f276 := Tryz.func153.trans (congrArg some (by kernel_rfl))
 t0 := Tryz.underlying0
 a0 := Tryz.isAgg0
 z0 := Tryz.sizeOf0
 v0 := Tryz.zeroValue0
 t4 := Tryz.underlying4
 a4 := Tryz.isAgg4
 z4 := Tryz.sizeOf4
 v4 := Tryz.zeroValue4
 t5 := Tryz.underlying5
 a5 := Tryz.isAgg5
 z5 := Tryz.sizeOf5
 v5 := Tryz.zeroValue5
 t9 := Tryz.underlying9
 a9 := Tryz.isAgg9
 z9 := Tryz.sizeOf9
 v9 := Tryz.zeroValue9
 t20 := Tryz.underlying20
 a20 := Tryz.isAgg20
 z20 := Tryz.sizeOf20
 v20 := Tryz.zeroValue20
 t37 := Tryz.underlying129
 a37 := Tryz.isAgg129
 z37 := Tryz.sizeOf129
 v37 := Tryz.zeroValue129
 t70 := Tryz.underlying136
 a70 := Tryz.isAgg136
 z70 := Tryz.sizeOf136
 v70 := Tryz.zeroValue136
 t72 := Tryz.underlying138
 a72 := Tryz.isAgg138
 z72 := Tryz.sizeOf138
 v72 := Tryz.zeroValue138
 t75 := Tryz.underlying87
 a75 := Tryz.isAgg87
 z75 := Tryz.sizeOf87
 v75 := Tryz.zeroValue87
 t164 := Tryz.underlying180
 a164 := Tryz.isAgg180
 z164 := Tryz.sizeOf180
 v164 := Tryz.zeroValue180 }
theorem Tryz.Builder_Extra_167 : Builder.Extra Tryz.prog Tryz.lays167_ren := {
 sizeBuilder := by kernel_rfl
 liesBuilder := by kernel_rfl
 t5 := Tryz.underlying5
 a5 := Tryz.isAgg5
 z5 := Tryz.sizeOf5
 v5 := Tryz.zeroValue5
 infoByte := by kernel_rfl
 cellsByte := by kernel_rfl
 sizeByte := by kernel_rfl
 neB5 := by decide }
def Tryz.lays166_ren : Go.Shelf.Ren := ⟨fun | 166 => 89 | 167 => 122 | 240 => 123 | 276 => 153 | n => n, fun | 0 => 0 | 3 => 3 | 4 => 4 | 5 => 5 | 9 => 9 | 20 => 20 | 37 => 129 | 70 => 136 | 72 => 138 | 75 => 87 | 80 => 140 | 164 => 180 | n => n, fun | n => n⟩
theorem Tryz.lays166 : Go.Proofs.Lays.n166 Tryz.prog Tryz.lays166_ren := {
 mixed := by kernel_rfl
 f166 := Tryz.func89.trans (congrArg some (by kernel_rfl))
 f240 := Tryz.func123.trans (congrArg some (by kernel_rfl))
 f276 := Tryz.func153.trans (congrArg some (by kernel_rfl))
 t0 := Tryz.underlying0
 a0 := Tryz.isAgg0
 z0 := Tryz.sizeOf0
 v0 := Tryz.zeroValue0
 t3 := Tryz.underlying3
 a3 := Tryz.isAgg3
 z3 := Tryz.sizeOf3
 v3 := Tryz.zeroValue3
 t4 := Tryz.underlying4
 a4 := Tryz.isAgg4
 z4 := Tryz.sizeOf4
 v4 := Tryz.zeroValue4
 t9 := Tryz.underlying9
 a9 := Tryz.isAgg9
 z9 := Tryz.sizeOf9
 v9 := Tryz.zeroValue9
 t20 := Tryz.underlying20
 a20 := Tryz.isAgg20
 z20 := Tryz.sizeOf20
 v20 := Tryz.zeroValue20
 t37 := Tryz.underlying129
 a37 := Tryz.isAgg129
 z37 := Tryz.sizeOf129
 v37 := Tryz.zeroValue129
 t70 := Tryz.underlying136
 a70 := Tryz.isAgg136
 z70 := Tryz.sizeOf136
 v70 := Tryz.zeroValue136
 t72 := Tryz.underlying138
 a72 := Tryz.isAgg138
 z72 := Tryz.sizeOf138
 v72 := Tryz.zeroValue138
 t75 := Tryz.underlying87
 a75 := Tryz.isAgg87
 z75 := Tryz.sizeOf87
 v75 := Tryz.zeroValue87
 t164 := Tryz.underlying180
 a164 := Tryz.isAgg180
 z164 := Tryz.sizeOf180
 v164 := Tryz.zeroValue180 }
theorem Tryz.Builder_Extra_166 : Builder.Extra Tryz.prog Tryz.lays166_ren := {
 sizeBuilder := by kernel_rfl
 liesBuilder := by kernel_rfl
 t5 := Tryz.underlying5
 a5 := Tryz.isAgg5
 z5 := Tryz.sizeOf5
 v5 := Tryz.zeroValue5
 infoByte := by kernel_rfl
 cellsByte := by kernel_rfl
 sizeByte := by kernel_rfl
 neB5 := by decide }
open Go.RowKit in
theorem Tryz.Builder_WriteByte (B b : Nat) (bs : List Value) (c : Int) (w : World) (h : Lib.IsBuilder 138 5 B b bs w) (hlen : bs.length + 1 ≤ 140737488355328) (hBw : B ≤ w.heap.size) :
  Calls Tryz.prog 122 #[.pointer (some ⟨b, 0, none⟩), .int .u8 c] w fun e w' => e = .returned .nilIface ∧ (Lib.BuilderAt 138 5 B b (.pointer (some ⟨b, 0, none⟩)) (bs ++ [.int .u8 c]) w' ∧ Below B w w') := Any.Builder_WriteByte Tryz.lays167 Tryz.Builder_Extra_167 B b bs c w h hlen hBw
open Go.RowKit in
theorem Tryz.Builder_WriteString (B b : Nat) (bs : List Value) (s : ByteArray) (w : World) (h : Lib.IsBuilder 138 5 B b bs w) (hlen : bs.length + s.size ≤ 140737488355328) (hBw : B ≤ w.heap.size) :
  Calls Tryz.prog 89 #[.pointer (some ⟨b, 0, none⟩), .string s] w fun e w' => e = .returned (.tuple #[.int .i64 s.size, .nilIface]) ∧ (Lib.BuilderAt 138 5 B b (.pointer (some ⟨b, 0, none⟩)) (bs ++ Lib.strCells s) w' ∧ Below B w w') := Any.Builder_WriteString Tryz.lays166 Tryz.Builder_Extra_166 B b bs s w h hlen hBw
end Go.Proofs
