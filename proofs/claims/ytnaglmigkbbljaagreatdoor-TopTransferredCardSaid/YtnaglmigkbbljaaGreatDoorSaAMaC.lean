/-
  Contracts of Go's library at this program, laid by the kit's tools out of its shelf.
-/
import Derived.Test.YtnaglmigkbbljaaGreatDoorDcDMaB
import Derived.Shelf.Strings.Builder1
import Derived.Shelf.Strings.Builder2
import Derived.Shelf.Strings.OnBuilder
import Derived.Shelf.Strings.Trim
import Derived.Shelf.Small.Utf8
import Derived.Shelf.Small.Bits
import Derived.Shelf.Small.Strs
import Derived.Shelf.Small.Wraps
import Derived.Shelf.Strings.BuilderF
import Derived.Shelf.Strings.BuilderK
import Derived.Shelf.Utf8.RuneCount
import Derived.Shelf.Strings.Builder2Cap
import Derived.Shelf.Strconv.Atoi
import Derived.Shelf.Strconv.Itoa0
import Derived.Shelf.Strconv.Itoa1
import Derived.Shelf.LaysM
import Derived.Shelf.Strconv.Itoa2
import Derived.Shelf.Strconv.Itoa3
import Derived.Shelf.Strconv.AtoiErrFast
import Derived.Shelf.Strconv.ParseIntEmpty
import Derived.Shelf.Strconv.AtoiFail
import Derived.Shelf.Strconv.Clone
import Derived.Shelf.Strconv.SyntaxError
import Derived.Shelf.LaysC
import Derived.Shelf.Strconv.ToError
import Derived.Shelf.Strconv.AtoiErr
import Derived.Shelf.Strconv.ErrVar
import Derived.Shelf.Strconv.Lower
import Derived.Shelf.Strconv.ParseUint10
import Derived.Shelf.Strconv.ParseUint10Empty
import Derived.Shelf.Strconv.ParseUint10Any
import Derived.Shelf.Strconv.ParseInt10
import Derived.Shelf.Strconv.AtoiLong
import Derived.Shelf.Strconv.AtoiInnerAll
import Derived.Shelf.Strconv.RangeError
import Derived.Shelf.Strconv.ToErrorRange
import Derived.Shelf.Strconv.AtoiAll
import Derived.Shelf.Strconv.ErrVarAll
import Derived.Shelf.Strconv.ParseUintEmpty
import Derived.Shelf.Strconv.ParseUint10b64
import Derived.Shelf.Strconv.ParseUint10b32
import Derived.Shelf.Strconv.ParseUint10b16
import Derived.Shelf.Strconv.ParseUint10b8
import Derived.Shelf.Strconv.ParseUint10At
import Derived.Shelf.Strconv.ParseInt10At64
import Derived.Shelf.Strconv.ParseInt10At32
import Derived.Shelf.Strconv.ParseInt10At16
import Derived.Shelf.Strconv.ParseInt10At8
import Derived.Shelf.Strconv.ParseInt10All
import Derived.Shelf.Strings.Search1
import Derived.Shelf.Strings.Search2
import Derived.Shelf.Strings.Search3
import Derived.Shelf.Strings.Count
import Derived.Shelf.Strings.Shaped
import Derived.Shelf.Strings.Prefix
import Derived.Shelf.Strings.Split
import Derived.Shelf.Strings.SplitShaped
import Derived.Shelf.Unicode.Decode
import Derived.Shelf.Strings.Runes
import Derived.Shelf.Strings.RuneCount
import Derived.Shelf.Strings.AsciiSet
import Derived.Shelf.Strings.Explode
import Derived.Shelf.Unicode.DecodeSlow
import Derived.Shelf.Unicode.DecodeAny
import Derived.Shelf.Unicode.DecodeLast
import Derived.Shelf.Strings.BuilderCap
import Derived.Shelf.Slices.Turned
import Derived.Shelf.Slices.Equal
import Derived.Ground.Names2Prog
import Derived.Shelf.Slices.Clone
import Derived.Shelf.Slices.SearchI
import Derived.Shelf.Slices.Empties2
import Derived.Ground.SlgnProg
import Derived.Shelf.SlicesE.Clone
import Derived.Test.YtnaglmigkbbljaaGreatDoorProg
import Derived.Lib.ItoaLen
import Derived.Lib.AtoiAllCases
set_option maxHeartbeats 6400000
set_option maxRecDepth 1000000
namespace Go.Proofs
open Go.Shelf
def Tryz.lays169_ren : Go.Shelf.Ren := ⟨fun | 169 => 92 | n => n, fun | 70 => 173 | 9 => 9 | 0 => 0 | 72 => 175 | 37 => 23 | 127 => 236 | 3 => 3 | 5 => 5 | n => n, fun | n => n⟩
theorem Tryz.lays169 : Go.Proofs.Lays.n169 Tryz.prog Tryz.lays169_ren := {
 mixed := by kernel_rfl
 f169 := Tryz.func92.trans (congrArg some (by kernel_rfl))
 t0 := Tryz.underlying0
 a0 := Tryz.isAgg0
 z0 := Tryz.sizeOf0
 v0 := Tryz.zeroValue0
 t3 := Tryz.underlying3
 a3 := Tryz.isAgg3
 z3 := Tryz.sizeOf3
 v3 := Tryz.zeroValue3
 t9 := Tryz.underlying9
 a9 := Tryz.isAgg9
 z9 := Tryz.sizeOf9
 v9 := Tryz.zeroValue9
 t37 := Tryz.underlying23
 a37 := Tryz.isAgg23
 z37 := Tryz.sizeOf23
 v37 := Tryz.zeroValue23
 t70 := Tryz.underlying173
 a70 := Tryz.isAgg173
 z70 := Tryz.sizeOf173
 v70 := Tryz.zeroValue173
 t72 := Tryz.underlying175
 a72 := Tryz.isAgg175
 z72 := Tryz.sizeOf175
 v72 := Tryz.zeroValue175
 t127 := Tryz.underlying236
 a127 := Tryz.isAgg236
 z127 := Tryz.sizeOf236
 v127 := Tryz.zeroValue236 }
theorem Tryz.Builder_Extra_169 : Builder.Extra Tryz.prog Tryz.lays169_ren := {
 sizeBuilder := by kernel_rfl
 liesBuilder := by kernel_rfl
 t5 := Tryz.underlying5
 a5 := Tryz.isAgg5
 z5 := Tryz.sizeOf5
 v5 := Tryz.zeroValue5
 infoByte := by kernel_rfl
 cellsByte := by kernel_rfl
 sizeByte := by kernel_rfl
 neB5 := by decide }
open Go.RowKit in
theorem Tryz.Builder_String_any (B b : Nat) (l : List UInt8) (w : World) (h : Lib.IsBuilder 175 5 B b (Lib.byteCells l) w) (hBw : B ≤ w.heap.size) :
  Calls Tryz.prog 92 #[.pointer (some ⟨b, 0, none⟩)] w fun e w' => e = .returned (.string ⟨l.toArray⟩) ∧ Below B w w' := Any.Builder_String_any Tryz.lays169 Tryz.Builder_Extra_169 B b l w h hBw
def Tryz.lays156_ren : Go.Shelf.Ren := ⟨fun | 156 => 133 | 165 => 177 | 166 => 91 | 169 => 92 | 240 => 144 | 241 => 227 | 276 => 186 | 277 => 267 | n => n, fun | 31 => 35 | 9 => 9 | 3 => 3 | 4 => 4 | 0 => 0 | 20 => 20 | 72 => 175 | 76 => 180 | 70 => 173 | 37 => 23 | 75 => 179 | 127 => 236 | 164 => 275 | 5 => 5 | 80 => 134 | n => n, fun | n => n⟩
theorem Tryz.lays156 : Go.Proofs.Lays.n156 Tryz.prog Tryz.lays156_ren := {
 mixed := by kernel_rfl
 f156 := Tryz.func133.trans (congrArg some (by kernel_rfl))
 f165 := Tryz.func177.trans (congrArg some (by kernel_rfl))
 f166 := Tryz.func91.trans (congrArg some (by kernel_rfl))
 f169 := Tryz.func92.trans (congrArg some (by kernel_rfl))
 f240 := Tryz.func144.trans (congrArg some (by kernel_rfl))
 f241 := Tryz.func227.trans (congrArg some (by kernel_rfl))
 f276 := Tryz.func186.trans (congrArg some (by kernel_rfl))
 f277 := Tryz.func267.trans (congrArg some (by kernel_rfl))
 t0 := Tryz.underlying0
 a0 := Tryz.isAgg0
 z0 := Tryz.sizeOf0
 v0 := Tryz.zeroValue0
 t3 := Tryz.underlying3
 a3 := Tryz.isAgg3
 z3 := Tryz.sizeOf3
 v3 := Tryz.zeroValue3
 t4 := Tryz.underlying4
 a4 := Tryz.isAgg4
 z4 := Tryz.sizeOf4
 v4 := Tryz.zeroValue4
 t9 := Tryz.underlying9
 a9 := Tryz.isAgg9
 z9 := Tryz.sizeOf9
 v9 := Tryz.zeroValue9
 t20 := Tryz.underlying20
 a20 := Tryz.isAgg20
 z20 := Tryz.sizeOf20
 v20 := Tryz.zeroValue20
 t31 := Tryz.underlying35
 a31 := Tryz.isAgg35
 z31 := Tryz.sizeOf35
 v31 := Tryz.zeroValue35
 t37 := Tryz.underlying23
 a37 := Tryz.isAgg23
 z37 := Tryz.sizeOf23
 v37 := Tryz.zeroValue23
 t70 := Tryz.underlying173
 a70 := Tryz.isAgg173
 z70 := Tryz.sizeOf173
 v70 := Tryz.zeroValue173
 t72 := Tryz.underlying175
 a72 := Tryz.isAgg175
 z72 := Tryz.sizeOf175
 v72 := Tryz.zeroValue175
 t75 := Tryz.underlying179
 a75 := Tryz.isAgg179
 z75 := Tryz.sizeOf179
 v75 := Tryz.zeroValue179
 t76 := Tryz.underlying180
 a76 := Tryz.isAgg180
 z76 := Tryz.sizeOf180
 v76 := Tryz.zeroValue180
 t127 := Tryz.underlying236
 a127 := Tryz.isAgg236
 z127 := Tryz.sizeOf236
 v127 := Tryz.zeroValue236
 t164 := Tryz.underlying275
 a164 := Tryz.isAgg275
 z164 := Tryz.sizeOf275
 v164 := Tryz.zeroValue275 }
theorem Tryz.Builder_Extra_156 : Builder.Extra Tryz.prog Tryz.lays156_ren := {
 sizeBuilder := by kernel_rfl
 liesBuilder := by kernel_rfl
 t5 := Tryz.underlying5
 a5 := Tryz.isAgg5
 z5 := Tryz.sizeOf5
 v5 := Tryz.zeroValue5
 infoByte := by kernel_rfl
 cellsByte := by kernel_rfl
 sizeByte := by kernel_rfl
 neB5 := by decide }
open Go.RowKit in
theorem Tryz.strings_Join_none (a : Option Addr) (c : Nat) (sep : ByteArray) (w : World) :
  Calls Tryz.prog 133 #[.slice a 0 c, .string sep] w fun e w' => e = .returned (.string ⟨#[]⟩) ∧ w' = w := Any.strings_Join_none Tryz.lays156 Tryz.Builder_Extra_156 a c sep w
open Go.RowKit in
theorem Tryz.strings_Join (bk o c : Nat) (xs : List ByteArray) (sep : ByteArray) (w : World) (hcells : ∀ (j : Nat) x, xs[j]? = some x → w.cell? ⟨bk, o + j, none⟩ = some (.string x)) (hbk : bk < w.heap.size) (hN : xs.length ≤ 140737488355328) (hcap : xs.length ≤ c) (hlen : (Lib.join (xs.map (·.data.toList)) sep.data.toList).length ≤ 140737488355328) :
  Calls Tryz.prog 133 #[.slice (some ⟨bk, o, none⟩) xs.length c, .string sep] w fun e w' => e = .returned (.string ⟨(Lib.join (xs.map (·.data.toList)) sep.data.toList).toArray⟩) ∧ Below w.heap.size w w' := Any.strings_Join Tryz.lays156 Tryz.Builder_Extra_156 bk o c xs sep w hcells hbk hN hcap hlen
def Tryz.lays126_ren : Go.Shelf.Ren := ⟨fun | 126 => 217 | n => n, fun | 5 => 5 | 3 => 3 | 9 => 9 | n => n, fun | n => n⟩
theorem Tryz.lays126 : Go.Proofs.Lays.n126 Tryz.prog Tryz.lays126_ren := {
 mixed := by kernel_rfl
 f126 := Tryz.func217.trans (congrArg some (by kernel_rfl))
 t3 := Tryz.underlying3
 a3 := Tryz.isAgg3
 z3 := Tryz.sizeOf3
 v3 := Tryz.zeroValue3
 t5 := Tryz.underlying5
 a5 := Tryz.isAgg5
 z5 := Tryz.sizeOf5
 v5 := Tryz.zeroValue5
 t9 := Tryz.underlying9
 a9 := Tryz.isAgg9
 z9 := Tryz.sizeOf9
 v9 := Tryz.zeroValue9 }
theorem Tryz.bits_Len8 (x : Int) (w : World) (h0 : 0 ≤ x) (h1 : x ≤ 255) :
  Calls Tryz.prog 217 #[.int .u8 x] w fun e w' => e = .returned (.int .i64 (Lib.bitLen x.toNat)) ∧ w' = w := Any.bits_Len8 Tryz.lays126 x w h0 h1
def Tryz.lays106_ren : Go.Shelf.Ren := ⟨fun | 106 => 137 | 213 => 178 | 265 => 228 | n => n, fun | 9 => 9 | 3 => 3 | n => n, fun | n => n⟩
theorem Tryz.lays106 : Go.Proofs.Lays.n106 Tryz.prog Tryz.lays106_ren := {
 mixed := by kernel_rfl
 f106 := Tryz.func137.trans (congrArg some (by kernel_rfl))
 f213 := Tryz.func178.trans (congrArg some (by kernel_rfl))
 f265 := Tryz.func228.trans (congrArg some (by kernel_rfl))
 t3 := Tryz.underlying3
 a3 := Tryz.isAgg3
 z3 := Tryz.sizeOf3
 v3 := Tryz.zeroValue3
 t9 := Tryz.underlying9
 a9 := Tryz.isAgg9
 z9 := Tryz.sizeOf9
 v9 := Tryz.zeroValue9 }
open Go.RowKit in
theorem Tryz.strings_Compare (a b : ByteArray) (w : World) :
  Calls Tryz.prog 137 #[.string a, .string b] w fun e w' => e = .returned (.int .i64 (Lib.compareBytes a.data.toList b.data.toList)) ∧ w' = w := Any.strings_Compare Tryz.lays106 a b w
def Tryz.lays137_ren : Go.Shelf.Ren := ⟨fun | 137 => 153 | 217 => 198 | 266 => 244 | n => n, fun | 9 => 9 | 5 => 5 | 3 => 3 | n => n, fun | n => n⟩
theorem Tryz.lays137 : Go.Proofs.Lays.n137 Tryz.prog Tryz.lays137_ren := {
 mixed := by kernel_rfl
 f137 := Tryz.func153.trans (congrArg some (by kernel_rfl))
 f217 := Tryz.func198.trans (congrArg some (by kernel_rfl))
 f266 := Tryz.func244.trans (congrArg some (by kernel_rfl))
 t3 := Tryz.underlying3
 a3 := Tryz.isAgg3
 z3 := Tryz.sizeOf3
 v3 := Tryz.zeroValue3
 t5 := Tryz.underlying5
 a5 := Tryz.isAgg5
 z5 := Tryz.sizeOf5
 v5 := Tryz.zeroValue5
 t9 := Tryz.underlying9
 a9 := Tryz.isAgg9
 z9 := Tryz.sizeOf9
 v9 := Tryz.zeroValue9 }
open Go.RowKit in
theorem Tryz.strings_IndexByte (s : ByteArray) (c : Int) (w : World) :
  Calls Tryz.prog 153 #[.string s, .int .u8 c] w fun e w' => e = .returned (.int .i64 (Lib.indexByte s.data.toList c.toNat.toUInt8)) ∧ w' = w := Any.strings_IndexByte Tryz.lays137 s c w
def Tryz.laysM171_ren : Go.Shelf.Ren := ⟨fun | 171 => 34 | 243 => 86 | 246 => 140 | 283 => 182 | 284 => 183 | 285 => 184 | 286 => 185 | 129 => 231 | 317 => 230 | 318 => 232 | 319 => 233 | 320 => 234 | 337 => 269 | 338 => 270 | n => n, fun | 3 => 3 | 9 => 9 | 2 => 2 | 4 => 4 | 171 => 270 | 0 => 0 | 53 => 177 | 37 => 23 | 5 => 5 | 173 => 273 | 212 => 313 | 51 => 238 | 20 => 20 | 213 => 314 | 46 => 185 | 232 => 106 | 233 => 356 | n => n, fun | 17 => 1 | 18 => 6 | 19 => 7 | n => n⟩
theorem Tryz.laysM171 : Go.Proofs.LaysM.n171 Tryz.prog Tryz.laysM171_ren := {
 mixed := by kernel_rfl
 f129 := Tryz.func231.trans (congrArg some (by kernel_rfl))
 f171 := Tryz.func34.trans (congrArg some (by kernel_rfl))
 f243 := Tryz.func86.trans (congrArg some (by kernel_rfl))
 f246 := Tryz.func140.trans (congrArg some (by kernel_rfl))
 f283 := Tryz.func182.trans (congrArg some (by kernel_rfl))
 f284 := Tryz.func183.trans (congrArg some (by kernel_rfl))
 f285 := Tryz.func184.trans (congrArg some (by kernel_rfl))
 f286 := Tryz.func185.trans (congrArg some (by kernel_rfl))
 f317 := Tryz.func230.trans (congrArg some (by kernel_rfl))
 f318 := Tryz.func232.trans (congrArg some (by kernel_rfl))
 f319 := Tryz.func233.trans (congrArg some (by kernel_rfl))
 f320 := Tryz.func234.trans (congrArg some (by kernel_rfl))
 f337 := Tryz.func269.trans (congrArg some (by kernel_rfl))
 f338 := Tryz.func270.trans (congrArg some (by kernel_rfl))
 t0 := Tryz.underlying0
 a0 := Tryz.isAgg0
 z0 := Tryz.sizeOf0
 v0 := Tryz.zeroValue0
 t2 := Tryz.underlying2
 a2 := Tryz.isAgg2
 z2 := Tryz.sizeOf2
 v2 := Tryz.zeroValue2
 t3 := Tryz.underlying3
 a3 := Tryz.isAgg3
 z3 := Tryz.sizeOf3
 v3 := Tryz.zeroValue3
 t4 := Tryz.underlying4
 a4 := Tryz.isAgg4
 z4 := Tryz.sizeOf4
 v4 := Tryz.zeroValue4
 t5 := Tryz.underlying5
 a5 := Tryz.isAgg5
 z5 := Tryz.sizeOf5
 v5 := Tryz.zeroValue5
 t9 := Tryz.underlying9
 a9 := Tryz.isAgg9
 z9 := Tryz.sizeOf9
 v9 := Tryz.zeroValue9
 t20 := Tryz.underlying20
 a20 := Tryz.isAgg20
 z20 := Tryz.sizeOf20
 v20 := Tryz.zeroValue20
 t37 := Tryz.underlying23
 a37 := Tryz.isAgg23
 z37 := Tryz.sizeOf23
 v37 := Tryz.zeroValue23
 t46 := Tryz.underlying185
 a46 := Tryz.isAgg185
 z46 := Tryz.sizeOf185
 v46 := Tryz.zeroValue185
 t51 := Tryz.underlying238
 a51 := Tryz.isAgg238
 z51 := Tryz.sizeOf238
 v51 := Tryz.zeroValue238
 t53 := Tryz.underlying177
 a53 := Tryz.isAgg177
 z53 := Tryz.sizeOf177
 v53 := Tryz.zeroValue177
 t171 := Tryz.underlying270
 a171 := Tryz.isAgg270
 z171 := Tryz.sizeOf270
 v171 := Tryz.zeroValue270
 t173 := Tryz.underlying273
 a173 := Tryz.isAgg273
 z173 := Tryz.sizeOf273
 v173 := Tryz.zeroValue273
 t212 := Tryz.underlying313
 a212 := Tryz.isAgg313
 z212 := Tryz.sizeOf313
 v212 := Tryz.zeroValue313
 t213 := Tryz.underlying314
 a213 := Tryz.isAgg314
 z213 := Tryz.sizeOf314
 t232 := Tryz.underlying106
 a232 := Tryz.isAgg106
 z232 := Tryz.sizeOf106
 v232 := Tryz.zeroValue106
 t233 := Tryz.underlying356
 a233 := Tryz.isAgg356
 z233 := Tryz.sizeOf356
 v233 := Tryz.zeroValue356
 g17 := by kernel_rfl
 g18 := by kernel_rfl
 g19 := by kernel_rfl
 i0 := by kernel_rfl
 i2 := by kernel_rfl
 i3 := by kernel_rfl
 i4 := by kernel_rfl
 i5 := by kernel_rfl
 i9 := by kernel_rfl
 i20 := by kernel_rfl
 i37 := by kernel_rfl
 i46 := by kernel_rfl
 i51 := by kernel_rfl
 i53 := by kernel_rfl
 i171 := by kernel_rfl
 i173 := by kernel_rfl
 i212 := by kernel_rfl
 i232 := by kernel_rfl
 i233 := by kernel_rfl
 m17 := by kernel_rfl
 m18 := by kernel_rfl
 m19 := by kernel_rfl }
open Go.RowKit Go.Sort Go.Lib in
theorem Tryz.strconv_Itoa (n : Int) (h0 : -9223372036854775808 ≤ n) (h1 : n ≤ 9223372036854775807) (w : World) (htab : Lib.TabIs Tryz.prog w "internal/strconv.uint64pow10" .u64 Lib.pow10Tab) :
  Calls Tryz.prog 34 #[.int .i64 n] w fun e w' => e = .returned (.string ⟨(Lib.itoa n).toArray⟩) ∧ ∃ k os, w' = grow (w.drewN k) os := Any.strconv_Itoa Tryz.laysM171 n h0 h1 w htab
def Tryz.laysC172_ren : Go.Shelf.Ren := ⟨fun | 172 => 151 | 244 => 196 | 245 => 197 | 247 => 239 | 279 => 240 | 280 => 241 | 281 => 242 | 282 => 243 | 287 => 273 | 316 => 274 | 171 => 34 | 205 => 275 | 321 => 290 | 322 => 291 | 243 => 86 | 246 => 140 | 283 => 182 | 284 => 183 | 285 => 184 | 286 => 185 | 129 => 231 | 317 => 230 | 318 => 232 | 319 => 233 | 320 => 234 | 337 => 269 | 338 => 270 | n => n, fun | 9 => 9 | 3 => 3 | 75 => 179 | 76 => 180 | 4 => 4 | 5 => 5 | 167 => 318 | 37 => 23 | 0 => 0 | 85 => 319 | 2 => 2 | 168 => 321 | 53 => 177 | 175 => 341 | 46 => 185 | 210 => 344 | 127 => 236 | 145 => 361 | 143 => 359 | 21 => 21 | 171 => 270 | 173 => 273 | 212 => 313 | 51 => 238 | 20 => 20 | 213 => 314 | 232 => 106 | 233 => 356 | 80 => 134 | n => n, fun | 15 => 2 | 16 => 3 | 17 => 1 | 18 => 6 | 19 => 7 | n => n⟩
theorem Tryz.laysC172 : Go.Proofs.LaysC.n172 Tryz.prog Tryz.laysC172_ren := {
 mixed := by kernel_rfl
 f129 := Tryz.func231.trans (congrArg some (by kernel_rfl))
 f171 := Tryz.func34.trans (congrArg some (by kernel_rfl))
 f172 := Tryz.func151.trans (congrArg some (by kernel_rfl))
 f205 := Tryz.func275.trans (congrArg some (by kernel_rfl))
 f243 := Tryz.func86.trans (congrArg some (by kernel_rfl))
 f244 := Tryz.func196.trans (congrArg some (by kernel_rfl))
 f245 := Tryz.func197.trans (congrArg some (by kernel_rfl))
 f246 := Tryz.func140.trans (congrArg some (by kernel_rfl))
 f247 := Tryz.func239.trans (congrArg some (by kernel_rfl))
 f279 := Tryz.func240.trans (congrArg some (by kernel_rfl))
 f280 := Tryz.func241.trans (congrArg some (by kernel_rfl))
 f281 := Tryz.func242.trans (congrArg some (by kernel_rfl))
 f282 := Tryz.func243.trans (congrArg some (by kernel_rfl))
 f283 := Tryz.func182.trans (congrArg some (by kernel_rfl))
 f284 := Tryz.func183.trans (congrArg some (by kernel_rfl))
 f285 := Tryz.func184.trans (congrArg some (by kernel_rfl))
 f286 := Tryz.func185.trans (congrArg some (by kernel_rfl))
 f287 := Tryz.func273.trans (congrArg some (by kernel_rfl))
 f316 := Tryz.func274.trans (congrArg some (by kernel_rfl))
 f317 := Tryz.func230.trans (congrArg some (by kernel_rfl))
 f318 := Tryz.func232.trans (congrArg some (by kernel_rfl))
 f319 := Tryz.func233.trans (congrArg some (by kernel_rfl))
 f320 := Tryz.func234.trans (congrArg some (by kernel_rfl))
 f321 := Tryz.func290.trans (congrArg some (by kernel_rfl))
 f322 := Tryz.func291.trans (congrArg some (by kernel_rfl))
 f337 := Tryz.func269.trans (congrArg some (by kernel_rfl))
 f338 := Tryz.func270.trans (congrArg some (by kernel_rfl))
 t0 := Tryz.underlying0
 a0 := Tryz.isAgg0
 z0 := Tryz.sizeOf0
 v0 := Tryz.zeroValue0
 t2 := Tryz.underlying2
 a2 := Tryz.isAgg2
 z2 := Tryz.sizeOf2
 v2 := Tryz.zeroValue2
 t3 := Tryz.underlying3
 a3 := Tryz.isAgg3
 z3 := Tryz.sizeOf3
 v3 := Tryz.zeroValue3
 t4 := Tryz.underlying4
 a4 := Tryz.isAgg4
 z4 := Tryz.sizeOf4
 v4 := Tryz.zeroValue4
 t5 := Tryz.underlying5
 a5 := Tryz.isAgg5
 z5 := Tryz.sizeOf5
 v5 := Tryz.zeroValue5
 t9 := Tryz.underlying9
 a9 := Tryz.isAgg9
 z9 := Tryz.sizeOf9
 v9 := Tryz.zeroValue9
 t20 := Tryz.underlying20
 a20 := Tryz.isAgg20
 z20 := Tryz.sizeOf20
 v20 := Tryz.zeroValue20
 t21 := Tryz.underlying21
 a21 := Tryz.isAgg21
 z21 := Tryz.sizeOf21
 v21 := Tryz.zeroValue21
 t37 := Tryz.underlying23
 a37 := Tryz.isAgg23
 z37 := Tryz.sizeOf23
 v37 := Tryz.zeroValue23
 t46 := Tryz.underlying185
 a46 := Tryz.isAgg185
 z46 := Tryz.sizeOf185
 v46 := Tryz.zeroValue185
 t51 := Tryz.underlying238
 a51 := Tryz.isAgg238
 z51 := Tryz.sizeOf238
 v51 := Tryz.zeroValue238
 t53 := Tryz.underlying177
 a53 := Tryz.isAgg177
 z53 := Tryz.sizeOf177
 v53 := Tryz.zeroValue177
 t75 := Tryz.underlying179
 a75 := Tryz.isAgg179
 z75 := Tryz.sizeOf179
 v75 := Tryz.zeroValue179
 t76 := Tryz.underlying180
 a76 := Tryz.isAgg180
 z76 := Tryz.sizeOf180
 v76 := Tryz.zeroValue180
 t85 := Tryz.underlying319
 a85 := Tryz.isAgg319
 z85 := Tryz.sizeOf319
 v85 := Tryz.zeroValue319
 t127 := Tryz.underlying236
 a127 := Tryz.isAgg236
 z127 := Tryz.sizeOf236
 v127 := Tryz.zeroValue236
 t143 := Tryz.underlying359
 a143 := Tryz.isAgg359
 z143 := Tryz.sizeOf359
 v143 := Tryz.zeroValue359
 t145 := Tryz.underlying361
 a145 := Tryz.isAgg361
 z145 := Tryz.sizeOf361
 v145 := Tryz.zeroValue361
 t167 := Tryz.underlying318
 a167 := Tryz.isAgg318
 z167 := Tryz.sizeOf318
 v167 := Tryz.zeroValue318
 t168 := Tryz.underlying321
 a168 := Tryz.isAgg321
 z168 := Tryz.sizeOf321
 v168 := Tryz.zeroValue321
 t171 := Tryz.underlying270
 a171 := Tryz.isAgg270
 z171 := Tryz.sizeOf270
 v171 := Tryz.zeroValue270
 t173 := Tryz.underlying273
 a173 := Tryz.isAgg273
 z173 := Tryz.sizeOf273
 v173 := Tryz.zeroValue273
 t175 := Tryz.underlying341
 a175 := Tryz.isAgg341
 z175 := Tryz.sizeOf341
 v175 := Tryz.zeroValue341
 t210 := Tryz.underlying344
 a210 := Tryz.isAgg344
 z210 := Tryz.sizeOf344
 v210 := Tryz.zeroValue344
 t212 := Tryz.underlying313
 a212 := Tryz.isAgg313
 z212 := Tryz.sizeOf313
 v212 := Tryz.zeroValue313
 t213 := Tryz.underlying314
 a213 := Tryz.isAgg314
 z213 := Tryz.sizeOf314
 t232 := Tryz.underlying106
 a232 := Tryz.isAgg106
 z232 := Tryz.sizeOf106
 v232 := Tryz.zeroValue106
 t233 := Tryz.underlying356
 a233 := Tryz.isAgg356
 z233 := Tryz.sizeOf356
 v233 := Tryz.zeroValue356
 g15 := by kernel_rfl
 g16 := by kernel_rfl
 g17 := by kernel_rfl
 g18 := by kernel_rfl
 g19 := by kernel_rfl
 t80 := Tryz.underlying134
 a80 := Tryz.isAgg134
 z80 := Tryz.sizeOf134
 v80 := Tryz.zeroValue134
 i0 := by kernel_rfl
 i2 := by kernel_rfl
 i3 := by kernel_rfl
 i4 := by kernel_rfl
 i5 := by kernel_rfl
 i9 := by kernel_rfl
 i20 := by kernel_rfl
 i21 := by kernel_rfl
 i37 := by kernel_rfl
 i46 := by kernel_rfl
 i51 := by kernel_rfl
 i53 := by kernel_rfl
 i75 := by kernel_rfl
 i76 := by kernel_rfl
 i80 := by kernel_rfl
 i85 := by kernel_rfl
 i127 := by kernel_rfl
 i143 := by kernel_rfl
 i145 := by kernel_rfl
 i167 := by kernel_rfl
 i168 := by kernel_rfl
 i171 := by kernel_rfl
 i173 := by kernel_rfl
 i175 := by kernel_rfl
 i210 := by kernel_rfl
 i212 := by kernel_rfl
 i232 := by kernel_rfl
 i233 := by kernel_rfl
 m15 := by kernel_rfl
 m16 := by kernel_rfl
 m17 := by kernel_rfl
 m18 := by kernel_rfl
 m19 := by kernel_rfl
 c0 := by kernel_rfl
 c2 := by kernel_rfl
 c3 := by kernel_rfl
 c4 := by kernel_rfl
 c5 := by kernel_rfl
 c9 := by kernel_rfl
 c20 := by kernel_rfl
 c21 := by kernel_rfl
 c37 := by kernel_rfl
 c46 := by kernel_rfl
 c51 := by kernel_rfl
 c53 := by kernel_rfl
 c75 := by kernel_rfl
 c76 := by kernel_rfl
 c80 := by kernel_rfl
 c85 := by kernel_rfl
 c127 := by kernel_rfl
 c143 := by kernel_rfl
 c145 := by kernel_rfl
 c167 := by kernel_rfl
 c168 := by kernel_rfl
 c171 := by kernel_rfl
 c173 := by kernel_rfl
 c175 := by kernel_rfl
 c210 := by kernel_rfl
 c212 := by kernel_rfl
 c213 := by kernel_rfl
 c232 := by kernel_rfl
 c233 := by kernel_rfl }
open Go.RowKit in
theorem Tryz.strconv_Atoi_ok (s : ByteArray) (hmax : s.size ≤ 9223372036854775806) (v : Int) (h : Lib.atoiAll s.data.toList = .ok v) (w : World) :
  Calls Tryz.prog 151 #[.string s] w fun e w' => e = .returned (.tuple #[.int .i64 v, .nilIface]) ∧ (w' = w ∨ ∃ t, w' = Lib.bytesWorld w 5 t) := Any.strconv_Atoi_ok Tryz.laysC172 s hmax v h w
def Tryz.lays102_ren : Go.Shelf.Ren := ⟨fun | 102 => 154 | 209 => 199 | 207 => 245 | n => n, fun | 9 => 9 | 4 => 4 | 3 => 3 | n => n, fun | n => n⟩
theorem Tryz.lays102 : Go.Proofs.Lays.n102 Tryz.prog Tryz.lays102_ren := {
 mixed := by kernel_rfl
 f102 := Tryz.func154.trans (congrArg some (by kernel_rfl))
 f207 := Tryz.func245.trans (congrArg some (by kernel_rfl))
 f209 := Tryz.func199.trans (congrArg some (by kernel_rfl))
 t3 := Tryz.underlying3
 a3 := Tryz.isAgg3
 z3 := Tryz.sizeOf3
 v3 := Tryz.zeroValue3
 t4 := Tryz.underlying4
 a4 := Tryz.isAgg4
 z4 := Tryz.sizeOf4
 v4 := Tryz.zeroValue4
 t9 := Tryz.underlying9
 a9 := Tryz.isAgg9
 z9 := Tryz.sizeOf9
 v9 := Tryz.zeroValue9 }
open Go.RowKit Go.Lib in
theorem Tryz.strings_TrimSuffix (s p : ByteArray) (w : World) (hs : s.size ≤ 9223372036854775807) :
  Calls Tryz.prog 154 #[.string s, .string p] w fun e w' => e = .returned (.string ⟨(Lib.trimSuffix s.data.toList p.data.toList).toArray⟩) ∧ w' = w := Any.strings_TrimSuffix Tryz.lays102 s p w hs
def Tryz.lays146_ren : Go.Shelf.Ren := ⟨fun | 146 => 75 | 221 => 132 | 268 => 174 | 138 => 175 | 143 => 176 | 195 => 223 | 197 => 224 | 218 => 225 | 219 => 226 | 260 => 263 | 217 => 198 | 225 => 264 | 224 => 265 | 267 => 266 | 266 => 244 | 314 => 288 | n => n, fun | 9 => 9 | 31 => 35 | 3 => 3 | 4 => 4 | 0 => 0 | 105 => 310 | 21 => 21 | 5 => 5 | 46 => 185 | 119 => 350 | 139 => 353 | 138 => 352 | 146 => 354 | 51 => 238 | n => n, fun | 1 => 0 | 3 => 4 | 4 => 5 | n => n⟩
theorem Tryz.lays146 : Go.Proofs.Lays.n146 Tryz.prog Tryz.lays146_ren := {
 mixed := by kernel_rfl
 f138 := Tryz.func175.trans (congrArg some (by kernel_rfl))
 f143 := Tryz.func176.trans (congrArg some (by kernel_rfl))
 f146 := Tryz.func75.trans (congrArg some (by kernel_rfl))
 f195 := Tryz.func223.trans (congrArg some (by kernel_rfl))
 f197 := Tryz.func224.trans (congrArg some (by kernel_rfl))
 f217 := Tryz.func198.trans (congrArg some (by kernel_rfl))
 f218 := Tryz.func225.trans (congrArg some (by kernel_rfl))
 f219 := Tryz.func226.trans (congrArg some (by kernel_rfl))
 f221 := Tryz.func132.trans (congrArg some (by kernel_rfl))
 f224 := Tryz.func265.trans (congrArg some (by kernel_rfl))
 f225 := Tryz.func264.trans (congrArg some (by kernel_rfl))
 f260 := Tryz.func263.trans (congrArg some (by kernel_rfl))
 f266 := Tryz.func244.trans (congrArg some (by kernel_rfl))
 f267 := Tryz.func266.trans (congrArg some (by kernel_rfl))
 f268 := Tryz.func174.trans (congrArg some (by kernel_rfl))
 f314 := Tryz.func288.trans (congrArg some (by kernel_rfl))
 t0 := Tryz.underlying0
 a0 := Tryz.isAgg0
 z0 := Tryz.sizeOf0
 v0 := Tryz.zeroValue0
 t3 := Tryz.underlying3
 a3 := Tryz.isAgg3
 z3 := Tryz.sizeOf3
 v3 := Tryz.zeroValue3
 t4 := Tryz.underlying4
 a4 := Tryz.isAgg4
 z4 := Tryz.sizeOf4
 v4 := Tryz.zeroValue4
 t5 := Tryz.underlying5
 a5 := Tryz.isAgg5
 z5 := Tryz.sizeOf5
 v5 := Tryz.zeroValue5
 t9 := Tryz.underlying9
 a9 := Tryz.isAgg9
 z9 := Tryz.sizeOf9
 v9 := Tryz.zeroValue9
 t21 := Tryz.underlying21
 a21 := Tryz.isAgg21
 z21 := Tryz.sizeOf21
 v21 := Tryz.zeroValue21
 t31 := Tryz.underlying35
 a31 := Tryz.isAgg35
 z31 := Tryz.sizeOf35
 v31 := Tryz.zeroValue35
 t46 := Tryz.underlying185
 a46 := Tryz.isAgg185
 z46 := Tryz.sizeOf185
 v46 := Tryz.zeroValue185
 t51 := Tryz.underlying238
 a51 := Tryz.isAgg238
 z51 := Tryz.sizeOf238
 v51 := Tryz.zeroValue238
 t105 := Tryz.underlying310
 a105 := Tryz.isAgg310
 z105 := Tryz.sizeOf310
 v105 := Tryz.zeroValue310
 t119 := Tryz.underlying350
 a119 := Tryz.isAgg350
 z119 := Tryz.sizeOf350
 t138 := Tryz.underlying352
 a138 := Tryz.isAgg352
 z138 := Tryz.sizeOf352
 v138 := Tryz.zeroValue352
 t139 := Tryz.underlying353
 a139 := Tryz.isAgg353
 z139 := Tryz.sizeOf353
 v139 := Tryz.zeroValue353
 t146 := Tryz.underlying354
 a146 := Tryz.isAgg354
 z146 := Tryz.sizeOf354
 v146 := Tryz.zeroValue354
 g1 := by kernel_rfl
 g3 := by kernel_rfl
 g4 := by kernel_rfl }
open Go.RowKit Go.Lib in
theorem Tryz.strings_Split (s sep : ByteArray) (m : Int) (w : World) (hs : s.size < 4294967281) (hm : w.cell? ⟨0, 0, none⟩ = some (.int .i64 m)) (h1 : 1 ≤ sep.size) :
  Calls Tryz.prog 75 #[.string s, .string sep] w fun e w' =>
   e = .returned (.slice (some ⟨w.heap.size, 0, none⟩) (Lib.countB s sep + 1) (Lib.countB s sep + 1)) ∧ w' = w.alloc (.cells ((Lib.splitB sep 0 (Lib.countB s sep) s).map Value.string).toArray 9) := Any.strings_Split Tryz.lays146 (by kernel_rfl) s sep m w hs hm h1
def Tryz.lays227_ren : Go.Shelf.Ren := ⟨fun | 227 => 189 | n => n, fun | 9 => 9 | 116 => 279 | 4 => 4 | 0 => 0 | 3 => 3 | 5 => 5 | n => n, fun | n => n⟩
theorem Tryz.lays227 : Go.Proofs.Lays.n227 Tryz.prog Tryz.lays227_ren := {
 mixed := by kernel_rfl
 f227 := Tryz.func189.trans (congrArg some (by kernel_rfl))
 t0 := Tryz.underlying0
 a0 := Tryz.isAgg0
 z0 := Tryz.sizeOf0
 v0 := Tryz.zeroValue0
 t3 := Tryz.underlying3
 a3 := Tryz.isAgg3
 z3 := Tryz.sizeOf3
 v3 := Tryz.zeroValue3
 t4 := Tryz.underlying4
 a4 := Tryz.isAgg4
 z4 := Tryz.sizeOf4
 v4 := Tryz.zeroValue4
 t5 := Tryz.underlying5
 a5 := Tryz.isAgg5
 z5 := Tryz.sizeOf5
 v5 := Tryz.zeroValue5
 t9 := Tryz.underlying9
 a9 := Tryz.isAgg9
 z9 := Tryz.sizeOf9
 v9 := Tryz.zeroValue9
 t116 := Tryz.underlying279
 a116 := Tryz.isAgg279
 z116 := Tryz.sizeOf279 }
open Go.RowKit Go.Lib in
theorem Tryz.strings_makeASCIISet (hv116 : ∀ w, (zeroValue 279).run Tryz.prog w = .ok (.agg (Array.replicate 256 (.bool false))) w) (chars : ByteArray) (w : World) (hs : chars.size < 4294967281) (hascii : ∀ (j : Nat) b, chars.data.toList[j]? = some b → b.toNat < 128) :
  Calls Tryz.prog 189 #[.string chars] w fun e w' => e = .returned (.tuple #[.agg (Lib.setCells chars.data.toList), .bool true]) ∧ w' = w.alloc (.cells (Lib.setCells chars.data.toList) 279) := Any.strings_makeASCIISet Tryz.lays227 hv116 (by kernel_rfl) chars w hs hascii
def Tryz.lays228_ren : Go.Shelf.Ren := ⟨fun | 228 => 235 | n => n, fun | 124 => 283 | 5 => 5 | 4 => 4 | 0 => 0 | 116 => 279 | n => n, fun | n => n⟩
theorem Tryz.lays228 : Go.Proofs.Lays.n228 Tryz.prog Tryz.lays228_ren := {
 mixed := by kernel_rfl
 f228 := Tryz.func235.trans (congrArg some (by kernel_rfl))
 t0 := Tryz.underlying0
 a0 := Tryz.isAgg0
 z0 := Tryz.sizeOf0
 v0 := Tryz.zeroValue0
 t4 := Tryz.underlying4
 a4 := Tryz.isAgg4
 z4 := Tryz.sizeOf4
 v4 := Tryz.zeroValue4
 t5 := Tryz.underlying5
 a5 := Tryz.isAgg5
 z5 := Tryz.sizeOf5
 v5 := Tryz.zeroValue5
 t116 := Tryz.underlying279
 a116 := Tryz.isAgg279
 z116 := Tryz.sizeOf279
 t124 := Tryz.underlying283
 a124 := Tryz.isAgg283
 z124 := Tryz.sizeOf283
 v124 := Tryz.zeroValue283 }
open Go.RowKit Go.Lib in
theorem Tryz.asciiSet_contains (b : Nat) (x : UInt8) (v : Bool) (w : World) (hc : w.cell? ⟨b, x.toNat, none⟩ = some (.bool v)) :
  Calls Tryz.prog 235 #[.pointer (some ⟨b, 0, none⟩), .int .u8 x.toNat] w fun e w' => e = .returned (.bool v) ∧ w' = w := Any.asciiSet_contains Tryz.lays228 b x v w hc
def Tryz.lays193_ren : Go.Shelf.Ren := ⟨fun | 193 => 51 | n => n, fun | 31 => 35 | 9 => 9 | 4 => 4 | 3 => 3 | 0 => 0 | n => n, fun | n => n⟩
theorem Tryz.lays193 : Go.Proofs.Lays.n193 Tryz.prog Tryz.lays193_ren := {
 mixed := by kernel_rfl
 f193 := Tryz.func51.trans (congrArg some (by kernel_rfl))
 t0 := Tryz.underlying0
 a0 := Tryz.isAgg0
 z0 := Tryz.sizeOf0
 v0 := Tryz.zeroValue0
 t3 := Tryz.underlying3
 a3 := Tryz.isAgg3
 z3 := Tryz.sizeOf3
 v3 := Tryz.zeroValue3
 t4 := Tryz.underlying4
 a4 := Tryz.isAgg4
 z4 := Tryz.sizeOf4
 v4 := Tryz.zeroValue4
 t9 := Tryz.underlying9
 a9 := Tryz.isAgg9
 z9 := Tryz.sizeOf9
 v9 := Tryz.zeroValue9
 t31 := Tryz.underlying35
 a31 := Tryz.isAgg35
 z31 := Tryz.sizeOf35
 v31 := Tryz.zeroValue35 }
open Go.RowKit Go.Lib in
theorem Tryz.slices_Equal_string (b1 o1 n c b2 o2 m d : Nat) (xs ys : List ByteArray) (w : World) (hx : n ≤ xs.length) (hy : m ≤ ys.length) (hbig : n ≤ 9223372036854775807) (hbig2 : m ≤ 9223372036854775807) (hc1 : ∀ j, j < xs.length → w.cell? ⟨b1, o1 + j, none⟩ = some (.string (xs.getD j ByteArray.empty))) (hc2 : ∀ j, j < ys.length → w.cell? ⟨b2, o2 + j, none⟩ = some (.string (ys.getD j ByteArray.empty))) :
  Calls Tryz.prog 51 #[.slice (some ⟨b1, o1, none⟩) n c, .slice (some ⟨b2, o2, none⟩) m d] w fun e w' => e = .returned (.bool (decide (xs.take n = ys.take m))) ∧ ∃ q, w' = w.drewN q := Any.slices_Equal_string Tryz.lays193 b1 o1 n c b2 o2 m d xs ys w hx hy hbig hbig2 hc1 hc2
def Tryz.laysSlE041_f41_ren : Go.Shelf.Ren := ⟨fun | 41 => 41 | n => n, fun | 22 => 35 | 23 => 9 | 4 => 4 | n => n, fun | n => n⟩
theorem Tryz.laysSlE041_f41 : Go.Proofs.SlLaysE0.n41 Tryz.prog Tryz.laysSlE041_f41_ren := {
 mixed := by kernel_rfl
 f41 := ⟨Tryz.f41.name, by decide, Tryz.func41.trans (congrArg some (by kernel_rfl))⟩
 t4 := Tryz.underlying4
 a4 := Tryz.isAgg4
 z4 := Tryz.sizeOf4
 v4 := Tryz.zeroValue4
 t22 := Tryz.underlying35
 a22 := Tryz.isAgg35
 z22 := Tryz.sizeOf35
 v22 := Tryz.zeroValue35 }
open Go.RowKit Go.Lib in
theorem Tryz.slices_Clone_f41 (i0 : TypeInfo) (z : Value) (size bytes : Nat) (hi : Tryz.prog.info? 9 = some i0) (hz0 : i0.zero = some z) (hz1 : i0.size = size) (hz2 : i0.bytes = bytes) (hzs : z.cells.size = size) (hsz : 0 < size) (z23 : ∀ w, (Go.sizeOf 9).run Tryz.prog w = .ok size w) (b off n c : Nat) (news : List Value) (w : World) (hl : news.length = n * size) (hn : n ≤ maxLen) (hbig : n * bytes ≤ 140737488355328) (hc : ∀ j u, news[j]? = some u → w.cell? ⟨b, off + j, none⟩ = some u) (h1 : ∀ u ∈ news, u.oneCell' = true) :
  Calls Tryz.prog 41 #[.slice (some ⟨b, off, none⟩) n c] w fun e w' => ∃ v', e = .returned v' ∧ w'.ownsRow w.heap.size 9 size v' n news ∧ v' ≠ .slice none 0 0 ∧ Below w.heap.size w w' := AnyE.slices_Clone Tryz.laysSlE041_f41 i0 z size bytes hi hz0 hz1 hz2 hzs hsz z23 b off n c news w hl hn hbig hc h1
def Tryz.laysSlE041_f42_ren : Go.Shelf.Ren := ⟨fun | 41 => 42 | n => n, fun | 22 => 37 | 23 => 4 | 4 => 4 | n => n, fun | n => n⟩
theorem Tryz.laysSlE041_f42 : Go.Proofs.SlLaysE0.n41 Tryz.prog Tryz.laysSlE041_f42_ren := {
 mixed := by kernel_rfl
 f41 := ⟨Tryz.f42.name, by decide, Tryz.func42.trans (congrArg some (by kernel_rfl))⟩
 t4 := Tryz.underlying4
 a4 := Tryz.isAgg4
 z4 := Tryz.sizeOf4
 v4 := Tryz.zeroValue4
 t22 := Tryz.underlying37
 a22 := Tryz.isAgg37
 z22 := Tryz.sizeOf37
 v22 := Tryz.zeroValue37 }
open Go.RowKit Go.Lib in
theorem Tryz.slices_Clone_f42 (i0 : TypeInfo) (z : Value) (size bytes : Nat) (hi : Tryz.prog.info? 4 = some i0) (hz0 : i0.zero = some z) (hz1 : i0.size = size) (hz2 : i0.bytes = bytes) (hzs : z.cells.size = size) (hsz : 0 < size) (z23 : ∀ w, (Go.sizeOf 4).run Tryz.prog w = .ok size w) (b off n c : Nat) (news : List Value) (w : World) (hl : news.length = n * size) (hn : n ≤ maxLen) (hbig : n * bytes ≤ 140737488355328) (hc : ∀ j u, news[j]? = some u → w.cell? ⟨b, off + j, none⟩ = some u) (h1 : ∀ u ∈ news, u.oneCell' = true) :
  Calls Tryz.prog 42 #[.slice (some ⟨b, off, none⟩) n c] w fun e w' => ∃ v', e = .returned v' ∧ w'.ownsRow w.heap.size 4 size v' n news ∧ v' ≠ .slice none 0 0 ∧ Below w.heap.size w w' := AnyE.slices_Clone Tryz.laysSlE041_f42 i0 z size bytes hi hz0 hz1 hz2 hzs hsz z23 b off n c news w hl hn hbig hc h1
end Go.Proofs
/-
  Contracts of strings.Builder's WriteByte and WriteString at this program, out of the kit's shelf.
-/
namespace Go.Proofs
open Go.Shelf
def Tryz.lays167_ren : Go.Shelf.Ren := ⟨fun | 166 => 91 | 167 => 143 | 240 => 144 | 276 => 186 | n => n, fun | 0 => 0 | 3 => 3 | 4 => 4 | 5 => 5 | 9 => 9 | 20 => 20 | 37 => 23 | 70 => 173 | 72 => 175 | 75 => 179 | 80 => 134 | 164 => 275 | n => n, fun | n => n⟩
theorem Tryz.lays167 : Go.Proofs.Lays.n167 Tryz.prog Tryz.lays167_ren := {
 mixed := by kernel_rfl
 f167 := Tryz.func143.trans (congrArg some (by kernel_rfl))
 f240 := Tryz.func144.trans (congrArg some (by kernel_rfl))
 f276 := Tryz.func186.trans (congrArg some (by kernel_rfl))
 t0 := Tryz.underlying0
 a0 := Tryz.isAgg0
 z0 := Tryz.sizeOf0
 v0 := Tryz.zeroValue0
 t4 := Tryz.underlying4
 a4 := Tryz.isAgg4
 z4 := Tryz.sizeOf4
 v4 := Tryz.zeroValue4
 t5 := Tryz.underlying5
 a5 := Tryz.isAgg5
 z5 := Tryz.sizeOf5
 v5 := Tryz.zeroValue5
 t9 := Tryz.underlying9
 a9 := Tryz.isAgg9
 z9 := Tryz.sizeOf9
 v9 := Tryz.zeroValue9
 t20 := Tryz.underlying20
 a20 := Tryz.isAgg20
 z20 := Tryz.sizeOf20
 v20 := Tryz.zeroValue20
 t37 := Tryz.underlying23
 a37 := Tryz.isAgg23
 z37 := Tryz.sizeOf23
 v37 := Tryz.zeroValue23
 t70 := Tryz.underlying173
 a70 := Tryz.isAgg173
 z70 := Tryz.sizeOf173
 v70 := Tryz.zeroValue173
 t72 := Tryz.underlying175
 a72 := Tryz.isAgg175
 z72 := Tryz.sizeOf175
 v72 := Tryz.zeroValue175
 t75 := Tryz.underlying179
 a75 := Tryz.isAgg179
 z75 := Tryz.sizeOf179
 v75 := Tryz.zeroValue179
 t164 := Tryz.underlying275
 a164 := Tryz.isAgg275
 z164 := Tryz.sizeOf275
 v164 := Tryz.zeroValue275 }
theorem Tryz.Builder_Extra_167 : Builder.Extra Tryz.prog Tryz.lays167_ren := {
 sizeBuilder := by kernel_rfl
 liesBuilder := by kernel_rfl
 t5 := Tryz.underlying5
 a5 := Tryz.isAgg5
 z5 := Tryz.sizeOf5
 v5 := Tryz.zeroValue5
 infoByte := by kernel_rfl
 cellsByte := by kernel_rfl
 sizeByte := by kernel_rfl
 neB5 := by decide }
def Tryz.lays166_ren : Go.Shelf.Ren := ⟨fun | 166 => 91 | 167 => 143 | 240 => 144 | 276 => 186 | n => n, fun | 0 => 0 | 3 => 3 | 4 => 4 | 5 => 5 | 9 => 9 | 20 => 20 | 37 => 23 | 70 => 173 | 72 => 175 | 75 => 179 | 80 => 134 | 164 => 275 | n => n, fun | n => n⟩
theorem Tryz.lays166 : Go.Proofs.Lays.n166 Tryz.prog Tryz.lays166_ren := {
 mixed := by kernel_rfl
 f166 := Tryz.func91.trans (congrArg some (by kernel_rfl))
 f240 := Tryz.func144.trans (congrArg some (by kernel_rfl))
 f276 := Tryz.func186.trans (congrArg some (by kernel_rfl))
 t0 := Tryz.underlying0
 a0 := Tryz.isAgg0
 z0 := Tryz.sizeOf0
 v0 := Tryz.zeroValue0
 t3 := Tryz.underlying3
 a3 := Tryz.isAgg3
 z3 := Tryz.sizeOf3
 v3 := Tryz.zeroValue3
 t4 := Tryz.underlying4
 a4 := Tryz.isAgg4
 z4 := Tryz.sizeOf4
 v4 := Tryz.zeroValue4
 t9 := Tryz.underlying9
 a9 := Tryz.isAgg9
 z9 := Tryz.sizeOf9
 v9 := Tryz.zeroValue9
 t20 := Tryz.underlying20
 a20 := Tryz.isAgg20
 z20 := Tryz.sizeOf20
 v20 := Tryz.zeroValue20
 t37 := Tryz.underlying23
 a37 := Tryz.isAgg23
 z37 := Tryz.sizeOf23
 v37 := Tryz.zeroValue23
 t70 := Tryz.underlying173
 a70 := Tryz.isAgg173
 z70 := Tryz.sizeOf173
 v70 := Tryz.zeroValue173
 t72 := Tryz.underlying175
 a72 := Tryz.isAgg175
 z72 := Tryz.sizeOf175
 v72 := Tryz.zeroValue175
 t75 := Tryz.underlying179
 a75 := Tryz.isAgg179
 z75 := Tryz.sizeOf179
 v75 := Tryz.zeroValue179
 t164 := Tryz.underlying275
 a164 := Tryz.isAgg275
 z164 := Tryz.sizeOf275
 v164 := Tryz.zeroValue275 }
theorem Tryz.Builder_Extra_166 : Builder.Extra Tryz.prog Tryz.lays166_ren := {
 sizeBuilder := by kernel_rfl
 liesBuilder := by kernel_rfl
 t5 := Tryz.underlying5
 a5 := Tryz.isAgg5
 z5 := Tryz.sizeOf5
 v5 := Tryz.zeroValue5
 infoByte := by kernel_rfl
 cellsByte := by kernel_rfl
 sizeByte := by kernel_rfl
 neB5 := by decide }
open Go.RowKit in
theorem Tryz.Builder_WriteByte (B b : Nat) (bs : List Value) (c : Int) (w : World) (h : Lib.IsBuilder 175 5 B b bs w) (hlen : bs.length + 1 ≤ 140737488355328) (hBw : B ≤ w.heap.size) :
  Calls Tryz.prog 143 #[.pointer (some ⟨b, 0, none⟩), .int .u8 c] w fun e w' => e = .returned .nilIface ∧ (Lib.BuilderAt 175 5 B b (.pointer (some ⟨b, 0, none⟩)) (bs ++ [.int .u8 c]) w' ∧ Below B w w') := Any.Builder_WriteByte Tryz.lays167 Tryz.Builder_Extra_167 B b bs c w h hlen hBw
open Go.RowKit in
theorem Tryz.Builder_WriteString (B b : Nat) (bs : List Value) (s : ByteArray) (w : World) (h : Lib.IsBuilder 175 5 B b bs w) (hlen : bs.length + s.size ≤ 140737488355328) (hBw : B ≤ w.heap.size) :
  Calls Tryz.prog 91 #[.pointer (some ⟨b, 0, none⟩), .string s] w fun e w' => e = .returned (.tuple #[.int .i64 s.size, .nilIface]) ∧ (Lib.BuilderAt 175 5 B b (.pointer (some ⟨b, 0, none⟩)) (bs ++ Lib.strCells s) w' ∧ Below B w w') := Any.Builder_WriteString Tryz.lays166 Tryz.Builder_Extra_166 B b bs s w h hlen hBw
end Go.Proofs
/-
  TopTransferred: merkle.Root, exactly.
-/
namespace Go.Proofs.YtnaglmigkbbljaaGreatDoor
open Go Go.RowKit
theorem var_below {w W : World} {n : String} {cs : Array Value} (hb : Below w.heap.size w W) (h : w.var? Tryz.prog n = some cs) : W.var? Tryz.prog n = some cs := by
 unfold World.var? at h ⊢
 cases hg : Tryz.prog.globalNamed n with
 | none => rw [hg] at h; cases h
 | some g =>
  rw [hg] at h
  simp only [Option.bind_some] at h ⊢
  have hlt : g < w.heap.size := by
   by_cases hh : g < w.heap.size
   ·exact hh
   ·rw [Array.getElem?_eq_none (by omega)] at h; cases h
  rw [hb.block g hlt]
  exact h
structure GL (w : World) : Prop where
 es : ∃ t p, w.var? Tryz.prog "strconv.ErrSyntax" = some #[.iface t p]
 er : ∃ t p, w.var? Tryz.prog "strconv.ErrRange" = some #[.iface t p]
 tab : Lib.TabIs Tryz.prog w "internal/strconv.uint64pow10" .u64 Lib.pow10Tab
 ml : ∃ m, w.cell? ⟨0, 0, none⟩ = some (.int .i64 m)
theorem GL.below {w W : World} (h : GL w) (hb : Below w.heap.size w W) : GL W := by
 refine ⟨?_, ?_, var_below hb h.tab, ?_⟩
 ·obtain ⟨t, p, h1⟩ := h.es; exact ⟨t, p, var_below hb h1⟩
 ·obtain ⟨t, p, h1⟩ := h.er; exact ⟨t, p, var_below hb h1⟩
 ·obtain ⟨m, h1⟩ := h.ml
  have hlt : 0 < w.heap.size := by
   by_cases hh : 0 < w.heap.size
   ·exact hh
   ·have hx : w.heap[0]? = none := Array.getElem?_eq_none (by omega)
    simp [World.cell?, hx] at h1
  exact ⟨m, (hb.cell (p := ⟨0, 0, none⟩) hlt).trans h1⟩
def I64 (x : Int) : Prop := -9223372036854775808 ≤ x ∧ x ≤ 9223372036854775807
theorem grow_below (w : World) (k : Nat) (os : Array Obj) : Below w.heap.size w (Sort.grow (w.drewN k) os) :=
 ⟨rfl, rfl, rfl, by show _ ≤ (w.heap ++ os).size; simp, fun i hi => by show (w.heap ++ os)[i]? = w.heap[i]?; rw [Array.getElem?_append_left hi]⟩
def itoaB (n : Int) : ByteArray := ⟨(Lib.itoa n).toArray⟩
theorem itoaB_size {n : Int} (h : I64 n) : (itoaB n).size ≤ 21 := by
 show (Lib.itoa n).toArray.size ≤ 21
 rw [List.size_toArray]
 exact Lib.itoa_length_le n h.1 h.2
theorem itoa_ex (n : Int) (w : World) (hn : I64 n) (hG : GL w) : Calls Tryz.prog 34 #[.int .i64 n] w (IsS (itoaB n) w) := by
 refine (Tryz.strconv_Itoa n hn.1 hn.2 w hG.tab).mono ?_
 rintro e w' ⟨rfl, k, os, rfl⟩
 exact ⟨rfl, grow_below w k os⟩
def rootT (n : Nat) (t : ByteArray) : ByteArray := ⟨#[114, 111, 111, 116]⟩ ++ itoaB n ++ ⟨#[32]⟩ ++ t
theorem rootT_size (n : Nat) (t : ByteArray) (hn : n ≤ 1048576) (ht : t.size ≤ 100) : (rootT n t).size ≤ 1000 := by
 unfold rootT
 rw [ByteArray.size_append, ByteArray.size_append, ByteArray.size_append]
 have := itoaB_size (n := (n : Int)) ⟨by omega, by omega⟩
 show 4 + _ + 1 + _ ≤ _
 omega
theorem rootText_ex (n : Nat) (t : ByteArray) (w : World) (hn : n ≤ 1048576) (ht : t.size ≤ 100) (hG : GL w) : Calls Tryz.prog 72 #[.int .i64 n, .string t] w (IsS (rootT n t) w) := by
 have HX := Lib.hid (show rootT n t = ⟨#[114, 111, 111, 116]⟩ ++ itoaB n ++ ⟨#[32]⟩ ++ t from rfl)
 have hi := itoaB_size (n := (n : Int)) ⟨by omega, by omega⟩
 have HI := Lib.hid (itoa_ex n w ⟨by omega, by omega⟩ hG)
 generalize itoaB (n : Int) = s at HX hi HI
 go_enter Tryz.func72, Tryz.ntmps72
 go_wp2_with (go_at_call 34; refine HI.out.mono ?_; rintro e w1 ⟨rfl, hb1⟩)
 go_ret
 exact ⟨by rw [HX.out]; rfl, hb1⟩
def topS (l : List ByteArray) : ByteArray := (Mk.top nodeH l.length (l.map leafH)).headD ByteArray.empty
def rootH (l : List ByteArray) : ByteArray := hexF (rootT l.length (topS l))
theorem sz_above {l : List ByteArray} (h : SzL 64 l) : SzL 64 (aboveH l) := by
 intro s hs
 obtain ⟨j, hj, rfl⟩ := List.getElem_of_mem hs
 have hj2 : j < (l.length + 1) / 2 := by rw [← aboveH_len]; exact hj
 by_cases h2 : 2 * j + 1 < l.length
 ·have := (List.getElem?_eq_some_iff.mp (aboveH_two l h2)).2
  rw [this]
  unfold nodeH
  rw [hexF_size]
  exact Nat.le_refl _
 ·have := (List.getElem?_eq_some_iff.mp (aboveH_one l h2 (by omega))).2
  rw [this]
  exact h _ (List.getElem_mem _)
theorem sz_leaf (l : List ByteArray) : SzL 64 (l.map leafH) := by
 intro s hs
 obtain ⟨x, _, rfl⟩ := List.mem_map.mp hs
 unfold leafH
 rw [hexF_size]
 exact Nat.le_refl _
theorem SzL.mono {m n : Nat} {l : List ByteArray} (h : SzL m l) (hm : m ≤ n) : SzL n l := fun s hs => Nat.le_trans (h s hs) hm
theorem root_ex (p : Option Addr) (n cap : Nat) (l : List ByteArray) (w : World) (hl : l.length = n) (hn : n ≤ 1048576) (h1 : 1 ≤ n) (hz : SzL 1000000 l) (h : StrL w p l) (hG : GL w) : Calls Tryz.prog 27 #[.slice p n cap] w (IsS (rootH l) w) := by
 have HL := Lib.hid h
 have HZ := Lib.hid hz
 have HN := Lib.hid hl
 have HG := Lib.hid hG
 have HT := Lib.hid (show (Mk.top nodeH l.length (l.map leafH)).headD ByteArray.empty = topS l from rfl)
 have HR := Lib.hid (show hexF (rootT n (topS l)) = rootH l by unfold rootH; rw [hl])
 have HF := Lib.hid (first_ex p n cap l w hl hn hz h)
 have hml : (l.map leafH).length = n := by rw [List.length_map, hl]
 have HM := Lib.hid (sz_leaf l)
 obtain ⟨f0, hf0⟩ : ∃ f0, f0 = l.length := ⟨_, rfl⟩
 have hf1 : n ≤ f0 + 1 := by omega
 rw [← hf0] at HT
 clear h hz hl hG hf0
 generalize topS l = T at HT HR
 generalize l.map leafH = q at HT HF hml HM
 have hn0 : ((n : Int) == 0) = false := by simp; omega
 go_enter Tryz.func27, Tryz.ntmps27
 go_upto_block 0 with (go_at_call 37; refine HF.out.mono ?_; rintro e w1 ⟨v1, rfl, ho1, hb1⟩; obtain ⟨p1, c1, rfl, hc1, hp1⟩ := strs_slice ho1; clear ho1)
 have HP1 := Lib.hid hp1
 have HB1 := Lib.hid hb1
 clear hp1 hb1
 go_wp2_with fail
 go_loopw [3] (fun v wr => ∃ (f k : Nat) (lv : List ByteArray) (p' : Option Addr) (c' : Nat), v = .slice p' k c' ∧ lv.length = k ∧ k ≤ f + 1 ∧ 1 ≤ k ∧ k ≤ n ∧ (Mk.top nodeH f lv).headD ByteArray.empty = T ∧ SzL 64 lv ∧ StrL wr p' lv ∧ Below w.heap.size w wr) (fun v _ => lenOfV v)
 case atStart => exact ⟨f0, n, q, p1, c1, rfl, hml, by omega, by omega, by omega, HT.out, HM.out, HP1.out, HB1.out⟩
 case round =>
  clear HP1 HB1 HF HT
  obtain ⟨f, k, lv, p', c', rfl, hlk, hlf, hl1, hln, hT, hsz, hp, hb⟩ := hrel
  have HT := Lib.hid hT
  have HS := Lib.hid hsz
  have HP := Lib.hid hp
  have HB := Lib.hid hb
  clear hT hsz hp hb
  by_cases h2 : 1 < k
  ·have e0 : (1 : Int) < (k : Int) := by omega
   have HA := Lib.hid (fun W (h : StrL W p' lv) => above_ex p' k c' lv W hlk (by omega) (HS.out.mono (by omega)) h)
   have hal := aboveH_len lv
   have HS2 := Lib.hid (sz_above HS.out)
   have HT2 : ∃ f2, f = f2 + 1 ∧ (Mk.top nodeH f2 (aboveH lv)).headD ByteArray.empty = T := by
    cases f with
    | zero => omega
    | succ f2 =>
     refine ⟨f2, rfl, ?_⟩
     have := HT.out
     unfold Mk.top at this
     rw [if_neg (by omega)] at this
     exact this
   obtain ⟨f2, rfl, hT2⟩ := HT2
   have HT2 := Lib.hid hT2
   clear hT2 HT HS
   generalize aboveH lv = la at HA hal HS2 HT2
   rw [hlk] at hal
   clear hlk
   go_wp2_with (go_at_call 38; refine (HA.out _ HP.out).mono ?_; rintro e w2 ⟨v2, rfl, ho2, hb2⟩; obtain ⟨p2, c2, rfl, hc2, hp2⟩ := strs_slice ho2; clear ho2)
   go_roundw
   case rel => exact ⟨f2, (k + 1) / 2, la, p2, c2, rfl, hal, by omega, by omega, by omega, HT2.out, HS2.out, hp2, HB.out.trans (hb2.mono HB.out.size)⟩
   case measure => simp [lenOfV]; omega
  ·obtain rfl : k = 1 := by omega
   match lv, hlk with
   | [x], _ =>
    have hx : x = T := by
     have := HT.out
     cases f with
     | zero => exact this
     | succ f2 => exact this
    subst hx
    obtain ⟨b, off, rfl, hbb, hc⟩ := HP.out.at (j := 0) (by simp)
    have hc0 : wr.cell? ⟨b, off, none⟩ = some (.string x) := hc 0 (by simp)
    have hxs : x.size ≤ 64 := HS.out x (by simp)
    have HG1 := Lib.hid (HG.out.below HB.out)
    have HRT := Lib.hid (rootText_ex n x wr hn (by omega) HG1.out)
    have hrs := rootT_size n x hn (by omega)
    have HXE := Lib.hid (fun W => hex_ex (rootT n x) W (by omega))
    rw [HR.out] at HXE
    clear hc HT HS HP HR
    generalize rootT n x = rt at HRT hrs HXE
    obtain ⟨R, hR⟩ : ∃ R, R = rootH l := ⟨_, rfl⟩
    rw [← hR] at HXE
    have HRE := Lib.hid hR
    clear hR
    go_wp2_with (first
     | (go_at_call 72; refine HRT.out.mono ?_; rintro e w3 ⟨rfl, hb3⟩)
     | (go_at_call 15; refine (HXE.out _).mono ?_; rintro e w4 ⟨rfl, hb4⟩))
    go_ret
    exact ⟨by rw [← HRE.out]; rfl, HB.out.trans ((hb3.trans (hb4.mono hb3.size)).mono HB.out.size)⟩
end Go.Proofs.YtnaglmigkbbljaaGreatDoor
