/- Merged texts: Sl Wa Sh -/
import Derived.Test.YtihhclhpjgeniaaGreatDoorSB1
import Derived.Shelf.Strings.Builder1
import Derived.Shelf.Strings.Builder2
import Derived.Shelf.Strings.Trim
import Derived.Shelf.Small.Utf8
import Derived.Shelf.Small.Bits
import Derived.Shelf.Small.Strs
import Derived.Shelf.Small.Wraps
import Derived.Shelf.Strings.BuilderF
import Derived.Shelf.Strings.BuilderK
import Derived.Shelf.Utf8.RuneCount
import Derived.Shelf.Strings.Builder2Cap
import Derived.Shelf.Strconv.Atoi
import Derived.Shelf.Strconv.Itoa0
import Derived.Shelf.Strconv.Itoa1
import Derived.Shelf.LaysM
import Derived.Shelf.Strconv.Itoa2
import Derived.Shelf.Strconv.Itoa3
import Derived.Shelf.Strconv.AtoiErrFast
import Derived.Shelf.Strconv.ParseIntEmpty
import Derived.Shelf.Strconv.AtoiFail
import Derived.Shelf.Strconv.Clone
import Derived.Shelf.Strconv.SyntaxError
import Derived.Shelf.LaysC
import Derived.Shelf.Strconv.ToError
import Derived.Shelf.Strconv.Lower
import Derived.Shelf.Strconv.ParseUint10
import Derived.Shelf.Strconv.ParseUint10Empty
import Derived.Shelf.Strconv.ParseUint10Any
import Derived.Shelf.Strconv.ParseInt10
import Derived.Shelf.Strconv.AtoiLong
import Derived.Shelf.Strconv.AtoiInnerAll
import Derived.Shelf.Strconv.RangeError
import Derived.Shelf.Strconv.ToErrorRange
import Derived.Shelf.Strconv.AtoiAll
import Derived.Shelf.Strconv.ErrVarAll
import Derived.Shelf.Strconv.ParseUintEmpty
import Derived.Shelf.Strconv.ParseUint10b64
import Derived.Shelf.Strconv.ParseUint10b32
import Derived.Shelf.Strconv.ParseUint10b16
import Derived.Shelf.Strconv.ParseUint10b8
import Derived.Shelf.Strings.Search1
import Derived.Shelf.Strings.Search2
import Derived.Shelf.Strings.Search3
import Derived.Shelf.Strings.Cut
import Derived.Shelf.Strings.Count
import Derived.Shelf.Strings.Shaped
import Derived.Shelf.Strings.Prefix
import Derived.Shelf.Strings.Split
import Derived.Shelf.Strings.SplitShaped
import Derived.Shelf.Unicode.Decode
import Derived.Shelf.Strings.Runes
import Derived.Shelf.Strings.RuneCount
import Derived.Shelf.Strings.AsciiSet
import Derived.Shelf.Strings.Explode
import Derived.Shelf.Bits.Mul64
import Derived.Shelf.Strings.Repeat
import Derived.Shelf.Unicode.DecodeSlow
import Derived.Shelf.Unicode.DecodeAny
import Derived.Shelf.Strings.BuilderCap
import Derived.Shelf.Slices.Equal
import Derived.Ground.Names2Prog
import Derived.Shelf.Slices.Clone
import Derived.Shelf.Slices.SearchI
import Derived.Shelf.Slices.Empties2
import Derived.Ground.SlgnProg
import Derived.Shelf.SlicesE.Clone
import Derived.Ground.SlsfProg
import Derived.Shelf.SlSortCmp.Insertion
import Derived.Shelf.SlSortCmp.SiftDown1
import Derived.Shelf.SlSortCmp.HeapSort1
import Derived.Shelf.SlSortCmp.Insertion1
import Derived.Shelf.SlSortCmp.Median1
import Derived.Shelf.SlSortCmp.Pivot1
import Derived.Shelf.SlSortCmp.ReverseRange1
import Derived.Shelf.SlSortCmp.PartialInsertion1
import Derived.Shelf.SlSortCmp.PartitionEqual1
import Derived.Shelf.SlSortCmp.Partition1
import Derived.Shelf.SlSortCmp.Pdq1
import Derived.Shelf.SlSortCmp.Whole1
import Derived.Shelf.SlSortCmp.NoneTotal
import Derived.Test.YtihhclhpjgeniaaGreatDoorProg
import Derived.Lib.OthersKept
namespace Go.Proofs
open Go.Shelf
def Tryz.lays169_ren : Go.Shelf.Ren := ⟨fun | 169 => 127 | n => n, fun | 70 => 189 | 9 => 9 | 0 => 0 | 72 => 192 | 37 => 190 | 127 => 245 | 3 => 3 | 5 => 5 | n => n, fun | n => n⟩
theorem Tryz.lays169 : Go.Proofs.Lays.n169 Tryz.prog Tryz.lays169_ren := {
 mixed := by kernel_rfl
 f169 := Tryz.func127.trans (congrArg some (by kernel_rfl))
 t0 := Tryz.underlying0
 a0 := Tryz.isAgg0
 z0 := Tryz.sizeOf0
 v0 := Tryz.zeroValue0
 t3 := Tryz.underlying3
 a3 := Tryz.isAgg3
 z3 := Tryz.sizeOf3
 v3 := Tryz.zeroValue3
 t9 := Tryz.underlying9
 a9 := Tryz.isAgg9
 z9 := Tryz.sizeOf9
 v9 := Tryz.zeroValue9
 t37 := Tryz.underlying190
 a37 := Tryz.isAgg190
 z37 := Tryz.sizeOf190
 v37 := Tryz.zeroValue190
 t70 := Tryz.underlying189
 a70 := Tryz.isAgg189
 z70 := Tryz.sizeOf189
 v70 := Tryz.zeroValue189
 t72 := Tryz.underlying192
 a72 := Tryz.isAgg192
 z72 := Tryz.sizeOf192
 v72 := Tryz.zeroValue192
 t127 := Tryz.underlying245
 a127 := Tryz.isAgg245
 z127 := Tryz.sizeOf245
 v127 := Tryz.zeroValue245 }
theorem Tryz.Builder_Extra_169 : Builder.Extra Tryz.prog Tryz.lays169_ren := {
 sizeBuilder := by kernel_rfl
 liesBuilder := by kernel_rfl
 t5 := Tryz.underlying5
 a5 := Tryz.isAgg5
 z5 := Tryz.sizeOf5
 v5 := Tryz.zeroValue5
 infoByte := by kernel_rfl
 cellsByte := by kernel_rfl
 sizeByte := by kernel_rfl
 neB5 := by decide }
open Go.RowKit in
theorem Tryz.Builder_String_any (B b : Nat) (l : List UInt8) (w : World) (h : Lib.IsBuilder 192 5 B b (Lib.byteCells l) w) (hBw : B ≤ w.heap.size) :
  Calls Tryz.prog 127 #[.pointer (some ⟨b, 0, none⟩)] w fun e w' => e = .returned (.string ⟨l.toArray⟩) ∧ Below B w w' := Any.Builder_String_any Tryz.lays169 Tryz.Builder_Extra_169 B b l w h hBw
def Tryz.lays161_ren : Go.Shelf.Ren := ⟨fun | 161 => 331 | 231 => 341 | 227 => 342 | 233 => 343 | 235 => 344 | 228 => 350 | 197 => 194 | 151 => 75 | 260 => 250 | 152 => 128 | 137 => 186 | 119 => 187 | 224 => 188 | 225 => 189 | 217 => 247 | 266 => 283 | n => n, fun | 9 => 9 | 4 => 4 | 3 => 3 | 5 => 5 | 117 => 374 | 116 => 373 | 0 => 0 | 124 => 377 | 105 => 250 | 21 => 21 | 119 => 309 | 46 => 83 | 139 => 312 | 138 => 311 | n => n, fun | 3 => 2 | 4 => 3 | n => n⟩
theorem Tryz.lays161 : Go.Proofs.Lays.n161 Tryz.prog Tryz.lays161_ren := {
 mixed := by kernel_rfl
 f119 := Tryz.func187.trans (congrArg some (by kernel_rfl))
 f137 := Tryz.func186.trans (congrArg some (by kernel_rfl))
 f151 := Tryz.func75.trans (congrArg some (by kernel_rfl))
 f152 := Tryz.func128.trans (congrArg some (by kernel_rfl))
 f161 := Tryz.func331.trans (congrArg some (by kernel_rfl))
 f197 := Tryz.func194.trans (congrArg some (by kernel_rfl))
 f217 := Tryz.func247.trans (congrArg some (by kernel_rfl))
 f224 := Tryz.func188.trans (congrArg some (by kernel_rfl))
 f225 := Tryz.func189.trans (congrArg some (by kernel_rfl))
 f227 := Tryz.func342.trans (congrArg some (by kernel_rfl))
 f228 := Tryz.func350.trans (congrArg some (by kernel_rfl))
 f231 := Tryz.func341.trans (congrArg some (by kernel_rfl))
 f233 := Tryz.func343.trans (congrArg some (by kernel_rfl))
 f235 := Tryz.func344.trans (congrArg some (by kernel_rfl))
 f260 := Tryz.func250.trans (congrArg some (by kernel_rfl))
 f266 := Tryz.func283.trans (congrArg some (by kernel_rfl))
 t0 := Tryz.underlying0
 a0 := Tryz.isAgg0
 z0 := Tryz.sizeOf0
 v0 := Tryz.zeroValue0
 t3 := Tryz.underlying3
 a3 := Tryz.isAgg3
 z3 := Tryz.sizeOf3
 v3 := Tryz.zeroValue3
 t4 := Tryz.underlying4
 a4 := Tryz.isAgg4
 z4 := Tryz.sizeOf4
 v4 := Tryz.zeroValue4
 t5 := Tryz.underlying5
 a5 := Tryz.isAgg5
 z5 := Tryz.sizeOf5
 v5 := Tryz.zeroValue5
 t9 := Tryz.underlying9
 a9 := Tryz.isAgg9
 z9 := Tryz.sizeOf9
 v9 := Tryz.zeroValue9
 t21 := Tryz.underlying21
 a21 := Tryz.isAgg21
 z21 := Tryz.sizeOf21
 v21 := Tryz.zeroValue21
 t46 := Tryz.underlying83
 a46 := Tryz.isAgg83
 z46 := Tryz.sizeOf83
 v46 := Tryz.zeroValue83
 t105 := Tryz.underlying250
 a105 := Tryz.isAgg250
 z105 := Tryz.sizeOf250
 v105 := Tryz.zeroValue250
 t116 := Tryz.underlying373
 a116 := Tryz.isAgg373
 z116 := Tryz.sizeOf373
 t117 := Tryz.underlying374
 a117 := Tryz.isAgg374
 z117 := Tryz.sizeOf374
 v117 := Tryz.zeroValue374
 t119 := Tryz.underlying309
 a119 := Tryz.isAgg309
 z119 := Tryz.sizeOf309
 t124 := Tryz.underlying377
 a124 := Tryz.isAgg377
 z124 := Tryz.sizeOf377
 v124 := Tryz.zeroValue377
 t138 := Tryz.underlying311
 a138 := Tryz.isAgg311
 z138 := Tryz.sizeOf311
 v138 := Tryz.zeroValue311
 t139 := Tryz.underlying312
 a139 := Tryz.isAgg312
 z139 := Tryz.sizeOf312
 v139 := Tryz.zeroValue312
 g3 := by kernel_rfl
 g4 := by kernel_rfl }
def Tryz.lays119_ren : Go.Shelf.Ren := ⟨fun | 119 => 187 | n => n, fun | 21 => 21 | 4 => 4 | n => n, fun | n => n⟩
theorem Tryz.lays119 : Go.Proofs.Lays.n119 Tryz.prog Tryz.lays119_ren := {
 mixed := by kernel_rfl
 f119 := Tryz.func187.trans (congrArg some (by kernel_rfl))
 t4 := Tryz.underlying4
 a4 := Tryz.isAgg4
 z4 := Tryz.sizeOf4
 v4 := Tryz.zeroValue4
 t21 := Tryz.underlying21
 a21 := Tryz.isAgg21
 z21 := Tryz.sizeOf21
 v21 := Tryz.zeroValue21 }
theorem Tryz.utf8_ValidRune (r : Int) (w : World) :
  Calls Tryz.prog 187 #[.int .i32 r] w fun e w' => e = .returned (.bool (Lib.validRune r)) ∧ w' = w := Any.utf8_ValidRune Tryz.lays119 r w
def Tryz.lays137_ren : Go.Shelf.Ren := ⟨fun | 137 => 186 | 217 => 247 | 266 => 283 | n => n, fun | 9 => 9 | 5 => 5 | 3 => 3 | n => n, fun | n => n⟩
theorem Tryz.lays137 : Go.Proofs.Lays.n137 Tryz.prog Tryz.lays137_ren := {
 mixed := by kernel_rfl
 f137 := Tryz.func186.trans (congrArg some (by kernel_rfl))
 f217 := Tryz.func247.trans (congrArg some (by kernel_rfl))
 f266 := Tryz.func283.trans (congrArg some (by kernel_rfl))
 t3 := Tryz.underlying3
 a3 := Tryz.isAgg3
 z3 := Tryz.sizeOf3
 v3 := Tryz.zeroValue3
 t5 := Tryz.underlying5
 a5 := Tryz.isAgg5
 z5 := Tryz.sizeOf5
 v5 := Tryz.zeroValue5
 t9 := Tryz.underlying9
 a9 := Tryz.isAgg9
 z9 := Tryz.sizeOf9
 v9 := Tryz.zeroValue9 }
open Go.RowKit in
theorem Tryz.strings_IndexByte (s : ByteArray) (c : Int) (w : World) :
  Calls Tryz.prog 186 #[.string s, .int .u8 c] w fun e w' => e = .returned (.int .i64 (Lib.indexByte s.data.toList c.toNat.toUInt8)) ∧ w' = w := Any.strings_IndexByte Tryz.lays137 s c w
def Tryz.lays104_ren : Go.Shelf.Ren := ⟨fun | 104 => 77 | 211 => 130 | 207 => 192 | n => n, fun | 9 => 9 | 4 => 4 | 24 => 137 | 3 => 3 | n => n, fun | n => n⟩
theorem Tryz.lays104 : Go.Proofs.Lays.n104 Tryz.prog Tryz.lays104_ren := {
 mixed := by kernel_rfl
 f104 := Tryz.func77.trans (congrArg some (by kernel_rfl))
 f207 := Tryz.func192.trans (congrArg some (by kernel_rfl))
 f211 := Tryz.func130.trans (congrArg some (by kernel_rfl))
 t3 := Tryz.underlying3
 a3 := Tryz.isAgg3
 z3 := Tryz.sizeOf3
 v3 := Tryz.zeroValue3
 t4 := Tryz.underlying4
 a4 := Tryz.isAgg4
 z4 := Tryz.sizeOf4
 v4 := Tryz.zeroValue4
 t9 := Tryz.underlying9
 a9 := Tryz.isAgg9
 z9 := Tryz.sizeOf9
 v9 := Tryz.zeroValue9
 t24 := Tryz.underlying137
 a24 := Tryz.isAgg137
 z24 := Tryz.sizeOf137
 v24 := Tryz.zeroValue137 }
open Go.RowKit in
theorem Tryz.strings_CutSuffix (s p : ByteArray) (w : World) (hs : s.size ≤ 9223372036854775807) :
  Calls Tryz.prog 77 #[.string s, .string p] w fun e w' => e = .returned (.tuple #[.string ⟨(Lib.trimSuffix s.data.toList p.data.toList).toArray⟩, .bool (Lib.hasSuffix s.data.toList p.data.toList)]) ∧ w' = w := Any.strings_CutSuffix Tryz.lays104 s p w hs
def Tryz.laysM171_ren : Go.Shelf.Ren := ⟨fun | 171 => 25 | 243 => 64 | 246 => 116 | 283 => 179 | 284 => 180 | 285 => 181 | 286 => 182 | 129 => 242 | 317 => 241 | 318 => 243 | 319 => 244 | 320 => 245 | 337 => 281 | 338 => 282 | n => n, fun | 3 => 3 | 9 => 9 | 2 => 2 | 4 => 4 | 171 => 237 | 0 => 0 | 53 => 238 | 37 => 190 | 5 => 5 | 173 => 241 | 212 => 283 | 51 => 100 | 20 => 20 | 213 => 284 | 46 => 83 | 232 => 334 | 233 => 335 | n => n, fun | 17 => 0 | 18 => 6 | 19 => 7 | n => n⟩
theorem Tryz.laysM171 : Go.Proofs.LaysM.n171 Tryz.prog Tryz.laysM171_ren := {
 mixed := by kernel_rfl
 f129 := Tryz.func242.trans (congrArg some (by kernel_rfl))
 f171 := Tryz.func25.trans (congrArg some (by kernel_rfl))
 f243 := Tryz.func64.trans (congrArg some (by kernel_rfl))
 f246 := Tryz.func116.trans (congrArg some (by kernel_rfl))
 f283 := Tryz.func179.trans (congrArg some (by kernel_rfl))
 f284 := Tryz.func180.trans (congrArg some (by kernel_rfl))
 f285 := Tryz.func181.trans (congrArg some (by kernel_rfl))
 f286 := Tryz.func182.trans (congrArg some (by kernel_rfl))
 f317 := Tryz.func241.trans (congrArg some (by kernel_rfl))
 f318 := Tryz.func243.trans (congrArg some (by kernel_rfl))
 f319 := Tryz.func244.trans (congrArg some (by kernel_rfl))
 f320 := Tryz.func245.trans (congrArg some (by kernel_rfl))
 f337 := Tryz.func281.trans (congrArg some (by kernel_rfl))
 f338 := Tryz.func282.trans (congrArg some (by kernel_rfl))
 t0 := Tryz.underlying0
 a0 := Tryz.isAgg0
 z0 := Tryz.sizeOf0
 v0 := Tryz.zeroValue0
 t2 := Tryz.underlying2
 a2 := Tryz.isAgg2
 z2 := Tryz.sizeOf2
 v2 := Tryz.zeroValue2
 t3 := Tryz.underlying3
 a3 := Tryz.isAgg3
 z3 := Tryz.sizeOf3
 v3 := Tryz.zeroValue3
 t4 := Tryz.underlying4
 a4 := Tryz.isAgg4
 z4 := Tryz.sizeOf4
 v4 := Tryz.zeroValue4
 t5 := Tryz.underlying5
 a5 := Tryz.isAgg5
 z5 := Tryz.sizeOf5
 v5 := Tryz.zeroValue5
 t9 := Tryz.underlying9
 a9 := Tryz.isAgg9
 z9 := Tryz.sizeOf9
 v9 := Tryz.zeroValue9
 t20 := Tryz.underlying20
 a20 := Tryz.isAgg20
 z20 := Tryz.sizeOf20
 v20 := Tryz.zeroValue20
 t37 := Tryz.underlying190
 a37 := Tryz.isAgg190
 z37 := Tryz.sizeOf190
 v37 := Tryz.zeroValue190
 t46 := Tryz.underlying83
 a46 := Tryz.isAgg83
 z46 := Tryz.sizeOf83
 v46 := Tryz.zeroValue83
 t51 := Tryz.underlying100
 a51 := Tryz.isAgg100
 z51 := Tryz.sizeOf100
 v51 := Tryz.zeroValue100
 t53 := Tryz.underlying238
 a53 := Tryz.isAgg238
 z53 := Tryz.sizeOf238
 v53 := Tryz.zeroValue238
 t171 := Tryz.underlying237
 a171 := Tryz.isAgg237
 z171 := Tryz.sizeOf237
 v171 := Tryz.zeroValue237
 t173 := Tryz.underlying241
 a173 := Tryz.isAgg241
 z173 := Tryz.sizeOf241
 v173 := Tryz.zeroValue241
 t212 := Tryz.underlying283
 a212 := Tryz.isAgg283
 z212 := Tryz.sizeOf283
 v212 := Tryz.zeroValue283
 t213 := Tryz.underlying284
 a213 := Tryz.isAgg284
 z213 := Tryz.sizeOf284
 t232 := Tryz.underlying334
 a232 := Tryz.isAgg334
 z232 := Tryz.sizeOf334
 v232 := Tryz.zeroValue334
 t233 := Tryz.underlying335
 a233 := Tryz.isAgg335
 z233 := Tryz.sizeOf335
 v233 := Tryz.zeroValue335
 g17 := by kernel_rfl
 g18 := by kernel_rfl
 g19 := by kernel_rfl
 i0 := by kernel_rfl
 i2 := by kernel_rfl
 i3 := by kernel_rfl
 i4 := by kernel_rfl
 i5 := by kernel_rfl
 i9 := by kernel_rfl
 i20 := by kernel_rfl
 i37 := by kernel_rfl
 i46 := by kernel_rfl
 i51 := by kernel_rfl
 i53 := by kernel_rfl
 i171 := by kernel_rfl
 i173 := by kernel_rfl
 i212 := by kernel_rfl
 i232 := by kernel_rfl
 i233 := by kernel_rfl
 m17 := by kernel_rfl
 m18 := by kernel_rfl
 m19 := by kernel_rfl }
open Go.RowKit Go.Sort Go.Lib in
theorem Tryz.strconv_Itoa (n : Int) (h0 : -9223372036854775808 ≤ n) (h1 : n ≤ 9223372036854775807) (w : World) (htab : Lib.TabIs Tryz.prog w "internal/strconv.uint64pow10" .u64 Lib.pow10Tab) :
  Calls Tryz.prog 25 #[.int .i64 n] w fun e w' => e = .returned (.string ⟨(Lib.itoa n).toArray⟩) ∧ ∃ k os, w' = grow (w.drewN k) os := Any.strconv_Itoa Tryz.laysM171 n h0 h1 w htab
def Tryz.lays143_ren : Go.Shelf.Ren := ⟨fun | 143 => 195 | 219 => 251 | 217 => 247 | 225 => 189 | 224 => 188 | 267 => 284 | 266 => 283 | 314 => 307 | n => n, fun | 9 => 9 | 3 => 3 | 4 => 4 | 5 => 5 | 46 => 83 | 146 => 336 | 51 => 100 | n => n, fun | 1 => 1 | n => n⟩
theorem Tryz.lays143 : Go.Proofs.Lays.n143 Tryz.prog Tryz.lays143_ren := {
 mixed := by kernel_rfl
 f143 := Tryz.func195.trans (congrArg some (by kernel_rfl))
 f217 := Tryz.func247.trans (congrArg some (by kernel_rfl))
 f219 := Tryz.func251.trans (congrArg some (by kernel_rfl))
 f224 := Tryz.func188.trans (congrArg some (by kernel_rfl))
 f225 := Tryz.func189.trans (congrArg some (by kernel_rfl))
 f266 := Tryz.func283.trans (congrArg some (by kernel_rfl))
 f267 := Tryz.func284.trans (congrArg some (by kernel_rfl))
 f314 := Tryz.func307.trans (congrArg some (by kernel_rfl))
 t3 := Tryz.underlying3
 a3 := Tryz.isAgg3
 z3 := Tryz.sizeOf3
 v3 := Tryz.zeroValue3
 t4 := Tryz.underlying4
 a4 := Tryz.isAgg4
 z4 := Tryz.sizeOf4
 v4 := Tryz.zeroValue4
 t5 := Tryz.underlying5
 a5 := Tryz.isAgg5
 z5 := Tryz.sizeOf5
 v5 := Tryz.zeroValue5
 t9 := Tryz.underlying9
 a9 := Tryz.isAgg9
 z9 := Tryz.sizeOf9
 v9 := Tryz.zeroValue9
 t46 := Tryz.underlying83
 a46 := Tryz.isAgg83
 z46 := Tryz.sizeOf83
 v46 := Tryz.zeroValue83
 t51 := Tryz.underlying100
 a51 := Tryz.isAgg100
 z51 := Tryz.sizeOf100
 v51 := Tryz.zeroValue100
 t146 := Tryz.underlying336
 a146 := Tryz.isAgg336
 z146 := Tryz.sizeOf336
 v146 := Tryz.zeroValue336
 g1 := by kernel_rfl }
open Go.RowKit Go.Lib in
theorem Tryz.strings_Index (s sub : ByteArray) (m : Int) (w : World) (hs : s.size < 4294967281) (hm : w.cell? ⟨1, 0, none⟩ = some (.int .i64 m)) :
  Calls Tryz.prog 195 #[.string s, .string sub] w fun e w' => e = .returned (.int .i64 (Lib.index s.data.toList sub.data.toList)) ∧ w' = w := Any.strings_Index Tryz.lays143 s sub m w hs hm
def Tryz.lays146_ren : Go.Shelf.Ren := ⟨fun | 146 => 90 | 221 => 155 | 268 => 215 | 138 => 216 | 143 => 195 | 195 => 264 | 197 => 194 | 218 => 265 | 219 => 251 | 260 => 250 | 217 => 247 | 225 => 189 | 224 => 188 | 267 => 284 | 266 => 283 | 314 => 307 | n => n, fun | 9 => 9 | 31 => 22 | 3 => 3 | 4 => 4 | 0 => 0 | 105 => 250 | 21 => 21 | 5 => 5 | 46 => 83 | 119 => 309 | 139 => 312 | 138 => 311 | 146 => 336 | 51 => 100 | n => n, fun | 1 => 1 | 3 => 2 | 4 => 3 | n => n⟩
theorem Tryz.lays146 : Go.Proofs.Lays.n146 Tryz.prog Tryz.lays146_ren := {
 mixed := by kernel_rfl
 f138 := Tryz.func216.trans (congrArg some (by kernel_rfl))
 f143 := Tryz.func195.trans (congrArg some (by kernel_rfl))
 f146 := Tryz.func90.trans (congrArg some (by kernel_rfl))
 f195 := Tryz.func264.trans (congrArg some (by kernel_rfl))
 f197 := Tryz.func194.trans (congrArg some (by kernel_rfl))
 f217 := Tryz.func247.trans (congrArg some (by kernel_rfl))
 f218 := Tryz.func265.trans (congrArg some (by kernel_rfl))
 f219 := Tryz.func251.trans (congrArg some (by kernel_rfl))
 f221 := Tryz.func155.trans (congrArg some (by kernel_rfl))
 f224 := Tryz.func188.trans (congrArg some (by kernel_rfl))
 f225 := Tryz.func189.trans (congrArg some (by kernel_rfl))
 f260 := Tryz.func250.trans (congrArg some (by kernel_rfl))
 f266 := Tryz.func283.trans (congrArg some (by kernel_rfl))
 f267 := Tryz.func284.trans (congrArg some (by kernel_rfl))
 f268 := Tryz.func215.trans (congrArg some (by kernel_rfl))
 f314 := Tryz.func307.trans (congrArg some (by kernel_rfl))
 t0 := Tryz.underlying0
 a0 := Tryz.isAgg0
 z0 := Tryz.sizeOf0
 v0 := Tryz.zeroValue0
 t3 := Tryz.underlying3
 a3 := Tryz.isAgg3
 z3 := Tryz.sizeOf3
 v3 := Tryz.zeroValue3
 t4 := Tryz.underlying4
 a4 := Tryz.isAgg4
 z4 := Tryz.sizeOf4
 v4 := Tryz.zeroValue4
 t5 := Tryz.underlying5
 a5 := Tryz.isAgg5
 z5 := Tryz.sizeOf5
 v5 := Tryz.zeroValue5
 t9 := Tryz.underlying9
 a9 := Tryz.isAgg9
 z9 := Tryz.sizeOf9
 v9 := Tryz.zeroValue9
 t21 := Tryz.underlying21
 a21 := Tryz.isAgg21
 z21 := Tryz.sizeOf21
 v21 := Tryz.zeroValue21
 t31 := Tryz.underlying22
 a31 := Tryz.isAgg22
 z31 := Tryz.sizeOf22
 v31 := Tryz.zeroValue22
 t46 := Tryz.underlying83
 a46 := Tryz.isAgg83
 z46 := Tryz.sizeOf83
 v46 := Tryz.zeroValue83
 t51 := Tryz.underlying100
 a51 := Tryz.isAgg100
 z51 := Tryz.sizeOf100
 v51 := Tryz.zeroValue100
 t105 := Tryz.underlying250
 a105 := Tryz.isAgg250
 z105 := Tryz.sizeOf250
 v105 := Tryz.zeroValue250
 t119 := Tryz.underlying309
 a119 := Tryz.isAgg309
 z119 := Tryz.sizeOf309
 t138 := Tryz.underlying311
 a138 := Tryz.isAgg311
 z138 := Tryz.sizeOf311
 v138 := Tryz.zeroValue311
 t139 := Tryz.underlying312
 a139 := Tryz.isAgg312
 z139 := Tryz.sizeOf312
 v139 := Tryz.zeroValue312
 t146 := Tryz.underlying336
 a146 := Tryz.isAgg336
 z146 := Tryz.sizeOf336
 v146 := Tryz.zeroValue336
 g1 := by kernel_rfl
 g3 := by kernel_rfl
 g4 := by kernel_rfl }
open Go.RowKit Go.Lib in
theorem Tryz.strings_Split (s sep : ByteArray) (m : Int) (w : World) (hs : s.size < 4294967281) (hm : w.cell? ⟨1, 0, none⟩ = some (.int .i64 m)) (h1 : 1 ≤ sep.size) :
  Calls Tryz.prog 90 #[.string s, .string sep] w fun e w' =>
   e = .returned (.slice (some ⟨w.heap.size, 0, none⟩) (Lib.countB s sep + 1) (Lib.countB s sep + 1)) ∧ w' = w.alloc (.cells ((Lib.splitB sep 0 (Lib.countB s sep) s).map Value.string).toArray 9) := Any.strings_Split Tryz.lays146 (by kernel_rfl) s sep m w hs hm h1
def Tryz.lays151_ren : Go.Shelf.Ren := ⟨fun | 151 => 75 | 152 => 128 | 137 => 186 | 119 => 187 | 224 => 188 | 225 => 189 | 217 => 247 | 266 => 283 | n => n, fun | 9 => 9 | 21 => 21 | 4 => 4 | 3 => 3 | 5 => 5 | 0 => 0 | 46 => 83 | n => n, fun | n => n⟩
theorem Tryz.lays151 : Go.Proofs.Lays.n151 Tryz.prog Tryz.lays151_ren := {
 mixed := by kernel_rfl
 f119 := Tryz.func187.trans (congrArg some (by kernel_rfl))
 f137 := Tryz.func186.trans (congrArg some (by kernel_rfl))
 f151 := Tryz.func75.trans (congrArg some (by kernel_rfl))
 f152 := Tryz.func128.trans (congrArg some (by kernel_rfl))
 f217 := Tryz.func247.trans (congrArg some (by kernel_rfl))
 f224 := Tryz.func188.trans (congrArg some (by kernel_rfl))
 f225 := Tryz.func189.trans (congrArg some (by kernel_rfl))
 f266 := Tryz.func283.trans (congrArg some (by kernel_rfl))
 t0 := Tryz.underlying0
 a0 := Tryz.isAgg0
 z0 := Tryz.sizeOf0
 v0 := Tryz.zeroValue0
 t3 := Tryz.underlying3
 a3 := Tryz.isAgg3
 z3 := Tryz.sizeOf3
 v3 := Tryz.zeroValue3
 t4 := Tryz.underlying4
 a4 := Tryz.isAgg4
 z4 := Tryz.sizeOf4
 v4 := Tryz.zeroValue4
 t5 := Tryz.underlying5
 a5 := Tryz.isAgg5
 z5 := Tryz.sizeOf5
 v5 := Tryz.zeroValue5
 t9 := Tryz.underlying9
 a9 := Tryz.isAgg9
 z9 := Tryz.sizeOf9
 v9 := Tryz.zeroValue9
 t21 := Tryz.underlying21
 a21 := Tryz.isAgg21
 z21 := Tryz.sizeOf21
 v21 := Tryz.zeroValue21
 t46 := Tryz.underlying83
 a46 := Tryz.isAgg83
 z46 := Tryz.sizeOf83
 v46 := Tryz.zeroValue83 }
open Go.RowKit Go.Lib in
theorem Tryz.strings_ContainsRune_ascii (s : ByteArray) (r : Int) (w : World) (h0 : 0 ≤ r) (h1 : r < 128) :
  Calls Tryz.prog 75 #[.string s, .int .i32 r] w fun e w' => e = .returned (.bool (decide (0 ≤ Lib.indexByte s.data.toList r.toNat.toUInt8))) ∧ w' = w := Any.strings_ContainsRune_ascii Tryz.lays151 s r w h0 h1
def Tryz.lays105_ren : Go.Shelf.Ren := ⟨fun | 105 => 317 | 212 => 333 | 99 => 334 | 165 => 335 | 166 => 126 | 170 => 336 | 169 => 127 | 263 => 345 | 264 => 346 | 206 => 347 | 240 => 185 | 241 => 348 | 276 => 246 | 277 => 351 | n => n, fun | 9 => 9 | 3 => 3 | 4 => 4 | 20 => 20 | 0 => 0 | 46 => 83 | 109 => 366 | 5 => 5 | 72 => 192 | 76 => 195 | 51 => 100 | 146 => 336 | 53 => 238 | 148 => 379 | 70 => 189 | 37 => 190 | 75 => 194 | 127 => 245 | 164 => 224 | 80 => 71 | n => n, fun | n => n⟩
theorem Tryz.lays105 : Go.Proofs.Lays.n105 Tryz.prog Tryz.lays105_ren := {
 mixed := by kernel_rfl
 f99 := Tryz.func334.trans (congrArg some (by kernel_rfl))
 f105 := Tryz.func317.trans (congrArg some (by kernel_rfl))
 f165 := Tryz.func335.trans (congrArg some (by kernel_rfl))
 f166 := Tryz.func126.trans (congrArg some (by kernel_rfl))
 f169 := Tryz.func127.trans (congrArg some (by kernel_rfl))
 f170 := Tryz.func336.trans (congrArg some (by kernel_rfl))
 f206 := Tryz.func347.trans (congrArg some (by kernel_rfl))
 f212 := Tryz.func333.trans (congrArg some (by kernel_rfl))
 f240 := Tryz.func185.trans (congrArg some (by kernel_rfl))
 f241 := Tryz.func348.trans (congrArg some (by kernel_rfl))
 f263 := Tryz.func345.trans (congrArg some (by kernel_rfl))
 f264 := Tryz.func346.trans (congrArg some (by kernel_rfl))
 f276 := Tryz.func246.trans (congrArg some (by kernel_rfl))
 f277 := Tryz.func351.trans (congrArg some (by kernel_rfl))
 t0 := Tryz.underlying0
 a0 := Tryz.isAgg0
 z0 := Tryz.sizeOf0
 v0 := Tryz.zeroValue0
 t3 := Tryz.underlying3
 a3 := Tryz.isAgg3
 z3 := Tryz.sizeOf3
 v3 := Tryz.zeroValue3
 t4 := Tryz.underlying4
 a4 := Tryz.isAgg4
 z4 := Tryz.sizeOf4
 v4 := Tryz.zeroValue4
 t5 := Tryz.underlying5
 a5 := Tryz.isAgg5
 z5 := Tryz.sizeOf5
 v5 := Tryz.zeroValue5
 t9 := Tryz.underlying9
 a9 := Tryz.isAgg9
 z9 := Tryz.sizeOf9
 v9 := Tryz.zeroValue9
 t20 := Tryz.underlying20
 a20 := Tryz.isAgg20
 z20 := Tryz.sizeOf20
 v20 := Tryz.zeroValue20
 t37 := Tryz.underlying190
 a37 := Tryz.isAgg190
 z37 := Tryz.sizeOf190
 v37 := Tryz.zeroValue190
 t46 := Tryz.underlying83
 a46 := Tryz.isAgg83
 z46 := Tryz.sizeOf83
 v46 := Tryz.zeroValue83
 t51 := Tryz.underlying100
 a51 := Tryz.isAgg100
 z51 := Tryz.sizeOf100
 v51 := Tryz.zeroValue100
 t53 := Tryz.underlying238
 a53 := Tryz.isAgg238
 z53 := Tryz.sizeOf238
 v53 := Tryz.zeroValue238
 t70 := Tryz.underlying189
 a70 := Tryz.isAgg189
 z70 := Tryz.sizeOf189
 v70 := Tryz.zeroValue189
 t72 := Tryz.underlying192
 a72 := Tryz.isAgg192
 z72 := Tryz.sizeOf192
 v72 := Tryz.zeroValue192
 t75 := Tryz.underlying194
 a75 := Tryz.isAgg194
 z75 := Tryz.sizeOf194
 v75 := Tryz.zeroValue194
 t76 := Tryz.underlying195
 a76 := Tryz.isAgg195
 z76 := Tryz.sizeOf195
 v76 := Tryz.zeroValue195
 t109 := Tryz.underlying366
 a109 := Tryz.isAgg366
 z109 := Tryz.sizeOf366
 v109 := Tryz.zeroValue366
 t127 := Tryz.underlying245
 a127 := Tryz.isAgg245
 z127 := Tryz.sizeOf245
 v127 := Tryz.zeroValue245
 t146 := Tryz.underlying336
 a146 := Tryz.isAgg336
 z146 := Tryz.sizeOf336
 v146 := Tryz.zeroValue336
 t148 := Tryz.underlying379
 a148 := Tryz.isAgg379
 z148 := Tryz.sizeOf379
 v148 := Tryz.zeroValue379
 t164 := Tryz.underlying224
 a164 := Tryz.isAgg224
 z164 := Tryz.sizeOf224
 v164 := Tryz.zeroValue224 }
theorem Tryz.Builder_Extra_105 : Builder.Extra Tryz.prog Tryz.lays105_ren := {
 sizeBuilder := by kernel_rfl
 liesBuilder := by kernel_rfl
 t5 := Tryz.underlying5
 a5 := Tryz.isAgg5
 z5 := Tryz.sizeOf5
 v5 := Tryz.zeroValue5
 infoByte := by kernel_rfl
 cellsByte := by kernel_rfl
 sizeByte := by kernel_rfl
 neB5 := by decide }
open Go.RowKit Go.Lib in
theorem Tryz.strings_Repeat (s : ByteArray) (c : Nat) (w : World) (hc : c ≤ 9223372036854775807) (hlen : s.size * c ≤ 140737488355328) :
  Calls Tryz.prog 317 #[.string s, .int .i64 c] w fun e w' => e = .returned (.string ⟨(Lib.repeatL s.data.toList c).toArray⟩) ∧ Below w.heap.size w w' := Any.strings_Repeat Tryz.lays105 Tryz.Builder_Extra_105 s c w hc hlen
end Go.Proofs
namespace Go.Proofs.YtihhclhpjgeniaaGreatDoor
open Go.RowKit Go.Sort
theorem info5b : (Tryz.prog.info? 5).map (fun i => (i.zero, i.size, i.bytes)) = some (some (.int .u8 0), 1, 1) := by kernel_rfl
theorem row_kind {w : World} {B : Nat} {e : TypeId} {v : Value} {n : Nat} {xs : List Value} (h : w.ownsRow B e 1 v n xs) : ∀ g, v.ownBlock = some g → ∃ c fz, w.heap[g]? = some (.cells c e fz) := by
 intro g hg
 rcases h.2 with ⟨rfl, _⟩ | ⟨g', cap, cur, rfl, _, hgg, _⟩
 ·simp [Value.ownBlock] at hg
 ·simp [Value.ownBlock] at hg
  subst hg
  exact ⟨cur, _, hgg⟩
set_option maxHeartbeats 4000000 in
set_option maxRecDepth 100000 in
theorem copyCheck_used (b : Nat) (w : World) (h0 : w.cell? ⟨b, 0, none⟩ = some (.pointer (some ⟨b, 0, none⟩))) :
  Calls Tryz.prog 185 #[.pointer (some ⟨b, 0, none⟩)] w fun e w' => e = .returned (.tuple #[]) ∧ w' = w := by
 obtain ⟨j, hj, _⟩ := Option.map_eq_some_iff.1 (show (Tryz.prog.info? 192).map (·.size) = some 2 by kernel_rfl)
 go_enter Tryz.func185, Tryz.ntmps185
 go_wp2_with fail
 rw [Lib.run_neq_ptr_same w _ Tryz.underlying189 hj]
 go_wp2_with fail
 go_end0
 exact ⟨rfl, rfl⟩
set_option maxHeartbeats 4000000 in
set_option maxRecDepth 100000 in
theorem copyCheck_fresh (b : Nat) (w : World) (h0 : w.cell? ⟨b, 0, none⟩ = some (.pointer none)) (hsh : w.shape? b = some (192, 2)) (hfz : w.frozen? ⟨b, 0, none⟩ = false) :
  Calls Tryz.prog 185 #[.pointer (some ⟨b, 0, none⟩)] w fun e w' => e = .returned (.tuple #[]) ∧ w' = w.setCell ⟨b, 0, none⟩ (.pointer (some ⟨b, 0, none⟩)) := by
 obtain ⟨j, hj, hjs⟩ := Option.map_eq_some_iff.1 (show (Tryz.prog.info? 192).map (·.size) = some 2 by kernel_rfl)
 go_enter Tryz.func185, Tryz.ntmps185
 go_wp2_with fail
 rw [Lib.run_to_unsafe w ⟨b, 0, none⟩ Tryz.underlying189 Tryz.underlying224 hj (by rw [hjs]; decide) hsh (Nat.zero_lt_succ 1)]
 simp only [Result.andThen]
 rw [Oper.upon_value]
 go_wp2_with fail
 rw [run_callFunc_extern Tryz.func246 (by kernel_rfl) (by kernel_rfl) (by kernel_rfl) (e := Extern.AbiNoEscape.same) (by kernel_rfl)]
 rw [Lib.run_noEscape]
 simp only [Result.andThen]
 rw [Oper.upon_value]
 go_wp2_with fail
 rw [Lib.run_from_unsafe w ⟨b, 0, none⟩ Tryz.underlying224 Tryz.underlying189 hj hsh (by kernel_rfl)]
 simp only [Result.andThen]
 rw [Oper.upon_value]
 go_wp2_with fail
 go_end0
 exact ⟨rfl, rfl⟩
theorem copyCheck_any (B b : Nat) (bs : List Value) (w : World) (h : Lib.IsBuilder 192 5 B b bs w) :
  Calls Tryz.prog 185 #[.pointer (some ⟨b, 0, none⟩)] w fun e w' => e = .returned (.tuple #[]) ∧ (Lib.BuilderAt 192 5 B b (.pointer (some ⟨b, 0, none⟩)) bs w' ∧ Below B w w' ∧ Lib.OthersKept 5 (some b) w w') := by
 rcases h with h | h
 ·refine (copyCheck_fresh b w h.cell0 h.shape h.frozen0).mono ?_
  rintro e w' ⟨rfl, rfl⟩
  exact ⟨rfl, h.used _, (Below.refl B w).setCell (p := ⟨b, 0, none⟩) h.1 _, (Lib.OthersKept.refl _ _ _).setCell ⟨b, 0, none⟩ rfl _⟩
 ·refine (copyCheck_used b w h.cell0).mono ?_
  rintro e w' ⟨rfl, rfl⟩
  exact ⟨rfl, h, Below.refl B _, Lib.OthersKept.refl _ _ _⟩
set_option maxHeartbeats 4000000 in
set_option maxRecDepth 100000 in
theorem writeString_any (B b : Nat) (bs : List Value) (s : ByteArray) (w : World) (h : Lib.IsBuilder 192 5 B b bs w) (hlen : bs.length + s.size ≤ 1000000) (hBw : B ≤ w.heap.size) :
  Calls Tryz.prog 126 #[.pointer (some ⟨b, 0, none⟩), .string s] w fun e w' => e = .returned (.tuple #[.int .i64 s.size, .nilIface]) ∧ (Lib.BuilderAt 192 5 B b (.pointer (some ⟨b, 0, none⟩)) (bs ++ Lib.strCells s) w' ∧ Below B w w' ∧ Lib.OthersKept 5 (some b) w w') := by
 obtain ⟨i0, hi, hz0, hz1, hz2⟩ := info_parts info5b
 go_enter Tryz.func126, Tryz.ntmps126
 go_wp2_with fail
 with_reducible refine (copyCheck_any B b bs _ h).mono ?_
 rintro e w1 ⟨rfl, h1, hb1, hk1⟩
 obtain ⟨hB, v, hbk, hown, hne⟩ := h1
 have c0 : w1.cell? ⟨b, 0, none⟩ = some (.pointer (some ⟨b, 0, none⟩)) := by rw [Lib.cell_of_heap hbk]; rfl
 have c1 : w1.cell? ⟨b, 1, none⟩ = some v := by rw [Lib.cell_of_heap hbk]; rfl
 go_wp2_with (at_builtin; refine Lib.wpList_append_own_string _ rfl _ _ 190 9 rfl B 5 i0 Tryz.underlying190 Tryz.underlying9 hi hz0 hz1 hz2 _ _ _ rfl hown s rfl ?c3 ?c4 ?c5 ?_)
 case c3 => unfold maxLen; omega
 case c4 => omega
 case c5 => have := hb1.size; omega
 intro v' w2 hown' hgrow _
 have hlt : b < w1.heap.size := by
  rcases Nat.lt_or_ge b w1.heap.size with h' | h'
  ·exact h'
  ·simp [Array.getElem?_eq_none h'] at hbk
 have hb2 : w2.heap[b]? = some (.cells #[.pointer (some ⟨b, 0, none⟩), v] 192 (0, 0)) := by
  rw [hgrow.block b hlt (fun e => hne e.symm)]
  exact hbk
 have d0 : w2.cell? ⟨b, 0, none⟩ = some (.pointer (some ⟨b, 0, none⟩)) := by rw [Lib.cell_of_heap hb2]; rfl
 have d1 : w2.cell? ⟨b, 1, none⟩ = some v := by rw [Lib.cell_of_heap hb2]; rfl
 have f1 : w2.frozen? ⟨b, 1, none⟩ = false := Lib.frozen_of_heap hb2 1
 obtain ⟨ao, n', cap, rfl⟩ : ∃ ao n' cap, v' = .slice ao n' cap := by
  rcases hown'.2 with ⟨hv, _⟩ | ⟨g, cap, cur, hv, _⟩
  ·exact ⟨_, _, _, hv⟩
  ·exact ⟨_, _, _, hv⟩
 clear hlen
 go_wp2_with fail
 go_ret2
 refine ⟨rfl, ?_, ?_, (hk1.grown hgrow (row_kind hown)).setCell ⟨b, 1, none⟩ rfl _⟩
 ·exact Lib.BuilderAt.put (T := 192) (e := 5) hB hb2 (bs' := bs ++ Lib.strCells s) (by simpa [Lib.strCells_length] using hown') (by decide)
 ·exact (hb1.grown hgrow (by have := hb1.size; omega) (fun k hk => (hown.lt k hk).1)).setCell (p := ⟨b, 1, none⟩) hB _
end Go.Proofs.YtihhclhpjgeniaaGreatDoor
namespace Go.Proofs.YtihhclhpjgeniaaGreatDoor
open Go.Shelf
def sortLay_ren : Go.Shelf.Ren := ⟨fun | 6 => 274 | 15 => 255 | 14 => 302 | 28 => 294 | 29 => 242 | 20 => 320 | 21 => 321 | 22 => 322 | 23 => 323 | 24 => 324 | 25 => 325 | 26 => 326 | 27 => 327 | 46 => 338 | 47 => 309 | 48 => 310 | 49 => 339 | 50 => 340 | 57 => 349 | n => n, fun | 22 => 44 | 24 => 47 | 25 => 305 | 3 => 3 | 39 => 83 | 0 => 0 | 53 => 100 | 55 => 238 | 4 => 4 | 46 => 316 | 45 => 315 | 50 => 91 | 5 => 5 | 9 => 9 | 66 => 338 | 70 => 342 | 76 => 360 | 77 => 361 | n => n, fun | n => n⟩
theorem sortLay : Go.Proofs.SlLaysF0.n6 Tryz.prog sortLay_ren := {
 mixed := by kernel_rfl
 f6 := ⟨Tryz.f274.name, by decide, Tryz.func274.trans (congrArg some (by kernel_rfl))⟩
 f14 := ⟨Tryz.f302.name, by decide, Tryz.func302.trans (congrArg some (by kernel_rfl))⟩
 f15 := Tryz.func255.trans (congrArg some (by kernel_rfl))
 f20 := ⟨Tryz.f320.name, by decide, Tryz.func320.trans (congrArg some (by kernel_rfl))⟩
 f21 := ⟨Tryz.f321.name, by decide, Tryz.func321.trans (congrArg some (by kernel_rfl))⟩
 f22 := ⟨Tryz.f322.name, by decide, Tryz.func322.trans (congrArg some (by kernel_rfl))⟩
 f23 := ⟨Tryz.f323.name, by decide, Tryz.func323.trans (congrArg some (by kernel_rfl))⟩
 f24 := ⟨Tryz.f324.name, by decide, Tryz.func324.trans (congrArg some (by kernel_rfl))⟩
 f25 := ⟨Tryz.f325.name, by decide, Tryz.func325.trans (congrArg some (by kernel_rfl))⟩
 f26 := ⟨Tryz.f326.name, by decide, Tryz.func326.trans (congrArg some (by kernel_rfl))⟩
 f27 := ⟨Tryz.f327.name, by decide, Tryz.func327.trans (congrArg some (by kernel_rfl))⟩
 f28 := Tryz.func294.trans (congrArg some (by kernel_rfl))
 f29 := Tryz.func242.trans (congrArg some (by kernel_rfl))
 f46 := ⟨Tryz.f338.name, by decide, Tryz.func338.trans (congrArg some (by kernel_rfl))⟩
 f47 := Tryz.func309.trans (congrArg some (by kernel_rfl))
 f48 := Tryz.func310.trans (congrArg some (by kernel_rfl))
 f49 := ⟨Tryz.f339.name, by decide, Tryz.func339.trans (congrArg some (by kernel_rfl))⟩
 f50 := ⟨Tryz.f340.name, by decide, Tryz.func340.trans (congrArg some (by kernel_rfl))⟩
 f57 := ⟨Tryz.f349.name, by decide, Tryz.func349.trans (congrArg some (by kernel_rfl))⟩
 t0 := Tryz.underlying0
 a0 := Tryz.isAgg0
 z0 := Tryz.sizeOf0
 v0 := Tryz.zeroValue0
 t3 := Tryz.underlying3
 a3 := Tryz.isAgg3
 z3 := Tryz.sizeOf3
 v3 := Tryz.zeroValue3
 t4 := Tryz.underlying4
 a4 := Tryz.isAgg4
 z4 := Tryz.sizeOf4
 v4 := Tryz.zeroValue4
 t5 := Tryz.underlying5
 a5 := Tryz.isAgg5
 z5 := Tryz.sizeOf5
 v5 := Tryz.zeroValue5
 t9 := Tryz.underlying9
 a9 := Tryz.isAgg9
 z9 := Tryz.sizeOf9
 v9 := Tryz.zeroValue9
 t22 := Tryz.underlying44
 a22 := Tryz.isAgg44
 z22 := Tryz.sizeOf44
 v22 := Tryz.zeroValue44
 t25 := Tryz.underlying305
 a25 := Tryz.isAgg305
 z25 := Tryz.sizeOf305
 v25 := Tryz.zeroValue305
 t39 := Tryz.underlying83
 a39 := Tryz.isAgg83
 z39 := Tryz.sizeOf83
 v39 := Tryz.zeroValue83
 t45 := Tryz.underlying315
 a45 := Tryz.isAgg315
 z45 := Tryz.sizeOf315
 v45 := Tryz.zeroValue315
 t46 := Tryz.underlying316
 a46 := Tryz.isAgg316
 z46 := Tryz.sizeOf316
 v46 := Tryz.zeroValue316
 t50 := Tryz.underlying91
 a50 := Tryz.isAgg91
 z50 := Tryz.sizeOf91
 v50 := Tryz.zeroValue91
 t53 := Tryz.underlying100
 a53 := Tryz.isAgg100
 z53 := Tryz.sizeOf100
 v53 := Tryz.zeroValue100
 t55 := Tryz.underlying238
 a55 := Tryz.isAgg238
 z55 := Tryz.sizeOf238
 v55 := Tryz.zeroValue238
 t66 := Tryz.underlying338
 a66 := Tryz.isAgg338
 z66 := Tryz.sizeOf338
 v66 := Tryz.zeroValue338
 t70 := Tryz.underlying342
 a70 := Tryz.isAgg342
 z70 := Tryz.sizeOf342
 v70 := Tryz.zeroValue342
 t76 := Tryz.underlying360
 a76 := Tryz.isAgg360
 z76 := Tryz.sizeOf360
 v76 := Tryz.zeroValue360
 t77 := Tryz.underlying361
 a77 := Tryz.isAgg361
 z77 := Tryz.sizeOf361
 v77 := Tryz.zeroValue361 }
end Go.Proofs.YtihhclhpjgeniaaGreatDoor
