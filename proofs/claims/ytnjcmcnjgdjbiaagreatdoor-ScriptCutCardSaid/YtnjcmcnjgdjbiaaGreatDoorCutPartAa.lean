/- DERIVED: THE SHELF's CONTRACTS AT THIS DUMP, IN PLAIN WORDS (tools/lay-plain.mjs out of 'TryzShelf.lean', which tools/lay-shelf.mjs wrote): THE SAME DECLARATIONS UNDER THE SAME NAMES: 'import', 'names. Conditions: as each theorem states. -/
import Derived.Shelf.Strings.Builder1
import Derived.Shelf.Small.Strs
import Derived.Shelf.Small.Wraps
import Derived.Shelf.Strings.BuilderF
import Derived.Shelf.Strings.BuilderK
import Derived.Shelf.Utf8.RuneCount
import Derived.Shelf.Strconv.Itoa0
import Derived.Shelf.Strconv.Itoa1
import Derived.Shelf.LaysM
import Derived.Shelf.Strconv.Itoa2
import Derived.Shelf.Strconv.Itoa3
import Derived.Ground.MpProg
import Derived.Shelf.Pu.ParseUintPublic10
import Derived.Shelf.Pu.ErrVarParseUint
import Derived.Shelf.Strings.Search1
import Derived.Shelf.Strings.Search2
import Derived.Shelf.Strings.Search3
import Derived.Shelf.Strings.Cut
import Derived.Shelf.Strings.Count
import Derived.Shelf.Strings.Shaped
import Derived.Shelf.Strings.Prefix
import Derived.Shelf.Strings.Split
import Derived.Shelf.Strings.SplitShaped
import Derived.Shelf.Unicode.Decode
import Derived.Shelf.Strings.RuneCount
import Derived.Shelf.Strings.Explode
import Derived.Shelf.Bits.Mul64
import Derived.Shelf.Unicode.DecodeSlow
import Derived.Shelf.Unicode.DecodeAny
import Derived.Shelf.Strings.BuilderCap
import Derived.Test.YtnjcmcnjgdjbiaaGreatDoorProg
import Derived.WalkKit
import Derived.WalkSpells
import Derived.WalkLawsBesides
import Derived.OneCell
import Derived.Deep.Draws
import Derived.Laws.CopyOwn
import Derived.Laws.MakeOwn
import Derived.Laws.Entries
import Derived.Lib.ParseIntBCases
import Derived.Lib.Split
import Derived.Lib.IndexBytes
import Derived.RegionTactic
import Derived.BigRegion
import Derived.Deep.QuietTactic
import Derived.BigQuiet
import Derived.IntWalk
import Derived.Lib.Hide
import Derived.Handy
import Derived.WalkSmall
import Derived.Outline
import Derived.StillTailTactics
import Derived.Test.YtnjcmcnjgdjbiaaGreatDoorRows
import Derived.Lib.LaidTab
import Derived.LaidLaws
import Derived.Test.YtnjcmcnjgdjbiaaGreatDoorCards
import Derived.Test.YtnjcmcnjgdjbiaaGreatDoorTie
import Derived.ProofKit
import Derived.OpenShut
import Derived.Deep.DeepHandedRow
import Derived.Deep.DeepWitnessRowRef
import Derived.Lib.LaidIn
import Derived.Lib.LaidU8
set_option maxRecDepth 100000
set_option maxHeartbeats 1000000
namespace Go.Proofs
open Go.Shelf
def Tryz.lays137_ren : Go.Shelf.Ren := ⟨fun | 137 => 234 | 217 => 226 | 266 => 266 | n => n, fun | 9 => 9 | 5 => 5 | 3 => 3 | n => n, fun | n => n⟩
theorem Tryz.lays137 : Go.Proofs.Lays.n137 Tryz.prog Tryz.lays137_ren := {
 mixed := by kernel_rfl
 f137 := Tryz.func234.trans (congrArg some (by kernel_rfl))
 f217 := Tryz.func226.trans (congrArg some (by kernel_rfl))
 f266 := Tryz.func266.trans (congrArg some (by kernel_rfl))
 t3 := Tryz.underlying3
 a3 := Tryz.isAgg3
 z3 := Tryz.sizeOf3
 v3 := Tryz.zeroValue3
 t5 := Tryz.underlying5
 a5 := Tryz.isAgg5
 z5 := Tryz.sizeOf5
 v5 := Tryz.zeroValue5
 t9 := Tryz.underlying9
 a9 := Tryz.isAgg9
 z9 := Tryz.sizeOf9
 v9 := Tryz.zeroValue9 }
open Go.RowKit in
theorem Tryz.strings_IndexByte (s : ByteArray) (c : Int) (w : World) :
  Calls Tryz.prog 234 #[.string s, .int .u8 c] w fun e w' => e = .returned (.int .i64 (Lib.indexByte s.data.toList c.toNat.toUInt8)) ∧ w' = w := Any.strings_IndexByte Tryz.lays137 s c w
def Tryz.lays210_ren : Go.Shelf.Ren := ⟨fun | 210 => 230 | 206 => 268 | n => n, fun | 9 => 9 | 4 => 4 | 3 => 3 | n => n, fun | n => n⟩
def Tryz.lays103_ren : Go.Shelf.Ren := ⟨fun | 103 => 177 | 210 => 230 | 206 => 268 | n => n, fun | 9 => 9 | 4 => 4 | 24 => 135 | 3 => 3 | n => n, fun | n => n⟩
theorem Tryz.lays103 : Go.Proofs.Lays.n103 Tryz.prog Tryz.lays103_ren := {
 mixed := by kernel_rfl
 f103 := Tryz.func177.trans (congrArg some (by kernel_rfl))
 f206 := Tryz.func268.trans (congrArg some (by kernel_rfl))
 f210 := Tryz.func230.trans (congrArg some (by kernel_rfl))
 t3 := Tryz.underlying3
 a3 := Tryz.isAgg3
 z3 := Tryz.sizeOf3
 v3 := Tryz.zeroValue3
 t4 := Tryz.underlying4
 a4 := Tryz.isAgg4
 z4 := Tryz.sizeOf4
 v4 := Tryz.zeroValue4
 t9 := Tryz.underlying9
 a9 := Tryz.isAgg9
 z9 := Tryz.sizeOf9
 v9 := Tryz.zeroValue9
 t24 := Tryz.underlying135
 a24 := Tryz.isAgg135
 z24 := Tryz.sizeOf135
 v24 := Tryz.zeroValue135 }
open Go.RowKit in
theorem Tryz.strings_CutPrefix (s p : ByteArray) (w : World) :
  Calls Tryz.prog 177 #[.string s, .string p] w fun e w' => e = .returned (.tuple #[.string ⟨(Lib.trimPrefix s.data.toList p.data.toList).toArray⟩, .bool (Lib.hasPrefix s.data.toList p.data.toList)]) ∧ w' = w := Any.strings_CutPrefix Tryz.lays103 s p w
def Tryz.lays129_ren : Go.Shelf.Ren := ⟨fun | 129 => 241 | n => n, fun | 53 => 33 | 3 => 3 | 4 => 4 | 46 => 98 | 5 => 5 | 9 => 9 | n => n, fun | n => n⟩
theorem Tryz.lays129 : Go.Proofs.Lays.n129 Tryz.prog Tryz.lays129_ren := {
 mixed := by kernel_rfl
 f129 := Tryz.func241.trans (congrArg some (by kernel_rfl))
 t3 := Tryz.underlying3
 a3 := Tryz.isAgg3
 z3 := Tryz.sizeOf3
 v3 := Tryz.zeroValue3
 t4 := Tryz.underlying4
 a4 := Tryz.isAgg4
 z4 := Tryz.sizeOf4
 v4 := Tryz.zeroValue4
 t5 := Tryz.underlying5
 a5 := Tryz.isAgg5
 z5 := Tryz.sizeOf5
 v5 := Tryz.zeroValue5
 t9 := Tryz.underlying9
 a9 := Tryz.isAgg9
 z9 := Tryz.sizeOf9
 v9 := Tryz.zeroValue9
 t46 := Tryz.underlying98
 a46 := Tryz.isAgg98
 z46 := Tryz.sizeOf98
 v46 := Tryz.zeroValue98
 t53 := Tryz.underlying33
 a53 := Tryz.isAgg33
 z53 := Tryz.sizeOf33
 v53 := Tryz.zeroValue33 }
theorem Tryz.bits_Len64 (x : Int) (w : World) (h0 : 0 ≤ x) (h1 : x ≤ 18446744073709551615) :
  Calls Tryz.prog 241 #[.int .u64 x] w fun e w' => e = .returned (.int .i64 (Lib.bitLen x.toNat)) ∧ w' = w := Any.bits_Len64 Tryz.lays129 x w h0 h1
def Tryz.laysPu14_ren : Go.Shelf.Ren := ⟨fun | 14 => 179 | 16 => 232 | 17 => 233 | 19 => 269 | 20 => 270 | 21 => 271 | 22 => 272 | 23 => 273 | 24 => 274 | 25 => 290 | 27 => 169 | 26 => 291 | 28 => 220 | 29 => 261 | 30 => 221 | 31 => 222 | 32 => 223 | 33 => 224 | 35 => 241 | 34 => 262 | 36 => 263 | 37 => 264 | 38 => 265 | 39 => 288 | 40 => 289 | n => n, fun | 9 => 9 | 3 => 3 | 22 => 33 | 24 => 138 | 25 => 269 | 4 => 4 | 34 => 338 | 5 => 5 | 36 => 98 | 37 => 34 | 0 => 0 | 39 => 340 | 21 => 21 | 44 => 359 | 47 => 204 | 50 => 365 | 48 => 363 | 2 => 2 | 52 => 300 | 55 => 302 | 59 => 329 | 60 => 91 | 20 => 20 | 61 => 330 | 65 => 361 | 66 => 362 | 67 => 141 | n => n, fun | 0 => 5 | 1 => 6 | 2 => 2 | 3 => 7 | 4 => 8 | n => n⟩
theorem Tryz.laysPu14 : Go.Proofs.LaysPu.n14 Tryz.prog Tryz.laysPu14_ren := {
 mixed := by kernel_rfl
 f14 := Tryz.func179.trans (congrArg some (by kernel_rfl))
 f16 := Tryz.func232.trans (congrArg some (by kernel_rfl))
 f17 := Tryz.func233.trans (congrArg some (by kernel_rfl))
 f19 := Tryz.func269.trans (congrArg some (by kernel_rfl))
 f20 := Tryz.func270.trans (congrArg some (by kernel_rfl))
 f21 := Tryz.func271.trans (congrArg some (by kernel_rfl))
 f22 := Tryz.func272.trans (congrArg some (by kernel_rfl))
 f23 := Tryz.func273.trans (congrArg some (by kernel_rfl))
 f24 := Tryz.func274.trans (congrArg some (by kernel_rfl))
 f25 := Tryz.func290.trans (congrArg some (by kernel_rfl))
 f26 := Tryz.func291.trans (congrArg some (by kernel_rfl))
 f27 := Tryz.func169.trans (congrArg some (by kernel_rfl))
 f28 := Tryz.func220.trans (congrArg some (by kernel_rfl))
 f29 := Tryz.func261.trans (congrArg some (by kernel_rfl))
 f30 := Tryz.func221.trans (congrArg some (by kernel_rfl))
 f31 := Tryz.func222.trans (congrArg some (by kernel_rfl))
 f32 := Tryz.func223.trans (congrArg some (by kernel_rfl))
 f33 := Tryz.func224.trans (congrArg some (by kernel_rfl))
 f34 := Tryz.func262.trans (congrArg some (by kernel_rfl))
 f35 := Tryz.func241.trans (congrArg some (by kernel_rfl))
 f36 := Tryz.func263.trans (congrArg some (by kernel_rfl))
 f37 := Tryz.func264.trans (congrArg some (by kernel_rfl))
 f38 := Tryz.func265.trans (congrArg some (by kernel_rfl))
 f39 := Tryz.func288.trans (congrArg some (by kernel_rfl))
 f40 := Tryz.func289.trans (congrArg some (by kernel_rfl))
 t0 := Tryz.underlying0
 a0 := Tryz.isAgg0
 z0 := Tryz.sizeOf0
 v0 := Tryz.zeroValue0
 i0 := by kernel_rfl
 t2 := Tryz.underlying2
 a2 := Tryz.isAgg2
 z2 := Tryz.sizeOf2
 v2 := Tryz.zeroValue2
 i2 := by kernel_rfl
 t3 := Tryz.underlying3
 a3 := Tryz.isAgg3
 z3 := Tryz.sizeOf3
 v3 := Tryz.zeroValue3
 i3 := by kernel_rfl
 t4 := Tryz.underlying4
 a4 := Tryz.isAgg4
 z4 := Tryz.sizeOf4
 v4 := Tryz.zeroValue4
 i4 := by kernel_rfl
 t5 := Tryz.underlying5
 a5 := Tryz.isAgg5
 z5 := Tryz.sizeOf5
 v5 := Tryz.zeroValue5
 i5 := by kernel_rfl
 t9 := Tryz.underlying9
 a9 := Tryz.isAgg9
 z9 := Tryz.sizeOf9
 v9 := Tryz.zeroValue9
 i9 := by kernel_rfl
 t20 := Tryz.underlying20
 a20 := Tryz.isAgg20
 z20 := Tryz.sizeOf20
 v20 := Tryz.zeroValue20
 i20 := by kernel_rfl
 t21 := Tryz.underlying21
 a21 := Tryz.isAgg21
 z21 := Tryz.sizeOf21
 v21 := Tryz.zeroValue21
 i21 := by kernel_rfl
 t22 := Tryz.underlying33
 a22 := Tryz.isAgg33
 z22 := Tryz.sizeOf33
 v22 := Tryz.zeroValue33
 i22 := by kernel_rfl
 t24 := Tryz.underlying138
 a24 := Tryz.isAgg138
 z24 := Tryz.sizeOf138
 v24 := Tryz.zeroValue138
 i24 := by kernel_rfl
 t25 := Tryz.underlying269
 a25 := Tryz.isAgg269
 z25 := Tryz.sizeOf269
 v25 := Tryz.zeroValue269
 i25 := by kernel_rfl
 t34 := Tryz.underlying338
 a34 := Tryz.isAgg338
 z34 := Tryz.sizeOf338
 v34 := Tryz.zeroValue338
 i34 := by kernel_rfl
 c34 := by kernel_rfl
 t36 := Tryz.underlying98
 a36 := Tryz.isAgg98
 z36 := Tryz.sizeOf98
 v36 := Tryz.zeroValue98
 i36 := by kernel_rfl
 t37 := Tryz.underlying34
 a37 := Tryz.isAgg34
 z37 := Tryz.sizeOf34
 v37 := Tryz.zeroValue34
 i37 := by kernel_rfl
 t39 := Tryz.underlying340
 a39 := Tryz.isAgg340
 z39 := Tryz.sizeOf340
 v39 := Tryz.zeroValue340
 i39 := by kernel_rfl
 t44 := Tryz.underlying359
 a44 := Tryz.isAgg359
 z44 := Tryz.sizeOf359
 v44 := Tryz.zeroValue359
 i44 := by kernel_rfl
 t47 := Tryz.underlying204
 a47 := Tryz.isAgg204
 z47 := Tryz.sizeOf204
 v47 := Tryz.zeroValue204
 i47 := by kernel_rfl
 t48 := Tryz.underlying363
 a48 := Tryz.isAgg363
 z48 := Tryz.sizeOf363
 v48 := Tryz.zeroValue363
 i48 := by kernel_rfl
 t50 := Tryz.underlying365
 a50 := Tryz.isAgg365
 z50 := Tryz.sizeOf365
 v50 := Tryz.zeroValue365
 i50 := by kernel_rfl
 t52 := Tryz.underlying300
 a52 := Tryz.isAgg300
 z52 := Tryz.sizeOf300
 v52 := Tryz.zeroValue300
 i52 := by kernel_rfl
 t55 := Tryz.underlying302
 a55 := Tryz.isAgg302
 z55 := Tryz.sizeOf302
 v55 := Tryz.zeroValue302
 i55 := by kernel_rfl
 t59 := Tryz.underlying329
 a59 := Tryz.isAgg329
 z59 := Tryz.sizeOf329
 v59 := Tryz.zeroValue329
 i59 := by kernel_rfl
 t60 := Tryz.underlying91
 a60 := Tryz.isAgg91
 z60 := Tryz.sizeOf91
 v60 := Tryz.zeroValue91
 i60 := by kernel_rfl
 t61 := Tryz.underlying330
 a61 := Tryz.isAgg330
 z61 := Tryz.sizeOf330
 t65 := Tryz.underlying361
 a65 := Tryz.isAgg361
 z65 := Tryz.sizeOf361
 v65 := Tryz.zeroValue361
 i65 := by kernel_rfl
 t66 := Tryz.underlying362
 a66 := Tryz.isAgg362
 z66 := Tryz.sizeOf362
 v66 := Tryz.zeroValue362
 i66 := by kernel_rfl
 t67 := Tryz.underlying141
 a67 := Tryz.isAgg141
 z67 := Tryz.sizeOf141
 v67 := Tryz.zeroValue141
 i67 := by kernel_rfl
 g0 := by kernel_rfl
 m0 := by kernel_rfl
 g1 := by kernel_rfl
 m1 := by kernel_rfl
 g2 := by kernel_rfl
 m2 := by kernel_rfl
 g3 := by kernel_rfl
 m3 := by kernel_rfl
 g4 := by kernel_rfl
 m4 := by kernel_rfl }
open Go.RowKit in
theorem Tryz.strconv_ParseUint_10_at64_ok (s : ByteArray) (hmax : s.size ≤ 9223372036854775806) (u : Nat) (h : Lib.parseUintB 64 s.data.toList = .ok u) (w : World) :
  Calls Tryz.prog 179 #[.string s, .int .i64 10, .int .i64 64] w fun e w' => e = .returned (.tuple #[.int .u64 u, .nilIface]) ∧ (w' = w ∨ w' = Lib.bytesWorld w 5 s) := Any.strconv_ParseUint_10_at64_ok Tryz.laysPu14 s hmax u h w
open Go.RowKit in
theorem Tryz.strconv_ParseUint_10_at64_syntax (s : ByteArray) (hlim : s.size ≤ 281474976710656) (h : Lib.parseUintB 64 s.data.toList = Lib.parseUintB 64 []) (ev : Value) (w : World) (hv : w.cell? ⟨5, 0, none⟩ = some ev) (hev : ev = .nilIface ∨ ∃ te pe, ev = .iface te pe) :
  Calls Tryz.prog 179 #[.string s, .int .i64 10, .int .i64 64] w fun e w' => ∃ N, e = .returned (.tuple #[.int .u64 0, .iface 340 (.pointer (some ⟨N, 0, none⟩))]) ∧ w.heap.size ≤ N ∧ w'.heap[N]? = some (.cells #[.string ⟨#[80, 97, 114, 115, 101, 85, 105, 110, 116]⟩, .string s, ev] 359 (0, 0)) ∧ Below w.heap.size w w' := Any.strconv_ParseUint_10_at64_syntax Tryz.laysPu14 s hlim h ev w hv hev
open Go.RowKit in
theorem Tryz.strconv_ParseUint_10_at64_range (s : ByteArray) (hlim : s.size ≤ 281474976710656) (h : Lib.parseUintB 64 s.data.toList = .range) (ev : Value) (w : World) (hv : w.cell? ⟨6, 0, none⟩ = some ev) (hev : ev = .nilIface ∨ ∃ te pe, ev = .iface te pe) :
  Calls Tryz.prog 179 #[.string s, .int .i64 10, .int .i64 64] w fun e w' => ∃ N, e = .returned (.tuple #[.int .u64 18446744073709551615, .iface 340 (.pointer (some ⟨N, 0, none⟩))]) ∧ w.heap.size ≤ N ∧ w'.heap[N]? = some (.cells #[.string ⟨#[80, 97, 114, 115, 101, 85, 105, 110, 116]⟩, .string s, ev] 359 (0, 0)) ∧ Below w.heap.size w w' := Any.strconv_ParseUint_10_at64_range Tryz.laysPu14 s hlim h ev w hv hev
def Tryz.lays219_ren : Go.Shelf.Ren := ⟨fun | 219 => 176 | 217 => 226 | 225 => 227 | 224 => 228 | 267 => 229 | 266 => 266 | 314 => 267 | n => n, fun | 9 => 9 | 3 => 3 | 4 => 4 | 5 => 5 | 46 => 98 | 146 => 336 | 51 => 91 | n => n, fun | 1 => 0 | n => n⟩
def Tryz.lays145_ren : Go.Shelf.Ren := ⟨fun | 145 => 178 | 220 => 231 | 219 => 176 | 217 => 226 | 225 => 227 | 224 => 228 | 267 => 229 | 266 => 266 | 314 => 267 | n => n, fun | 9 => 9 | 4 => 4 | 59 => 267 | 3 => 3 | 5 => 5 | 46 => 98 | 146 => 336 | 51 => 91 | n => n, fun | 1 => 0 | n => n⟩
theorem Tryz.lays145 : Go.Proofs.Lays.n145 Tryz.prog Tryz.lays145_ren := {
 mixed := by kernel_rfl
 f145 := Tryz.func178.trans (congrArg some (by kernel_rfl))
 f217 := Tryz.func226.trans (congrArg some (by kernel_rfl))
 f219 := Tryz.func176.trans (congrArg some (by kernel_rfl))
 f220 := Tryz.func231.trans (congrArg some (by kernel_rfl))
 f224 := Tryz.func228.trans (congrArg some (by kernel_rfl))
 f225 := Tryz.func227.trans (congrArg some (by kernel_rfl))
 f266 := Tryz.func266.trans (congrArg some (by kernel_rfl))
 f267 := Tryz.func229.trans (congrArg some (by kernel_rfl))
 f314 := Tryz.func267.trans (congrArg some (by kernel_rfl))
 t3 := Tryz.underlying3
 a3 := Tryz.isAgg3
 z3 := Tryz.sizeOf3
 v3 := Tryz.zeroValue3
 t4 := Tryz.underlying4
 a4 := Tryz.isAgg4
 z4 := Tryz.sizeOf4
 v4 := Tryz.zeroValue4
 t5 := Tryz.underlying5
 a5 := Tryz.isAgg5
 z5 := Tryz.sizeOf5
 v5 := Tryz.zeroValue5
 t9 := Tryz.underlying9
 a9 := Tryz.isAgg9
 z9 := Tryz.sizeOf9
 v9 := Tryz.zeroValue9
 t46 := Tryz.underlying98
 a46 := Tryz.isAgg98
 z46 := Tryz.sizeOf98
 v46 := Tryz.zeroValue98
 t51 := Tryz.underlying91
 a51 := Tryz.isAgg91
 z51 := Tryz.sizeOf91
 v51 := Tryz.zeroValue91
 t59 := Tryz.underlying267
 a59 := Tryz.isAgg267
 z59 := Tryz.sizeOf267
 v59 := Tryz.zeroValue267
 t146 := Tryz.underlying336
 a146 := Tryz.isAgg336
 z146 := Tryz.sizeOf336
 v146 := Tryz.zeroValue336
 g1 := by kernel_rfl }
open Go.RowKit Go.Lib in
theorem Tryz.strings_Cut (s sep : ByteArray) (m : Int) (w : World) (hs : s.size < 4294967281) (hm : w.cell? ⟨0, 0, none⟩ = some (.int .i64 m)) :
  Calls Tryz.prog 178 #[.string s, .string sep] w fun e w' => e = .returned (.tuple #[.string ⟨(Lib.cut s.data.toList sep.data.toList).1.toArray⟩, .string ⟨(Lib.cut s.data.toList sep.data.toList).2.1.toArray⟩, .bool (Lib.cut s.data.toList sep.data.toList).2.2]) ∧ ∃ n, w' = w.drewN n := Any.strings_Cut Tryz.lays145 s sep m w hs hm
def Tryz.lays102_ren : Go.Shelf.Ren := ⟨fun | 102 => 32 | 209 => 75 | 207 => 123 | n => n, fun | 9 => 9 | 4 => 4 | 3 => 3 | n => n, fun | n => n⟩
theorem Tryz.lays102 : Go.Proofs.Lays.n102 Tryz.prog Tryz.lays102_ren := {
 mixed := by kernel_rfl
 f102 := Tryz.func32.trans (congrArg some (by kernel_rfl))
 f207 := Tryz.func123.trans (congrArg some (by kernel_rfl))
 f209 := Tryz.func75.trans (congrArg some (by kernel_rfl))
 t3 := Tryz.underlying3
 a3 := Tryz.isAgg3
 z3 := Tryz.sizeOf3
 v3 := Tryz.zeroValue3
 t4 := Tryz.underlying4
 a4 := Tryz.isAgg4
 z4 := Tryz.sizeOf4
 v4 := Tryz.zeroValue4
 t9 := Tryz.underlying9
 a9 := Tryz.isAgg9
 z9 := Tryz.sizeOf9
 v9 := Tryz.zeroValue9 }
open Go.RowKit Go.Lib in
theorem Tryz.strings_TrimSuffix (s p : ByteArray) (w : World) (hs : s.size ≤ 9223372036854775807) :
  Calls Tryz.prog 32 #[.string s, .string p] w fun e w' => e = .returned (.string ⟨(Lib.trimSuffix s.data.toList p.data.toList).toArray⟩) ∧ w' = w := Any.strings_TrimSuffix Tryz.lays102 s p w hs
def Tryz.lays221_ren : Go.Shelf.Ren := ⟨fun | 221 => 74 | 268 => 120 | 138 => 121 | 143 => 122 | 195 => 173 | 197 => 174 | 218 => 175 | 219 => 176 | 260 => 225 | 217 => 226 | 225 => 227 | 224 => 228 | 267 => 229 | 266 => 266 | 314 => 267 | n => n, fun | 9 => 9 | 3 => 3 | 31 => 79 | 4 => 4 | 0 => 0 | 105 => 263 | 21 => 21 | 5 => 5 | 46 => 98 | 119 => 332 | 139 => 335 | 138 => 334 | 146 => 336 | 51 => 91 | n => n, fun | 1 => 0 | 3 => 3 | 4 => 4 | n => n⟩
def Tryz.lays146_ren : Go.Shelf.Ren := ⟨fun | 146 => 31 | 221 => 74 | 268 => 120 | 138 => 121 | 143 => 122 | 195 => 173 | 197 => 174 | 218 => 175 | 219 => 176 | 260 => 225 | 217 => 226 | 225 => 227 | 224 => 228 | 267 => 229 | 266 => 266 | 314 => 267 | n => n, fun | 9 => 9 | 31 => 79 | 3 => 3 | 4 => 4 | 0 => 0 | 105 => 263 | 21 => 21 | 5 => 5 | 46 => 98 | 119 => 332 | 139 => 335 | 138 => 334 | 146 => 336 | 51 => 91 | n => n, fun | 1 => 0 | 3 => 3 | 4 => 4 | n => n⟩
theorem Tryz.lays146 : Go.Proofs.Lays.n146 Tryz.prog Tryz.lays146_ren := {
 mixed := by kernel_rfl
 f138 := Tryz.func121.trans (congrArg some (by kernel_rfl))
 f143 := Tryz.func122.trans (congrArg some (by kernel_rfl))
 f146 := Tryz.func31.trans (congrArg some (by kernel_rfl))
 f195 := Tryz.func173.trans (congrArg some (by kernel_rfl))
 f197 := Tryz.func174.trans (congrArg some (by kernel_rfl))
 f217 := Tryz.func226.trans (congrArg some (by kernel_rfl))
 f218 := Tryz.func175.trans (congrArg some (by kernel_rfl))
 f219 := Tryz.func176.trans (congrArg some (by kernel_rfl))
 f221 := Tryz.func74.trans (congrArg some (by kernel_rfl))
 f224 := Tryz.func228.trans (congrArg some (by kernel_rfl))
 f225 := Tryz.func227.trans (congrArg some (by kernel_rfl))
 f260 := Tryz.func225.trans (congrArg some (by kernel_rfl))
 f266 := Tryz.func266.trans (congrArg some (by kernel_rfl))
 f267 := Tryz.func229.trans (congrArg some (by kernel_rfl))
 f268 := Tryz.func120.trans (congrArg some (by kernel_rfl))
 f314 := Tryz.func267.trans (congrArg some (by kernel_rfl))
 t0 := Tryz.underlying0
 a0 := Tryz.isAgg0
 z0 := Tryz.sizeOf0
 v0 := Tryz.zeroValue0
 t3 := Tryz.underlying3
 a3 := Tryz.isAgg3
 z3 := Tryz.sizeOf3
 v3 := Tryz.zeroValue3
 t4 := Tryz.underlying4
 a4 := Tryz.isAgg4
 z4 := Tryz.sizeOf4
 v4 := Tryz.zeroValue4
 t5 := Tryz.underlying5
 a5 := Tryz.isAgg5
 z5 := Tryz.sizeOf5
 v5 := Tryz.zeroValue5
 t9 := Tryz.underlying9
 a9 := Tryz.isAgg9
 z9 := Tryz.sizeOf9
 v9 := Tryz.zeroValue9
 t21 := Tryz.underlying21
 a21 := Tryz.isAgg21
 z21 := Tryz.sizeOf21
 v21 := Tryz.zeroValue21
 t31 := Tryz.underlying79
 a31 := Tryz.isAgg79
 z31 := Tryz.sizeOf79
 v31 := Tryz.zeroValue79
 t46 := Tryz.underlying98
 a46 := Tryz.isAgg98
 z46 := Tryz.sizeOf98
 v46 := Tryz.zeroValue98
 t51 := Tryz.underlying91
 a51 := Tryz.isAgg91
 z51 := Tryz.sizeOf91
 v51 := Tryz.zeroValue91
 t105 := Tryz.underlying263
 a105 := Tryz.isAgg263
 z105 := Tryz.sizeOf263
 v105 := Tryz.zeroValue263
 t119 := Tryz.underlying332
 a119 := Tryz.isAgg332
 z119 := Tryz.sizeOf332
 t138 := Tryz.underlying334
 a138 := Tryz.isAgg334
 z138 := Tryz.sizeOf334
 v138 := Tryz.zeroValue334
 t139 := Tryz.underlying335
 a139 := Tryz.isAgg335
 z139 := Tryz.sizeOf335
 v139 := Tryz.zeroValue335
 t146 := Tryz.underlying336
 a146 := Tryz.isAgg336
 z146 := Tryz.sizeOf336
 v146 := Tryz.zeroValue336
 g1 := by kernel_rfl
 g3 := by kernel_rfl
 g4 := by kernel_rfl }
open Go.RowKit Go.Lib in
theorem Tryz.strings_Split (s sep : ByteArray) (m : Int) (w : World) (hs : s.size < 4294967281) (hm : w.cell? ⟨0, 0, none⟩ = some (.int .i64 m)) (h1 : 1 ≤ sep.size) :
  Calls Tryz.prog 31 #[.string s, .string sep] w fun e w' =>
   e = .returned (.slice (some ⟨w.heap.size, 0, none⟩) (Lib.countB s sep + 1) (Lib.countB s sep + 1)) ∧ w' = w.alloc (.cells ((Lib.splitB sep 0 (Lib.countB s sep) s).map Value.string).toArray 9) := Any.strings_Split Tryz.lays146 (by kernel_rfl) s sep m w hs hm h1
def Tryz.lays264_ren : Go.Shelf.Ren := ⟨fun | 264 => 132 | n => n, fun | 53 => 33 | 46 => 98 | n => n, fun | n => n⟩
theorem Tryz.lays264 : Go.Proofs.Lays.n264 Tryz.prog Tryz.lays264_ren := {
 mixed := by kernel_rfl
 f264 := Tryz.func132.trans (congrArg some (by kernel_rfl))
 t46 := Tryz.underlying98
 a46 := Tryz.isAgg98
 z46 := Tryz.sizeOf98
 v46 := Tryz.zeroValue98
 t53 := Tryz.underlying33
 a53 := Tryz.isAgg33
 z53 := Tryz.sizeOf33
 v53 := Tryz.zeroValue33 }
open Go.RowKit Go.Lib in
theorem Tryz.bits_Mul64 (x y : Nat) (hx : x < 18446744073709551616) (hy : y < 18446744073709551616) (w : World) :
  Calls Tryz.prog 132 #[.int .u64 x, .int .u64 y] w fun e w' => e = .returned (.tuple #[.int .u64 ((x * y / 18446744073709551616 : Nat) : Int), .int .u64 ((x * y % 18446744073709551616 : Nat) : Int)]) ∧ w' = w := Any.bits_Mul64 Tryz.lays264 x y hx hy w
end Go.Proofs
namespace Go.Proofs.YtnjcmcnjgdjbiaaGreatDoor
open Go.RowKit
theorem Hd {p : Prop} (h : p) : Hid p := h
def Blk (w : World) (b : Nat) (t : TypeId) (cs : List Value) : Prop := w.heap[b]? = some (.cells cs.toArray t (0, 0))
structure Touch (S : Nat → Prop) (w w' : World) : Prop where
 os : w'.os = w.os
 tape : w'.tape = w.tape
 output : w'.output = w.output
 size : w.heap.size ≤ w'.heap.size
 block : ∀ k, k < w.heap.size → ¬ S k → w'.heap[k]? = w.heap[k]?
abbrev Nothing : Nat → Prop := fun _ => False
namespace Touch
variable {S T : Nat → Prop} {a b c w w' : World}
theorem refl (S : Nat → Prop) (w : World) : Touch S w w := ⟨rfl, rfl, rfl, Nat.le_refl _, fun _ _ _ => rfl⟩
theorem trans (h : Touch S a b) (k : Touch S b c) : Touch S a c :=
 ⟨k.os.trans h.os, k.tape.trans h.tape, k.output.trans h.output, Nat.le_trans h.size k.size,
  fun i hi hs => (k.block i (Nat.lt_of_lt_of_le hi h.size) hs).trans (h.block i hi hs)⟩
theorem mono (h : Touch S a b) (hst : ∀ k, k < a.heap.size → S k → T k) : Touch T a b :=
 ⟨h.os, h.tape, h.output, h.size, fun i hi ht => h.block i hi (fun hs => ht (hst i hi hs))⟩
theorem none_ (h : Touch Nothing a b) : Touch S a b := h.mono (fun _ _ f => f.elim)
theorem trans' (h : Touch S a b) (k : Touch T b c) (ht : ∀ i, i < a.heap.size → T i → S i) : Touch S a c :=
 ⟨k.os.trans h.os, k.tape.trans h.tape, k.output.trans h.output, Nat.le_trans h.size k.size,
  fun i hi hs => (k.block i (Nat.lt_of_lt_of_le hi h.size) (fun x => hs (ht i hi x))).trans (h.block i hi hs)⟩
theorem drew (h : Touch S a b) : Touch S a b.drew := ⟨h.os, h.tape, h.output, h.size, h.block⟩
theorem drewN (h : Touch S a b) (n : Nat) : Touch S a (b.drewN n) := ⟨h.os, h.tape, h.output, h.size, h.block⟩
theorem alloc (h : Touch S a b) (o : Obj) : Touch S a (b.alloc o) :=
 ⟨h.os, h.tape, h.output, Nat.le_trans h.size (by simp), fun i hi hs => (Below.heap_alloc b o i (Nat.lt_of_lt_of_le hi h.size)).trans (h.block i hi hs)⟩
theorem setCell (h : Touch S a b) {p : Addr} (hp : p.block < a.heap.size → S p.block) (u : Value) : Touch S a (b.setCell p u) :=
 ⟨h.os, h.tape, h.output, by simpa [World.setCell] using h.size, fun i hi hs => (Below.heap_setCell b p u i (by
  rintro rfl
  exact hs (hp hi))).trans (h.block i hi hs)⟩
theorem cellAt (w : World) (b i : Nat) (v : Value) : Touch (fun k => k = b) w (w.setCell ⟨b, i, none⟩ v) :=
 ⟨rfl, rfl, rfl, by simp [World.setCell], fun k _ hk => Below.heap_setCell w ⟨b, i, none⟩ v k (by simpa using hk)⟩
theorem of_below (h : Below a.heap.size a b) : Touch S a b := ⟨h.os, h.tape, h.output, h.size, fun i hi _ => h.block i hi⟩
theorem below (h : Touch Nothing a b) : Below a.heap.size a b := ⟨h.os, h.tape, h.output, h.size, fun i hi => h.block i hi (fun x => x)⟩
theorem to_below {B : Nat} (h : Touch S a b) (hB : B ≤ a.heap.size) (hS : ∀ k, S k → B ≤ k) : Below B a b :=
 ⟨h.os, h.tape, h.output, h.size, fun i hi => h.block i (Nat.lt_of_lt_of_le hi hB) (fun s => by have := hS i s; omega)⟩
theorem of_grown {row : Option Nat} (h : a.grownBy b row) (hr : ∀ k, row = some k → S k) : Touch S a b :=
 ⟨h.os, h.tape, h.output, h.size, fun i hi hs => h.block i hi (fun e => hs (hr i e.symm))⟩
theorem cell (h : Touch S w w') {p : Addr} (hp : p.block < w.heap.size) (hs : ¬ S p.block) : w'.cell? p = w.cell? p :=
 World.cell?_of_block (w := w) (h.block p.block hp hs)
theorem frozen (h : Touch S w w') {p : Addr} (hp : p.block < w.heap.size) (hs : ¬ S p.block) : w'.frozen? p = w.frozen? p :=
 World.frozen?_of_block (w := w) (h.block p.block hp hs)
end Touch
namespace Blk
variable {w w' : World} {b : Nat} {t : TypeId} {cs : List Value} {S : Nat → Prop}
theorem lt (h : Blk w b t cs) : b < w.heap.size := (Array.getElem?_eq_some_iff.1 h).1
theorem cell (h : Blk w b t cs) (i : Nat) : w.cell? ⟨b, i, none⟩ = cs[i]? := by
 have h' : w.heap[b]? = _ := h
 simp [World.cell?, h']
theorem free (h : Blk w b t cs) (i : Nat) : w.frozen? ⟨b, i, none⟩ = false := by
 have h' : w.heap[b]? = _ := h
 simp [World.frozen?, h']
theorem touch (h : Blk w b t cs) (k : Touch S w w') (hs : ¬ S b) : Blk w' b t cs := (k.block b h.lt hs).trans h
theorem drew (h : Blk w b t cs) : Blk w.drew b t cs := h
theorem drewN (h : Blk w b t cs) (n : Nat) : Blk (w.drewN n) b t cs := h
theorem alloc (h : Blk w b t cs) (o : Obj) : Blk (w.alloc o) b t cs := (Below.heap_alloc w o b h.lt).trans h
theorem new (w : World) (c : Array Value) (t : TypeId) : Blk (w.alloc (.cells c t)) w.heap.size t c.toList := by
 show (w.heap.push _)[w.heap.size]? = _
 simp
theorem other (h : Blk w b t cs) {p : Addr} (hp : p.block ≠ b) (u : Value) : Blk (w.setCell p u) b t cs :=
 (Below.heap_setCell w p u b (fun e => hp e.symm)).trans h
theorem set (h : Blk w b t cs) (i : Nat) (u : Value) : Blk (w.setCell ⟨b, i, none⟩ u) b t (cs.set i u) := by
 have h' : w.heap[b]? = _ := h
 show (World.setCell w ⟨b, i, none⟩ u).heap[b]? = _
 simp only [World.setCell, Array.getElem?_modify, h']
 simp
end Blk
abbrev Row (w : World) (e : TypeId) (size : Nat) (v : Value) (n : Nat) (xs : List Value) : Prop := w.ownsRow 0 e size v n xs
namespace Row
variable {w w' : World} {e : TypeId} {size : Nat} {v : Value} {n : Nat} {xs : List Value} {S : Nat → Prop}
theorem touch (h : Row w e size v n xs) (k : Touch S w w') (hs : ∀ g, v.ownBlock = some g → ¬ S g) : Row w' e size v n xs := by
 refine ⟨h.1, ?_⟩
 rcases h.2 with hn | ⟨g, cap, cur, rfl, hb, hgg, rest⟩
 ·exact .inl hn
 ·refine .inr ⟨g, cap, cur, rfl, hb, ?_, rest⟩
  rw [k.block g (Array.getElem?_eq_some_iff.1 hgg).1 (hs g rfl)]
  exact hgg
theorem lt (h : Row w e size v n xs) {g : Nat} (hg : v.ownBlock = some g) : g < w.heap.size := (World.ownsRow.lt h g hg).2
theorem form (h : Row w e size v n xs) (hn : 0 < n) : ∃ g cap, v = .slice (some ⟨g, 0, none⟩) n cap ∧ n ≤ cap ∧ g < w.heap.size := by
 rcases h.2 with ⟨_, h0⟩ | ⟨g, cap, cur, hv, _, hg, hc, _⟩
 ·omega
 ·exact ⟨g, cap, hv, hc, (Array.getElem?_eq_some_iff.1 hg).1⟩
theorem cell {g cap : Nat} (h : Row w e size (.slice (some ⟨g, 0, none⟩) n cap) n xs) (j : Nat) (hj : j < n * size) : w.cell? ⟨g, j, none⟩ = xs[j]? := World.ownsRow.cellAt h j hj
theorem free {g cap : Nat} (h : Row w e size (.slice (some ⟨g, 0, none⟩) n cap) n xs) (j : Nat) : w.frozen? ⟨g, j, none⟩ = false := World.ownsRow.frozenAt h j
end Row
theorem Blk.setRow {w : World} {g : Nat} {t : TypeId} {cur : List Value} (h : Blk w g t cur) (cs : Array Value) : Blk (w.setRow g cs) g t cs.toList := by
 have := setRow_heap w g cur.toArray cs t (0, 0) h
 simpa [Blk] using this
theorem Touch.setRow (w : World) (g : Nat) (cs : Array Value) : Touch (· = g) w (w.setRow g cs) :=
 ⟨rfl, rfl, rfl, by simp [World.setRow], fun k _ hk => setRow_other w g k cs hk⟩
theorem splice_all {α : Type} (L cs : List α) (h : L.length = cs.length) : splice L 0 cs = cs := by
 simp [splice, ← h]
theorem wpList_copy_blk {P : Program} {w : World} {ops : Array Oper} {rest : List Oper} {o : Oper} {a : Act} {Q : Exit → Act → World → Prop} (hgd : o.guard = none) (d s : Operand) (dT sT : TypeId)
  (ho : o.op = .call { callee := .builtin .copy, args := #[d, s], argTypes := #[dT, sT] }) (elem : TypeId) (hu : P.underlying dT = some (.slice elem)) (hsz : (P.info? elem).map (·.size) = some 1)
  (dp sp : Option Addr) (dLen dCap sLen sCap : Nat) (hd : a.eval d = .slice dp dLen dCap) (hs : a.eval s = .slice sp sLen sCap)
  (g off : Nat) (cur : List Value) (t : TypeId) (hg : Blk w g t cur) (cs : List Value) (hn : cs.length = Nat.min sLen dLen)
  (hpos : 0 < cs.length → dp = some ⟨g, off, none⟩ ∧ ∃ ad, sp = some ad ∧ ∀ j v, cs[j]? = some v → w.cell? (ad.add j) = some v)
  (hfit : off + cs.length ≤ cur.length) (h1 : ∀ v ∈ cs, v.oneCell' = true)
  (h : ∀ w', Hid (Blk w' g t (splice cur off cs)) → Touch (· = g) w w' → wpList P ops Q rest (a.put o.dst (goInt cs.length)) w') :
  wpList P ops Q (o :: rest) a w := by
 by_cases h0 : cs.length = 0
 ·obtain rfl : cs = [] := List.eq_nil_of_length_eq_zero h0
  refine wpList_copy_nothing hgd d s dT sT ho elem hu hsz dp sp dLen dCap sLen sCap hd hs (by simpa using hn.symm) ?_
  exact h w (show Blk w g t _ by simpa [splice] using hg) (Touch.refl _ _)
 ·obtain ⟨rfl, ad, rfl, hsrc⟩ := hpos (by omega)
  refine wpList_copy_own hgd d s dT sT ho elem hu hsz g off dLen dCap ad sLen sCap hd hs cur.toArray t hg cs hn hsrc (by simpa using hfit) h1 ?_
  refine h _ ?_ (Touch.setRow _ _ _)
  have := hg.setRow (cur.toArray.toList.take off ++ (cs ++ cur.toArray.toList.drop (off + cs.length))).toArray
  simpa [splice, Hid] using this
theorem run_make_rowN {P : Program} (t e : TypeId) (z : Value) (size bytes : Nat) (ht : P.underlying t = some (.slice e)) (hinfo : (P.info? e).map (fun i => (i.zero, i.size, i.bytes)) = some (some z, size, bytes))
  (kl kc : IntKind) (n : Nat) (hbytes : bytes * n ≤ 281474976710656) (h63 : n ≤ 9223372036854775807) (w : World) :
  (Instr.makeSlice t (.int kl (n : Int)) (.int kc (n : Int))).run P w = .ok (.slice (some ⟨w.heap.size, 0, none⟩) n n) (w.alloc (.cells (madeCells z.cells (n * size)) e)) := by
 obtain ⟨i, hi, hz, hs, hby⟩ := info_parts hinfo
 subst hs
 subst hby
 have hb : (i.bytes : Int) * (n : Int) ≤ 281474976710656 := by
  have h : ((i.bytes * n : Nat) : Int) ≤ 281474976710656 := by omega
  rwa [Int.natCast_mul] at h
 have hr := run_make (P := P) w t e i z ht hi hz kl kc n n (by omega) (by omega) hb (by omega)
 simp only [Int.toNat_natCast] at hr
 exact hr
end Go.Proofs.YtnjcmcnjgdjbiaaGreatDoor
namespace Go.Proofs.YtnjcmcnjgdjbiaaGreatDoor.Txt
abbrev Bs := List UInt8
structure Cd where
 op : Nat
 ref : Nat
 p : Nat
 a : Nat
 b : Nat
 deny : Bool
 data : Bs
structure Form where
 address : Bool
 numbers : Nat
 data : Bool
 refused : Bool
def opWords : List Bs := [[109, 97, 108, 108, 111, 99], [99, 97, 108, 108, 111, 99], [97, 108, 105, 103, 110, 101, 100], [114, 101, 97, 108, 108, 111, 99], [102, 114, 101, 101], [117, 115, 97, 98, 108, 101], [108, 111, 97, 100], [115, 116, 111, 114, 101], [108, 111, 97, 100, 119, 111, 114, 100], [115, 116, 111, 114, 101, 119, 111, 114, 100], [114, 101, 97, 100], [119, 114, 105, 116, 101], [116, 114, 105, 109], [115, 116, 97, 116, 115]]
def formAt : List Form := [⟨false, 1, false, true⟩, ⟨false, 2, false, true⟩, ⟨false, 2, false, true⟩, ⟨true, 1, false, true⟩, ⟨true, 0, false, false⟩, ⟨true, 0, false, false⟩, ⟨true, 0, false, false⟩, ⟨true, 1, false, false⟩, ⟨true, 0, false, false⟩, ⟨true, 1, false, false⟩, ⟨true, 1, false, false⟩, ⟨true, 0, true, false⟩, ⟨false, 0, false, false⟩, ⟨false, 0, false, false⟩]
def Cd.none (op : Nat) : Cd := ⟨op, 0, 0, 0, 0, false, []⟩
def isDig (c : UInt8) : Bool := decide (48 ≤ c.toNat) && decide (c.toNat ≤ 57)
def numW (w : Bs) : Option Nat :=
 if w = [] ∨ (1 < w.length ∧ w.head? = some 48) ∨ w.all isDig = false then none else match Lib.parseUintB 64 w with | .ok u => some u | _ => none
def half (c : UInt8) : Nat := if 48 ≤ c.toNat ∧ c.toNat ≤ 57 then c.toNat - 48 else if 97 ≤ c.toNat ∧ c.toNat ≤ 102 then c.toNat - 87 else 16
def hexW : Bs → Option Bs
 | [] => some []
 | [_] => none
 | x :: y :: l => if half x = 16 ∨ half y = 16 then none else (hexW l).map fun t => (half x * 16 + half y).toUInt8 :: t
def dataW (w : Bs) : Option Bs := if w = [45] then some [] else if w = [] ∨ w.length % 2 = 1 ∨ 131072 < w.length then none else hexW w
def cutC (c : UInt8) : Bs → Bs × Bs × Bool
 | [] => ([], [], false)
 | x :: l => if x = c then ([], l, true) else (x :: (cutC c l).1, (cutC c l).2.1, (cutC c l).2.2)
def placeW (w : Bs) : Option (Nat × Nat) :=
 match w with
 | [] => none
 | x :: l => if x = 36 then
   match numW (cutC 43 l).1 with
   | none => none
   | some n => if n < 1 ∨ 4096 < n then none else if (cutC 43 l).2.2 then (match numW (cutC 43 l).2.1 with | none => none | some p => if p = 0 then none else some (n, p)) else some (n, 0)
  else (numW (x :: l)).map fun p => (0, p)
def splitC (c : UInt8) : Bs → List Bs
 | [] => [[]]
 | x :: l => if x = c then [] :: splitC c l else match splitC c l with | [] => [[x]] | w :: ws => (x :: w) :: ws
def numsW (x : Cd) (n : Nat) (ws : List Bs) : Option (Cd × List Bs) :=
 if n = 0 then some (x, ws) else match ws with
  | [] => none
  | w :: ws => match numW w with
   | none => none
   | some v => if n = 1 then some ({ x with a := v }, ws) else match ws with
    | [] => none
    | w' :: ws => (numW w').map fun v' => ({ x with a := v, b := v' }, ws)
def addrW (x : Cd) (f : Form) (ws : List Bs) : Option (Cd × List Bs) :=
 if f.address then match ws with
  | [] => none
  | w :: ws => (placeW w).map fun r => ({ x with ref := r.1, p := r.2 }, ws)
 else some (x, ws)
def datW (x : Cd) (f : Form) (ws : List Bs) : Option (Cd × List Bs) :=
 if f.data then match ws with
  | [] => none
  | w :: ws => (dataW w).map fun d => ({ x with data := d }, ws)
 else some (x, ws)
def fieldsW (x : Cd) (f : Form) (ws : List Bs) : Option Cd :=
 match addrW x f ws with
 | none => none
 | some (x, ws) => match numsW x f.numbers ws with
  | none => none
  | some (x, ws) => match datW x f ws with
   | none => none
   | some (x, ws) => if ws = [] then some x else none
def idx (w : Bs) : List Bs → Option Nat
 | [] => none
 | v :: l => if v = w then some 0 else (idx w l).map (· + 1)
def lineWs (ws : List Bs) : Option Cd :=
 match ws with
 | [] => none
 | w :: ws => match idx w opWords with
  | none => none
  | some i => let f := formAt.getD i ⟨false, 0, false, false⟩
   if f.refused && ws.getLast? == some [33] then fieldsW { Cd.none (i + 1) with deny := true } f ws.dropLast else fieldsW (Cd.none (i + 1)) f ws
def lineW (s : Bs) : Option Cd := lineWs (splitC 32 s)
/- the document's own way: a cursor -/
theorem isDig_iff (c : UInt8) : isDig c = true ↔ 48 ≤ c.toNat ∧ c.toNat ≤ 57 := by simp [isDig]
theorem splitC_ne (c : UInt8) (s : Bs) : splitC c s ≠ [] := by
 cases s with
 | nil => simp [splitC]
 | cons x l =>
  unfold splitC
  split
  ·simp
  ·split <;> simp
theorem cutC_split (c : UInt8) (l : Bs) : (c ∉ l ∧ cutC c l = (l, [], false)) ∨ ∃ a b, l = a ++ c :: b ∧ c ∉ a ∧ cutC c l = (a, b, true) := by
 induction l with
 | nil => exact .inl ⟨by simp, rfl⟩
 | cons x l ih =>
  by_cases hx : x = c
  ·exact .inr ⟨[], l, by rw [hx]; rfl, by simp, by simp [cutC, hx]⟩
  ·rcases ih with ⟨h1, h2⟩ | ⟨a, b, h1, h2, h3⟩
   ·exact .inl ⟨by simp [h1, Ne.symm hx], by simp [cutC, hx, h2]⟩
   ·exact .inr ⟨x :: a, b, by simp [h1], by simp [h2, Ne.symm hx], by simp [cutC, hx, h3]⟩
/- whole texts -/
def trimN (s : Bs) : Bs := if s.getLast? = some 10 then s.dropLast else s
abbrev Parsed := List Cd × Nat × Nat
def runW : List Bs → Nat → List Cd → Parsed
 | [], _, acc => (acc, 0, 0)
 | l :: ls, i, acc => match lineW l with
  | none => ([], i, 7)
  | some c => runW ls (i + 1) (acc ++ [c])
def parseW (s : Bs) : Parsed :=
 if 1048576 < s.length then ([], 0, 6) else if s = [] then ([], 0, 0)
 else if 4096 < (splitC 10 (trimN s)).length then ([], 4096, 6) else runW (splitC 10 (trimN s)) 0 []
theorem splitC_hit (c : UInt8) (l : Bs) : splitC c (c :: l) = [] :: splitC c l := by rw [splitC, if_pos rfl]
theorem splitC_miss {c x : UInt8} (h : x ≠ c) (l : Bs) : ∃ w ws, splitC c l = w :: ws ∧ splitC c (x :: l) = (x :: w) :: ws := by
 cases hs : splitC c l with
 | nil => exact absurd hs (splitC_ne c l)
 | cons w ws => exact ⟨w, ws, rfl, by rw [splitC, if_neg h, hs]⟩
theorem splitC_cut (c : UInt8) (s : Bs) : splitC c s = if (cutC c s).2.2 then (cutC c s).1 :: splitC c (cutC c s).2.1 else [(cutC c s).1] := by
 induction s with
 | nil => rfl
 | cons x l ih =>
  by_cases hx : x = c
  ·subst hx
   rw [splitC_hit]
   simp [cutC]
  ·obtain ⟨w, ws, h1, h2⟩ := splitC_miss hx l
   rw [h2]
   rw [h1] at ih
   simp only [cutC, if_neg hx]
   split
   ·rename_i h
    rw [if_pos h] at ih
    cases ih
    rfl
   ·rename_i h
    rw [if_neg h] at ih
    cases ih
    rfl
theorem indexByte_cut (c : UInt8) (l : Bs) : Lib.indexByte l c = if (cutC c l).2.2 then (((cutC c l).1.length : Nat) : Int) else -1 := by
 induction l with
 | nil => rfl
 | cons x l ih =>
  unfold Lib.indexByte cutC
  by_cases hx : x = c
  ·simp [hx]
  ·rw [if_neg (by simpa using hx), if_neg hx, ih]
   by_cases h : (cutC c l).2.2 = true
   ·simp only [h, if_true]
    rw [if_neg (by rw [beq_iff_eq]; omega)]
    simp
   ·simp [h]
theorem cut_lib (c : UInt8) (l : Bs) : Lib.cut l [c] = cutC c l := by
 unfold Lib.cut
 rw [Lib.index_one, indexByte_cut]
 rcases cutC_split c l with ⟨h1, h2⟩ | ⟨a, b, h1, h2, h3⟩
 ·rw [h2]; simp
 ·rw [h3, h1]; simp
theorem hasPrefix_one (c : UInt8) (l : Bs) : Lib.hasPrefix l [c] = (l.head? == some c) := by
 cases l with
 | nil => rfl
 | cons x l =>
  simp only [Lib.hasPrefix, List.isPrefixOf, Bool.and_true, List.head?_cons]
  rw [Bool.eq_iff_iff, beq_iff_eq, beq_iff_eq]
  exact ⟨fun h => by rw [h], fun h => (Option.some.inj h).symm⟩
theorem trimPrefix_one (c : UInt8) (l : Bs) : Lib.trimPrefix (c :: l) [c] = l := by
 unfold Lib.trimPrefix
 rw [hasPrefix_one]
 simp
theorem trimSuffix_10 (s : Bs) : Lib.trimSuffix s [10] = trimN s := by
 unfold Lib.trimSuffix trimN Lib.hasSuffix
 by_cases h : s.getLast? = some 10
 ·have hs : List.isSuffixOf [10] s = true := by
   rw [List.isSuffixOf_iff_suffix]
   have hne : s ≠ [] := fun e => by subst e; simp at h
   have := List.dropLast_concat_getLast hne
   rw [List.getLast?_eq_some_getLast hne] at h
   rw [Option.some.inj h] at this
   exact ⟨_, this⟩
  rw [if_pos hs, if_pos h, List.dropLast_eq_take]
  rfl
 ·have hs : ¬ (List.isSuffixOf [10] s = true) := by
   rw [List.isSuffixOf_iff_suffix]
   rintro ⟨t, rfl⟩
   exact h (by simp)
  rw [if_neg hs, if_neg h]
theorem count_split (c : UInt8) : ∀ (f : Nat) (s : Bs), s.length < f → Lib.countFrom [c] f s + 1 = (splitC c s).length
 | 0, s, h => by omega
 | f + 1, s, h => by
  unfold Lib.countFrom
  rw [Lib.index_one, indexByte_cut, splitC_cut]
  rcases cutC_split c s with ⟨h1, h2⟩ | ⟨a, b, h1, h2, h3⟩
  ·rw [h2]; simp
  ·rw [h3, h1]
   have := count_split c f b (by rw [h1] at h; simp at h; omega)
   have hn : ¬ (((a.length : Nat) : Int) == -1) = true := by rw [beq_iff_eq]; omega
   simp only [if_true, hn, Bool.false_eq_true, if_false, Int.toNat_natCast, List.length_cons, List.length_nil]
   have hd : (a ++ c :: b).drop (a.length + (0 + 1)) = b := by simp
   rw [hd]
   omega
theorem splitK_split (c : UInt8) : ∀ (k : Nat) (s : Bs), k + 1 = (splitC c s).length → Lib.splitK [c] 0 k s = splitC c s
 | 0, s, h => by
  rw [splitC_cut] at h ⊢
  rcases cutC_split c s with ⟨h1, h2⟩ | ⟨a, b, h1, h2, h3⟩
  ·rw [h2]; simp [Lib.splitK]
  ·rw [h3] at h
   simp only [if_true, List.length_cons] at h
   have := List.length_pos_iff.2 (splitC_ne c b)
   omega
 | k + 1, s, h => by
  unfold Lib.splitK
  rw [Lib.index_one, indexByte_cut]
  rw [splitC_cut] at h ⊢
  rcases cutC_split c s with ⟨h1, h2⟩ | ⟨a, b, h1, h2, h3⟩
  ·rw [h2] at h; simp at h
  ·rw [h3] at h ⊢
   simp only [if_true, List.length_cons] at h
   have hn : ¬ (((a.length : Nat) : Int) == -1) = true := by rw [beq_iff_eq]; omega
   simp only [if_true, hn, Bool.false_eq_true, if_false, Int.toNat_natCast, List.length_cons, List.length_nil]
   rw [h1]
   have hd : (a ++ c :: b).drop (a.length + (0 + 1)) = b := by simp
   rw [hd, splitK_split c k b (by omega)]
   simp
theorem split_lib (c : UInt8) (s : Bs) : Lib.splitK [c] 0 (Lib.count s [c]) s = splitC c s ∧ Lib.count s [c] + 1 = (splitC c s).length := by
 have h := count_split c (s.length + 1) s (by omega)
 exact ⟨splitK_split c _ s h, h⟩
end Go.Proofs.YtnjcmcnjgdjbiaaGreatDoor.Txt
namespace Go.Proofs.YtnjcmcnjgdjbiaaGreatDoor
open Go.RowKit
structure Glob (w : World) : Prop where
 size : 9 ≤ w.heap.size
 most : ∃ m, w.cell? ⟨0, 0, none⟩ = some (.int .i64 m)
 widths : ∀ i, i < 8 → w.cell? ⟨1, i, none⟩ = some (.int .u64 ((16 * 2 ^ i : Nat) : Int))
 pow10 : Lib.TabIs Tryz.prog w "internal/strconv.uint64pow10" .u64 Lib.pow10Tab
 syn : ∃ ev, w.cell? ⟨5, 0, none⟩ = some ev ∧ (ev = .nilIface ∨ ∃ te pe, ev = .iface te pe)
 rng : ∃ ev, w.cell? ⟨6, 0, none⟩ = some ev ∧ (ev = .nilIface ∨ ∃ te pe, ev = .iface te pe)
theorem Glob.touch {w w' : World} {S : Nat → Prop} (G : Glob w) (T : Touch S w w') (h : ∀ k, k < 9 → ¬ S k) : Glob w' := by
 have hs := G.size
 have hc : ∀ b i, b < 9 → w'.cell? ⟨b, i, none⟩ = w.cell? ⟨b, i, none⟩ := fun b i hb => T.cell (p := ⟨b, i, none⟩) (by show b < _; omega) (h b hb)
 refine ⟨Nat.le_trans hs T.size, ?_, ?_, ?_, ?_, ?_⟩
 ·rw [hc 0 0 (by omega)]; exact G.most
 ·intro i hi; rw [hc 1 i (by omega)]; exact G.widths i hi
 ·exact var?_below (T.to_below (B := 9) hs (fun k hk => Nat.le_of_not_lt (fun hlt => h k hlt hk))) (by kernel_rfl : Tryz.prog.globalNamed "internal/strconv.uint64pow10" = some 2) (by omega) G.pow10
 ·rw [hc 5 0 (by omega)]; exact G.syn
 ·rw [hc 6 0 (by omega)]; exact G.rng
theorem Glob.touch0 {w w' : World} (G : Glob w) (T : Touch Nothing w w') : Glob w' := G.touch T (fun _ _ h => h)
theorem vars_tail {P : Program} {w : World} {x : String × DataW Unit} {r : List (String × DataW Unit)} {ps : List MemPlace} (h : DataW.LaidVars P w (x :: r) ps) : ∃ q, DataW.LaidVars P w r q := by
 obtain ⟨n, d⟩ := x
 obtain ⟨g, t, cs, fuel, p, q, _, _, _, _, h, _⟩ := h
 exact ⟨q, h⟩
theorem tab_of_vars {P : Program} {W : World} {name : String} {k : IntKind} {zs : List Int} {rest : List (String × DataW Unit)} {g : Nat} {t e : TypeId} {n : Nat} {ps : List MemPlace}
  (hg : P.globalNamed name = some g) (hty : (P.globals[g]?).map (·.type) = some t) (ht : P.underlying t = some (.array n e)) (he : P.underlying e = some (.int k)) (hce : P.cellsOf e = 1) (hct : P.cellsOf t = n)
  (h : DataW.LaidVars P W ((name, Lib.tabData k zs) :: rest) ps) : Lib.TabIs P W name k zs := by
 obtain ⟨g', t', cs, fuel, p, q, hg', ht', hvar, hd, _, _⟩ := h
 obtain rfl := Option.some.inj (hg.symm.trans hg')
 obtain rfl := Option.some.inj (hty.symm.trans ht')
 unfold Lib.TabIs
 rw [hvar, ← Lib.cells_of_tab ht he hce hct hd]
theorem err_of_vars {P : Program} {W : World} {name nm : String} {d : DataW Unit} {rest : List (String × DataW Unit)} {g : Nat} {t : TypeId} {ms : Array (String × TypeId)} {ps : List MemPlace}
  (hg : P.globalNamed name = some g) (hty : (P.globals[g]?).map (·.type) = some t) (ht : P.underlying t = some (.interface ms))
  (h : DataW.LaidVars P W ((name, .iface nm d) :: rest) ps) : ∃ u v, W.cell? ⟨g, 0, none⟩ = some (.iface u v) := by
 obtain ⟨g', t', cs, fuel, p, q, hg', ht', hvar, hd, _, _⟩ := h
 obtain rfl := Option.some.inj (hg.symm.trans hg')
 obtain rfl := Option.some.inj (hty.symm.trans ht')
 obtain ⟨_, u, v, hcs, _, _⟩ := iface_of_trod ht hd
 have := World.var?_cell hg hvar 0
 refine ⟨u, v, ?_⟩
 rw [this]
 have h2 : cs = #[.iface u v] := by
  cases cs
  simp at hcs
  rw [hcs]
 rw [h2]
 rfl
theorem gW : Tryz.prog.globalNamed "croft/slab.widths" = some 1 := by kernel_rfl
theorem gWt : (Tryz.prog.globals[1]?).map (·.type) = some 316 := by kernel_rfl
theorem gP : Tryz.prog.globalNamed "internal/strconv.uint64pow10" = some 2 := by kernel_rfl
theorem gPt : (Tryz.prog.globals[2]?).map (·.type) = some 329 := by kernel_rfl
theorem gS : Tryz.prog.globalNamed "strconv.ErrSyntax" = some 5 := by kernel_rfl
theorem gSt : (Tryz.prog.globals[5]?).map (·.type) = some 138 := by kernel_rfl
theorem gR : Tryz.prog.globalNamed "strconv.ErrRange" = some 6 := by kernel_rfl
theorem gRt : (Tryz.prog.globals[6]?).map (·.type) = some 138 := by kernel_rfl
theorem cells33 : Tryz.prog.cellsOf 33 = 1 := by kernel_rfl
theorem cells316 : Tryz.prog.cellsOf 316 = 8 := by kernel_rfl
theorem cells329 : Tryz.prog.cellsOf 329 = 20 := by kernel_rfl
def laidAll : List (String × DataW Unit) := [("math/bits.deBruijn32tab", Rows.laid_math_bits_deBruijn32tab), ("math/bits.deBruijn64tab", Rows.laid_math_bits_deBruijn64tab), ("internal/strconv.uint64pow10", Rows.laid_internal_strconv_uint64pow10), ("unicode/utf8.acceptRanges", Rows.laid_unicode_utf8_acceptRanges), ("strconv.ErrRange", Rows.laid_strconv_ErrRange), ("strconv.ErrSyntax", Rows.laid_strconv_ErrSyntax), ("croft/slab.widths", Rows.laid_croft_slab_widths), ("unicode/utf8.first", Rows.laid_unicode_utf8_first)]
theorem glob_of {W : World} (h : laidMet Tryz.prog laidAll W) (hsh : W.ShapedOpen Tryz.prog) : Glob W := by
 obtain ⟨ps, h, _, _⟩ := h
 obtain ⟨_, h⟩ := vars_tail h
 obtain ⟨_, h⟩ := vars_tail h
 have hp := h
 obtain ⟨_, h⟩ := vars_tail h
 obtain ⟨_, h⟩ := vars_tail h
 have hr := h
 obtain ⟨_, h⟩ := vars_tail h
 have hs := h
 obtain ⟨_, h⟩ := vars_tail h
 have hW : Lib.TabIs Tryz.prog W "croft/slab.widths" .u64 [16, 32, 64, 128, 256, 512, 1024, 2048] := tab_of_vars gW gWt Tryz.underlying316 Tryz.underlying33 cells33 cells316 h
 have hP : Lib.TabIs Tryz.prog W "internal/strconv.uint64pow10" .u64 [1, 10, 100, 1000, 10000, 100000, 1000000, 10000000, 100000000, 1000000000, 10000000000, 100000000000, 1000000000000, 10000000000000, 100000000000000, 1000000000000000, 10000000000000000, 100000000000000000, 1000000000000000000, 10000000000000000000] :=
  tab_of_vars gP gPt Tryz.underlying329 Tryz.underlying33 cells33 cells329 hp
 obtain ⟨u5, v5, h5⟩ := err_of_vars gS gSt Tryz.underlying138 hs
 obtain ⟨u6, v6, h6⟩ := err_of_vars gR gRt Tryz.underlying138 hr
 refine ⟨?_, Go.Proofs.cell_of_shapedOpen_int (zero := #[.int .i64 0]) (t := 3) hsh (of_decide_eq_true (by kernel_rfl)) (by kernel_rfl) rfl (by kernel_rfl) (by kernel_rfl) Tryz.underlying3, ?_, ?_, ⟨_, h5, .inr ⟨u5, v5, rfl⟩⟩, ⟨_, h6, .inr ⟨u6, v6, rfl⟩⟩⟩
 ·have hx : (((begin Tryz.prog (fun _ _ => 0) default).world.heap[8]?).bind Obj.row?).isSome = true := by kernel_rfl
  obtain ⟨⟨z, t⟩, hz⟩ := Option.isSome_iff_exists.1 hx
  obtain ⟨cs, hc, _⟩ := hsh.1 8 z t (of_decide_eq_true (by kernel_rfl)) hz
  exact (Array.getElem?_eq_some_iff.1 hc).1
 ·intro i hi
  have := hW.cell gW i hi
  rw [this]
  match i, hi with
  | 0, _ => rfl
  | 1, _ => rfl
  | 2, _ => rfl
  | 3, _ => rfl
  | 4, _ => rfl
  | 5, _ => rfl
  | 6, _ => rfl
  | 7, _ => rfl
 ·have e : Lib.pow10Tab = [1, 10, 100, 1000, 10000, 100000, 1000000, 10000000, 100000000, 1000000000, 10000000000, 100000000000, 1000000000000, 10000000000000, 100000000000000, 1000000000000000, 10000000000000000, 100000000000000000, 1000000000000000000, 10000000000000000000] := by decide +kernel
  rw [e]
  exact hP
end Go.Proofs.YtnjcmcnjgdjbiaaGreatDoor
namespace Go.Proofs.YtnjcmcnjgdjbiaaGreatDoor
open Go.ChangeShapes Go.WideShapes Go.ChangeAt Go.RowKit
theorem own : ownKnob Tryz.prog.godebug = none := by kernel_rfl
noncomputable abbrev N0 : Nat := (World.settled Tryz.prog default).heap.size
noncomputable def laidWorld (os : Os) : World :=
 let N := (World.settled Tryz.prog os).heap.size
 let w0 := World.holding Tryz.prog os ⟨#[.cells #[.string ⟨#[105, 110, 118, 97, 108, 105, 100, 32, 115, 121, 110, 116, 97, 120]⟩] 365, .cells #[.string ⟨#[118, 97, 108, 117, 101, 32, 111, 117, 116, 32, 111, 102, 32, 114, 97, 110, 103, 101]⟩] 365], #[], []⟩
 let put (h : Array Obj) (g : Nat) (cs : Array Value) : Array Obj := h.modify g fun
  | .cells _ t frozen => .cells cs t frozen
  | o => o
 let h1 := put w0.heap 1 #[.int .u64 16, .int .u64 32, .int .u64 64, .int .u64 128, .int .u64 256, .int .u64 512, .int .u64 1024, .int .u64 2048]
 let h2 := put h1 2 (Lib.pow10Tab.map fun z => Value.int .u64 z).toArray
 let h3 := put h2 3 (Lib.firstTab.map fun z => Value.int .u8 z).toArray
 let h4 := put h3 4 #[.int .u8 128, .int .u8 191, .int .u8 160, .int .u8 191, .int .u8 128, .int .u8 159, .int .u8 144, .int .u8 191, .int .u8 128, .int .u8 143, .int .u8 0, .int .u8 0, .int .u8 0, .int .u8 0, .int .u8 0, .int .u8 0, .int .u8 0, .int .u8 0, .int .u8 0, .int .u8 0, .int .u8 0, .int .u8 0, .int .u8 0, .int .u8 0, .int .u8 0, .int .u8 0, .int .u8 0, .int .u8 0, .int .u8 0, .int .u8 0, .int .u8 0, .int .u8 0]
 let h5 := put h4 5 #[.iface 363 (.pointer (some ⟨N, 0, none⟩))]
 let h6 := put h5 6 #[.iface 363 (.pointer (some ⟨N + 1, 0, none⟩))]
 let h7 := put h6 7 #[.int .u8 0, .int .u8 1, .int .u8 28, .int .u8 2, .int .u8 29, .int .u8 14, .int .u8 24, .int .u8 3, .int .u8 30, .int .u8 22, .int .u8 20, .int .u8 15, .int .u8 25, .int .u8 17, .int .u8 4, .int .u8 8, .int .u8 31, .int .u8 27, .int .u8 13, .int .u8 23, .int .u8 21, .int .u8 19, .int .u8 16, .int .u8 7, .int .u8 26, .int .u8 12, .int .u8 18, .int .u8 6, .int .u8 11, .int .u8 5, .int .u8 10, .int .u8 9]
 let h8 := put h7 8 #[.int .u8 0, .int .u8 1, .int .u8 56, .int .u8 2, .int .u8 57, .int .u8 49, .int .u8 28, .int .u8 3, .int .u8 61, .int .u8 58, .int .u8 42, .int .u8 50, .int .u8 38, .int .u8 29, .int .u8 17, .int .u8 4, .int .u8 62, .int .u8 47, .int .u8 59, .int .u8 36, .int .u8 45, .int .u8 43, .int .u8 51, .int .u8 22, .int .u8 53, .int .u8 39, .int .u8 33, .int .u8 30, .int .u8 24, .int .u8 18, .int .u8 12, .int .u8 5, .int .u8 63, .int .u8 55, .int .u8 48, .int .u8 27, .int .u8 60, .int .u8 41, .int .u8 37, .int .u8 16, .int .u8 46, .int .u8 35, .int .u8 44, .int .u8 21, .int .u8 52, .int .u8 32, .int .u8 23, .int .u8 11, .int .u8 54, .int .u8 26, .int .u8 40, .int .u8 15, .int .u8 34, .int .u8 20, .int .u8 31, .int .u8 10, .int .u8 25, .int .u8 14, .int .u8 19, .int .u8 9, .int .u8 13, .int .u8 8, .int .u8 7, .int .u8 6]
 { w0 with heap := h8 }
theorem laid_met (os : Os) (args : Array Value) : laidMet Tryz.prog laidAll ((laidWorld os).forCall (fun _ _ => 0) ⟨#[], args, []⟩).memory :=
 (LaidIn.of_run [1, 2, 3, 4, 5, 6, 7, 8, N0, N0 + 1] 8 (by kernel_rfl) (by kernel_rfl) (by kernel_rfl) (by kernel_rfl)).met
theorem prog_pinned : Tryz.pinned.checked.prog = Tryz.prog := rfl
end Go.Proofs.YtnjcmcnjgdjbiaaGreatDoor
namespace Go.Proofs.YtnjcmcnjgdjbiaaGreatDoor
open Go.RowKit
theorem natCast_beq_zero (n : Nat) : (((n : Nat) : Int) == 0) = (n == 0) := by
 rw [Bool.eq_iff_iff]
 simp
def isPow (x : Nat) : Bool := x != 0 && (x &&& (x - 1)) == 0
theorem isPower_ (x : Nat) (w : World) (h : x < 18446744073709551616) :
  Calls Tryz.prog 185 #[.int .u64 x] w fun e w' => e = .returned (.bool (isPow x)) ∧ w = w' := by
 by_cases h0 : x = 0
 ·subst h0
  go_enter Tryz.func185, Tryz.ntmps185
  go_wp2
  go_ret
  exact ⟨rfl, rfl⟩
 ·have hs : IntKind.u64.wrap ((x : Int) - 1) = ((x - 1 : Nat) : Int) := by
   rw [show (x : Int) - 1 = ((x - 1 : Nat) : Int) from by omega]
   exact IntWalk.u64_in _ (by omega)
  have hb : bits .and .u64 (x : Int) ((x : Int) - 1) = ((x &&& (x - 1) : Nat) : Int) := by
   rw [show (x : Int) - 1 = ((x - 1 : Nat) : Int) from by omega]
   exact bits_and_u64_nat x (x - 1) h (by omega)
  have hp : isPow x = ((x &&& (x - 1)) == 0) := by simp [isPow, h0]
  have HP := Hd hp
  clear hp hs
  have h0' : ((x : Int) != 0) = true := by rw [bne_iff_ne]; omega
  go_enter Tryz.func185, Tryz.ntmps185
  go_wp2
  go_ret
  refine ⟨congrArg Ending.returned (congrArg Value.bool ?_), rfl⟩
  rw [HP.out]
  exact natCast_beq_zero _
theorem bitLenAux_spec : ∀ (f x : Nat), x < 2 ^ f → x < 2 ^ Lib.bitLenAux f x ∧ (x ≠ 0 → 2 ^ (Lib.bitLenAux f x - 1) ≤ x) ∧ Lib.bitLenAux f x ≤ f := by
 intro f
 induction f with
 | zero =>
  intro x h
  have : x = 0 := by simpa using h
  subst this
  simp [Lib.bitLenAux]
 | succ f ih =>
  intro x h
  unfold Lib.bitLenAux
  by_cases h0 : x = 0
  ·simp [h0]
  ·rw [if_neg h0]
   have hx : x / 2 < 2 ^ f := by
    rw [Nat.pow_succ] at h
    omega
   obtain ⟨a, b, c⟩ := ih (x / 2) hx
   refine ⟨?_, fun _ => ?_, by omega⟩
   ·rw [Nat.add_comm, Nat.pow_succ]
    omega
   ·by_cases h2 : x / 2 = 0
    ·have : x = 1 := by omega
     subst this
     have e : Lib.bitLenAux f (1 / 2) = 0 := by
      cases f <;> simp [Lib.bitLenAux]
     rw [e]
     simp
    ·have b' := b h2
     have hpos : 1 ≤ Lib.bitLenAux f (x / 2) := by
      cases hz : Lib.bitLenAux f (x / 2) with
      | zero => rw [hz] at a; simp at a; omega
      | succ n => omega
     have e : 1 + Lib.bitLenAux f (x / 2) - 1 = (Lib.bitLenAux f (x / 2) - 1) + 1 := by omega
     rw [e, Nat.pow_succ]
     omega
theorem bitLen_spec64 (x : Nat) (h : x < 18446744073709551616) : x < 2 ^ Lib.bitLen x ∧ (x ≠ 0 → 2 ^ (Lib.bitLen x - 1) ≤ x) ∧ Lib.bitLen x ≤ 64 :=
 bitLenAux_spec 64 x h
theorem log_ (x : Nat) (w : World) (h : x < 18446744073709551616) :
  Calls Tryz.prog 190 #[.int .u64 x] w fun e w' => e = .returned (.int .i64 ((Lib.bitLen x : Int) - 1)) ∧ w = w' := by
 have hl := (bitLen_spec64 x h).2.2
 have hc := Hd (fun w => Tryz.bits_Len64 (x : Int) w (by omega) (by omega))
 rw [Int.toNat_natCast] at hc
 go_enter Tryz.func190, Tryz.ntmps190
 go_wp2_with fail
 refine (hc.out _).mono ?_
 rintro e w' ⟨rfl, rfl⟩
 go_wp2
 go_ret
 exact ⟨rfl, rfl⟩
def ceilN (x : Nat) : Nat := if x ≤ 1 then 1 else if Lib.bitLen (x - 1) = 64 then 0 else 2 ^ Lib.bitLen (x - 1)
theorem shl_one (n : Nat) (h : n ≤ 64) : IntKind.u64.wrap (2 ^ n) = ((if n = 64 then 0 else 2 ^ n : Nat) : Int) := by
 by_cases h1 : n = 64
 ·subst h1
  rfl
 ·rw [if_neg h1]
  have h2 : 2 ^ n ≤ 2 ^ 63 := Nat.pow_le_pow_right (by omega) (by omega)
  have e : (2 ^ n : Int) = ((2 ^ n : Nat) : Int) := by simp
  rw [e]
  generalize 2 ^ n = y at *
  exact IntWalk.u64_in _ (by omega)
theorem ceil_ (x : Nat) (w : World) (h : x < 18446744073709551616) :
  Calls Tryz.prog 186 #[.int .u64 x] w fun e w' => e = .returned (.tuple #[.int .u64 (ceilN x : Nat), .bool (ceilN x != 0)]) ∧ w = w' := by
 by_cases h0 : x ≤ 1
 ·have e : ceilN x = 1 := by simp [ceilN, h0]
  rw [e]
  go_enter Tryz.func186, Tryz.ntmps186
  go_wp2
  go_ret2
  exact ⟨rfl, rfl⟩
 ·have hx : ((x : Int) - 1) = ((x - 1 : Nat) : Int) := by omega
  have hc := log_ (x - 1) w (by omega)
  rw [← hx] at hc
  have hs := shl_one (Lib.bitLen (x - 1)) (bitLen_spec64 (x - 1) (by omega)).2.2
  have hl := (bitLen_spec64 (x - 1) (by omega)).2.2
  have e : ceilN x = if Lib.bitLen (x - 1) = 64 then 0 else 2 ^ Lib.bitLen (x - 1) := by simp [ceilN, h0]
  rw [← e] at hs
  have HC := Hd hc
  clear hc e hx
  generalize Lib.bitLen (x - 1) = n at *
  go_enter Tryz.func186, Tryz.ntmps186
  go_wp2_with fail
  refine HC.out.mono ?_
  rintro e w' ⟨rfl, rfl⟩
  have HS := Hd hs
  clear hs
  go_wp2
  go_ret2
  rw [HS.out]
  refine ⟨?_, rfl⟩
  have e : (((ceilN x : Nat) : Int) != 0) = (ceilN x != 0) := by
   rw [Bool.eq_iff_iff]
   simp
  rw [← e]
  rfl
def u64s (ws : List Nat) : List Value := ws.map fun (x : Nat) => Value.int .u64 x
structure PSet where
 n : Nat
 ws : List Nat
structure PSet.ok (s : PSet) : Prop where
 len : s.ws.length = (s.n + 63) / 64
 top : s.n ≤ 1048576
 word : ∀ x ∈ s.ws, x < 18446744073709551616
structure SetRep (w : World) (l : Nat × Nat) (s : PSet) : Prop where
 blk : Blk w l.1 308 [.int .i64 (s.n : Nat), .slice (some ⟨l.2, 0, none⟩) s.ws.length s.ws.length]
 words : Blk w l.2 33 (u64s s.ws)
 ne : l.1 ≠ l.2
 ok : s.ok
theorem SetRep.touch {w w' : World} {l : Nat × Nat} {s : PSet} {S : Nat → Prop} (R : SetRep w l s) (T : Touch S w w') (h1 : ¬ S l.1) (h2 : ¬ S l.2) : SetRep w' l s :=
 ⟨R.blk.touch T h1, R.words.touch T h2, R.ne, R.ok⟩
theorem u64s_get (ws : List Nat) (i : Nat) (h : i < ws.length) : (u64s ws)[i]? = some (.int .u64 (ws.getD i 0 : Nat)) := by
 simp [u64s, List.getElem?_map, List.getElem?_eq_getElem h]
theorem PSet.ok.get {s : PSet} (o : s.ok) (i : Nat) : s.ws.getD i 0 < 18446744073709551616 := by
 rw [List.getD_eq_getElem?_getD]
 by_cases h : i < s.ws.length
 ·rw [List.getElem?_eq_getElem h]
  exact o.word _ (List.getElem_mem h)
 ·rw [List.getElem?_eq_none (by omega)]
  simp
theorem fit_ (n : Nat) (w : World) (h : n ≤ 1048576) :
  Calls Tryz.prog 235 #[.int .i64 n] w fun e w' => e = .returned (.tuple #[.int .i64 n, .int .i64 (((n + 63) / 64 : Nat) : Int)]) ∧ w = w' := by
 go_enter Tryz.func235, Tryz.ntmps235
 go_wp2
 go_ret2
 have e : max (0 : Int) (min (n : Int) 1048576) = n := by omega
 rw [e]
 refine ⟨?_, rfl⟩
 simp
theorem SetRep.has_ {w : World} {l : Nat × Nat} {s : PSet} (R : SetRep w l s) (i : Nat) (h : i < s.n) :
  Calls Tryz.prog 294 #[.pointer (some ⟨l.1, 0, none⟩), .int .i64 i] w fun e w' => e = .returned (.bool true) ∧ w = w' := by
 have c0 := R.blk.cell 0
 simp at c0
 clear R
 go_enter Tryz.func294, Tryz.ntmps294
 go_wp2
 go_ret
 exact ⟨rfl, rfl⟩
theorem pow64 (i : Nat) : 2 ^ (i % 64) < 18446744073709551616 := by
 have : i % 64 ≤ 63 := by omega
 have h : 2 ^ (i % 64) ≤ 2 ^ 63 := Nat.pow_le_pow_right (by omega) this
 omega
def bitOf (ws : List Nat) (i : Nat) : Bool := (ws.getD (i / 64) 0).testBit (i % 64)
theorem natCast_beq_one (n : Nat) : (((n : Nat) : Int) == 1) = (n == 1) := by
 rw [Bool.eq_iff_iff]
 simp
 omega
theorem and_one_int (x k : Nat) (hx : x < 18446744073709551616) : bits .and .u64 ((x : Int) / 2 ^ k) 1 = ((x / 2 ^ k % 2 : Nat) : Int) := by
 have h : x / 2 ^ k ≤ x := Nat.div_le_self _ _
 have e : ((x : Int) / 2 ^ k) = ((x / 2 ^ k : Nat) : Int) := by simp
 rw [e, show (1 : Int) = ((1 : Nat) : Int) from rfl, bits_and_u64_nat _ _ (by omega) (by omega), Nat.and_one_is_mod]
theorem SetRep.get_ {w : World} {l : Nat × Nat} {s : PSet} (R : SetRep w l s) (i : Nat) (h : i < s.n) :
  Calls Tryz.prog 295 #[.pointer (some ⟨l.1, 0, none⟩), .int .i64 i] w fun e w' => e = .returned (.bool (bitOf s.ws i)) ∧ w = w' := by
 have hh := Hd (R.has_ i h)
 have c1 := R.blk.cell 1
 have hl := R.ok.len
 have hi : i / 64 < s.ws.length := by omega
 have cw := R.words.cell (i / 64)
 rw [u64s_get _ _ hi] at cw
 simp at c1
 have hx := R.ok.get (i / 64)
 have htop := R.ok.top
 have hb : bitOf s.ws i = ((s.ws.getD (i / 64) 0 / 2 ^ (i % 64)) % 2 == 1) := by
  unfold bitOf
  rw [Nat.testBit_eq_decide_div_mod_eq]
  rfl
 have HB := Hd hb
 clear hb R hl
 generalize s.ws.getD (i / 64) 0 = x at *
 have hi' : (0 : Int) ≤ (i : Int) / 64 := by omega
 have hi2 : (i : Int) / 64 < (s.ws.length : Int) := by omega
 go_enter Tryz.func295, Tryz.ntmps295
 go_wp2_with fail
 refine hh.out.mono ?_
 rintro e w' ⟨rfl, rfl⟩
 go_wp2
 go_ret
 refine ⟨congrArg Ending.returned (congrArg Value.bool ?_), rfl⟩
 rw [HB.out, and_one_int x (i % 64) hx]
 exact natCast_beq_one _
def flipW (ws : List Nat) (i : Nat) : List Nat := ws.set (i / 64) (ws.getD (i / 64) 0 ^^^ 2 ^ (i % 64))
theorem bitOf_flip (ws : List Nat) (i j : Nat) (hi : i / 64 < ws.length) : bitOf (flipW ws i) j = (bitOf ws j != decide (j = i)) := by
 unfold bitOf flipW
 rw [List.getD_eq_getElem?_getD, List.getElem?_set]
 by_cases h : i / 64 = j / 64
 ·rw [if_pos h, if_pos hi]
  simp only [Option.getD_some]
  rw [Nat.testBit_xor, Nat.testBit_two_pow, ← h]
  have : decide (i % 64 = j % 64) = decide (j = i) := by
   rw [decide_eq_decide]
   omega
  rw [this]
 ·rw [if_neg h]
  have : decide (j = i) = false := by
   rw [decide_eq_false_iff_not]
   rintro rfl
   exact h rfl
  rw [this, List.getD_eq_getElem?_getD]
  generalize (ws[j / 64]?.getD 0).testBit (j % 64) = a
  cases a <;> rfl
def PSet.flip (s : PSet) (i : Nat) : PSet := { s with ws := flipW s.ws i }
theorem PSet.ok.flip {s : PSet} (o : s.ok) (i : Nat) : (s.flip i).ok := by
 refine ⟨by simp [PSet.flip, flipW, o.len], o.top, ?_⟩
 intro x hx
 simp only [PSet.flip, flipW] at hx
 rcases List.mem_or_eq_of_mem_set hx with h | h
 ·exact o.word x h
 ·rw [h]
  exact Nat.xor_lt_two_pow (n := 64) (o.get _) (pow64 i)
theorem u64s_set (ws : List Nat) (i v : Nat) : (u64s ws).set i (.int .u64 v) = u64s (ws.set i v) := by
 simp [u64s, List.map_set]
theorem flip_cells (b wb i n k q r x y z : Nat) (w : World)
  (hh : Calls Tryz.prog 294 #[.pointer (some ⟨b, 0, none⟩), .int .i64 i] w fun e w' => e = .returned (.bool true) ∧ w = w')
  (c1 : w.cell? ⟨b, 1, none⟩ = some (.slice (some ⟨wb, 0, none⟩) k k)) (cw : w.cell? ⟨wb, q, none⟩ = some (.int .u64 x)) (fw : w.frozen? ⟨wb, q, none⟩ = false)
  (hq : IntKind.i64.wrap ((i : Int) / 64) = q) (hr : (i : Int).tmod 64 = r) (hqk : q < k)
  (hs : IntKind.u64.wrap (2 ^ min r 64) = y) (hx : bits .xor .u64 (x : Int) (y : Int) = z) (_hn : i < n) :
  Calls Tryz.prog 292 #[.pointer (some ⟨b, 0, none⟩), .int .i64 i] w fun e w' => e = .returned (.bool true) ∧ w' = (w.setCell ⟨wb, q, none⟩ (.int .u64 z)).drew := by
 have HH := Hd hh
 clear hh
 go_enter Tryz.func292, Tryz.ntmps292
 go_wp2_with fail
 refine HH.out.mono ?_
 rintro e w' ⟨rfl, rfl⟩
 go_wp2_with fail
 refine wp_region_still_tail 13 (by kernel_rfl) (by kernel_rfl) ?_
 simp only [List.take_succ_cons, List.take_zero, List.drop_succ_cons, List.drop_zero, World.drew_eq]
 repeat still_step
 refine wpStill_nil ?_
 go_wp2_with fail
 go_ret
 exact ⟨rfl, rfl⟩
theorem wrap_pow64 (i : Nat) : IntKind.u64.wrap (2 ^ min (i % 64) 64) = ((2 ^ (i % 64) : Nat) : Int) := by
 have hp := pow64 i
 rw [show min (i % 64) 64 = i % 64 from by omega]
 have e : (2 ^ (i % 64) : Int) = ((2 ^ (i % 64) : Nat) : Int) := by simp
 rw [e]
 generalize 2 ^ (i % 64) = y at *
 exact IntWalk.u64_in _ (by omega)
theorem i64_div64 (i : Nat) (h : i ≤ 1048576) : IntKind.i64.wrap ((i : Int) / 64) = ((i / 64 : Nat) : Int) := by
 rw [show ((i : Int) / 64) = ((i / 64 : Nat) : Int) from by omega]
 exact IntWalk.i64_in _ (by omega)
theorem tmod64 (i : Nat) : (i : Int).tmod 64 = ((i % 64 : Nat) : Int) := (Int.ofNat_tmod i 64).symm
theorem SetRep.flip_ {w : World} {l : Nat × Nat} {s : PSet} (R : SetRep w l s) (i : Nat) (h : i < s.n) :
  Calls Tryz.prog 292 #[.pointer (some ⟨l.1, 0, none⟩), .int .i64 i] w fun e w' => e = .returned (.bool true) ∧ SetRep w' l (s.flip i) ∧ Touch (fun k => k = l.2) w w' := by
 have hl := R.ok.len
 have htop := R.ok.top
 have hi : i / 64 < s.ws.length := by omega
 have cw := R.words.cell (i / 64)
 rw [u64s_get _ _ hi] at cw
 refine (flip_cells l.1 l.2 i s.n s.ws.length (i / 64) (i % 64) (s.ws.getD (i / 64) 0) (2 ^ (i % 64)) (s.ws.getD (i / 64) 0 ^^^ 2 ^ (i % 64)) w (R.has_ i h) (R.blk.cell 1) cw (R.words.free _)
  (i64_div64 i (by omega)) (tmod64 i) hi (wrap_pow64 i) (u64_xor_nat _ _ (R.ok.get _) (pow64 i)) h).mono ?_
 rintro e w' ⟨he, rfl⟩
 have T : Touch (fun k => k = l.2) w (w.setCell ⟨l.2, i / 64, none⟩ (.int .u64 (s.ws.getD (i / 64) 0 ^^^ 2 ^ (i % 64) : Nat))).drew := (Touch.cellAt _ _ _ _).drew
 refine ⟨he, ⟨?_, ?_, R.ne, R.ok.flip i⟩, T⟩
 ·have := R.blk.touch T R.ne
  simpa [PSet.flip, flipW] using this
 ·have := (R.words.set (i / 64) (.int .u64 (s.ws.getD (i / 64) 0 ^^^ 2 ^ (i % 64) : Nat))).drew
  rw [u64s_set] at this
  exact this
def cutW (n : Nat) (ws : List Nat) : List Nat := if n % 64 = 0 then ws else ws.set (ws.length - 1) (ws.getD (ws.length - 1) 0 &&& (2 ^ (n % 64) - 1))
theorem cut_cells (b wb n k m r x y z : Nat) (w : World)
  (c0 : w.cell? ⟨b, 0, none⟩ = some (.int .i64 n)) (c1 : w.cell? ⟨b, 1, none⟩ = some (.slice (some ⟨wb, 0, none⟩) m m)) (cw : w.cell? ⟨wb, k, none⟩ = some (.int .u64 x)) (fw : w.frozen? ⟨wb, k, none⟩ = false) (hkm : k < m) (hwk : IntKind.i64.wrap ((m : Int) - 1) = k)
  (hr : (n : Int).tmod 64 = r) (hr0 : ((r : Int) != 0) = true)
  (hs : IntKind.u64.wrap (IntKind.u64.wrap (2 ^ min r 64) - 1) = y) (hx : bits .and .u64 (x : Int) (y : Int) = z) :
  Calls Tryz.prog 236 #[.pointer (some ⟨b, 0, none⟩)] w fun e w' => e = .returned (.tuple #[]) ∧ w' = (w.setCell ⟨wb, k, none⟩ (.int .u64 z)).drew := by
 have hr' : ((n : Int).tmod 64 != 0) = true := by rw [hr]; exact hr0
 go_enter Tryz.func236, Tryz.ntmps236
 go_wp2_with fail
 refine wp_region_still_tail 21 (by kernel_rfl) (by kernel_rfl) ?_
 simp only [List.take_succ_cons, List.take_zero, List.drop_succ_cons, List.drop_zero, World.drew_eq]
 repeat still_step
 refine wpStill_nil ?_
 go_wp2_with fail
 go_end0
 exact ⟨rfl, rfl⟩
theorem cut_none (b n : Nat) (w : World) (c0 : w.cell? ⟨b, 0, none⟩ = some (.int .i64 n)) (h : n % 64 = 0) :
  Calls Tryz.prog 236 #[.pointer (some ⟨b, 0, none⟩)] w fun e w' => e = .returned (.tuple #[]) ∧ w' = w := by
 have hr : (n : Int).tmod 64 = ((0 : Nat) : Int) := by rw [tmod64, h]
 have hr2 : (n : Int) % 64 = 0 := by omega
 go_enter Tryz.func236, Tryz.ntmps236
 go_wp2
 go_end0
 exact ⟨rfl, rfl⟩
structure Words (ws : List Nat) (n : Nat) : Prop where
 len : ws.length = (n + 63) / 64
 top : n ≤ 1048576
 word : ∀ x ∈ ws, x < 18446744073709551616
theorem Words.get {ws : List Nat} {n : Nat} (o : Words ws n) (i : Nat) : ws.getD i 0 < 18446744073709551616 := PSet.ok.get (s := ⟨n, ws⟩) ⟨o.len, o.top, o.word⟩ i
theorem Words.cut {ws : List Nat} {n : Nat} (o : Words ws n) : Words (cutW n ws) n := by
 unfold cutW
 split
 ·exact o
 ·refine ⟨by simp [o.len], o.top, ?_⟩
  intro x hx
  rcases List.mem_or_eq_of_mem_set hx with h | h
  ·exact o.word x h
  ·rw [h]
   exact Nat.lt_of_le_of_lt Nat.and_le_left (o.get _)
theorem cut_ (b wb n : Nat) (ws : List Nat) (w : World) (o : Words ws n) (hb : Blk w b 308 [.int .i64 n, .slice (some ⟨wb, 0, none⟩) ws.length ws.length]) (hw : Blk w wb 33 (u64s ws)) :
  Calls Tryz.prog 236 #[.pointer (some ⟨b, 0, none⟩)] w fun e w' => e = .returned (.tuple #[]) ∧ Blk w' wb 33 (u64s (cutW n ws)) ∧ Touch (fun k => k = wb) w w' := by
 by_cases h : n % 64 = 0
 ·refine (cut_none b n w (hb.cell 0) h).mono ?_
  rintro e w' ⟨he, rfl⟩
  refine ⟨he, ?_, Touch.refl _ _⟩
  rw [cutW, if_pos h]
  exact hw
 ·have hl := o.len
  have htop := o.top
  have hpos : ws.length - 1 < ws.length := by omega
  have cw := hw.cell (ws.length - 1)
  rw [u64s_get _ _ hpos] at cw
  have hp := pow64 n
  have h1 : 1 ≤ 2 ^ (n % 64) := Nat.pos_of_ne_zero (by simp)
  have hy : IntKind.u64.wrap (IntKind.u64.wrap (2 ^ min (n % 64) 64) - 1) = ((2 ^ (n % 64) - 1 : Nat) : Int) := by
   rw [wrap_pow64]
   generalize 2 ^ (n % 64) = y at *
   rw [show (y : Int) - 1 = ((y - 1 : Nat) : Int) from by omega]
   exact IntWalk.u64_in _ (by omega)
  have hwk : IntKind.i64.wrap ((ws.length : Int) - 1) = ((ws.length - 1 : Nat) : Int) := by
   rw [show (ws.length : Int) - 1 = ((ws.length - 1 : Nat) : Int) from by omega]
   exact IntWalk.i64_in _ (by omega)
  have hr0 : (((n % 64 : Nat) : Int) != 0) = true := by rw [bne_iff_ne]; omega
  refine (cut_cells b wb n (ws.length - 1) ws.length (n % 64) (ws.getD (ws.length - 1) 0) (2 ^ (n % 64) - 1) (ws.getD (ws.length - 1) 0 &&& (2 ^ (n % 64) - 1)) w (hb.cell 0) (hb.cell 1) cw (hw.free _) hpos hwk
   (tmod64 n) hr0 hy (bits_and_u64_nat _ _ (o.get _) (by omega))).mono ?_
  rintro e w' ⟨he, rfl⟩
  refine ⟨he, ?_, (Touch.cellAt _ _ _ _).drew⟩
  have := (hw.set (ws.length - 1) (.int .u64 (ws.getD (ws.length - 1) 0 &&& (2 ^ (n % 64) - 1) : Nat))).drew
  rw [u64s_set] at this
  rw [cutW, if_neg h]
  exact this
def ofW (cs : List Nat) (n : Nat) : List Nat := cutW n ((cs ++ List.replicate ((n + 63) / 64) 0).take ((n + 63) / 64))
theorem ofW_words {cs : List Nat} {n : Nat} (h : n ≤ 1048576) (hc : ∀ x ∈ cs, x < 18446744073709551616) : Words ((cs ++ List.replicate ((n + 63) / 64) 0).take ((n + 63) / 64)) n := by
 refine ⟨by simp, h, ?_⟩
 intro x hx
 rcases List.mem_append.1 (List.mem_of_mem_take hx) with h | h
 ·exact hc x h
 ·rw [(List.mem_replicate.1 h).2]
  omega
theorem info33 : (Tryz.prog.info? 33).map (fun i => (i.zero, i.size, i.bytes)) = some (some (.int .u64 0), 1, 8) := by kernel_rfl
def zeroWords (n : Nat) : Obj := .cells (madeCells (Value.int .u64 0).cells (n * 1)) 33
theorem zeroWords_zeros (w : World) (n : Nat) : Blk (w.alloc (zeroWords n)) w.heap.size 33 (u64s (List.replicate n 0)) := by
 have := Blk.new w (madeCells (Value.int .u64 0).cells (n * 1)) 33
 have e : (madeCells (Value.int .u64 0).cells (n * 1)).toList = u64s (List.replicate n 0) := by
  rw [Nat.mul_one]
  refine (toList_madeCells_one _ _).trans ?_
  simp [u64s]
 rw [e] at this
 exact this
theorem make201 (n : Nat) (h : n ≤ 1048576) (w : World) :
  (Instr.makeSlice 201 (.int .i64 (n : Int)) (.int .i64 (n : Int))).run Tryz.prog w = .ok (.slice (some ⟨w.heap.size, 0, none⟩) n n) (w.alloc (zeroWords n)) :=
 run_make_rowN 201 33 (.int .u64 0) 1 8 Tryz.underlying201 info33 .i64 .i64 n (by omega) (by omega) w
def MadeSet (w : World) (s : PSet) (e : Ending) (w' : World) : Prop :=
 ∃ l, e = .returned (.pointer (some ⟨l.1, 0, none⟩)) ∧ w.heap.size ≤ l.1 ∧ w.heap.size ≤ l.2 ∧ SetRep w' l s ∧ Touch Nothing w w'
theorem splice_take (cs : List Nat) (k : Nat) : splice (u64s (List.replicate k 0)) 0 (u64s (cs.take k)) = u64s ((cs ++ List.replicate k 0).take k) := by
 simp only [splice, u64s, List.take_zero, List.nil_append, Nat.zero_add, List.length_map, ← List.map_drop, ← List.map_append]
 congr 1
 rw [List.take_append, List.length_take, List.drop_replicate, List.take_replicate]
 congr 2
 omega
theorem of_ (cs : List Nat) (n : Nat) (sp : Option Addr) (c : Nat) (w : World) (h : n ≤ 1048576) (hc : ∀ x ∈ cs, x < 18446744073709551616)
  (hsrc : 0 < cs.length → ∃ ad, sp = some ad ∧ ad.block < w.heap.size ∧ ∀ j v, (u64s cs)[j]? = some v → w.cell? (ad.add j) = some v) :
  Calls Tryz.prog 181 #[.slice sp cs.length c, .int .i64 n] w (MadeSet w ⟨n, ofW cs n⟩) := by
 have hf := Hd (fit_ n w h)
 obtain ⟨k, hk⟩ : ∃ k, k = (n + 63) / 64 := ⟨_, rfl⟩
 rw [← hk] at hf
 have hmk := fun W => make201 k (by omega) W
 have T1 : Touch Nothing w ((w.alloc (zeroWords k)).alloc (.cells #[.int .i64 n, .slice (some ⟨w.heap.size, 0, none⟩) k k] 308)) := ((Touch.refl _ _).alloc _).alloc _
 have hZ : Blk ((w.alloc (zeroWords k)).alloc (.cells #[.int .i64 n, .slice (some ⟨w.heap.size, 0, none⟩) k k] 308)) w.heap.size 33 (u64s (List.replicate k 0)) := (zeroWords_zeros w k).alloc _
 have hS : Blk ((w.alloc (zeroWords k)).alloc (.cells #[.int .i64 n, .slice (some ⟨w.heap.size, 0, none⟩) k k] 308)) (w.heap.size + 1) 308 [.int .i64 n, .slice (some ⟨w.heap.size, 0, none⟩) k k] := by
  simpa using Blk.new (w.alloc (zeroWords k)) #[.int .i64 n, .slice (some ⟨w.heap.size, 0, none⟩) k k] 308
 have q1 : (u64s (cs.take k)).length = Nat.min cs.length k := by
  show _ = min cs.length k
  simp [u64s]
  omega
 have q2 : 0 < (u64s (cs.take k)).length → ∃ ad, sp = some ad ∧ ∀ j v, (u64s (cs.take k))[j]? = some v → ((w.alloc (zeroWords k)).alloc (.cells #[.int .i64 n, .slice (some ⟨w.heap.size, 0, none⟩) k k] 308)).cell? (ad.add j) = some v := by
  intro hp
  obtain ⟨ad, rfl, hlt, had⟩ := hsrc (by simp [u64s] at hp; omega)
  refine ⟨ad, rfl, fun j v hj => ?_⟩
  rw [T1.cell (by unfold Addr.add; split <;> exact hlt) (fun h => h)]
  apply had
  simp only [u64s, List.getElem?_map, List.getElem?_take] at hj ⊢
  split at hj
  ·exact hj
  ·simp at hj
 have q3 : 0 + (u64s (cs.take k)).length ≤ (u64s (List.replicate k 0)).length := by simp [u64s]; omega
 have q4 : ∀ v ∈ u64s (cs.take k), v.oneCell' = true := by
  intro v hv
  simp only [u64s, List.mem_map] at hv
  obtain ⟨_, _, rfl⟩ := hv
  rfl
 have HK := Hd hk
 have HS := Hd hS
 have HZ := Hd hZ
 have HC := Hd hc
 have HT := Hd T1
 have Q1 := Hd q1
 have Q2 := Hd q2
 have Q3 := Hd q3
 have Q4 := Hd q4
 clear hk hsrc hc hS hZ q1 q2 q3 q4 T1
 go_enter Tryz.func181, Tryz.ntmps181
 go_wp2_with fail
 refine hf.out.mono ?_
 rintro e w' ⟨rfl, rfl⟩
 go_wp2_with (refine wpList_copy_blk rfl (.tmp 20) (.tmp 21) 201 201 rfl 33 Tryz.underlying201 (by kernel_rfl) _ _ _ _ _ _ rfl rfl w.heap.size 0 _ 33 HZ.out _ Q1.out (fun h => ⟨rfl, Q2.out h⟩) Q3.out Q4.out ?_; intro w1 HB HTB)
 have hB := HB.out
 rw [splice_take] at hB
 have hlen : ((cs ++ List.replicate k 0).take k).length = k := by simp
 have hS1 := HS.out.touch HTB (by omega)
 have hW : Words ((cs ++ List.replicate k 0).take k) n := by
  have := ofW_words (cs := cs) h HC.out
  rw [← HK.out] at this
  exact this
 have hk := HK.out
 refine (cut_ (w.heap.size + 1) w.heap.size n ((cs ++ List.replicate k 0).take k) w1 hW (by rw [hlen]; exact hS1) hB).mono ?_
 rintro e w2 ⟨rfl, hB2, T2⟩
 have hS2 := Hd (hS1.touch T2 (by omega))
 have HB2 := Hd hB2
 have HT2 := Hd T2
 have HTB := Hd HTB
 have HW := Hd hW
 clear hB hB2 hS1 T2 hW hlen hk
 go_wp2_with fail
 go_ret
 have e1 : ofW cs n = cutW n ((cs ++ List.replicate k 0).take k) := by
  unfold ofW
  rw [← HK.out]
 have e2 : (cutW n ((cs ++ List.replicate k 0).take k)).length = k := by
  rw [HW.out.cut.len, ← HK.out]
 refine ⟨(w.heap.size + 1, w.heap.size), rfl, by simp, by simp, ⟨?_, ?_, by simp, ⟨?_, h, ?_⟩⟩, ?_⟩
 ·rw [e1]
  simp only [e2]
  exact hS2.out
 ·rw [e1]
  exact HB2.out
 ·rw [e1]
  exact HW.out.cut.len
 ·rw [e1]
  exact HW.out.cut.word
 ·exact (HT.out.trans' HTB.out (fun i hi e => by omega)).trans' HT2.out (fun i hi e => by omega)
theorem newSet_ (n : Nat) (w : World) (h : n ≤ 1048576) :
  Calls Tryz.prog 130 #[.int .i64 n] w (MadeSet w ⟨n, ofW [] n⟩) := by
 have hc := Hd (of_ [] n none 0 w h (by simp) (by simp))
 go_enter Tryz.func130, Tryz.ntmps130
 go_wp2_with fail
 refine hc.out.mono ?_
 rintro e w' ⟨l, rfl, h1, h2, hs, hT⟩
 have HS := Hd hs
 have HT := Hd hT
 clear hs hT
 go_wp2
 go_ret
 exact ⟨l, rfl, h1, h2, HS.out, HT.out⟩
def Resized (w : World) (l : Nat × Nat) (s : PSet) (e : Ending) (w' : World) : Prop :=
 ∃ b, e = .returned (.tuple #[]) ∧ w.heap.size ≤ b ∧ SetRep w' (l.1, b) s ∧ Touch (fun k => k = l.1) w w'
theorem SetRep.resize_ {w : World} {l : Nat × Nat} {s : PSet} (R : SetRep w l s) (n : Nat) (h : n ≤ 1048576) :
  Calls Tryz.prog 287 #[.pointer (some ⟨l.1, 0, none⟩), .int .i64 n] w (Resized w l ⟨n, ofW s.ws n⟩) := by
 have c0 := R.blk.cell 0
 have c1 := R.blk.cell 1
 simp at c0 c1
 have hc := Hd (of_ s.ws n (some ⟨l.2, 0, none⟩) s.ws.length w h R.ok.word (fun _ => ⟨_, rfl, R.words.lt, by
  intro j v hj
  have : (⟨l.2, 0, none⟩ : Addr).add j = ⟨l.2, j, none⟩ := by unfold Addr.add; split <;> simp_all
  rw [this, R.words.cell]
  exact hj⟩))
 have HR := Hd R
 clear R
 go_enter Tryz.func287, Tryz.ntmps287
 go_wp2_with fail
 refine hc.out.mono ?_
 rintro e w' ⟨l', rfl, h1, h2, hs, hT⟩
 have d0 := hs.blk.cell 0
 have d1 := hs.blk.cell 1
 simp at d0 d1
 have hR := HR.out.blk.touch hT (fun h => h)
 have e0 := hR.cell 0
 have e1 := hR.cell 1
 have f0 := hR.free 0
 have f1 := hR.free 1
 simp at e0 e1
 have hlt := HR.out.blk.lt
 have HS := Hd hs
 have HT := Hd hT
 have HB := Hd hR
 clear hs hT hR c0 c1
 go_wp2_with fail
 go_end0
 have T1 : Touch (fun k => k = l.1) w' (w'.setCell ⟨l.1, 0, none⟩ (.int .i64 n)) := Touch.cellAt _ _ _ _
 have T2 : Touch (fun k => k = l.1) (w'.setCell ⟨l.1, 0, none⟩ (.int .i64 n)) ((w'.setCell ⟨l.1, 0, none⟩ (.int .i64 n)).setCell ⟨l.1, 1, none⟩ (.slice (some ⟨l'.2, 0, none⟩) (ofW s.ws n).length (ofW s.ws n).length)) := Touch.cellAt _ _ _ _
 refine ⟨l'.2, rfl, h2, ⟨?_, ?_, by simp; omega, HS.out.ok⟩, (HT.out.none_.trans T1).trans T2⟩
 ·have := (HB.out.set 0 (.int .i64 n)).set 1 (.slice (some ⟨l'.2, 0, none⟩) (ofW s.ws n).length (ofW s.ws n).length)
  simpa using this
 ·exact (HS.out.words.touch T1 (by omega)).touch T2 (by omega)
end Go.Proofs.YtnjcmcnjgdjbiaaGreatDoor
