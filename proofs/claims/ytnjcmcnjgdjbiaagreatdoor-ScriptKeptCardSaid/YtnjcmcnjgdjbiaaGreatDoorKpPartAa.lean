/- DERIVED: THE SHELF's CONTRACTS AT THIS DUMP, IN PLAIN WORDS (tools/lay-plain.mjs out of 'TryzShelf.lean', which tools/lay-shelf.mjs wrote): THE SAME DECLARATIONS UNDER THE SAME NAMES: 'import', 'names. Conditions: as each theorem states. -/
import Derived.Shelf.Strings.Builder1
import Derived.Shelf.Small.Strs
import Derived.Shelf.Small.Wraps
import Derived.Shelf.Strings.BuilderF
import Derived.Shelf.Strings.BuilderK
import Derived.Shelf.Utf8.RuneCount
import Derived.Shelf.Strconv.Itoa0
import Derived.Shelf.Strconv.Itoa1
import Derived.Shelf.LaysM
import Derived.Shelf.Strconv.Itoa2
import Derived.Shelf.Strconv.Itoa3
import Derived.Ground.MpProg
import Derived.Shelf.Pu.ParseUintPublic10
import Derived.Shelf.Pu.ErrVarParseUint
import Derived.Shelf.Strings.Search1
import Derived.Shelf.Strings.Search2
import Derived.Shelf.Strings.Search3
import Derived.Shelf.Strings.Cut
import Derived.Shelf.Strings.Count
import Derived.Shelf.Strings.Shaped
import Derived.Shelf.Strings.Prefix
import Derived.Shelf.Strings.Split
import Derived.Shelf.Strings.SplitShaped
import Derived.Shelf.Unicode.Decode
import Derived.Shelf.Strings.RuneCount
import Derived.Shelf.Strings.Explode
import Derived.Shelf.Bits.Mul64
import Derived.Shelf.Unicode.DecodeSlow
import Derived.Shelf.Unicode.DecodeAny
import Derived.Shelf.Strings.BuilderCap
import Derived.Test.YtnjcmcnjgdjbiaaGreatDoorProg
import Derived.WalkKit
import Derived.WalkSpells
import Derived.WalkLawsBesides
import Derived.OneCell
import Derived.Deep.Draws
import Derived.Laws.CopyOwn
import Derived.Laws.MakeOwn
import Derived.Laws.Entries
import Derived.Lib.ParseIntBCases
import Derived.Lib.Split
import Derived.Lib.IndexBytes
import Derived.RegionTactic
import Derived.BigRegion
import Derived.Deep.QuietTactic
import Derived.BigQuiet
import Derived.IntWalk
import Derived.Lib.Hide
import Derived.Handy
import Derived.WalkSmall
import Derived.Outline
import Derived.StillTailTactics
import Derived.Test.YtnjcmcnjgdjbiaaGreatDoorRows
import Derived.Lib.LaidTab
import Derived.LaidLaws
import Derived.Test.YtnjcmcnjgdjbiaaGreatDoorCards
import Derived.Test.YtnjcmcnjgdjbiaaGreatDoorTie
import Derived.ProofKit
import Derived.OpenShut
import Derived.Deep.DeepHandedRow
import Derived.Deep.DeepWitnessRowRef
import Derived.Lib.LaidIn
import Derived.Lib.LaidU8
set_option maxRecDepth 100000
set_option maxHeartbeats 1000000
namespace Go.Proofs
open Go.Shelf
def Tryz.lays137_ren:Go.Shelf.Ren:=⟨fun | 137=>234 | 217=>226 | 266=>266 | n=>n,fun | 9=>9 | 5=>5 | 3=>3 | n=>n,fun | n=>n⟩
theorem Tryz.lays137:Go.Proofs.Lays.n137 Tryz.prog Tryz.lays137_ren:={
 mixed:=by kernel_rfl
 f137:=Tryz.func234.trans (congrArg some (by kernel_rfl))
 f217:=Tryz.func226.trans (congrArg some (by kernel_rfl))
 f266:=Tryz.func266.trans (congrArg some (by kernel_rfl))
 t3:=Tryz.underlying3
 a3:=Tryz.isAgg3
 z3:=Tryz.sizeOf3
 v3:=Tryz.zeroValue3
 t5:=Tryz.underlying5
 a5:=Tryz.isAgg5
 z5:=Tryz.sizeOf5
 v5:=Tryz.zeroValue5
 t9:=Tryz.underlying9
 a9:=Tryz.isAgg9
 z9:=Tryz.sizeOf9
 v9:=Tryz.zeroValue9 }
open Go.RowKit in
theorem Tryz.strings_IndexByte (s:ByteArray) (c:Int) (w:World) :
  Calls Tryz.prog 234 #[.string s,.int .u8 c] w fun e w'=>e=.returned (.int .i64 (Lib.indexByte s.data.toList c.toNat.toUInt8))∧w'=w:=Any.strings_IndexByte Tryz.lays137 s c w
def Tryz.lays210_ren:Go.Shelf.Ren:=⟨fun | 210=>230 | 206=>268 | n=>n,fun | 9=>9 | 4=>4 | 3=>3 | n=>n,fun | n=>n⟩
def Tryz.lays103_ren:Go.Shelf.Ren:=⟨fun | 103=>177 | 210=>230 | 206=>268 | n=>n,fun | 9=>9 | 4=>4 | 24=>135 | 3=>3 | n=>n,fun | n=>n⟩
theorem Tryz.lays103:Go.Proofs.Lays.n103 Tryz.prog Tryz.lays103_ren:={
 mixed:=by kernel_rfl
 f103:=Tryz.func177.trans (congrArg some (by kernel_rfl))
 f206:=Tryz.func268.trans (congrArg some (by kernel_rfl))
 f210:=Tryz.func230.trans (congrArg some (by kernel_rfl))
 t3:=Tryz.underlying3
 a3:=Tryz.isAgg3
 z3:=Tryz.sizeOf3
 v3:=Tryz.zeroValue3
 t4:=Tryz.underlying4
 a4:=Tryz.isAgg4
 z4:=Tryz.sizeOf4
 v4:=Tryz.zeroValue4
 t9:=Tryz.underlying9
 a9:=Tryz.isAgg9
 z9:=Tryz.sizeOf9
 v9:=Tryz.zeroValue9
 t24:=Tryz.underlying135
 a24:=Tryz.isAgg135
 z24:=Tryz.sizeOf135
 v24:=Tryz.zeroValue135 }
open Go.RowKit in
theorem Tryz.strings_CutPrefix (s p:ByteArray) (w:World) :
  Calls Tryz.prog 177 #[.string s,.string p] w fun e w'=>e=.returned (.tuple #[.string ⟨(Lib.trimPrefix s.data.toList p.data.toList).toArray⟩,.bool (Lib.hasPrefix s.data.toList p.data.toList)])∧w'=w:=Any.strings_CutPrefix Tryz.lays103 s p w
def Tryz.lays129_ren:Go.Shelf.Ren:=⟨fun | 129=>241 | n=>n,fun | 53=>33 | 3=>3 | 4=>4 | 46=>98 | 5=>5 | 9=>9 | n=>n,fun | n=>n⟩
theorem Tryz.lays129:Go.Proofs.Lays.n129 Tryz.prog Tryz.lays129_ren:={
 mixed:=by kernel_rfl
 f129:=Tryz.func241.trans (congrArg some (by kernel_rfl))
 t3:=Tryz.underlying3
 a3:=Tryz.isAgg3
 z3:=Tryz.sizeOf3
 v3:=Tryz.zeroValue3
 t4:=Tryz.underlying4
 a4:=Tryz.isAgg4
 z4:=Tryz.sizeOf4
 v4:=Tryz.zeroValue4
 t5:=Tryz.underlying5
 a5:=Tryz.isAgg5
 z5:=Tryz.sizeOf5
 v5:=Tryz.zeroValue5
 t9:=Tryz.underlying9
 a9:=Tryz.isAgg9
 z9:=Tryz.sizeOf9
 v9:=Tryz.zeroValue9
 t46:=Tryz.underlying98
 a46:=Tryz.isAgg98
 z46:=Tryz.sizeOf98
 v46:=Tryz.zeroValue98
 t53:=Tryz.underlying33
 a53:=Tryz.isAgg33
 z53:=Tryz.sizeOf33
 v53:=Tryz.zeroValue33 }
theorem Tryz.bits_Len64 (x:Int) (w:World) (h0:0≤x) (h1:x≤18446744073709551615) :
  Calls Tryz.prog 241 #[.int .u64 x] w fun e w'=>e=.returned (.int .i64 (Lib.bitLen x.toNat))∧w'=w:=Any.bits_Len64 Tryz.lays129 x w h0 h1
def Tryz.laysPu14_ren:Go.Shelf.Ren:=⟨fun | 14=>179 | 16=>232 | 17=>233 | 19=>269 | 20=>270 | 21=>271 | 22=>272 | 23=>273 | 24=>274 | 25=>290 | 27=>169 | 26=>291 | 28=>220 | 29=>261 | 30=>221 | 31=>222 | 32=>223 | 33=>224 | 35=>241 | 34=>262 | 36=>263 | 37=>264 | 38=>265 | 39=>288 | 40=>289 | n=>n,fun | 9=>9 | 3=>3 | 22=>33 | 24=>138 | 25=>269 | 4=>4 | 34=>338 | 5=>5 | 36=>98 | 37=>34 | 0=>0 | 39=>340 | 21=>21 | 44=>359 | 47=>204 | 50=>365 | 48=>363 | 2=>2 | 52=>300 | 55=>302 | 59=>329 | 60=>91 | 20=>20 | 61=>330 | 65=>361 | 66=>362 | 67=>141 | n=>n,fun | 0=>5 | 1=>6 | 2=>2 | 3=>7 | 4=>8 | n=>n⟩
theorem Tryz.laysPu14:Go.Proofs.LaysPu.n14 Tryz.prog Tryz.laysPu14_ren:={
 mixed:=by kernel_rfl
 f14:=Tryz.func179.trans (congrArg some (by kernel_rfl))
 f16:=Tryz.func232.trans (congrArg some (by kernel_rfl))
 f17:=Tryz.func233.trans (congrArg some (by kernel_rfl))
 f19:=Tryz.func269.trans (congrArg some (by kernel_rfl))
 f20:=Tryz.func270.trans (congrArg some (by kernel_rfl))
 f21:=Tryz.func271.trans (congrArg some (by kernel_rfl))
 f22:=Tryz.func272.trans (congrArg some (by kernel_rfl))
 f23:=Tryz.func273.trans (congrArg some (by kernel_rfl))
 f24:=Tryz.func274.trans (congrArg some (by kernel_rfl))
 f25:=Tryz.func290.trans (congrArg some (by kernel_rfl))
 f26:=Tryz.func291.trans (congrArg some (by kernel_rfl))
 f27:=Tryz.func169.trans (congrArg some (by kernel_rfl))
 f28:=Tryz.func220.trans (congrArg some (by kernel_rfl))
 f29:=Tryz.func261.trans (congrArg some (by kernel_rfl))
 f30:=Tryz.func221.trans (congrArg some (by kernel_rfl))
 f31:=Tryz.func222.trans (congrArg some (by kernel_rfl))
 f32:=Tryz.func223.trans (congrArg some (by kernel_rfl))
 f33:=Tryz.func224.trans (congrArg some (by kernel_rfl))
 f34:=Tryz.func262.trans (congrArg some (by kernel_rfl))
 f35:=Tryz.func241.trans (congrArg some (by kernel_rfl))
 f36:=Tryz.func263.trans (congrArg some (by kernel_rfl))
 f37:=Tryz.func264.trans (congrArg some (by kernel_rfl))
 f38:=Tryz.func265.trans (congrArg some (by kernel_rfl))
 f39:=Tryz.func288.trans (congrArg some (by kernel_rfl))
 f40:=Tryz.func289.trans (congrArg some (by kernel_rfl))
 t0:=Tryz.underlying0
 a0:=Tryz.isAgg0
 z0:=Tryz.sizeOf0
 v0:=Tryz.zeroValue0
 i0:=by kernel_rfl
 t2:=Tryz.underlying2
 a2:=Tryz.isAgg2
 z2:=Tryz.sizeOf2
 v2:=Tryz.zeroValue2
 i2:=by kernel_rfl
 t3:=Tryz.underlying3
 a3:=Tryz.isAgg3
 z3:=Tryz.sizeOf3
 v3:=Tryz.zeroValue3
 i3:=by kernel_rfl
 t4:=Tryz.underlying4
 a4:=Tryz.isAgg4
 z4:=Tryz.sizeOf4
 v4:=Tryz.zeroValue4
 i4:=by kernel_rfl
 t5:=Tryz.underlying5
 a5:=Tryz.isAgg5
 z5:=Tryz.sizeOf5
 v5:=Tryz.zeroValue5
 i5:=by kernel_rfl
 t9:=Tryz.underlying9
 a9:=Tryz.isAgg9
 z9:=Tryz.sizeOf9
 v9:=Tryz.zeroValue9
 i9:=by kernel_rfl
 t20:=Tryz.underlying20
 a20:=Tryz.isAgg20
 z20:=Tryz.sizeOf20
 v20:=Tryz.zeroValue20
 i20:=by kernel_rfl
 t21:=Tryz.underlying21
 a21:=Tryz.isAgg21
 z21:=Tryz.sizeOf21
 v21:=Tryz.zeroValue21
 i21:=by kernel_rfl
 t22:=Tryz.underlying33
 a22:=Tryz.isAgg33
 z22:=Tryz.sizeOf33
 v22:=Tryz.zeroValue33
 i22:=by kernel_rfl
 t24:=Tryz.underlying138
 a24:=Tryz.isAgg138
 z24:=Tryz.sizeOf138
 v24:=Tryz.zeroValue138
 i24:=by kernel_rfl
 t25:=Tryz.underlying269
 a25:=Tryz.isAgg269
 z25:=Tryz.sizeOf269
 v25:=Tryz.zeroValue269
 i25:=by kernel_rfl
 t34:=Tryz.underlying338
 a34:=Tryz.isAgg338
 z34:=Tryz.sizeOf338
 v34:=Tryz.zeroValue338
 i34:=by kernel_rfl
 c34:=by kernel_rfl
 t36:=Tryz.underlying98
 a36:=Tryz.isAgg98
 z36:=Tryz.sizeOf98
 v36:=Tryz.zeroValue98
 i36:=by kernel_rfl
 t37:=Tryz.underlying34
 a37:=Tryz.isAgg34
 z37:=Tryz.sizeOf34
 v37:=Tryz.zeroValue34
 i37:=by kernel_rfl
 t39:=Tryz.underlying340
 a39:=Tryz.isAgg340
 z39:=Tryz.sizeOf340
 v39:=Tryz.zeroValue340
 i39:=by kernel_rfl
 t44:=Tryz.underlying359
 a44:=Tryz.isAgg359
 z44:=Tryz.sizeOf359
 v44:=Tryz.zeroValue359
 i44:=by kernel_rfl
 t47:=Tryz.underlying204
 a47:=Tryz.isAgg204
 z47:=Tryz.sizeOf204
 v47:=Tryz.zeroValue204
 i47:=by kernel_rfl
 t48:=Tryz.underlying363
 a48:=Tryz.isAgg363
 z48:=Tryz.sizeOf363
 v48:=Tryz.zeroValue363
 i48:=by kernel_rfl
 t50:=Tryz.underlying365
 a50:=Tryz.isAgg365
 z50:=Tryz.sizeOf365
 v50:=Tryz.zeroValue365
 i50:=by kernel_rfl
 t52:=Tryz.underlying300
 a52:=Tryz.isAgg300
 z52:=Tryz.sizeOf300
 v52:=Tryz.zeroValue300
 i52:=by kernel_rfl
 t55:=Tryz.underlying302
 a55:=Tryz.isAgg302
 z55:=Tryz.sizeOf302
 v55:=Tryz.zeroValue302
 i55:=by kernel_rfl
 t59:=Tryz.underlying329
 a59:=Tryz.isAgg329
 z59:=Tryz.sizeOf329
 v59:=Tryz.zeroValue329
 i59:=by kernel_rfl
 t60:=Tryz.underlying91
 a60:=Tryz.isAgg91
 z60:=Tryz.sizeOf91
 v60:=Tryz.zeroValue91
 i60:=by kernel_rfl
 t61:=Tryz.underlying330
 a61:=Tryz.isAgg330
 z61:=Tryz.sizeOf330
 t65:=Tryz.underlying361
 a65:=Tryz.isAgg361
 z65:=Tryz.sizeOf361
 v65:=Tryz.zeroValue361
 i65:=by kernel_rfl
 t66:=Tryz.underlying362
 a66:=Tryz.isAgg362
 z66:=Tryz.sizeOf362
 v66:=Tryz.zeroValue362
 i66:=by kernel_rfl
 t67:=Tryz.underlying141
 a67:=Tryz.isAgg141
 z67:=Tryz.sizeOf141
 v67:=Tryz.zeroValue141
 i67:=by kernel_rfl
 g0:=by kernel_rfl
 m0:=by kernel_rfl
 g1:=by kernel_rfl
 m1:=by kernel_rfl
 g2:=by kernel_rfl
 m2:=by kernel_rfl
 g3:=by kernel_rfl
 m3:=by kernel_rfl
 g4:=by kernel_rfl
 m4:=by kernel_rfl }
open Go.RowKit in
theorem Tryz.strconv_ParseUint_10_at64_ok (s:ByteArray) (hmax:s.size≤9223372036854775806) (u:Nat) (h:Lib.parseUintB 64 s.data.toList=.ok u) (w:World) :
  Calls Tryz.prog 179 #[.string s,.int .i64 10,.int .i64 64] w fun e w'=>e=.returned (.tuple #[.int .u64 u,.nilIface])∧(w'=w∨w'=Lib.bytesWorld w 5 s):=Any.strconv_ParseUint_10_at64_ok Tryz.laysPu14 s hmax u h w
open Go.RowKit in
theorem Tryz.strconv_ParseUint_10_at64_syntax (s:ByteArray) (hlim:s.size≤281474976710656) (h:Lib.parseUintB 64 s.data.toList=Lib.parseUintB 64 []) (ev:Value) (w:World) (hv:w.cell? ⟨5,0,none⟩=some ev) (hev:ev=.nilIface∨∃ te pe,ev=.iface te pe) :
  Calls Tryz.prog 179 #[.string s,.int .i64 10,.int .i64 64] w fun e w'=>∃ N,e=.returned (.tuple #[.int .u64 0,.iface 340 (.pointer (some ⟨N,0,none⟩))])∧w.heap.size≤N∧w'.heap[N]? = some (.cells #[.string ⟨#[80,97,114,115,101,85,105,110,116]⟩,.string s,ev] 359 (0,0))∧Below w.heap.size w w':=Any.strconv_ParseUint_10_at64_syntax Tryz.laysPu14 s hlim h ev w hv hev
open Go.RowKit in
theorem Tryz.strconv_ParseUint_10_at64_range (s:ByteArray) (hlim:s.size≤281474976710656) (h:Lib.parseUintB 64 s.data.toList=.range) (ev:Value) (w:World) (hv:w.cell? ⟨6,0,none⟩=some ev) (hev:ev=.nilIface∨∃ te pe,ev=.iface te pe) :
  Calls Tryz.prog 179 #[.string s,.int .i64 10,.int .i64 64] w fun e w'=>∃ N,e=.returned (.tuple #[.int .u64 18446744073709551615,.iface 340 (.pointer (some ⟨N,0,none⟩))])∧w.heap.size≤N∧w'.heap[N]? = some (.cells #[.string ⟨#[80,97,114,115,101,85,105,110,116]⟩,.string s,ev] 359 (0,0))∧Below w.heap.size w w':=Any.strconv_ParseUint_10_at64_range Tryz.laysPu14 s hlim h ev w hv hev
def Tryz.lays219_ren:Go.Shelf.Ren:=⟨fun | 219=>176 | 217=>226 | 225=>227 | 224=>228 | 267=>229 | 266=>266 | 314=>267 | n=>n,fun | 9=>9 | 3=>3 | 4=>4 | 5=>5 | 46=>98 | 146=>336 | 51=>91 | n=>n,fun | 1=>0 | n=>n⟩
def Tryz.lays145_ren:Go.Shelf.Ren:=⟨fun | 145=>178 | 220=>231 | 219=>176 | 217=>226 | 225=>227 | 224=>228 | 267=>229 | 266=>266 | 314=>267 | n=>n,fun | 9=>9 | 4=>4 | 59=>267 | 3=>3 | 5=>5 | 46=>98 | 146=>336 | 51=>91 | n=>n,fun | 1=>0 | n=>n⟩
theorem Tryz.lays145:Go.Proofs.Lays.n145 Tryz.prog Tryz.lays145_ren:={
 mixed:=by kernel_rfl
 f145:=Tryz.func178.trans (congrArg some (by kernel_rfl))
 f217:=Tryz.func226.trans (congrArg some (by kernel_rfl))
 f219:=Tryz.func176.trans (congrArg some (by kernel_rfl))
 f220:=Tryz.func231.trans (congrArg some (by kernel_rfl))
 f224:=Tryz.func228.trans (congrArg some (by kernel_rfl))
 f225:=Tryz.func227.trans (congrArg some (by kernel_rfl))
 f266:=Tryz.func266.trans (congrArg some (by kernel_rfl))
 f267:=Tryz.func229.trans (congrArg some (by kernel_rfl))
 f314:=Tryz.func267.trans (congrArg some (by kernel_rfl))
 t3:=Tryz.underlying3
 a3:=Tryz.isAgg3
 z3:=Tryz.sizeOf3
 v3:=Tryz.zeroValue3
 t4:=Tryz.underlying4
 a4:=Tryz.isAgg4
 z4:=Tryz.sizeOf4
 v4:=Tryz.zeroValue4
 t5:=Tryz.underlying5
 a5:=Tryz.isAgg5
 z5:=Tryz.sizeOf5
 v5:=Tryz.zeroValue5
 t9:=Tryz.underlying9
 a9:=Tryz.isAgg9
 z9:=Tryz.sizeOf9
 v9:=Tryz.zeroValue9
 t46:=Tryz.underlying98
 a46:=Tryz.isAgg98
 z46:=Tryz.sizeOf98
 v46:=Tryz.zeroValue98
 t51:=Tryz.underlying91
 a51:=Tryz.isAgg91
 z51:=Tryz.sizeOf91
 v51:=Tryz.zeroValue91
 t59:=Tryz.underlying267
 a59:=Tryz.isAgg267
 z59:=Tryz.sizeOf267
 v59:=Tryz.zeroValue267
 t146:=Tryz.underlying336
 a146:=Tryz.isAgg336
 z146:=Tryz.sizeOf336
 v146:=Tryz.zeroValue336
 g1:=by kernel_rfl }
open Go.RowKit Go.Lib in
theorem Tryz.strings_Cut (s sep:ByteArray) (m:Int) (w:World) (hs:s.size<4294967281) (hm:w.cell? ⟨0,0,none⟩=some (.int .i64 m)) :
  Calls Tryz.prog 178 #[.string s,.string sep] w fun e w'=>e=.returned (.tuple #[.string ⟨(Lib.cut s.data.toList sep.data.toList).1.toArray⟩,.string ⟨(Lib.cut s.data.toList sep.data.toList).2.1.toArray⟩,.bool (Lib.cut s.data.toList sep.data.toList).2.2])∧∃ n,w'=w.drewN n:=Any.strings_Cut Tryz.lays145 s sep m w hs hm
def Tryz.lays102_ren:Go.Shelf.Ren:=⟨fun | 102=>32 | 209=>75 | 207=>123 | n=>n,fun | 9=>9 | 4=>4 | 3=>3 | n=>n,fun | n=>n⟩
theorem Tryz.lays102:Go.Proofs.Lays.n102 Tryz.prog Tryz.lays102_ren:={
 mixed:=by kernel_rfl
 f102:=Tryz.func32.trans (congrArg some (by kernel_rfl))
 f207:=Tryz.func123.trans (congrArg some (by kernel_rfl))
 f209:=Tryz.func75.trans (congrArg some (by kernel_rfl))
 t3:=Tryz.underlying3
 a3:=Tryz.isAgg3
 z3:=Tryz.sizeOf3
 v3:=Tryz.zeroValue3
 t4:=Tryz.underlying4
 a4:=Tryz.isAgg4
 z4:=Tryz.sizeOf4
 v4:=Tryz.zeroValue4
 t9:=Tryz.underlying9
 a9:=Tryz.isAgg9
 z9:=Tryz.sizeOf9
 v9:=Tryz.zeroValue9 }
open Go.RowKit Go.Lib in
theorem Tryz.strings_TrimSuffix (s p:ByteArray) (w:World) (hs:s.size≤9223372036854775807) :
  Calls Tryz.prog 32 #[.string s,.string p] w fun e w'=>e=.returned (.string ⟨(Lib.trimSuffix s.data.toList p.data.toList).toArray⟩)∧w'=w:=Any.strings_TrimSuffix Tryz.lays102 s p w hs
def Tryz.lays221_ren:Go.Shelf.Ren:=⟨fun | 221=>74 | 268=>120 | 138=>121 | 143=>122 | 195=>173 | 197=>174 | 218=>175 | 219=>176 | 260=>225 | 217=>226 | 225=>227 | 224=>228 | 267=>229 | 266=>266 | 314=>267 | n=>n,fun | 9=>9 | 3=>3 | 31=>79 | 4=>4 | 0=>0 | 105=>263 | 21=>21 | 5=>5 | 46=>98 | 119=>332 | 139=>335 | 138=>334 | 146=>336 | 51=>91 | n=>n,fun | 1=>0 | 3=>3 | 4=>4 | n=>n⟩
def Tryz.lays146_ren:Go.Shelf.Ren:=⟨fun | 146=>31 | 221=>74 | 268=>120 | 138=>121 | 143=>122 | 195=>173 | 197=>174 | 218=>175 | 219=>176 | 260=>225 | 217=>226 | 225=>227 | 224=>228 | 267=>229 | 266=>266 | 314=>267 | n=>n,fun | 9=>9 | 31=>79 | 3=>3 | 4=>4 | 0=>0 | 105=>263 | 21=>21 | 5=>5 | 46=>98 | 119=>332 | 139=>335 | 138=>334 | 146=>336 | 51=>91 | n=>n,fun | 1=>0 | 3=>3 | 4=>4 | n=>n⟩
theorem Tryz.lays146:Go.Proofs.Lays.n146 Tryz.prog Tryz.lays146_ren:={
 mixed:=by kernel_rfl
 f138:=Tryz.func121.trans (congrArg some (by kernel_rfl))
 f143:=Tryz.func122.trans (congrArg some (by kernel_rfl))
 f146:=Tryz.func31.trans (congrArg some (by kernel_rfl))
 f195:=Tryz.func173.trans (congrArg some (by kernel_rfl))
 f197:=Tryz.func174.trans (congrArg some (by kernel_rfl))
 f217:=Tryz.func226.trans (congrArg some (by kernel_rfl))
 f218:=Tryz.func175.trans (congrArg some (by kernel_rfl))
 f219:=Tryz.func176.trans (congrArg some (by kernel_rfl))
 f221:=Tryz.func74.trans (congrArg some (by kernel_rfl))
 f224:=Tryz.func228.trans (congrArg some (by kernel_rfl))
 f225:=Tryz.func227.trans (congrArg some (by kernel_rfl))
 f260:=Tryz.func225.trans (congrArg some (by kernel_rfl))
 f266:=Tryz.func266.trans (congrArg some (by kernel_rfl))
 f267:=Tryz.func229.trans (congrArg some (by kernel_rfl))
 f268:=Tryz.func120.trans (congrArg some (by kernel_rfl))
 f314:=Tryz.func267.trans (congrArg some (by kernel_rfl))
 t0:=Tryz.underlying0
 a0:=Tryz.isAgg0
 z0:=Tryz.sizeOf0
 v0:=Tryz.zeroValue0
 t3:=Tryz.underlying3
 a3:=Tryz.isAgg3
 z3:=Tryz.sizeOf3
 v3:=Tryz.zeroValue3
 t4:=Tryz.underlying4
 a4:=Tryz.isAgg4
 z4:=Tryz.sizeOf4
 v4:=Tryz.zeroValue4
 t5:=Tryz.underlying5
 a5:=Tryz.isAgg5
 z5:=Tryz.sizeOf5
 v5:=Tryz.zeroValue5
 t9:=Tryz.underlying9
 a9:=Tryz.isAgg9
 z9:=Tryz.sizeOf9
 v9:=Tryz.zeroValue9
 t21:=Tryz.underlying21
 a21:=Tryz.isAgg21
 z21:=Tryz.sizeOf21
 v21:=Tryz.zeroValue21
 t31:=Tryz.underlying79
 a31:=Tryz.isAgg79
 z31:=Tryz.sizeOf79
 v31:=Tryz.zeroValue79
 t46:=Tryz.underlying98
 a46:=Tryz.isAgg98
 z46:=Tryz.sizeOf98
 v46:=Tryz.zeroValue98
 t51:=Tryz.underlying91
 a51:=Tryz.isAgg91
 z51:=Tryz.sizeOf91
 v51:=Tryz.zeroValue91
 t105:=Tryz.underlying263
 a105:=Tryz.isAgg263
 z105:=Tryz.sizeOf263
 v105:=Tryz.zeroValue263
 t119:=Tryz.underlying332
 a119:=Tryz.isAgg332
 z119:=Tryz.sizeOf332
 t138:=Tryz.underlying334
 a138:=Tryz.isAgg334
 z138:=Tryz.sizeOf334
 v138:=Tryz.zeroValue334
 t139:=Tryz.underlying335
 a139:=Tryz.isAgg335
 z139:=Tryz.sizeOf335
 v139:=Tryz.zeroValue335
 t146:=Tryz.underlying336
 a146:=Tryz.isAgg336
 z146:=Tryz.sizeOf336
 v146:=Tryz.zeroValue336
 g1:=by kernel_rfl
 g3:=by kernel_rfl
 g4:=by kernel_rfl }
open Go.RowKit Go.Lib in
theorem Tryz.strings_Split (s sep:ByteArray) (m:Int) (w:World) (hs:s.size<4294967281) (hm:w.cell? ⟨0,0,none⟩=some (.int .i64 m)) (h1:1≤sep.size) :
  Calls Tryz.prog 31 #[.string s,.string sep] w fun e w' =>
   e=.returned (.slice (some ⟨w.heap.size,0,none⟩) (Lib.countB s sep+1) (Lib.countB s sep+1))∧w'=w.alloc (.cells ((Lib.splitB sep 0 (Lib.countB s sep) s).map Value.string).toArray 9):=Any.strings_Split Tryz.lays146 (by kernel_rfl) s sep m w hs hm h1
def Tryz.lays264_ren:Go.Shelf.Ren:=⟨fun | 264=>132 | n=>n,fun | 53=>33 | 46=>98 | n=>n,fun | n=>n⟩
theorem Tryz.lays264:Go.Proofs.Lays.n264 Tryz.prog Tryz.lays264_ren:={
 mixed:=by kernel_rfl
 f264:=Tryz.func132.trans (congrArg some (by kernel_rfl))
 t46:=Tryz.underlying98
 a46:=Tryz.isAgg98
 z46:=Tryz.sizeOf98
 v46:=Tryz.zeroValue98
 t53:=Tryz.underlying33
 a53:=Tryz.isAgg33
 z53:=Tryz.sizeOf33
 v53:=Tryz.zeroValue33 }
open Go.RowKit Go.Lib in
theorem Tryz.bits_Mul64 (x y:Nat) (hx:x<18446744073709551616) (hy:y<18446744073709551616) (w:World) :
  Calls Tryz.prog 132 #[.int .u64 x,.int .u64 y] w fun e w'=>e=.returned (.tuple #[.int .u64 ((x*y/18446744073709551616:Nat):Int),.int .u64 ((x*y%18446744073709551616:Nat):Int)])∧w'=w:=Any.bits_Mul64 Tryz.lays264 x y hx hy w
end Go.Proofs
namespace Go.Proofs.YtnjcmcnjgdjbiaaGreatDoor
open Go.RowKit
theorem Hd {p:Prop} (h:p):Hid p:=h
def aC (w:World) (b:Nat) (t:TypeId) (cs:List Value):Prop:=w.heap[b]? = some (.cells cs.toArray t (0,0))
structure Touch (S:Nat→Prop) (w w':World):Prop where
 os:w'.os=w.os
 tape:w'.tape=w.tape
 output:w'.output=w.output
 size:w.heap.size≤w'.heap.size
 block:∀ k,k<w.heap.size→¬S k→w'.heap[k]? = w.heap[k]?
abbrev Nothing:Nat→Prop:=fun _=>False
namespace Touch
variable {S T:Nat→Prop} {a b c w w':World}
theorem refl (S:Nat→Prop) (w:World):Touch S w w:=⟨rfl,rfl,rfl,Nat.le_refl _,fun _ _ _=>rfl⟩
theorem trans (h:Touch S a b) (k:Touch S b c):Touch S a c :=
 ⟨k.os.trans h.os,k.tape.trans h.tape,k.output.trans h.output,Nat.le_trans h.size k.size,
  fun i hi hs=>(k.block i (Nat.lt_of_lt_of_le hi h.size) hs).trans (h.block i hi hs)⟩
theorem mono (h:Touch S a b) (hst:∀ k,k<a.heap.size→S k→T k):Touch T a b :=
 ⟨h.os,h.tape,h.output,h.size,fun i hi ht=>h.block i hi (fun hs=>ht (hst i hi hs))⟩
theorem none_ (h:Touch Nothing a b):Touch S a b:=h.mono (fun _ _ f=>f.elim)
theorem trans' (h:Touch S a b) (k:Touch T b c) (ht:∀ i,i<a.heap.size→T i→S i):Touch S a c :=
 ⟨k.os.trans h.os,k.tape.trans h.tape,k.output.trans h.output,Nat.le_trans h.size k.size,
  fun i hi hs=>(k.block i (Nat.lt_of_lt_of_le hi h.size) (fun x=>hs (ht i hi x))).trans (h.block i hi hs)⟩
theorem drew (h:Touch S a b):Touch S a b.drew:=⟨h.os,h.tape,h.output,h.size,h.block⟩
theorem drewN (h:Touch S a b) (n:Nat):Touch S a (b.drewN n):=⟨h.os,h.tape,h.output,h.size,h.block⟩
theorem alloc (h:Touch S a b) (o:Obj):Touch S a (b.alloc o) :=
 ⟨h.os,h.tape,h.output,Nat.le_trans h.size (by simp),fun i hi hs=>(Below.heap_alloc b o i (Nat.lt_of_lt_of_le hi h.size)).trans (h.block i hi hs)⟩
theorem setCell (h:Touch S a b) {p:Addr} (hp:p.block<a.heap.size→S p.block) (u:Value):Touch S a (b.setCell p u) :=
 ⟨h.os,h.tape,h.output,by simpa [World.setCell] using h.size,fun i hi hs=>(Below.heap_setCell b p u i (by
  rintro rfl;exact hs (hp hi))).trans (h.block i hi hs)⟩
theorem cellAt (w:World) (b i:Nat) (v:Value):Touch (fun k=>k=b) w (w.setCell ⟨b,i,none⟩ v) :=
 ⟨rfl,rfl,rfl,by simp [World.setCell],fun k _ hk=>Below.heap_setCell w ⟨b,i,none⟩ v k (by simpa using hk)⟩
theorem of_below (h:Below a.heap.size a b):Touch S a b:=⟨h.os,h.tape,h.output,h.size,fun i hi _=>h.block i hi⟩
theorem below (h:Touch Nothing a b):Below a.heap.size a b:=⟨h.os,h.tape,h.output,h.size,fun i hi=>h.block i hi (fun x=>x)⟩
theorem NT {B:Nat} (h:Touch S a b) (hB:B≤a.heap.size) (hS:∀ k,S k→B≤k):Below B a b :=
 ⟨h.os,h.tape,h.output,h.size,fun i hi=>h.block i (Nat.lt_of_lt_of_le hi hB) (fun s=>by have:=hS i s;omega)⟩
theorem bT {row:Option Nat} (h:a.grownBy b row) (hr:∀ k,row=some k→S k):Touch S a b :=
 ⟨h.os,h.tape,h.output,h.size,fun i hi hs=>h.block i hi (fun e=>hs (hr i e.symm))⟩
theorem cell (h:Touch S w w') {p:Addr} (hp:p.block<w.heap.size) (hs:¬S p.block):w'.cell? p=w.cell? p :=
 World.cell?_of_block (w:=w) (h.block p.block hp hs)
theorem frozen (h:Touch S w w') {p:Addr} (hp:p.block<w.heap.size) (hs:¬S p.block):w'.frozen? p=w.frozen? p :=
 World.frozen?_of_block (w:=w) (h.block p.block hp hs)
end Touch
namespace aC
variable {w w':World} {b:Nat} {t:TypeId} {cs:List Value} {S:Nat→Prop}
theorem lt (h:aC w b t cs):b<w.heap.size:=(Array.getElem?_eq_some_iff.1 h).1
theorem cell (h:aC w b t cs) (i:Nat):w.cell? ⟨b,i,none⟩=cs[i]? := by
 have h':w.heap[b]? = _:=h;simp [World.cell?,h']
theorem free (h:aC w b t cs) (i:Nat):w.frozen? ⟨b,i,none⟩=false:=by
 have h':w.heap[b]? = _:=h;simp [World.frozen?,h']
theorem touch (h:aC w b t cs) (k:Touch S w w') (hs:¬S b):aC w' b t cs:=(k.block b h.lt hs).trans h
theorem drew (h:aC w b t cs):aC w.drew b t cs:=h
theorem drewN (h:aC w b t cs) (n:Nat):aC (w.drewN n) b t cs:=h
theorem alloc (h:aC w b t cs) (o:Obj):aC (w.alloc o) b t cs:=(Below.heap_alloc w o b h.lt).trans h
theorem new (w:World) (c:Array Value) (t:TypeId):aC (w.alloc (.cells c t)) w.heap.size t c.toList:=by
 show (w.heap.push _)[w.heap.size]? = _
 simp
theorem other (h:aC w b t cs) {p:Addr} (hp:p.block≠b) (u:Value):aC (w.setCell p u) b t cs :=
 (Below.heap_setCell w p u b (fun e=>hp e.symm)).trans h
theorem set (h:aC w b t cs) (i:Nat) (u:Value):aC (w.setCell ⟨b,i,none⟩ u) b t (cs.set i u):=by
 have h':w.heap[b]? = _:=h
 show (World.setCell w ⟨b,i,none⟩ u).heap[b]? = _
 simp only [World.setCell,Array.getElem?_modify,h'];simp
end aC
abbrev Row (w:World) (e:TypeId) (size:Nat) (v:Value) (n:Nat) (xs:List Value):Prop:=w.ownsRow 0 e size v n xs
namespace Row
variable {w w':World} {e:TypeId} {size:Nat} {v:Value} {n:Nat} {xs:List Value} {S:Nat→Prop}
theorem touch (h:Row w e size v n xs) (k:Touch S w w') (hs:∀ g,v.ownBlock=some g→¬S g):Row w' e size v n xs:=by
 refine ⟨h.1,?_⟩;rcases h.2 with hn | ⟨g,cap,cur,rfl,hb,hgg,rest⟩
 ·exact .inl hn
 ·refine .inr ⟨g,cap,cur,rfl,hb,?_,rest⟩;rw [k.block g (Array.getElem?_eq_some_iff.1 hgg).1 (hs g rfl)];exact hgg
theorem lt (h:Row w e size v n xs) {g:Nat} (hg:v.ownBlock=some g):g<w.heap.size:=(World.ownsRow.lt h g hg).2
theorem form (h:Row w e size v n xs) (hn:0<n):∃ g cap,v=.slice (some ⟨g,0,none⟩) n cap∧n≤cap∧g<w.heap.size:=by
 rcases h.2 with ⟨_,h0⟩ | ⟨g,cap,cur,hv,_,hg,hc,_⟩
 ·omega
 ·exact ⟨g,cap,hv,hc,(Array.getElem?_eq_some_iff.1 hg).1⟩
theorem cell {g cap:Nat} (h:Row w e size (.slice (some ⟨g,0,none⟩) n cap) n xs) (j:Nat) (hj:j<n*size):w.cell? ⟨g,j,none⟩=xs[j]? := World.ownsRow.cellAt h j hj
theorem free {g cap:Nat} (h:Row w e size (.slice (some ⟨g,0,none⟩) n cap) n xs) (j:Nat):w.frozen? ⟨g,j,none⟩=false:=World.ownsRow.frozenAt h j
end Row
theorem aC.setRow {w:World} {g:Nat} {t:TypeId} {cur:List Value} (h:aC w g t cur) (cs:Array Value):aC (w.setRow g cs) g t cs.toList:=by
 have:=setRow_heap w g cur.toArray cs t (0,0) h;simpa [aC] using this
theorem Touch.setRow (w:World) (g:Nat) (cs:Array Value):Touch (· = g) w (w.setRow g cs) :=
 ⟨rfl,rfl,rfl,by simp [World.setRow],fun k _ hk=>setRow_other w g k cs hk⟩
theorem I9 {α:Type} (L cs:List α) (h:L.length=cs.length):splice L 0 cs=cs:=by
 simp [splice,←h]
theorem ny {P:Program} {w:World} {ops:Array Oper} {rest:List Oper} {o:Oper} {a:Act} {Q:Exit→Act→World→Prop} (hgd:o.guard=none) (d s:Operand) (dT sT:TypeId)
  (ho:o.op=.call { callee:=.builtin .copy,args:=#[d,s],argTypes:=#[dT,sT] }) (elem:TypeId) (hu:P.underlying dT=some (.slice elem)) (hsz:(P.info? elem).map (·.size)=some 1)
  (dp sp:Option Addr) (dLen dCap sLen sCap:Nat) (hd:a.eval d=.slice dp dLen dCap) (hs:a.eval s=.slice sp sLen sCap)
  (g off:Nat) (cur:List Value) (t:TypeId) (hg:aC w g t cur) (cs:List Value) (hn:cs.length=Nat.min sLen dLen)
  (hpos:0<cs.length→dp=some ⟨g,off,none⟩∧∃ ad,sp=some ad∧∀ j v,cs[j]? = some v→w.cell? (ad.add j)=some v)
  (hfit:off+cs.length≤cur.length) (h1:∀ v∈cs,v.oneCell'=true)
  (h:∀ w',Hid (aC w' g t (splice cur off cs))→Touch (· = g) w w'→wpList P ops Q rest (a.put o.dst (goInt cs.length)) w') :
  wpList P ops Q (o::rest) a w:=by
 by_cases h0:cs.length=0
 ·obtain rfl:cs = []:=List.eq_nil_of_length_eq_zero h0;refine wpList_copy_nothing hgd d s dT sT ho elem hu hsz dp sp dLen dCap sLen sCap hd hs (by simpa using hn.symm) ?_
  exact h w (show aC w g t _ by simpa [splice] using hg) (Touch.refl _ _)
 ·obtain ⟨rfl,ad,rfl,hsrc⟩:=hpos (by omega);refine wpList_copy_own hgd d s dT sT ho elem hu hsz g off dLen dCap ad sLen sCap hd hs cur.toArray t hg cs hn hsrc (by simpa using hfit) h1 ?_
  refine h _ ?_ (Touch.setRow _ _ _);have:=hg.setRow (cur.toArray.toList.take off++(cs++cur.toArray.toList.drop (off+cs.length))).toArray;simpa [splice,Hid] using this
theorem vL {P:Program} (t e:TypeId) (z:Value) (size bytes:Nat) (ht:P.underlying t=some (.slice e)) (hinfo:(P.info? e).map (fun i=>(i.zero,i.size,i.bytes))=some (some z,size,bytes))
  (kl kc:IntKind) (n:Nat) (hbytes:bytes*n≤281474976710656) (h63:n≤9223372036854775807) (w:World) :
  (Instr.makeSlice t (.int kl (n:Int)) (.int kc (n:Int))).run P w=.ok (.slice (some ⟨w.heap.size,0,none⟩) n n) (w.alloc (.cells (madeCells z.cells (n*size)) e)):=by
 obtain ⟨i,hi,hz,hs,hby⟩:=info_parts hinfo;subst hs;subst hby
 have hb:(i.bytes:Int)*(n:Int)≤281474976710656:=by
  have h:((i.bytes*n:Nat):Int)≤281474976710656:=by omega
  rwa [Int.natCast_mul] at h
 have hr:=run_make (P:=P) w t e i z ht hi hz kl kc n n (by omega) (by omega) hb (by omega);simp only [Int.toNat_natCast] at hr;exact hr
end Go.Proofs.YtnjcmcnjgdjbiaaGreatDoor
namespace Go.Proofs.YtnjcmcnjgdjbiaaGreatDoor.Txt
abbrev Bs:=List UInt8
structure Cd where
 op:Nat
 ref:Nat
 p:Nat
 a:Nat
 b:Nat
 deny:Bool
 data:Bs
structure Form where
 address:Bool
 numbers:Nat
 data:Bool
 refused:Bool
def opWords:List Bs:=[[109,97,108,108,111,99],[99,97,108,108,111,99],[97,108,105,103,110,101,100],[114,101,97,108,108,111,99],[102,114,101,101],[117,115,97,98,108,101],[108,111,97,100],[115,116,111,114,101],[108,111,97,100,119,111,114,100],[115,116,111,114,101,119,111,114,100],[114,101,97,100],[119,114,105,116,101],[116,114,105,109],[115,116,97,116,115]]
def sO:List Bs:=[[110,33],[110,110,33],[110,110,33],[97,110,33],[97],[97],[97],[97,110],[97],[97,110],[97,110],[97,100],[],[]]
def bq:List Form:=[⟨false,1,false,true⟩,⟨false,2,false,true⟩,⟨false,2,false,true⟩,⟨true,1,false,true⟩,⟨true,0,false,false⟩,⟨true,0,false,false⟩,⟨true,0,false,false⟩,⟨true,1,false,false⟩,⟨true,0,false,false⟩,⟨true,1,false,false⟩,⟨true,1,false,false⟩,⟨true,0,true,false⟩,⟨false,0,false,false⟩,⟨false,0,false,false⟩]
def Cd.none (op:Nat):Cd:=⟨op,0,0,0,0,false,[]⟩
def dR (c:UInt8):Bool:=decide (48≤c.toNat) && decide (c.toNat≤57)
def aV (w:Bs):Option Nat :=
 if w = []∨(1<w.length∧w.head? = some 48)∨w.all dR=false then none else match Lib.parseUintB 64 w with | .ok u=>some u | _=>none
def half (c:UInt8):Nat:=if 48≤c.toNat∧c.toNat≤57 then c.toNat-48 else if 97≤c.toNat∧c.toNat≤102 then c.toNat-87 else 16
def jO:Bs→Option Bs
 | []=>some []
 | [_]=>none
 | x::y::l=>if half x=16∨half y=16 then none else (jO l).map fun t=>(half x*16+half y).toUInt8::t
def cZ (w:Bs):Option Bs:=if w = [45] then some [] else if w = []∨w.length%2=1∨131072<w.length then none else jO w
def aL (c:UInt8):Bs→Bs × Bs × Bool
 | []=>([],[],false)
 | x::l=>if x=c then ([],l,true) else (x::(aL c l).1,(aL c l).2.1,(aL c l).2.2)
def bA (w:Bs):Option (Nat × Nat) :=
 match w with
 | []=>none
 | x::l=>if x=36 then
   match aV (aL 43 l).1 with
   | none=>none
   | some n=>if n<1∨4096<n then none else if (aL 43 l).2.2 then (match aV (aL 43 l).2.1 with | none=>none | some p=>if p=0 then none else some (n,p)) else some (n,0)
  else (aV (x::l)).map fun p=>(0,p)
def aW (c:UInt8):Bs→List Bs
 | []=>[[]]
 | x::l=>if x=c then []::aW c l else match aW c l with | []=>[[x]] | w::ws=>(x::w)::ws
def iB (x:Cd) (n:Nat) (ws:List Bs):Option (Cd × List Bs) :=
 if n=0 then some (x,ws) else match ws with
  | []=>none
  | w::ws=>match aV w with
   | none=>none
   | some v=>if n=1 then some ({ x with a:=v },ws) else match ws with
    | []=>none
    | w'::ws=>(aV w').map fun v'=>({ x with a:=v,b:=v' },ws)
def fT (x:Cd) (f:Form) (ws:List Bs):Option (Cd × List Bs) :=
 if f.address then match ws with
  | []=>none
  | w::ws=>(bA w).map fun r=>({ x with ref:=r.1,p:=r.2 },ws)
 else some (x,ws)
def sF (x:Cd) (f:Form) (ws:List Bs):Option (Cd × List Bs) :=
 if f.data then match ws with
  | []=>none
  | w::ws=>(cZ w).map fun d=>({ x with data:=d },ws)
 else some (x,ws)
def aU (x:Cd) (f:Form) (ws:List Bs):Option Cd :=
 match fT x f ws with
 | none=>none
 | some (x,ws)=>match iB x f.numbers ws with
  | none=>none
  | some (x,ws)=>match sF x f ws with
   | none=>none
   | some (x,ws)=>if ws = [] then some x else none
def idx (w:Bs):List Bs→Option Nat
 | []=>none
 | v::l=>if v=w then some 0 else (idx w l).map (· + 1)
def vW (ws:List Bs):Option Cd :=
 match ws with
 | []=>none
 | w::ws=>match idx w opWords with
  | none=>none
  | some i=>let f:=bq.getD i ⟨false,0,false,false⟩
   if f.refused && ws.getLast? == some [33] then aU { Cd.none (i+1) with deny:=true } f ws.dropLast else aU (Cd.none (i+1)) f ws
def dG (s:Bs):Option Cd:=vW (aW 32 s)
/- the document's own way: a cursor -/
structure Cu where
 rest:Bs
 bad:Bool
def blank (c:Cu):Cu:=match c.rest with
 | []=>⟨[],true⟩
 | x::l=>if x=32 then ⟨l,c.bad⟩ else ⟨x::l,true⟩
def dW:Bs→Nat→Bool→Nat × Bool × Bs
 | [],v,bad=>(v,bad,[])
 | x::l,v,bad=>if dR x then dW l ((v*10+(x.toNat-48))%18446744073709551616) (bad || decide ((18446744073709551615-(x.toNat-48))/10<v)) else (v,bad,x::l)
def number (c:Cu):Nat × Cu :=
 let r:=dW c.rest 0 c.bad
 (r.1,⟨r.2.2,r.2.1 || decide (r.2.2.length=c.rest.length) || (decide (r.2.2.length+1<c.rest.length) && c.rest.head? == some 48)⟩)
def sign (x:UInt8) (c:Cu):Bool × Cu:=match c.rest with
 | []=>(false,c)
 | y::l=>if y=x then (true,⟨l,c.bad⟩) else (false,c)
def dY:Bs→Bs × Bool × Bs
 | []=>([],false,[])
 | [x]=>if x=32 then ([],false,[x]) else ([],true,[x])
 | x::y::l=>if x=32 then ([],false,x::y::l) else if half x=16∨half y=16 then ([],true,x::y::l) else ((half x*16+half y).toUInt8::(dY l).1,(dY l).2)
def fU (c:Cu):Bs × Cu :=
 if (sign 45 c).1 then ([],(sign 45 c).2) else
  let r:=dY c.rest
  if r.2.1 then (r.1,⟨r.2.2,true⟩) else (r.1,⟨r.2.2,c.bad || decide (r.1.length=0) || decide (65536<r.1.length)⟩)
structure St where
 c:Cu
 x:Cd
 first:Bool
def iN (c:Cu) (x:Cd) (first:Bool):Option St :=
 if (sign 36 c).1 then
  let n:=number (sign 36 c).2
  if n.1<1∨4096<n.1 then none
  else if (sign 43 n.2).1 then
   let p:=number (sign 43 n.2).2
   some ⟨⟨p.2.rest,p.2.bad || decide (p.1=0)⟩,{ x with ref:=n.1,p:=p.1 },first⟩
  else some ⟨(sign 43 n.2).2,{ x with ref:=n.1 },first⟩
 else
  let p:=number (sign 36 c).2
  some ⟨p.2,{ x with p:=p.1 },first⟩
def fB (k:UInt8) (s:St):Option St :=
 if k=33 then
  if s.c.rest = [] then some s
  else
   let r:=sign 33 (blank s.c)
   some ⟨⟨r.2.rest,r.2.bad || !r.1⟩,{ s.x with deny:=r.1 },s.first⟩
 else
  let c:=blank s.c
  if c.bad then none
  else if k=97 then iN c s.x s.first
  else if k=100 then some ⟨(fU c).2,{ s.x with data:=(fU c).1 },s.first⟩
  else some ⟨(number c).2,if s.first then { s.x with a:=(number c).1 } else { s.x with b:=(number c).1 },false⟩
def iZ:Bs→St→Option St
 | [],s=>some s
 | k::ks,s=>if s.c.bad then some s else match fB k s with | none=>none | some s'=>iZ ks s'
def lU (r:Option St):Option Cd:=match r with
 | none=>none
 | some s=>if s.c.bad=true∨s.c.rest≠[] then none else some s.x
def kK (s:Bs):Option Cd :=
 match idx (aL 32 s).1 opWords with
 | none=>none
 | some i=>lU (iZ (sO.getD i []) ⟨⟨s.drop (aL 32 s).1.length,false⟩,Cd.none (i+1),true⟩)
theorem mM (c:UInt8):dR c=true↔48≤c.toNat∧c.toNat≤57:=by simp [dR]
def jV:Nat:=18446744073709551615
theorem yu (l:Bs):∀ v,(dW l v true).2.1=true:=by
 induction l with
 | nil=>intro v;rfl
 | cons x l ih =>
  intro v;unfold dW;split
  ·simpa using ih _
  ·rfl
theorem qC (l:Bs):∀ v bad,(dW l v bad).2.2=l.dropWhile dR:=by
 induction l with
 | nil=>intro v bad;rfl
 | cons x l ih =>
  intro v bad;unfold dW;rw [List.dropWhile_cons];split
  ·exact ih _ _
  ·rfl
theorem vM (w t:Bs) (hw:w.all dR=true) (ht:∀ x l,t=x::l→dR x=false):(w++t).dropWhile dR=t:=by
 induction w with
 | nil =>
  cases t with
  | nil=>rfl
  | cons x l=>simp [ht x l rfl]
 | cons x w ih =>
  simp only [List.all_cons,Bool.and_eq_true] at hw;rw [List.cons_append,List.dropWhile_cons,if_pos hw.1];exact ih hw.2
theorem DI (w t:Bs) (hw:w.all dR=false):∃ x l,(w++t).dropWhile dR=x::l∧x∈w∧dR x=false∧l.length+1≤(w++t).length:=by
 induction w with
 | nil=>simp at hw
 | cons x w ih =>
  by_cases hx:dR x=true
  ·simp only [List.all_cons,hx,Bool.true_and] at hw;obtain ⟨y,l,h1,h2,h3,h4⟩:=ih hw;refine ⟨y,l,?_,List.mem_cons_of_mem _ h2,h3,by simp at h4 ⊢;omega⟩;rw [List.cons_append,List.dropWhile_cons,if_pos hx];exact h1
  ·refine ⟨x,w++t,?_,List.mem_cons_self,by simpa using hx,by simp⟩;rw [List.cons_append,List.dropWhile_cons,if_neg hx]
theorem yw (w t:Bs) (ht:∀ x l,t=x::l→dR x=false):∀ acc bad,w.all dR=true→acc≤jV →
  (∀ u,Lib.parseUintM jV acc w=.ok u→(dW (w++t) acc bad).1=u∧(dW (w++t) acc bad).2.1=bad) ∧
  ((∀ u,Lib.parseUintM jV acc w≠.ok u)→(dW (w++t) acc bad).2.1=true):=by
 induction w with
 | nil =>
  intro acc bad _ _;refine ⟨?_,?_⟩
  ·intro u h;simp only [Lib.parseUintM] at h;cases h;cases t with
   | nil=>exact ⟨rfl,rfl⟩
   | cons x l=>simp [dW,ht x l rfl]
  ·intro h;exact absurd rfl (h acc)
 | cons x w ih =>
  intro acc bad hw ha;simp only [List.all_cons,Bool.and_eq_true] at hw;have hd:=(mM x).1 hw.1;unfold jV at *;rw [List.cons_append];simp only [dW,hw.1,if_true,Lib.parseUintM,hd,and_self];by_cases h1:acc*10+(x.toNat-48)≤18446744073709551615
  ·have e1:decide ((18446744073709551615-(x.toNat-48))/10<acc)=false:=by simp;omega
   have e2:(acc*10+(x.toNat-48))%18446744073709551616=acc*10+(x.toNat-48):=Nat.mod_eq_of_lt (by omega);rw [e1,e2,if_neg (by omega),if_neg (by omega),Bool.or_false];exact ih _ bad hw.2 h1
  ·have e1:decide ((18446744073709551615-(x.toNat-48))/10<acc)=true:=by simp;omega
   rw [e1,Bool.or_true]
   have hr:(if 1844674407370955162≤acc then Lib.NumEnd.range else if 18446744073709551615<acc*10+(x.toNat-48) then Lib.NumEnd.range else Lib.parseUintM 18446744073709551615 (acc*10+(x.toNat-48)) w)=.range:=by
    split
    ·rfl
    ·rw [if_pos (by omega)]
   rw [hr];exact ⟨fun u h=>(by cases h),fun _=>yu _ _⟩
theorem parseUintB_64 (w:Bs) (h:w≠[]):Lib.parseUintB 64 w=Lib.parseUintM jV 0 w:=by
 unfold Lib.parseUintB;rw [if_neg h];rfl
def stuck (c:Cu):Prop:=c.bad=true∨∃ x l,c.rest=x::l∧x≠32
def D5 (t:Bs):Prop:=∀ x l,t=x::l→dR x=false
theorem sG {w t:Bs} (ht:D5 t) {v:Nat} (h:aV w=some v):number ⟨w++t,false⟩=(v,⟨t,false⟩):=by
 unfold aV at h;split at h
 ·cases h
 ·rename_i hn
  have hne:w≠[]:=fun e=>hn (.inl e)
  have h2:¬(1<w.length∧w.head? = some 48):=fun e=>hn (.inr (.inl e))
  have h3:w.all dR=true:=by
   cases hh:w.all dR with
   | true=>rfl
   | false=>exact absurd (.inr (.inr hh)) hn
  rw [parseUintB_64 w hne] at h;split at h
  ·rename_i u hu
   cases h;have hr:=qC (w++t) 0 false;rw [vM w t h3 ht] at hr;obtain ⟨a1,a2⟩:=(yw w t ht 0 false h3 (Nat.zero_le _)).1 _ hu;unfold number;simp only [hr,a1,a2];have hl:0<w.length:=List.length_pos_iff.2 hne;have e1:decide (t.length=(w++t).length)=false:=by simp;exact hne
   have e2:(decide (t.length+1<(w++t).length) && (w++t).head? == some 48)=false:=by
    rw [Bool.and_eq_false_iff];by_cases hx:1<w.length
    ·right;have:(w++t).head? = w.head? := by cases w with | nil=>exact absurd rfl hne | cons=>rfl
     rw [this];simp only [beq_eq_false_iff_ne];exact fun e=>h2 ⟨hx,e⟩
    ·left;simp;omega
   rw [e1,e2];simp
  ·cases h
theorem sH {w t:Bs} (ht:D5 t) (h:aV w=none):(number ⟨w++t,false⟩).2.bad=true∨∃ x l,(number ⟨w++t,false⟩).2.rest=x::l∧x∈w∧dR x=false:=by
 by_cases h3:w.all dR=true
 ·left;have hr:=qC (w++t) 0 false;rw [vM w t h3 ht] at hr;unfold number;simp only [hr];unfold aV at h;by_cases hne:w = []
  ·subst hne;simp
  ·by_cases h2:1<w.length∧w.head? = some 48
   ·have e2:(decide (t.length+1<(w++t).length) && (w++t).head? == some 48)=true:=by
     have:(w++t).head? = w.head? := by cases w with | nil=>exact absurd rfl hne | cons=>rfl
     rw [this,h2.2];simp;omega
    rw [e2];simp
   ·rw [if_neg (by simp [hne,h3];intro a;exact fun e=>h2 ⟨a,e⟩)] at h;rw [parseUintB_64 w hne] at h;have:=(yw w t ht 0 false h3 (Nat.zero_le _)).2 (fun u hu=>by rw [hu] at h;cases h);rw [this];simp
 ·right;have h3':w.all dR=false:=by simpa using h3
  obtain ⟨x,l,h1,h2,h4,_⟩:=DI w t h3';have hr:=qC (w++t) 0 false;exact ⟨x,l,by unfold number;simp only [hr];exact h1,h2,h4⟩
def R (ws:List Bs):Bs:=ws.flatMap fun w=>32::w
theorem xI (ws:List Bs):D5 (R ws):=by
 intro x l h;cases ws with
 | nil=>cases h
 | cons w ws=>simp [R] at h;rw [←h.1];decide
theorem xJ (w:Bs) (ws:List Bs):blank ⟨R (w::ws),false⟩=⟨w++R ws,false⟩:=by simp [blank,R]
theorem Ci {s:St} (h:stuck s.c):lU (some s)=none:=by
 unfold lU;rcases h with h | ⟨x,l,h,_⟩
 ·simp [h]
 ·simp [h]
theorem um (x:UInt8) (c:Cu):(sign x c).2.bad=c.bad:=by
 unfold sign;split
 ·rfl
 ·split <;> rfl
theorem Ja (ks:Bs):∀ (s:St),stuck s.c→lU (iZ ks s)=none:=by
 induction ks with
 | nil=>intro s h;exact Ci h
 | cons k ks ih =>
  intro s h;unfold iZ;by_cases hb:s.c.bad=true
  ·rw [if_pos hb];exact Ci h
  ·rw [if_neg hb];rcases h with h | ⟨x,l,hr,hx⟩
   ·exact absurd h hb
   ·have hbl:blank s.c=⟨x::l,true⟩:=by unfold blank;rw [hr];simp [hx]
    unfold fB;by_cases hk:k=33
    ·rw [if_pos hk,if_neg (by rw [hr];simp)];apply ih;left;simp only [hbl,um,Bool.true_or]
    ·rw [if_neg hk];simp only [hbl,if_true];rfl
theorem NU (c:UInt8) (w t:Bs) (h:c∉w):aL c (w++c::t)=(w,t,true):=by
 induction w with
 | nil=>simp [aL]
 | cons x w ih =>
  simp only [List.mem_cons,not_or] at h;simp only [List.cons_append,aL,if_neg (Ne.symm h.1),ih h.2]
theorem KQ (c:UInt8) (w:Bs) (h:c∉w):aL c w=(w,[],false):=by
 induction w with
 | nil=>simp [aL]
 | cons x w ih =>
  simp only [List.mem_cons,not_or] at h;simp only [aL,if_neg (Ne.symm h.1),ih h.2]
theorem rA (c:UInt8) (s:Bs):aW c s≠[]:=by
 cases s with
 | nil=>simp [aW]
 | cons x l =>
  unfold aW;split
  ·simp
  ·split <;> simp
theorem zD (s:Bs):∃ w ws,aW 32 s=w::ws∧s=w++R ws∧32∉w∧∀ v∈ws,32∉v:=by
 induction s with
 | nil=>exact ⟨[],[],rfl,rfl,by simp,by simp⟩
 | cons x l ih =>
  obtain ⟨w,ws,h1,h2,h3,h4⟩:=ih;by_cases hx:x=32
  ·refine ⟨[],w::ws,by simp [aW,hx,h1],by simp [R,hx,h2],by simp,?_⟩;intro v hv;rcases List.mem_cons.1 hv with h | h
   ·rw [h];exact h3
   ·exact h4 v h
  ·exact ⟨x::w,ws,by simp [aW,hx,h1],by simp [h2],by simp [h3,Ne.symm hx],h4⟩
theorem UO (w:Bs) (ws:List Bs) (h:32∉w):(aL 32 (w++R ws)).1=w:=by
 cases ws with
 | nil=>simp [R,KQ 32 w h]
 | cons v ws=>simp [R,NU 32 w _ h]
theorem uo {w:Bs} (h:32∉w) (ws:List Bs):(∀ v,aV w=some v→number ⟨w++R ws,false⟩=(v,⟨R ws,false⟩))∧(aV w=none→stuck (number ⟨w++R ws,false⟩).2):=by
 refine ⟨fun v hv=>sG (xI ws) hv,fun hn=>?_⟩;rcases sH (xI ws) hn with h1 | ⟨x,l,h1,h2,_⟩
 ·exact .inl h1
 ·exact .inr ⟨x,l,h1,fun e=>h (e▸h2)⟩
theorem H6 (x:UInt8) (h:x=32∨x=45):half x=16:=by
 rcases h with h | h <;> subst h <;> decide
theorem H7 (ws:List Bs):∀ (n:Nat) (w:Bs),w.length≤n→32∉w →
  (∀ d,jO w=some d→dY (w++R ws)=(d,false,R ws)∧2*d.length=w.length)∧(jO w=none→(dY (w++R ws)).2.1=true)
 | n,[],_,_=>by
  refine ⟨fun d h=>?_,fun h=>(by simp [jO] at h)⟩;simp only [jO,Option.some.injEq] at h;subst h;refine ⟨?_,rfl⟩;cases ws with
  | nil=>rfl
  | cons v ws =>
   simp only [R,List.flatMap_cons,List.nil_append,List.cons_append];cases hv:v++ws.flatMap fun w=>32::w with
   | nil=>simp [dY]
   | cons y l=>simp [dY]
 | n,[x],_,h=>by
  simp only [List.mem_singleton] at h;refine ⟨fun d hd=>(by simp [jO] at hd),fun _=>?_⟩;cases ws with
  | nil=>simp [R,dY,Ne.symm h]
  | cons v ws=>simp [R,dY,Ne.symm h,H6 32 (.inl rfl)]
 | 0,x::y::l,hl,_=>by simp at hl
 | n+1,x::y::l,hl,h=>by
  simp only [List.mem_cons,not_or] at h;simp only [List.length_cons] at hl;obtain ⟨i1,i2⟩:=H7 ws n l (by omega) h.2.2;simp only [List.cons_append,dY,if_neg (Ne.symm h.1),jO];by_cases hh:half x=16∨half y=16
  ·rw [if_pos hh,if_pos hh];exact ⟨fun d hd=>(by cases hd),fun _=>rfl⟩
  ·rw [if_neg hh,if_neg hh];refine ⟨fun d hd=>?_,fun hn=>?_⟩
   ·simp only [Option.map_eq_some_iff] at hd;obtain ⟨a,ha,rfl⟩:=hd;obtain ⟨j1,j2⟩:=i1 a ha;rw [j1];exact ⟨rfl,by simp;omega⟩
   ·simp only [Option.map_eq_none_iff] at hn;exact i2 hn
theorem KR {w:Bs} (h:32∉w) (ws:List Bs):(∀ d,cZ w=some d→fU ⟨w++R ws,false⟩=(d,⟨R ws,false⟩))∧(cZ w=none→stuck (fU ⟨w++R ws,false⟩).2):=by
 obtain ⟨d1,d2⟩:=H7 ws w.length w (Nat.le_refl _) h;unfold cZ fU;by_cases h45:w = [45]
 ·subst h45;simp [sign]
 ·rw [if_neg h45];by_cases hs:∃ l,w=45::l
  ·obtain ⟨l,rfl⟩:=hs;cases l with
   | nil=>exact absurd rfl h45
   | cons y l =>
    have hh:jO (45::y::l)=none:=by simp [jO,H6 45 (.inr rfl)]
    rw [hh];simp only [List.mem_cons,not_or] at h;refine ⟨fun d hd=>(by split at hd <;> cases hd),fun _=>?_⟩;simp only [sign,List.cons_append,if_true];exact .inr ⟨y,l++R ws,rfl,Ne.symm h.2.1⟩
  ·have hsg:(sign 45 ⟨w++R ws,false⟩).1=false:=by
    unfold sign;cases w with
    | nil=>cases ws with
     | nil=>rfl
     | cons v ws=>simp [R]
    | cons x l =>
     have:x≠45:=fun e=>hs ⟨l,by rw [e]⟩
     simp [this]
   rw [hsg];simp only [Bool.false_eq_true,if_false];cases hx:jO w with
   | none =>
    rw [d2 hx];exact ⟨fun d hd=>(by split at hd <;> cases hd),fun _=>Or.inl rfl⟩
   | some d =>
    obtain ⟨e1,e2⟩:=d1 d hx;rw [e1];simp only [Bool.false_eq_true,if_false,Bool.false_or];by_cases hc:w = []∨w.length%2=1∨131072<w.length
    ·rw [if_pos hc];refine ⟨fun d hd=>(by cases hd),fun _=>Or.inl ?_⟩;rcases hc with hc | hc | hc
     ·subst hc;simp only [List.length_nil] at e2;simp;exact .inl (List.eq_nil_of_length_eq_zero (by omega))
     ·omega
     ·simp;right;omega
    ·rw [if_neg hc];refine ⟨fun d' hd=>?_,fun hd=>(by cases hd)⟩;cases hd;have n1:d.length≠0:=fun e=>hc (.inl (List.eq_nil_of_length_eq_zero (by omega)))
     have n2:¬65536<d.length:=fun e=>hc (.inr (.inr (by omega)))
     simp [n2,n1]
theorem lC (c:UInt8) (l:Bs):(c∉l∧aL c l=(l,[],false))∨∃ a b,l=a++c::b∧c∉a∧aL c l=(a,b,true):=by
 induction l with
 | nil=>exact .inl ⟨by simp,rfl⟩
 | cons x l ih =>
  by_cases hx:x=c
  ·exact .inr ⟨[],l,by rw [hx];rfl,by simp,by simp [aL,hx]⟩
  ·rcases ih with ⟨h1,h2⟩ | ⟨a,b,h1,h2,h3⟩
   ·exact .inl ⟨by simp [h1,Ne.symm hx],by simp [aL,hx,h2]⟩
   ·exact .inr ⟨x::a,b,by simp [h1],by simp [h2,Ne.symm hx],by simp [aL,hx,h3]⟩
theorem vX {c:Cu} (b:Bool) (h:stuck c):stuck ⟨c.rest,c.bad || b⟩:=by
 rcases h with h | h
 ·exact .inl (by simp [h])
 ·exact .inr h
theorem zF (t:Bs):D5 (43::t):=by
 intro x l h;cases h;decide
theorem zG {c:Cu} (x:UInt8) (h:c.bad=true):stuck (sign x c).2:=.inl (by rw [um];exact h)
theorem zH (c:Cu) (h:c.bad=true):(number c).2.bad=true:=by
 unfold number;simp only [h,yu,Bool.true_or]
def Ef (r:Option St):Prop:=∀ s,r=some s→stuck s.c
theorem KT {w:Bs} (h:32∉w) (ws:List Bs) (x:Cd) (first:Bool) :
  (∀ r,bA w=some r→iN ⟨w++R ws,false⟩ x first=some ⟨⟨R ws,false⟩,{ x with ref:=r.1,p:=r.2 },first⟩∨(r.1=0∧iN ⟨w++R ws,false⟩ x first=some ⟨⟨R ws,false⟩,{ x with p:=r.2 },first⟩)∨(r.2=0∧iN ⟨w++R ws,false⟩ x first=some ⟨⟨R ws,false⟩,{ x with ref:=r.1 },first⟩)) ∧
  (bA w=none→Ef (iN ⟨w++R ws,false⟩ x first)):=by
 cases w with
 | nil =>
  refine ⟨fun r hr=>(by simp [bA] at hr),fun _=>?_⟩
  have hsg:sign 36 ⟨[]++R ws,false⟩=(false,⟨[]++R ws,false⟩):=by
   cases ws with
   | nil=>rfl
   | cons v ws=>simp [R,sign]
  intro s hs;unfold iN at hs;rw [hsg] at hs;simp only [Bool.false_eq_true,if_false,Option.some.injEq] at hs;rw [←hs];exact (uo h ws).2 (by simp [aV])
 | cons y l =>
  by_cases hy:y=36
  ·subst hy;simp only [List.mem_cons,not_or] at h;have hsg:sign 36 ⟨36::l++R ws,false⟩=(true,⟨l++R ws,false⟩):=by simp [sign]
   unfold iN bA;rw [hsg];simp only [if_true];rcases lC 43 l with ⟨h1,h2⟩ | ⟨a,b,h1,h2,h3⟩
   ·rw [h2];simp only [Bool.false_eq_true,if_false];cases hn:aV l with
    | none =>
     refine ⟨fun r hr=>(by cases hr),fun _=>?_⟩;intro s hs;split at hs
     ·cases hs
     ·rcases sH (xI ws) hn with q | ⟨z,t,q1,q2,q3⟩
      ·split at hs
       ·cases hs;exact vX (c:=(number _).2) _ (.inl (zH _ (by rw [um];exact q)))
       ·cases hs;exact zG _ q
      ·have hz:z≠43:=fun e=>h1 (e▸q2)
       have hz':z≠32:=fun e=>h.2 (e▸q2)
       have hs2:sign 43 (number ⟨l++R ws,false⟩).2=(false,(number ⟨l++R ws,false⟩).2):=by unfold sign;rw [q1];simp [hz]
       rw [hs2] at hs;simp only [Bool.false_eq_true,if_false,Option.some.injEq] at hs;rw [←hs];exact .inr ⟨z,t,q1,hz'⟩
    | some n =>
     have e:=sG (xI ws) hn;simp only [e];by_cases hc:n<1∨4096<n
     ·rw [if_pos hc,if_pos hc];exact ⟨fun r hr=>(by cases hr),fun _ s hs=>(by cases hs)⟩
     ·rw [if_neg hc,if_neg hc]
      have hs2:sign 43 ⟨R ws,false⟩=(false,⟨R ws,false⟩):=by
       cases ws with
       | nil=>rfl
       | cons v ws=>simp [R,sign]
      rw [hs2];simp only [Bool.false_eq_true,if_false];exact ⟨fun r hr=>(by cases hr;exact .inr (.inr ⟨rfl,rfl⟩)),fun hr=>(by cases hr)⟩
   ·rw [h3,h1];simp only [if_true];rw [h1] at h;have hb:32∉b:=fun e=>h.2 (by simp [e])
    have e0:a++43::b++R ws=a++(43::(b++R ws)):=by simp
    rw [e0];cases hn:aV a with
    | none =>
     refine ⟨fun r hr=>(by cases hr),fun _=>?_⟩;intro s hs;split at hs
     ·cases hs
     ·rcases sH (zF _) hn with q | ⟨z,t,q1,q2,q3⟩
      ·split at hs
       ·cases hs;exact vX (c:=(number _).2) _ (.inl (zH _ (by rw [um];exact q)))
       ·cases hs;exact zG _ q
      ·have hz:z≠43:=fun e=>h2 (e▸q2)
       have hz':z≠32:=fun e=>h.2 (by simp [←e,q2])
       have hs2:sign 43 (number ⟨a++43::(b++R ws),false⟩).2=(false,(number ⟨a++43::(b++R ws),false⟩).2):=by unfold sign;rw [q1];simp [hz]
       rw [hs2] at hs;simp only [Bool.false_eq_true,if_false,Option.some.injEq] at hs;rw [←hs];exact .inr ⟨z,t,q1,hz'⟩
    | some n =>
     have e:=sG (zF (b++R ws)) hn;simp only [e];by_cases hc:n<1∨4096<n
     ·rw [if_pos hc,if_pos hc];exact ⟨fun r hr=>(by cases hr),fun _ s hs=>(by cases hs)⟩
     ·rw [if_neg hc,if_neg hc];have hs2:sign 43 ⟨43::(b++R ws),false⟩=(true,⟨b++R ws,false⟩):=by simp [sign]
      rw [hs2];simp only [if_true];obtain ⟨n1,n2⟩:=uo hb ws;cases hp:aV b with
      | none =>
       refine ⟨fun r hr=>(by cases hr),fun _=>?_⟩;intro s hs;cases hs;exact vX (c:=(number _).2) _ (n2 hp)
      | some p =>
       simp only [n1 p hp];by_cases hp0:p=0
       ·rw [if_pos hp0];refine ⟨fun r hr=>(by cases hr),fun _ s hs=>?_⟩;cases hs;exact .inl (by simp [hp0])
       ·rw [if_neg hp0];exact ⟨fun r hr=>(by cases hr;exact .inl (by simp [hp0])),fun hr=>(by cases hr)⟩
  ·have hsg:sign 36 ⟨y::l++R ws,false⟩=(false,⟨y::l++R ws,false⟩):=by simp [sign,hy]
   unfold iN bA;rw [hsg];simp only [Bool.false_eq_true,if_false,if_neg hy];obtain ⟨n1,n2⟩:=uo h ws;refine ⟨fun r hr=>?_,fun hr s hs=>?_⟩
   ·simp only [Option.map_eq_some_iff] at hr;obtain ⟨p,hp,rfl⟩:=hr;rw [n1 p hp];exact .inr (.inl ⟨rfl,rfl⟩)
   ·simp only [Option.map_eq_none_iff] at hr;cases hs;exact n2 hr
theorem Jb {w:Bs} (h:32∉w) (ws:List Bs) (x:Cd) (first:Bool) (h1:x.ref=0) (h2:x.p=0) :
  (∀ r,bA w=some r→iN ⟨w++R ws,false⟩ x first=some ⟨⟨R ws,false⟩,{ x with ref:=r.1,p:=r.2 },first⟩) ∧
  (bA w=none→Ef (iN ⟨w++R ws,false⟩ x first)):=by
 obtain ⟨a,b⟩:=KT h ws x first
 refine ⟨fun r hr=>?_,b⟩;rcases a r hr with e | ⟨e0,e⟩ | ⟨e0,e⟩
 ·exact e
 ·rw [e];cases x;cases h1;simp [e0]
 ·rw [e];cases x;cases h2;simp [e0]
def F (ks:Bs) (ws:List Bs) (x:Cd) (first:Bool):Option Cd:=lU (iZ ks ⟨⟨R ws,false⟩,x,first⟩)
theorem zI (ws:List Bs) (x:Cd) (f:Bool):F [] ws x f=if ws = [] then some x else none:=by
 cases ws with
 | nil=>simp [F,iZ,lU,R]
 | cons w ws=>simp [F,iZ,lU,R]
def cont (ks:Bs) (r:Option St):Option St:=match r with | none=>none | some s'=>iZ ks s'
theorem kQ (k:UInt8) (ks:Bs) (s:St) (h:s.c.bad=false):iZ (k::ks) s=cont ks (fB k s):=by
 rw [iZ,if_neg (by simp [h])];rfl
theorem qD (ks:Bs) (r:Option St) (h:Ef r):lU (cont ks r)=none:=by
 cases r with
 | none=>rfl
 | some s=>exact Ja ks s (h s rfl)
theorem Yq (ks:Bs) (ws:List Bs) (x:Cd) (f:Bool) (h:∀ v∈ws,32∉v) :
  F (110::ks) ws x f=match ws with | []=>none | w::ws'=>match aV w with | none=>none | some v=>F ks ws' (if f then { x with a:=v } else { x with b:=v }) false:=by
 unfold F;rw [kQ _ _ _ rfl];cases ws with
 | nil=>rfl
 | cons w ws =>
  have hs:fB 110 ⟨⟨R (w::ws),false⟩,x,f⟩=some ⟨(number ⟨w++R ws,false⟩).2,if f then { x with a:=(number ⟨w++R ws,false⟩).1 } else { x with b:=(number ⟨w++R ws,false⟩).1 },false⟩:=by
   unfold fB;simp only [xJ];simp
  rw [hs];obtain ⟨n1,n2⟩:=uo (h w (by simp)) ws;cases hn:aV w with
  | none =>
   simp only [hn];exact qD ks _ (fun s e=>by cases e;exact n2 hn)
  | some v=>simp only [n1 v hn,hn];rfl
theorem F_a (ks:Bs) (ws:List Bs) (x:Cd) (f:Bool) (h:∀ v∈ws,32∉v) (h1:x.ref=0) (h2:x.p=0) :
  F (97::ks) ws x f=match ws with | []=>none | w::ws'=>match bA w with | none=>none | some r=>F ks ws' { x with ref:=r.1,p:=r.2 } f:=by
 unfold F;rw [kQ _ _ _ rfl];cases ws with
 | nil=>rfl
 | cons w ws =>
  have hs:fB 97 ⟨⟨R (w::ws),false⟩,x,f⟩=iN ⟨w++R ws,false⟩ x f:=by
   unfold fB;simp only [xJ];simp
  rw [hs];obtain ⟨n1,n2⟩:=Jb (h w (by simp)) ws x f h1 h2;cases hn:bA w with
  | none =>
   simp only [hn];exact qD ks _ (n2 hn)
  | some v=>simp only [n1 v hn,hn];rfl
theorem F_d (ks:Bs) (ws:List Bs) (x:Cd) (f:Bool) (h:∀ v∈ws,32∉v) :
  F (100::ks) ws x f=match ws with | []=>none | w::ws'=>match cZ w with | none=>none | some d=>F ks ws' { x with data:=d } f:=by
 unfold F;rw [kQ _ _ _ rfl];cases ws with
 | nil=>rfl
 | cons w ws =>
  have hs:fB 100 ⟨⟨R (w::ws),false⟩,x,f⟩=some ⟨(fU ⟨w++R ws,false⟩).2,{ x with data:=(fU ⟨w++R ws,false⟩).1 },f⟩:=by
   unfold fB;simp only [xJ];simp
  rw [hs];obtain ⟨n1,n2⟩:=KR (h w (by simp)) ws;cases hn:cZ w with
  | none =>
   simp only [hn];exact qD ks _ (fun s e=>by cases e;exact n2 hn)
  | some v=>simp only [n1 v hn,hn];rfl
theorem UQ (ws:List Bs) (x:Cd) (f:Bool):F [33] ws x f=if ws = [] then some x else if ws = [[33]] then some { x with deny:=true } else none:=by
 unfold F;rw [kQ _ _ _ rfl];cases ws with
 | nil=>simp [fB,R,cont,iZ,lU]
 | cons w ws =>
  have hs:fB 33 ⟨⟨R (w::ws),false⟩,x,f⟩=some ⟨⟨(sign 33 ⟨w++R ws,false⟩).2.rest,(sign 33 ⟨w++R ws,false⟩).2.bad || !(sign 33 ⟨w++R ws,false⟩).1⟩,{ x with deny:=(sign 33 ⟨w++R ws,false⟩).1 },f⟩:=by
   unfold fB;simp only [xJ];simp [R]
  rw [hs];simp only [cont,iZ,lU,reduceCtorEq,if_false];cases w with
  | nil=>cases ws with
   | nil=>simp [sign,R]
   | cons v ws=>simp [sign,R]
  | cons y l =>
   by_cases hy:y=33
   ·subst hy;cases l with
    | nil=>cases ws with
     | nil=>simp [sign,R]
     | cons v ws=>simp [sign,R]
    | cons z l=>simp [sign]
   ·simp [sign,hy]
theorem KU (w:Bs) (ws:List Bs) (h:ws≠[]):(w::ws).getLast? = ws.getLast? ∧ (w::ws).dropLast=w::ws.dropLast:=by
 cases ws with
 | nil=>exact absurd rfl h
 | cons v ws=>exact ⟨by simp,rfl⟩
theorem KV (ws:List Bs):(ws.getLast? == some [33])=true→(ws.dropLast = []↔ws = [[33]]):=by
 intro h;cases ws with
 | nil=>simp at h
 | cons v ws =>
  cases ws with
  | nil=>simp at h ⊢;exact h
  | cons u ws=>simp
theorem D6:aV [33]=none:=by decide
theorem SF:bA [33]=none:=by decide
def nA (g:Cd→List Bs→Option Cd) (x:Cd) (ws:List Bs):Option Cd :=
 if ws.getLast? == some [33] then g { x with deny:=true } ws.dropLast else g x ws
theorem NV (x:Cd) (ws:List Bs):nA (fun x ws=>if ws = [] then some x else none) x ws=if ws = [] then some x else if ws = [[33]] then some { x with deny:=true } else none:=by
 unfold nA;by_cases h:(ws.getLast? == some [33])=true
 ·have:=KV ws h;have hne:ws≠[]:=fun e=>by subst e;simp at h
  rw [if_pos h,if_neg hne];dsimp only;by_cases e:ws = [[33]]
  ·rw [if_pos e,if_pos (this.2 e)]
  ·rw [if_neg e,if_neg (fun q=>e (this.1 q))]
 ·rw [if_neg h];dsimp only;by_cases hne:ws = []
  ·rw [if_pos hne,if_pos hne]
  ·rw [if_neg hne,if_neg hne,if_neg (fun e=>h (by rw [e];rfl))]
theorem KW {α:Type} (p:Bs→Option α) (set:Cd→α→Cd) (g:Cd→List Bs→Option Cd) (hp:p [33]=none) (hset:∀ x v,set { x with deny:=true } v = { set x v with deny:=true }) (x:Cd) (ws:List Bs) :
  nA (fun x ws=>match ws with | []=>none | w::ws=>match p w with | none=>none | some v=>g (set x v) ws) x ws=match ws with | []=>none | w::ws=>match p w with | none=>none | some v=>nA g (set x v) ws:=by
 cases ws with
 | nil=>rfl
 | cons w ws =>
  cases ws with
  | nil =>
   unfold nA;by_cases h:w = [33]
   ·subst h;simp [hp]
   ·have:([w].getLast? == some [33])=false:=by simp [h]
    rw [this];simp
  | cons v ws =>
   unfold nA;obtain ⟨e1,e2⟩:=KU w (v::ws) (by simp);rw [e1,e2];simp only [];by_cases h:((v::ws).getLast? == some [33])=true
   ·rw [if_pos h];cases p w with
    | none=>rfl
    | some u=>simp only [hset,if_pos h]
   ·rw [if_neg h];cases p w with
    | none=>rfl
    | some u=>simp only [if_neg h]
def mE (x:Cd) (ws:List Bs):Option Cd:=if ws = [] then some x else none
def Gw {α:Type} (p:Bs→Option α) (set:Cd→α→Cd) (g:Cd→List Bs→Option Cd) (x:Cd) (ws:List Bs):Option Cd :=
 match ws with | []=>none | w::ws=>match p w with | none=>none | some v=>g (set x v) ws
theorem vY {α:Type} (p:Bs→Option α) (set:Cd→α→Cd) (g:Cd→List Bs→Option Cd) (hp:p [33]=none) (hset:∀ x v,set { x with deny:=true } v = { set x v with deny:=true }) (x:Cd) (ws:List Bs) :
  nA (Gw p set g) x ws=Gw p set (nA g) x ws:=KW p set g hp hset x ws
def nV (x:Cd) (v:Nat):Cd:={ x with a:=v }
def Eh (x:Cd) (v:Nat):Cd:={ x with b:=v }
def uq (x:Cd) (r:Nat × Nat):Cd:={ x with ref:=r.1,p:=r.2 }
def NW (x:Cd) (d:Bs):Cd:={ x with data:=d }
theorem fields1 (b:Bool) (x:Cd) (ws:List Bs):aU x ⟨false,1,false,b⟩ ws=Gw aV nV mE x ws:=by
 rcases ws with _ | ⟨w,ws⟩
 ·simp [aU,fT,iB,Gw]
 ·cases h:aV w <;> simp [aU,fT,iB,sF,Gw,mE,nV,h]
theorem fields2 (b:Bool) (x:Cd) (ws:List Bs):aU x ⟨false,2,false,b⟩ ws=Gw aV nV (Gw aV Eh mE) x ws:=by
 rcases ws with _ | ⟨w,_ | ⟨u,ws⟩⟩
 ·simp [aU,fT,iB,Gw]
 ·cases h:aV w <;> simp [aU,fT,iB,Gw,h]
 ·cases h:aV w <;> cases h':aV u <;> simp [aU,fT,iB,sF,Gw,mE,nV,Eh,h,h']
theorem NY (b:Bool) (x:Cd) (ws:List Bs):aU x ⟨true,0,false,b⟩ ws=Gw bA uq mE x ws:=by
 rcases ws with _ | ⟨w,ws⟩
 ·simp [aU,fT,Gw]
 ·cases h:bA w <;> simp [aU,fT,iB,sF,Gw,mE,uq,h]
theorem Ei (b:Bool) (x:Cd) (ws:List Bs):aU x ⟨true,1,false,b⟩ ws=Gw bA uq (Gw aV nV mE) x ws:=by
 rcases ws with _ | ⟨w,_ | ⟨u,ws⟩⟩
 ·simp [aU,fT,Gw]
 ·cases h:bA w <;> simp [aU,fT,iB,Gw,h]
 ·cases h:bA w <;> cases h':aV u <;> simp [aU,fT,iB,sF,Gw,mE,nV,uq,h,h']
theorem NZ (b:Bool) (x:Cd) (ws:List Bs):aU x ⟨true,0,true,b⟩ ws=Gw bA uq (Gw cZ NW mE) x ws:=by
 rcases ws with _ | ⟨w,_ | ⟨u,ws⟩⟩
 ·simp [aU,fT,Gw]
 ·cases h:bA w <;> simp [aU,fT,iB,sF,Gw,h]
 ·cases h:bA w <;> cases h':cZ u <;> simp [aU,fT,iB,sF,Gw,mE,NW,uq,h,h']
theorem Fn (ks:Bs) (ws:List Bs) (x:Cd) (h:∀ v∈ws,32∉v) (g:Cd→List Bs→Option Cd) (hg:∀ x ws',(∀ v∈ws',v∈ws)→F ks ws' x false=g x ws'):F (110::ks) ws x true=Gw aV nV g x ws:=by
 rw [Yq ks ws x true h];unfold Gw;cases ws with
 | nil=>rfl
 | cons w ws =>
  simp only [];cases aV w with
  | none=>rfl
  | some v=>exact hg _ _ (fun u hu=>List.mem_cons_of_mem _ hu)
theorem Fn2 (ks:Bs) (ws:List Bs) (x:Cd) (h:∀ v∈ws,32∉v) (g:Cd→List Bs→Option Cd) (hg:∀ x ws',(∀ v∈ws',v∈ws)→F ks ws' x false=g x ws'):F (110::ks) ws x false=Gw aV Eh g x ws:=by
 rw [Yq ks ws x false h];unfold Gw;cases ws with
 | nil=>rfl
 | cons w ws =>
  simp only [];cases aV w with
  | none=>rfl
  | some v=>exact hg _ _ (fun u hu=>List.mem_cons_of_mem _ hu)
theorem Fa (ks:Bs) (ws:List Bs) (x:Cd) (h:∀ v∈ws,32∉v) (h1:x.ref=0) (h2:x.p=0) (g:Cd→List Bs→Option Cd) (hg:∀ x ws',(∀ v∈ws',v∈ws)→F ks ws' x true=g x ws'):F (97::ks) ws x true=Gw bA uq g x ws:=by
 rw [F_a ks ws x true h h1 h2];unfold Gw;cases ws with
 | nil=>rfl
 | cons w ws =>
  simp only [];cases bA w with
  | none=>rfl
  | some v=>exact hg _ _ (fun u hu=>List.mem_cons_of_mem _ hu)
theorem Fd (ks:Bs) (ws:List Bs) (x:Cd) (h:∀ v∈ws,32∉v) (g:Cd→List Bs→Option Cd) (hg:∀ x ws',(∀ v∈ws',v∈ws)→F ks ws' x true=g x ws'):F (100::ks) ws x true=Gw cZ NW g x ws:=by
 rw [F_d ks ws x true h];unfold Gw;cases ws with
 | nil=>rfl
 | cons w ws =>
  simp only [];cases cZ w with
  | none=>rfl
  | some v=>exact hg _ _ (fun u hu=>List.mem_cons_of_mem _ hu)
theorem Fb (ws:List Bs) (x:Cd) (f:Bool):F [33] ws x f=nA mE x ws:=(UQ ws x f).trans (NV x ws).symm
theorem opN (ws:List Bs) (x:Cd) (h:∀ v∈ws,32∉v) (b:Bool):F [110,33] ws x true=nA (fun x ws=>aU x ⟨false,1,false,b⟩ ws) x ws:=by
 have e:(fun x ws=>aU x ⟨false,1,false,b⟩ ws)=Gw aV nV mE:=by funext x ws;exact fields1 b x ws
 rw [e,vY aV nV mE D6 (fun _ _=>rfl)];exact Fn _ _ _ h _ (fun x ws' _=>Fb ws' x false)
theorem UR (ws:List Bs) (x:Cd) (h:∀ v∈ws,32∉v) (b:Bool):F [110,110,33] ws x true=nA (fun x ws=>aU x ⟨false,2,false,b⟩ ws) x ws:=by
 have e:(fun x ws=>aU x ⟨false,2,false,b⟩ ws)=Gw aV nV (Gw aV Eh mE):=by funext x ws;exact fields2 b x ws
 rw [e,vY aV nV _ D6 (fun _ _=>rfl)];refine Fn _ _ _ h _ (fun x ws' hs=>?_);rw [vY aV Eh _ D6 (fun _ _=>rfl)];exact Fn2 _ _ _ (fun v hv=>h v (hs v hv)) _ (fun x ws' _=>Fb ws' x false)
theorem Z7 (ws:List Bs) (x:Cd) (h:∀ v∈ws,32∉v) (h1:x.ref=0) (h2:x.p=0) (b:Bool):F [97,110,33] ws x true=nA (fun x ws=>aU x ⟨true,1,false,b⟩ ws) x ws:=by
 have e:(fun x ws=>aU x ⟨true,1,false,b⟩ ws)=Gw bA uq (Gw aV nV mE):=by funext x ws;exact Ei b x ws
 rw [e,vY bA uq _ SF (fun _ _=>rfl)];refine Fa _ _ _ h h1 h2 _ (fun x ws' hs=>?_);rw [vY aV nV _ D6 (fun _ _=>rfl)];exact Fn _ _ _ (fun v hv=>h v (hs v hv)) _ (fun x ws' _=>Fb ws' x false)
theorem Rl (ws:List Bs) (x:Cd) (h:∀ v∈ws,32∉v) (h1:x.ref=0) (h2:x.p=0) (b:Bool):F [97] ws x true=aU x ⟨true,0,false,b⟩ ws:=by
 rw [NY];exact Fa _ _ _ h h1 h2 _ (fun x ws' _=>zI ws' x true)
theorem N8 (ws:List Bs) (x:Cd) (h:∀ v∈ws,32∉v) (h1:x.ref=0) (h2:x.p=0) (b:Bool):F [97,110] ws x true=aU x ⟨true,1,false,b⟩ ws:=by
 rw [Ei];exact Fa _ _ _ h h1 h2 _ (fun x ws' hs=>Fn _ _ _ (fun v hv=>h v (hs v hv)) _ (fun x ws' _=>zI ws' x false))
theorem Z8 (ws:List Bs) (x:Cd) (h:∀ v∈ws,32∉v) (h1:x.ref=0) (h2:x.p=0) (b:Bool):F [97,100] ws x true=aU x ⟨true,0,true,b⟩ ws:=by
 rw [NZ];exact Fa _ _ _ h h1 h2 _ (fun x ws' hs=>Fd _ _ _ (fun v hv=>h v (hs v hv)) _ (fun x ws' _=>zI ws' x true))
theorem sP (s:Bs):kK s=dG s:=by
 obtain ⟨w,ws,h1,h2,h3,h4⟩:=zD s;unfold kK dG vW;rw [h1,h2,UO w ws h3];simp only [List.drop_left];cases hi:idx w opWords with
 | none=>rfl
 | some i =>
  simp only []
  show F (sO.getD i []) ws (Cd.none (i+1)) true=_
  have hlt:i<14:=by
   have:∀ (l:List Bs) i,idx w l=some i→i<l.length:=by
    intro l
    induction l with
    | nil=>intro i h;cases h
    | cons v l ih =>
     intro i h;unfold idx at h;split at h
     ·cases h;simp
     ·simp only [Option.map_eq_some_iff] at h;obtain ⟨a,ha,rfl⟩:=h;have:=ih a ha;simp;omega
   exact this _ _ hi
  have Jc:∀ (f:Form),f.refused=true→(if (f.refused && ws.getLast? == some [33])=true then aU { Cd.none (i+1) with deny:=true } f ws.dropLast else aU (Cd.none (i+1)) f ws)=nA (fun x ws=>aU x f ws) (Cd.none (i+1)) ws:=by
   intro f hf;unfold nA;rw [hf,Bool.true_and]
  have sI:∀ (f:Form),f.refused=false→(if (f.refused && ws.getLast? == some [33])=true then aU { Cd.none (i+1) with deny:=true } f ws.dropLast else aU (Cd.none (i+1)) f ws)=aU (Cd.none (i+1)) f ws:=by
   intro f hf;rw [hf,Bool.false_and];rfl
  clear hi h1 h2
  match i,hlt with
  | 0,_=>exact (opN ws _ h4 true).trans (Jc ⟨false,1,false,true⟩ rfl).symm
  | 1,_=>exact (UR ws _ h4 true).trans (Jc ⟨false,2,false,true⟩ rfl).symm
  | 2,_=>exact (UR ws _ h4 true).trans (Jc ⟨false,2,false,true⟩ rfl).symm
  | 3,_=>exact (Z7 ws _ h4 rfl rfl true).trans (Jc ⟨true,1,false,true⟩ rfl).symm
  | 4,_=>exact (Rl ws _ h4 rfl rfl false).trans (sI ⟨true,0,false,false⟩ rfl).symm
  | 5,_=>exact (Rl ws _ h4 rfl rfl false).trans (sI ⟨true,0,false,false⟩ rfl).symm
  | 6,_=>exact (Rl ws _ h4 rfl rfl false).trans (sI ⟨true,0,false,false⟩ rfl).symm
  | 7,_=>exact (N8 ws _ h4 rfl rfl false).trans (sI ⟨true,1,false,false⟩ rfl).symm
  | 8,_=>exact (Rl ws _ h4 rfl rfl false).trans (sI ⟨true,0,false,false⟩ rfl).symm
  | 9,_=>exact (N8 ws _ h4 rfl rfl false).trans (sI ⟨true,1,false,false⟩ rfl).symm
  | 10,_=>exact (N8 ws _ h4 rfl rfl false).trans (sI ⟨true,1,false,false⟩ rfl).symm
  | 11,_=>exact (Z8 ws _ h4 rfl rfl false).trans (sI ⟨true,0,true,false⟩ rfl).symm
  | 12,_=>exact (zI ws _ true).trans (sI ⟨false,0,false,false⟩ rfl).symm
  | 13,_=>exact (zI ws _ true).trans (sI ⟨false,0,false,false⟩ rfl).symm
  | k+14,h=>omega
/- whole texts -/
def fC (s:Bs):Bs:=if s.getLast? = some 10 then s.dropLast else s
abbrev Parsed:=List Cd × Nat × Nat
def nC:List Bs→Nat→List Cd→Parsed
 | [],_,acc=>(acc,0,0)
 | l::ls,i,acc=>match dG l with
  | none=>([],i,7)
  | some c=>nC ls (i+1) (acc++[c])
def dU (s:Bs):Parsed :=
 if 1048576<s.length then ([],0,6) else if s = [] then ([],0,0)
 else if 4096<(aW 10 (fC s)).length then ([],4096,6) else nC (aW 10 (fC s)) 0 []
def bO:Bs→Nat
 | []=>0
 | [_]=>1
 | x::y::l=>(if x=10 then 1 else 0)+bO (y::l)
def qE:Nat→Bs→Nat→List Cd→Parsed
 | 0,_,_,acc=>(acc,0,0)
 | n+1,s,i,acc=>match kK (aL 10 s).1 with
  | none=>([],i,7)
  | some c=>qE n (aL 10 s).2.1 (i+1) (acc++[c])
def Ej (s:Bs):Parsed :=
 if 1048576<s.length then ([],0,6) else if 4096<bO s then ([],4096,6) else qE (bO s) s 0 []
theorem pR (c:UInt8) (l:Bs):aW c (c::l) = []::aW c l:=by rw [aW,if_pos rfl]
theorem ou {c x:UInt8} (h:x≠c) (l:Bs):∃ w ws,aW c l=w::ws∧aW c (x::l)=(x::w)::ws:=by
 cases hs:aW c l with
 | nil=>exact absurd hs (rA c l)
 | cons w ws=>exact ⟨w,ws,rfl,by rw [aW,if_neg h,hs]⟩
theorem pU (c:UInt8) (s:Bs):aW c s=if (aL c s).2.2 then (aL c s).1::aW c (aL c s).2.1 else [(aL c s).1]:=by
 induction s with
 | nil=>rfl
 | cons x l ih =>
  by_cases hx:x=c
  ·subst hx;rw [pR];simp [aL]
  ·obtain ⟨w,ws,h1,h2⟩:=ou hx l;rw [h2];rw [h1] at ih;simp only [aL,if_neg hx];split
   ·rename_i h
    rw [if_pos h] at ih;cases ih;rfl
   ·rename_i h
    rw [if_neg h] at ih;cases ih;rfl
theorem SG (ls:List Bs):∀ (s:Bs) (i:Nat) (acc:List Cd) (more:List Bs),aW 10 s=ls++more→qE ls.length s i acc=nC ls i acc:=by
 induction ls with
 | nil=>intro s i acc more _;rfl
 | cons l ls ih =>
  intro s i acc more h;have hh:=pU 10 s;rw [h] at hh;simp only [List.length_cons,qE,nC,sP];by_cases hc:(aL 10 s).2.2=true
  ·rw [if_pos hc,List.cons_append] at hh;obtain ⟨h1,h2⟩:=List.cons.inj hh;rw [←h1];cases dG l with
   | none=>rfl
   | some c=>exact ih _ _ _ more h2.symm
  ·rw [if_neg hc,List.cons_append] at hh;obtain ⟨h1,h2⟩:=List.cons.inj hh;obtain ⟨rfl,_⟩:=List.append_eq_nil_iff.1 h2;rw [←h1];cases dG l with
   | none=>rfl
   | some c=>rfl
theorem Gn (c:UInt8) (t:Bs):aW c (t++[c])=aW c t++[[]]:=by
 induction t with
 | nil=>simp [aW]
 | cons x t ih =>
  by_cases hx:x=c
  ·subst hx;rw [List.cons_append,pR,pR,ih];rfl
  ·obtain ⟨w,ws,h1,h2⟩:=ou hx t;obtain ⟨w',ws',h3,h4⟩:=ou hx (t++[c]);rw [List.cons_append,h4,h2];rw [ih,h1,List.cons_append] at h3;cases h3;rfl
theorem Jd (x y:UInt8) (l:Bs):fC (x::y::l)=x::fC (y::l):=by
 unfold fC;have:(x::y::l).getLast? = (y::l).getLast? := by simp
 rw [this];split <;> rfl
theorem vZ:∀ s:Bs,s≠[]→bO s=(aW 10 (fC s)).length
 | [],h=>absurd rfl h
 | [x],_=>by
  by_cases hx:x=10
  ·subst hx;decide
  ·have:fC [x] = [x]:=by simp [fC,hx]
   rw [this];simp [aW,hx,bO]
 | x::y::l,_=>by
  have ih:=vZ (y::l) (by simp);rw [Jd,bO,ih];by_cases hx:x=10
  ·subst hx;rw [pR,if_pos rfl];simp;omega
  ·obtain ⟨w,ws,h1,h2⟩:=ou hx (fC (y::l));rw [h2,h1,if_neg hx];simp
theorem KX (s:Bs):∃ more,aW 10 s=aW 10 (fC s)++more:=by
 unfold fC;split
 ·rename_i h
  have:s=s.dropLast++[10]:=by
   have hne:s≠[]:=fun e=>by subst e;simp at h
   have:=List.dropLast_concat_getLast hne;rw [List.getLast?_eq_some_getLast hne] at h;rw [Option.some.inj h] at this;exact this.symm
  refine ⟨[[]],?_⟩
  conv=>lhs;rw [this]
  exact Gn 10 _
 ·exact ⟨[],by simp⟩
theorem N9 (s:Bs):Ej s=dU s:=by
 unfold Ej dU;split
 ·rfl
 ·by_cases hs:s = []
  ·subst hs;rfl
  ·rw [if_neg hs,vZ s hs];obtain ⟨more,hm⟩:=KX s;split
   ·rfl
   ·exact SG _ s 0 [] more hm
theorem o9 (c:UInt8) (l:Bs):Lib.indexByte l c=if (aL c l).2.2 then (((aL c l).1.length:Nat):Int) else -1:=by
 induction l with
 | nil=>rfl
 | cons x l ih =>
  unfold Lib.indexByte aL;by_cases hx:x=c
  ·simp [hx]
  ·rw [if_neg (by simpa using hx),if_neg hx,ih];by_cases h:(aL c l).2.2=true
   ·simp only [h,if_true];rw [if_neg (by rw [beq_iff_eq];omega)];simp
   ·simp [h]
theorem nW (c:UInt8) (l:Bs):Lib.cut l [c]=aL c l:=by
 unfold Lib.cut;rw [Lib.index_one,o9];rcases lC c l with ⟨h1,h2⟩ | ⟨a,b,h1,h2,h3⟩
 ·rw [h2];simp
 ·rw [h3,h1];simp
theorem gF (c:UInt8) (l:Bs):Lib.hasPrefix l [c]=(l.head? == some c):=by
 cases l with
 | nil=>rfl
 | cons x l =>
  simp only [Lib.hasPrefix,List.isPrefixOf,Bool.and_true,List.head?_cons];rw [Bool.eq_iff_iff,beq_iff_eq,beq_iff_eq];exact ⟨fun h=>by rw [h],fun h=>(Option.some.inj h).symm⟩
theorem iC (c:UInt8) (l:Bs):Lib.trimPrefix (c::l) [c]=l:=by
 unfold Lib.trimPrefix;rw [gF];simp
theorem vN (s:Bs):Lib.trimSuffix s [10]=fC s:=by
 unfold Lib.trimSuffix fC Lib.hasSuffix;by_cases h:s.getLast? = some 10
 ·have hs:List.isSuffixOf [10] s=true:=by
   rw [List.isSuffixOf_iff_suffix];have hne:s≠[]:=fun e=>by subst e;simp at h
   have:=List.dropLast_concat_getLast hne;rw [List.getLast?_eq_some_getLast hne] at h;rw [Option.some.inj h] at this;exact ⟨_,this⟩
  rw [if_pos hs,if_pos h,List.dropLast_eq_take];rfl
 ·have hs:¬(List.isSuffixOf [10] s=true):=by
   rw [List.isSuffixOf_iff_suffix];rintro ⟨t,rfl⟩;exact h (by simp)
  rw [if_neg hs,if_neg h]
theorem yx (c:UInt8):∀ (f:Nat) (s:Bs),s.length<f→Lib.countFrom [c] f s+1=(aW c s).length
 | 0,s,h=>by omega
 | f+1,s,h=>by
  unfold Lib.countFrom;rw [Lib.index_one,o9,pU];rcases lC c s with ⟨h1,h2⟩ | ⟨a,b,h1,h2,h3⟩
  ·rw [h2];simp
  ·rw [h3,h1];have:=yx c f b (by rw [h1] at h;simp at h;omega);have hn:¬(((a.length:Nat):Int) == -1)=true:=by rw [beq_iff_eq];omega
   simp only [if_true,hn,Bool.false_eq_true,if_false,Int.toNat_natCast,List.length_cons,List.length_nil];have hd:(a++c::b).drop (a.length+(0+1))=b:=by simp
   rw [hd];omega
theorem wh (c:UInt8):∀ (k:Nat) (s:Bs),k+1=(aW c s).length→Lib.splitK [c] 0 k s=aW c s
 | 0,s,h=>by
  rw [pU] at h ⊢;rcases lC c s with ⟨h1,h2⟩ | ⟨a,b,h1,h2,h3⟩
  ·rw [h2];simp [Lib.splitK]
  ·rw [h3] at h;simp only [if_true,List.length_cons] at h;have:=List.length_pos_iff.2 (rA c b);omega
 | k+1,s,h=>by
  unfold Lib.splitK;rw [Lib.index_one,o9];rw [pU] at h ⊢;rcases lC c s with ⟨h1,h2⟩ | ⟨a,b,h1,h2,h3⟩
  ·rw [h2] at h;simp at h
  ·rw [h3] at h ⊢;simp only [if_true,List.length_cons] at h;have hn:¬(((a.length:Nat):Int) == -1)=true:=by rw [beq_iff_eq];omega
   simp only [if_true,hn,Bool.false_eq_true,if_false,Int.toNat_natCast,List.length_cons,List.length_nil];rw [h1];have hd:(a++c::b).drop (a.length+(0+1))=b:=by simp
   rw [hd,wh c k b (by omega)];simp
theorem KY (c:UInt8) (s:Bs):Lib.splitK [c] 0 (Lib.count s [c]) s=aW c s∧Lib.count s [c]+1=(aW c s).length:=by
 have h:=yx c (s.length+1) s (by omega);exact ⟨wh c _ s h,h⟩
end Go.Proofs.YtnjcmcnjgdjbiaaGreatDoor.Txt
namespace Go.Proofs.YtnjcmcnjgdjbiaaGreatDoor
open Go.RowKit
structure bU (w:World):Prop where
 size:9≤w.heap.size
 most:∃ m,w.cell? ⟨0,0,none⟩=some (.int .i64 m)
 widths:∀ i,i<8→w.cell? ⟨1,i,none⟩=some (.int .u64 ((16*2^i:Nat):Int))
 Xz:Lib.TabIs Tryz.prog w "internal/strconv.uint64pow10" .u64 Lib.pow10Tab
 syn:∃ ev,w.cell? ⟨5,0,none⟩=some ev∧(ev=.nilIface∨∃ te pe,ev=.iface te pe)
 rng:∃ ev,w.cell? ⟨6,0,none⟩=some ev∧(ev=.nilIface∨∃ te pe,ev=.iface te pe)
theorem bU.touch {w w':World} {S:Nat→Prop} (G:bU w) (T:Touch S w w') (h:∀ k,k<9→¬S k):bU w':=by
 have hs:=G.size;have hc:∀ b i,b<9→w'.cell? ⟨b,i,none⟩=w.cell? ⟨b,i,none⟩:=fun b i hb=>T.cell (p:=⟨b,i,none⟩) (by show b<_;omega) (h b hb)
 refine ⟨Nat.le_trans hs T.size,?_,?_,?_,?_,?_⟩
 ·rw [hc 0 0 (by omega)];exact G.most
 ·intro i hi;rw [hc 1 i (by omega)];exact G.widths i hi
 ·exact var?_below (T.NT (B:=9) hs (fun k hk=>Nat.le_of_not_lt (fun hlt=>h k hlt hk))) (by kernel_rfl:Tryz.prog.globalNamed "internal/strconv.uint64pow10" = some 2) (by omega) G.Xz
 ·rw [hc 5 0 (by omega)];exact G.syn
 ·rw [hc 6 0 (by omega)];exact G.rng
theorem bU.aj {w w':World} (G:bU w) (T:Touch Nothing w w'):bU w':=G.touch T (fun _ _ h=>h)
theorem mO {P:Program} {w:World} {x:String × DataW Unit} {r:List (String × DataW Unit)} {ps:List MemPlace} (h:DataW.LaidVars P w (x::r) ps):∃ q,DataW.LaidVars P w r q:=by
 obtain ⟨n,d⟩:=x;obtain ⟨g,t,cs,fuel,p,q,_,_,_,_,h,_⟩:=h;exact ⟨q,h⟩
theorem yA {P:Program} {W:World} {name:String} {k:IntKind} {zs:List Int} {rest:List (String × DataW Unit)} {g:Nat} {t e:TypeId} {n:Nat} {ps:List MemPlace}
  (hg:P.globalNamed name=some g) (hty:(P.globals[g]?).map (·.type)=some t) (ht:P.underlying t=some (.array n e)) (he:P.underlying e=some (.int k)) (hce:P.cellsOf e=1) (hct:P.cellsOf t=n)
  (h:DataW.LaidVars P W ((name,Lib.tabData k zs)::rest) ps):Lib.TabIs P W name k zs:=by
 obtain ⟨g',t',cs,fuel,p,q,hg',ht',hvar,hd,_,_⟩:=h;obtain rfl:=Option.some.inj (hg.symm.trans hg');obtain rfl:=Option.some.inj (hty.symm.trans ht');unfold Lib.TabIs;rw [hvar,←Lib.cells_of_tab ht he hce hct hd]
theorem yB {P:Program} {W:World} {name nm:String} {d:DataW Unit} {rest:List (String × DataW Unit)} {g:Nat} {t:TypeId} {ms:Array (String × TypeId)} {ps:List MemPlace}
  (hg:P.globalNamed name=some g) (hty:(P.globals[g]?).map (·.type)=some t) (ht:P.underlying t=some (.interface ms))
  (h:DataW.LaidVars P W ((name,.iface nm d)::rest) ps):∃ u v,W.cell? ⟨g,0,none⟩=some (.iface u v):=by
 obtain ⟨g',t',cs,fuel,p,q,hg',ht',hvar,hd,_,_⟩:=h;obtain rfl:=Option.some.inj (hg.symm.trans hg');obtain rfl:=Option.some.inj (hty.symm.trans ht');obtain ⟨_,u,v,hcs,_,_⟩:=iface_of_trod ht hd;have:=World.var?_cell hg hvar 0;refine ⟨u,v,?_⟩;rw [this]
 have h2:cs=#[.iface u v]:=by
  cases cs;simp at hcs;rw [hcs]
 rw [h2];rfl
theorem gW:Tryz.prog.globalNamed "croft/slab.widths" = some 1:=by kernel_rfl
theorem gWt:(Tryz.prog.globals[1]?).map (·.type)=some 316:=by kernel_rfl
theorem gP:Tryz.prog.globalNamed "internal/strconv.uint64pow10" = some 2:=by kernel_rfl
theorem gPt:(Tryz.prog.globals[2]?).map (·.type)=some 329:=by kernel_rfl
theorem gS:Tryz.prog.globalNamed "strconv.ErrSyntax" = some 5:=by kernel_rfl
theorem gSt:(Tryz.prog.globals[5]?).map (·.type)=some 138:=by kernel_rfl
theorem gR:Tryz.prog.globalNamed "strconv.ErrRange" = some 6:=by kernel_rfl
theorem gRt:(Tryz.prog.globals[6]?).map (·.type)=some 138:=by kernel_rfl
theorem H9:Tryz.prog.cellsOf 33=1:=by kernel_rfl
theorem Oa:Tryz.prog.cellsOf 316=8:=by kernel_rfl
theorem Ob:Tryz.prog.cellsOf 329=20:=by kernel_rfl
def laidAll:List (String × DataW Unit):=[("math/bits.deBruijn32tab", Rows.laid_math_bits_deBruijn32tab),("math/bits.deBruijn64tab", Rows.laid_math_bits_deBruijn64tab),("internal/strconv.uint64pow10", Rows.laid_internal_strconv_uint64pow10),("unicode/utf8.acceptRanges", Rows.laid_unicode_utf8_acceptRanges),("strconv.ErrRange", Rows.laid_strconv_ErrRange),("strconv.ErrSyntax", Rows.laid_strconv_ErrSyntax),("croft/slab.widths", Rows.laid_croft_slab_widths),("unicode/utf8.first", Rows.laid_unicode_utf8_first)]
theorem SH {W:World} (h:laidMet Tryz.prog laidAll W) (hsh:W.ShapedOpen Tryz.prog):bU W:=by
 obtain ⟨ps,h,_,_⟩:=h;obtain ⟨_,h⟩:=mO h;obtain ⟨_,h⟩:=mO h;have hp:=h;obtain ⟨_,h⟩:=mO h;obtain ⟨_,h⟩:=mO h;have hr:=h;obtain ⟨_,h⟩:=mO h;have hs:=h;obtain ⟨_,h⟩:=mO h;have hW:Lib.TabIs Tryz.prog W "croft/slab.widths" .u64 [16,32,64,128,256,512,1024,2048]:=yA gW gWt Tryz.underlying316 Tryz.underlying33 H9 Oa h
 have hP:Lib.TabIs Tryz.prog W "internal/strconv.uint64pow10" .u64 [1,10,100,1000,10000,100000,1000000,10000000,100000000,1000000000,10000000000,100000000000,1000000000000,10000000000000,100000000000000,1000000000000000,10000000000000000,100000000000000000,1000000000000000000,10000000000000000000] :=
  yA gP gPt Tryz.underlying329 Tryz.underlying33 H9 Ob hp
 obtain ⟨u5,v5,h5⟩:=yB gS gSt Tryz.underlying138 hs;obtain ⟨u6,v6,h6⟩:=yB gR gRt Tryz.underlying138 hr;refine ⟨?_,Go.Proofs.cell_of_shapedOpen_int (zero:=#[.int .i64 0]) (t:=3) hsh (of_decide_eq_true (by kernel_rfl)) (by kernel_rfl) rfl (by kernel_rfl) (by kernel_rfl) Tryz.underlying3,?_,?_,⟨_,h5,.inr ⟨u5,v5,rfl⟩⟩,⟨_,h6,.inr ⟨u6,v6,rfl⟩⟩⟩
 ·have hx:(((begin Tryz.prog (fun _ _=>0) default).world.heap[8]?).bind Obj.row?).isSome=true:=by kernel_rfl
  obtain ⟨⟨z,t⟩,hz⟩:=Option.isSome_iff_exists.1 hx;obtain ⟨cs,hc,_⟩:=hsh.1 8 z t (of_decide_eq_true (by kernel_rfl)) hz;exact (Array.getElem?_eq_some_iff.1 hc).1
 ·intro i hi;have:=hW.cell gW i hi;rw [this]
  match i,hi with
  | 0,_=>rfl
  | 1,_=>rfl
  | 2,_=>rfl
  | 3,_=>rfl
  | 4,_=>rfl
  | 5,_=>rfl
  | 6,_=>rfl
  | 7,_=>rfl
 ·have e:Lib.pow10Tab = [1,10,100,1000,10000,100000,1000000,10000000,100000000,1000000000,10000000000,100000000000,1000000000000,10000000000000,100000000000000,1000000000000000,10000000000000000,100000000000000000,1000000000000000000,10000000000000000000]:=by decide +kernel
  rw [e];exact hP
end Go.Proofs.YtnjcmcnjgdjbiaaGreatDoor
namespace Go.Proofs.YtnjcmcnjgdjbiaaGreatDoor
open Go.ChangeShapes Go.WideShapes Go.ChangeAt Go.RowKit
theorem own:ownKnob Tryz.prog.godebug=none:=by kernel_rfl
noncomputable abbrev N0:Nat:=(World.settled Tryz.prog default).heap.size
noncomputable def rC (os:Os):World :=
 let N:=(World.settled Tryz.prog os).heap.size
 let w0:=World.holding Tryz.prog os ⟨#[.cells #[.string ⟨#[105,110,118,97,108,105,100,32,115,121,110,116,97,120]⟩] 365,.cells #[.string ⟨#[118,97,108,117,101,32,111,117,116,32,111,102,32,114,97,110,103,101]⟩] 365],#[],[]⟩
 let put (h:Array Obj) (g:Nat) (cs:Array Value):Array Obj:=h.modify g fun
  | .cells _ t frozen=>.cells cs t frozen
  | o=>o
 let h1:=put w0.heap 1 #[.int .u64 16,.int .u64 32,.int .u64 64,.int .u64 128,.int .u64 256,.int .u64 512,.int .u64 1024,.int .u64 2048]
 let h2:=put h1 2 (Lib.pow10Tab.map fun z=>Value.int .u64 z).toArray
 let h3:=put h2 3 (Lib.firstTab.map fun z=>Value.int .u8 z).toArray
 let h4:=put h3 4 #[.int .u8 128,.int .u8 191,.int .u8 160,.int .u8 191,.int .u8 128,.int .u8 159,.int .u8 144,.int .u8 191,.int .u8 128,.int .u8 143,.int .u8 0,.int .u8 0,.int .u8 0,.int .u8 0,.int .u8 0,.int .u8 0,.int .u8 0,.int .u8 0,.int .u8 0,.int .u8 0,.int .u8 0,.int .u8 0,.int .u8 0,.int .u8 0,.int .u8 0,.int .u8 0,.int .u8 0,.int .u8 0,.int .u8 0,.int .u8 0,.int .u8 0,.int .u8 0]
 let h5:=put h4 5 #[.iface 363 (.pointer (some ⟨N,0,none⟩))]
 let h6:=put h5 6 #[.iface 363 (.pointer (some ⟨N+1,0,none⟩))]
 let h7:=put h6 7 #[.int .u8 0,.int .u8 1,.int .u8 28,.int .u8 2,.int .u8 29,.int .u8 14,.int .u8 24,.int .u8 3,.int .u8 30,.int .u8 22,.int .u8 20,.int .u8 15,.int .u8 25,.int .u8 17,.int .u8 4,.int .u8 8,.int .u8 31,.int .u8 27,.int .u8 13,.int .u8 23,.int .u8 21,.int .u8 19,.int .u8 16,.int .u8 7,.int .u8 26,.int .u8 12,.int .u8 18,.int .u8 6,.int .u8 11,.int .u8 5,.int .u8 10,.int .u8 9]
 let h8:=put h7 8 #[.int .u8 0,.int .u8 1,.int .u8 56,.int .u8 2,.int .u8 57,.int .u8 49,.int .u8 28,.int .u8 3,.int .u8 61,.int .u8 58,.int .u8 42,.int .u8 50,.int .u8 38,.int .u8 29,.int .u8 17,.int .u8 4,.int .u8 62,.int .u8 47,.int .u8 59,.int .u8 36,.int .u8 45,.int .u8 43,.int .u8 51,.int .u8 22,.int .u8 53,.int .u8 39,.int .u8 33,.int .u8 30,.int .u8 24,.int .u8 18,.int .u8 12,.int .u8 5,.int .u8 63,.int .u8 55,.int .u8 48,.int .u8 27,.int .u8 60,.int .u8 41,.int .u8 37,.int .u8 16,.int .u8 46,.int .u8 35,.int .u8 44,.int .u8 21,.int .u8 52,.int .u8 32,.int .u8 23,.int .u8 11,.int .u8 54,.int .u8 26,.int .u8 40,.int .u8 15,.int .u8 34,.int .u8 20,.int .u8 31,.int .u8 10,.int .u8 25,.int .u8 14,.int .u8 19,.int .u8 9,.int .u8 13,.int .u8 8,.int .u8 7,.int .u8 6]
 { w0 with heap:=h8 }
theorem Oc (os:Os) (args:Array Value):laidMet Tryz.prog laidAll ((rC os).forCall (fun _ _=>0) ⟨#[],args,[]⟩).memory :=
 (LaidIn.of_run [1,2,3,4,5,6,7,8,N0,N0+1] 8 (by kernel_rfl) (by kernel_rfl) (by kernel_rfl) (by kernel_rfl)).met
theorem Gp:Tryz.pinned.checked.prog=Tryz.prog:=rfl
end Go.Proofs.YtnjcmcnjgdjbiaaGreatDoor
