/-
  DERIVED: THE SHELF's CONTRACTS AT THIS DUMP, IN PLAIN WORDS (tools/lay-plain.mjs out of 'TryzShelf.lean', which tools/lay-shelf.mjs wrote): THE SAME DECLARATIONS UNDER THE SAME NAMES: 'import', 'namespace', 'open', 'def', 'theorem' AND NOTHING ELSE: no command of the shelf's: FOR A HAND-IN. Each laying: the table of numbers ('.._ren') and one theorem, a field a fact of the dump's own or the kernel's comparison; each contract: ONE APPLICATION.
-/
import Derived.Shelf.Spec.SearchS
import Derived.Shelf.Strings.Builder1
import Derived.Shelf.Strings.Trim
import Derived.Shelf.Small.Utf8
import Derived.Shelf.Small.Strs
import Derived.Shelf.Small.Wraps
import Derived.Shelf.Strings.BuilderF
import Derived.Shelf.Strings.BuilderK
import Derived.Shelf.Strconv.Itoa0
import Derived.Shelf.Strconv.Itoa1
import Derived.Shelf.LaysM
import Derived.Shelf.Strconv.Itoa2
import Derived.Shelf.Strconv.Itoa3
import Derived.Shelf.Strconv.ParseIntEmpty
import Derived.Shelf.Strconv.Clone
import Derived.Shelf.Strconv.SyntaxError
import Derived.Shelf.LaysC
import Derived.Shelf.Strconv.ToError
import Derived.Shelf.Strconv.Lower
import Derived.Shelf.Strconv.ParseUint10
import Derived.Shelf.Strconv.ParseUint10Empty
import Derived.Shelf.Strconv.ParseUint10Any
import Derived.Shelf.Strconv.ParseInt10
import Derived.Shelf.Strconv.RangeError
import Derived.Shelf.Strconv.ToErrorRange
import Derived.Shelf.Strconv.ParseUintEmpty
import Derived.Shelf.Strconv.ParseUint10b64
import Derived.Shelf.Strconv.ParseUint10b32
import Derived.Shelf.Strconv.ParseUint10b16
import Derived.Shelf.Strconv.ParseUint10b8
import Derived.Shelf.Strconv.ParseUint10At
import Derived.Shelf.Strconv.ParseInt10At64
import Derived.Shelf.Strconv.ParseInt10At32
import Derived.Shelf.Strconv.ParseInt10At16
import Derived.Shelf.Strconv.ParseInt10At8
import Derived.Shelf.Strconv.ParseInt10All
import Derived.Shelf.Strconv.ParseIntPublic10
import Derived.Shelf.Strconv.ErrVarParseInt
import Derived.Shelf.Strings.Search1
import Derived.Shelf.Strings.Search2
import Derived.Shelf.Strings.Search3
import Derived.Shelf.Strings.Shaped
import Derived.Shelf.Strings.Prefix
import Derived.Shelf.Unicode.Latin
import Derived.Shelf.Strings.Runes
import Derived.Shelf.Strings.AsciiSet
import Derived.Shelf.Unicode.DecodeSlow
import Derived.Shelf.Unicode.Is16White
import Derived.Shelf.Unicode.IsSpaceAny
import Derived.Shelf.Unicode.Is16Any
import Derived.Shelf.Unicode.Is32Any
import Derived.Shelf.Unicode.ExclAny
import Derived.Shelf.Strings.BuilderCap
import Derived.Shelf.Slices.Equal
import Derived.Ground.Names2Prog
import Derived.Shelf.Slices.Clone
import Derived.Shelf.Slices.Empties2
import Derived.Test.YtaleodkbghogfaaGreatDoorProg
namespace Go.Proofs
open Go.Shelf
def Tryz.lays169_ren : Go.Shelf.Ren := ⟨fun | 169 => 25 | n => n, fun | 70 => 49 | 9 => 9 | 0 => 0 | 72 => 52 | 37 => 50 | 127 => 88 | 3 => 3 | 5 => 5 | n => n, fun | n => n⟩
theorem Tryz.lays169 : Go.Proofs.Lays.n169 Tryz.prog Tryz.lays169_ren := {
  mixed := by kernel_rfl
  f169 := Tryz.func25.trans (congrArg some (by kernel_rfl))
  t0 := Tryz.underlying0
  a0 := Tryz.isAgg0
  z0 := Tryz.sizeOf0
  v0 := Tryz.zeroValue0
  t3 := Tryz.underlying3
  a3 := Tryz.isAgg3
  z3 := Tryz.sizeOf3
  v3 := Tryz.zeroValue3
  t9 := Tryz.underlying9
  a9 := Tryz.isAgg9
  z9 := Tryz.sizeOf9
  v9 := Tryz.zeroValue9
  t37 := Tryz.underlying50
  a37 := Tryz.isAgg50
  z37 := Tryz.sizeOf50
  v37 := Tryz.zeroValue50
  t70 := Tryz.underlying49
  a70 := Tryz.isAgg49
  z70 := Tryz.sizeOf49
  v70 := Tryz.zeroValue49
  t72 := Tryz.underlying52
  a72 := Tryz.isAgg52
  z72 := Tryz.sizeOf52
  v72 := Tryz.zeroValue52
  t127 := Tryz.underlying88
  a127 := Tryz.isAgg88
  z127 := Tryz.sizeOf88
  v127 := Tryz.zeroValue88 }
theorem Tryz.Builder_Extra_169 : Builder.Extra Tryz.prog Tryz.lays169_ren := {
  sizeBuilder := by kernel_rfl
  liesBuilder := by kernel_rfl
  t5 := Tryz.underlying5
  a5 := Tryz.isAgg5
  z5 := Tryz.sizeOf5
  v5 := Tryz.zeroValue5
  infoByte := by kernel_rfl
  cellsByte := by kernel_rfl
  sizeByte := by kernel_rfl
  neB5 := by decide }
open Go.RowKit in
theorem Tryz.Builder_String_any (B b : Nat) (l : List UInt8) (w : World) (h : Lib.IsBuilder 52 5 B b (Lib.byteCells l) w) (hBw : B ≤ w.heap.size) :
    Calls Tryz.prog 25 #[.pointer (some ⟨b, 0, none⟩)] w fun e w' => e = .returned (.string ⟨l.toArray⟩) ∧ Below B w w' := Any.Builder_String_any Tryz.lays169 Tryz.Builder_Extra_169 B b l w h hBw
def Tryz.lays161_ren : Go.Shelf.Ren := ⟨fun | 161 => 86 | 231 => 109 | 227 => 110 | 233 => 111 | 235 => 112 | 228 => 129 | 197 => 118 | 151 => 130 | 260 => 140 | 152 => 146 | 137 => 160 | 119 => 161 | 224 => 133 | 225 => 132 | 217 => 131 | 266 => 147 | n => n, fun | 9 => 9 | 4 => 4 | 3 => 3 | 5 => 5 | 117 => 206 | 116 => 205 | 0 => 0 | 124 => 209 | 105 => 216 | 21 => 21 | 119 => 215 | 46 => 34 | 139 => 252 | 138 => 251 | n => n, fun | 3 => 9 | 4 => 10 | n => n⟩
theorem Tryz.lays161 : Go.Proofs.Lays.n161 Tryz.prog Tryz.lays161_ren := {
  mixed := by kernel_rfl
  f119 := Tryz.func161.trans (congrArg some (by kernel_rfl))
  f137 := Tryz.func160.trans (congrArg some (by kernel_rfl))
  f151 := Tryz.func130.trans (congrArg some (by kernel_rfl))
  f152 := Tryz.func146.trans (congrArg some (by kernel_rfl))
  f161 := Tryz.func86.trans (congrArg some (by kernel_rfl))
  f197 := Tryz.func118.trans (congrArg some (by kernel_rfl))
  f217 := Tryz.func131.trans (congrArg some (by kernel_rfl))
  f224 := Tryz.func133.trans (congrArg some (by kernel_rfl))
  f225 := Tryz.func132.trans (congrArg some (by kernel_rfl))
  f227 := Tryz.func110.trans (congrArg some (by kernel_rfl))
  f228 := Tryz.func129.trans (congrArg some (by kernel_rfl))
  f231 := Tryz.func109.trans (congrArg some (by kernel_rfl))
  f233 := Tryz.func111.trans (congrArg some (by kernel_rfl))
  f235 := Tryz.func112.trans (congrArg some (by kernel_rfl))
  f260 := Tryz.func140.trans (congrArg some (by kernel_rfl))
  f266 := Tryz.func147.trans (congrArg some (by kernel_rfl))
  t0 := Tryz.underlying0
  a0 := Tryz.isAgg0
  z0 := Tryz.sizeOf0
  v0 := Tryz.zeroValue0
  t3 := Tryz.underlying3
  a3 := Tryz.isAgg3
  z3 := Tryz.sizeOf3
  v3 := Tryz.zeroValue3
  t4 := Tryz.underlying4
  a4 := Tryz.isAgg4
  z4 := Tryz.sizeOf4
  v4 := Tryz.zeroValue4
  t5 := Tryz.underlying5
  a5 := Tryz.isAgg5
  z5 := Tryz.sizeOf5
  v5 := Tryz.zeroValue5
  t9 := Tryz.underlying9
  a9 := Tryz.isAgg9
  z9 := Tryz.sizeOf9
  v9 := Tryz.zeroValue9
  t21 := Tryz.underlying21
  a21 := Tryz.isAgg21
  z21 := Tryz.sizeOf21
  v21 := Tryz.zeroValue21
  t46 := Tryz.underlying34
  a46 := Tryz.isAgg34
  z46 := Tryz.sizeOf34
  v46 := Tryz.zeroValue34
  t105 := Tryz.underlying216
  a105 := Tryz.isAgg216
  z105 := Tryz.sizeOf216
  v105 := Tryz.zeroValue216
  t116 := Tryz.underlying205
  a116 := Tryz.isAgg205
  z116 := Tryz.sizeOf205
  t117 := Tryz.underlying206
  a117 := Tryz.isAgg206
  z117 := Tryz.sizeOf206
  v117 := Tryz.zeroValue206
  t119 := Tryz.underlying215
  a119 := Tryz.isAgg215
  z119 := Tryz.sizeOf215
  t124 := Tryz.underlying209
  a124 := Tryz.isAgg209
  z124 := Tryz.sizeOf209
  v124 := Tryz.zeroValue209
  t138 := Tryz.underlying251
  a138 := Tryz.isAgg251
  z138 := Tryz.sizeOf251
  v138 := Tryz.zeroValue251
  t139 := Tryz.underlying252
  a139 := Tryz.isAgg252
  z139 := Tryz.sizeOf252
  v139 := Tryz.zeroValue252
  g3 := by kernel_rfl
  g4 := by kernel_rfl }
def Tryz.lays103_ren : Go.Shelf.Ren := ⟨fun | 103 => 87 | 210 => 113 | 206 => 120 | n => n, fun | 9 => 9 | 4 => 4 | 24 => 166 | 3 => 3 | n => n, fun | n => n⟩
theorem Tryz.lays103 : Go.Proofs.Lays.n103 Tryz.prog Tryz.lays103_ren := {
  mixed := by kernel_rfl
  f103 := Tryz.func87.trans (congrArg some (by kernel_rfl))
  f206 := Tryz.func120.trans (congrArg some (by kernel_rfl))
  f210 := Tryz.func113.trans (congrArg some (by kernel_rfl))
  t3 := Tryz.underlying3
  a3 := Tryz.isAgg3
  z3 := Tryz.sizeOf3
  v3 := Tryz.zeroValue3
  t4 := Tryz.underlying4
  a4 := Tryz.isAgg4
  z4 := Tryz.sizeOf4
  v4 := Tryz.zeroValue4
  t9 := Tryz.underlying9
  a9 := Tryz.isAgg9
  z9 := Tryz.sizeOf9
  v9 := Tryz.zeroValue9
  t24 := Tryz.underlying166
  a24 := Tryz.isAgg166
  z24 := Tryz.sizeOf166
  v24 := Tryz.zeroValue166 }
open Go.RowKit in
theorem Tryz.strings_CutPrefix (s p : ByteArray) (w : World) :
    Calls Tryz.prog 87 #[.string s, .string p] w fun e w' => e = .returned (.tuple #[.string ⟨(Lib.trimPrefix s.data.toList p.data.toList).toArray⟩, .bool (Lib.hasPrefix s.data.toList p.data.toList)]) ∧ w' = w := Any.strings_CutPrefix Tryz.lays103 s p w
def Tryz.laysM171_ren : Go.Shelf.Ren := ⟨fun | 171 => 24 | 243 => 42 | 246 => 62 | 283 => 82 | 284 => 83 | 285 => 84 | 286 => 85 | 129 => 105 | 317 => 104 | 318 => 106 | 319 => 107 | 320 => 108 | 337 => 127 | 338 => 128 | n => n, fun | 3 => 3 | 9 => 9 | 2 => 2 | 4 => 4 | 171 => 160 | 0 => 0 | 53 => 25 | 37 => 50 | 5 => 5 | 173 => 163 | 212 => 199 | 51 => 200 | 20 => 20 | 213 => 201 | 46 => 34 | 232 => 241 | 233 => 242 | n => n, fun | 17 => 1 | 18 => 5 | 19 => 6 | n => n⟩
theorem Tryz.laysM171 : Go.Proofs.LaysM.n171 Tryz.prog Tryz.laysM171_ren := {
  mixed := by kernel_rfl
  f129 := Tryz.func105.trans (congrArg some (by kernel_rfl))
  f171 := Tryz.func24.trans (congrArg some (by kernel_rfl))
  f243 := Tryz.func42.trans (congrArg some (by kernel_rfl))
  f246 := Tryz.func62.trans (congrArg some (by kernel_rfl))
  f283 := Tryz.func82.trans (congrArg some (by kernel_rfl))
  f284 := Tryz.func83.trans (congrArg some (by kernel_rfl))
  f285 := Tryz.func84.trans (congrArg some (by kernel_rfl))
  f286 := Tryz.func85.trans (congrArg some (by kernel_rfl))
  f317 := Tryz.func104.trans (congrArg some (by kernel_rfl))
  f318 := Tryz.func106.trans (congrArg some (by kernel_rfl))
  f319 := Tryz.func107.trans (congrArg some (by kernel_rfl))
  f320 := Tryz.func108.trans (congrArg some (by kernel_rfl))
  f337 := Tryz.func127.trans (congrArg some (by kernel_rfl))
  f338 := Tryz.func128.trans (congrArg some (by kernel_rfl))
  t0 := Tryz.underlying0
  a0 := Tryz.isAgg0
  z0 := Tryz.sizeOf0
  v0 := Tryz.zeroValue0
  t2 := Tryz.underlying2
  a2 := Tryz.isAgg2
  z2 := Tryz.sizeOf2
  v2 := Tryz.zeroValue2
  t3 := Tryz.underlying3
  a3 := Tryz.isAgg3
  z3 := Tryz.sizeOf3
  v3 := Tryz.zeroValue3
  t4 := Tryz.underlying4
  a4 := Tryz.isAgg4
  z4 := Tryz.sizeOf4
  v4 := Tryz.zeroValue4
  t5 := Tryz.underlying5
  a5 := Tryz.isAgg5
  z5 := Tryz.sizeOf5
  v5 := Tryz.zeroValue5
  t9 := Tryz.underlying9
  a9 := Tryz.isAgg9
  z9 := Tryz.sizeOf9
  v9 := Tryz.zeroValue9
  t20 := Tryz.underlying20
  a20 := Tryz.isAgg20
  z20 := Tryz.sizeOf20
  v20 := Tryz.zeroValue20
  t37 := Tryz.underlying50
  a37 := Tryz.isAgg50
  z37 := Tryz.sizeOf50
  v37 := Tryz.zeroValue50
  t46 := Tryz.underlying34
  a46 := Tryz.isAgg34
  z46 := Tryz.sizeOf34
  v46 := Tryz.zeroValue34
  t51 := Tryz.underlying200
  a51 := Tryz.isAgg200
  z51 := Tryz.sizeOf200
  v51 := Tryz.zeroValue200
  t53 := Tryz.underlying25
  a53 := Tryz.isAgg25
  z53 := Tryz.sizeOf25
  v53 := Tryz.zeroValue25
  t171 := Tryz.underlying160
  a171 := Tryz.isAgg160
  z171 := Tryz.sizeOf160
  v171 := Tryz.zeroValue160
  t173 := Tryz.underlying163
  a173 := Tryz.isAgg163
  z173 := Tryz.sizeOf163
  v173 := Tryz.zeroValue163
  t212 := Tryz.underlying199
  a212 := Tryz.isAgg199
  z212 := Tryz.sizeOf199
  v212 := Tryz.zeroValue199
  t213 := Tryz.underlying201
  a213 := Tryz.isAgg201
  z213 := Tryz.sizeOf201
  t232 := Tryz.underlying241
  a232 := Tryz.isAgg241
  z232 := Tryz.sizeOf241
  v232 := Tryz.zeroValue241
  t233 := Tryz.underlying242
  a233 := Tryz.isAgg242
  z233 := Tryz.sizeOf242
  v233 := Tryz.zeroValue242
  g17 := by kernel_rfl
  g18 := by kernel_rfl
  g19 := by kernel_rfl
  i0 := by kernel_rfl
  i2 := by kernel_rfl
  i3 := by kernel_rfl
  i4 := by kernel_rfl
  i5 := by kernel_rfl
  i9 := by kernel_rfl
  i20 := by kernel_rfl
  i37 := by kernel_rfl
  i46 := by kernel_rfl
  i51 := by kernel_rfl
  i53 := by kernel_rfl
  i171 := by kernel_rfl
  i173 := by kernel_rfl
  i212 := by kernel_rfl
  i232 := by kernel_rfl
  i233 := by kernel_rfl
  m17 := by kernel_rfl
  m18 := by kernel_rfl
  m19 := by kernel_rfl }
open Go.RowKit Go.Sort Go.Lib in
theorem Tryz.strconv_Itoa (n : Int) (h0 : -9223372036854775808 ≤ n) (h1 : n ≤ 9223372036854775807) (w : World) (htab : Lib.TabIs Tryz.prog w "internal/strconv.uint64pow10" .u64 Lib.pow10Tab) :
    Calls Tryz.prog 24 #[.int .i64 n] w fun e w' => e = .returned (.string ⟨(Lib.itoa n).toArray⟩) ∧ ∃ k os, w' = grow (w.drewN k) os := Any.strconv_Itoa Tryz.laysM171 n h0 h1 w htab
def Tryz.laysC174_ren : Go.Shelf.Ren := ⟨fun | 174 => 90 | 247 => 115 | 245 => 116 | 287 => 135 | 279 => 136 | 280 => 137 | 281 => 138 | 282 => 139 | 321 => 149 | 322 => 150 | 316 => 151 | 171 => 24 | 205 => 101 | 243 => 42 | 246 => 62 | 283 => 82 | 284 => 83 | 285 => 84 | 286 => 85 | 129 => 105 | 317 => 104 | 318 => 106 | 319 => 107 | 320 => 108 | 337 => 127 | 338 => 128 | n => n, fun | 9 => 9 | 3 => 3 | 2 => 2 | 75 => 54 | 85 => 169 | 4 => 4 | 167 => 229 | 5 => 5 | 53 => 25 | 175 => 230 | 46 => 34 | 168 => 232 | 37 => 50 | 0 => 0 | 210 => 249 | 21 => 21 | 127 => 88 | 145 => 224 | 143 => 222 | 171 => 160 | 173 => 163 | 212 => 199 | 51 => 200 | 20 => 20 | 213 => 201 | 232 => 241 | 233 => 242 | 80 => 59 | n => n, fun | 15 => 7 | 16 => 8 | 17 => 1 | 18 => 5 | 19 => 6 | n => n⟩
theorem Tryz.laysC174 : Go.Proofs.LaysC.n174 Tryz.prog Tryz.laysC174_ren := {
  mixed := by kernel_rfl
  f129 := Tryz.func105.trans (congrArg some (by kernel_rfl))
  f171 := Tryz.func24.trans (congrArg some (by kernel_rfl))
  f174 := Tryz.func90.trans (congrArg some (by kernel_rfl))
  f205 := Tryz.func101.trans (congrArg some (by kernel_rfl))
  f243 := Tryz.func42.trans (congrArg some (by kernel_rfl))
  f245 := Tryz.func116.trans (congrArg some (by kernel_rfl))
  f246 := Tryz.func62.trans (congrArg some (by kernel_rfl))
  f247 := Tryz.func115.trans (congrArg some (by kernel_rfl))
  f279 := Tryz.func136.trans (congrArg some (by kernel_rfl))
  f280 := Tryz.func137.trans (congrArg some (by kernel_rfl))
  f281 := Tryz.func138.trans (congrArg some (by kernel_rfl))
  f282 := Tryz.func139.trans (congrArg some (by kernel_rfl))
  f283 := Tryz.func82.trans (congrArg some (by kernel_rfl))
  f284 := Tryz.func83.trans (congrArg some (by kernel_rfl))
  f285 := Tryz.func84.trans (congrArg some (by kernel_rfl))
  f286 := Tryz.func85.trans (congrArg some (by kernel_rfl))
  f287 := Tryz.func135.trans (congrArg some (by kernel_rfl))
  f316 := Tryz.func151.trans (congrArg some (by kernel_rfl))
  f317 := Tryz.func104.trans (congrArg some (by kernel_rfl))
  f318 := Tryz.func106.trans (congrArg some (by kernel_rfl))
  f319 := Tryz.func107.trans (congrArg some (by kernel_rfl))
  f320 := Tryz.func108.trans (congrArg some (by kernel_rfl))
  f321 := Tryz.func149.trans (congrArg some (by kernel_rfl))
  f322 := Tryz.func150.trans (congrArg some (by kernel_rfl))
  f337 := Tryz.func127.trans (congrArg some (by kernel_rfl))
  f338 := Tryz.func128.trans (congrArg some (by kernel_rfl))
  t0 := Tryz.underlying0
  a0 := Tryz.isAgg0
  z0 := Tryz.sizeOf0
  v0 := Tryz.zeroValue0
  t2 := Tryz.underlying2
  a2 := Tryz.isAgg2
  z2 := Tryz.sizeOf2
  v2 := Tryz.zeroValue2
  t3 := Tryz.underlying3
  a3 := Tryz.isAgg3
  z3 := Tryz.sizeOf3
  v3 := Tryz.zeroValue3
  t4 := Tryz.underlying4
  a4 := Tryz.isAgg4
  z4 := Tryz.sizeOf4
  v4 := Tryz.zeroValue4
  t5 := Tryz.underlying5
  a5 := Tryz.isAgg5
  z5 := Tryz.sizeOf5
  v5 := Tryz.zeroValue5
  t9 := Tryz.underlying9
  a9 := Tryz.isAgg9
  z9 := Tryz.sizeOf9
  v9 := Tryz.zeroValue9
  t20 := Tryz.underlying20
  a20 := Tryz.isAgg20
  z20 := Tryz.sizeOf20
  v20 := Tryz.zeroValue20
  t21 := Tryz.underlying21
  a21 := Tryz.isAgg21
  z21 := Tryz.sizeOf21
  v21 := Tryz.zeroValue21
  t37 := Tryz.underlying50
  a37 := Tryz.isAgg50
  z37 := Tryz.sizeOf50
  v37 := Tryz.zeroValue50
  t46 := Tryz.underlying34
  a46 := Tryz.isAgg34
  z46 := Tryz.sizeOf34
  v46 := Tryz.zeroValue34
  t51 := Tryz.underlying200
  a51 := Tryz.isAgg200
  z51 := Tryz.sizeOf200
  v51 := Tryz.zeroValue200
  t53 := Tryz.underlying25
  a53 := Tryz.isAgg25
  z53 := Tryz.sizeOf25
  v53 := Tryz.zeroValue25
  t75 := Tryz.underlying54
  a75 := Tryz.isAgg54
  z75 := Tryz.sizeOf54
  v75 := Tryz.zeroValue54
  t85 := Tryz.underlying169
  a85 := Tryz.isAgg169
  z85 := Tryz.sizeOf169
  v85 := Tryz.zeroValue169
  t127 := Tryz.underlying88
  a127 := Tryz.isAgg88
  z127 := Tryz.sizeOf88
  v127 := Tryz.zeroValue88
  t143 := Tryz.underlying222
  a143 := Tryz.isAgg222
  z143 := Tryz.sizeOf222
  v143 := Tryz.zeroValue222
  t145 := Tryz.underlying224
  a145 := Tryz.isAgg224
  z145 := Tryz.sizeOf224
  v145 := Tryz.zeroValue224
  t167 := Tryz.underlying229
  a167 := Tryz.isAgg229
  z167 := Tryz.sizeOf229
  v167 := Tryz.zeroValue229
  t168 := Tryz.underlying232
  a168 := Tryz.isAgg232
  z168 := Tryz.sizeOf232
  v168 := Tryz.zeroValue232
  t171 := Tryz.underlying160
  a171 := Tryz.isAgg160
  z171 := Tryz.sizeOf160
  v171 := Tryz.zeroValue160
  t173 := Tryz.underlying163
  a173 := Tryz.isAgg163
  z173 := Tryz.sizeOf163
  v173 := Tryz.zeroValue163
  t175 := Tryz.underlying230
  a175 := Tryz.isAgg230
  z175 := Tryz.sizeOf230
  v175 := Tryz.zeroValue230
  t210 := Tryz.underlying249
  a210 := Tryz.isAgg249
  z210 := Tryz.sizeOf249
  v210 := Tryz.zeroValue249
  t212 := Tryz.underlying199
  a212 := Tryz.isAgg199
  z212 := Tryz.sizeOf199
  v212 := Tryz.zeroValue199
  t213 := Tryz.underlying201
  a213 := Tryz.isAgg201
  z213 := Tryz.sizeOf201
  t232 := Tryz.underlying241
  a232 := Tryz.isAgg241
  z232 := Tryz.sizeOf241
  v232 := Tryz.zeroValue241
  t233 := Tryz.underlying242
  a233 := Tryz.isAgg242
  z233 := Tryz.sizeOf242
  v233 := Tryz.zeroValue242
  g15 := by kernel_rfl
  g16 := by kernel_rfl
  g17 := by kernel_rfl
  g18 := by kernel_rfl
  g19 := by kernel_rfl
  t80 := Tryz.underlying59
  a80 := Tryz.isAgg59
  z80 := Tryz.sizeOf59
  v80 := Tryz.zeroValue59
  i0 := by kernel_rfl
  i2 := by kernel_rfl
  i3 := by kernel_rfl
  i4 := by kernel_rfl
  i5 := by kernel_rfl
  i9 := by kernel_rfl
  i20 := by kernel_rfl
  i21 := by kernel_rfl
  i37 := by kernel_rfl
  i46 := by kernel_rfl
  i51 := by kernel_rfl
  i53 := by kernel_rfl
  i75 := by kernel_rfl
  i80 := by kernel_rfl
  i85 := by kernel_rfl
  i127 := by kernel_rfl
  i143 := by kernel_rfl
  i145 := by kernel_rfl
  i167 := by kernel_rfl
  i168 := by kernel_rfl
  i171 := by kernel_rfl
  i173 := by kernel_rfl
  i175 := by kernel_rfl
  i210 := by kernel_rfl
  i212 := by kernel_rfl
  i232 := by kernel_rfl
  i233 := by kernel_rfl
  m15 := by kernel_rfl
  m16 := by kernel_rfl
  m17 := by kernel_rfl
  m18 := by kernel_rfl
  m19 := by kernel_rfl
  c0 := by kernel_rfl
  c2 := by kernel_rfl
  c3 := by kernel_rfl
  c4 := by kernel_rfl
  c5 := by kernel_rfl
  c9 := by kernel_rfl
  c20 := by kernel_rfl
  c21 := by kernel_rfl
  c37 := by kernel_rfl
  c46 := by kernel_rfl
  c51 := by kernel_rfl
  c53 := by kernel_rfl
  c75 := by kernel_rfl
  c80 := by kernel_rfl
  c85 := by kernel_rfl
  c127 := by kernel_rfl
  c143 := by kernel_rfl
  c145 := by kernel_rfl
  c167 := by kernel_rfl
  c168 := by kernel_rfl
  c171 := by kernel_rfl
  c173 := by kernel_rfl
  c175 := by kernel_rfl
  c210 := by kernel_rfl
  c212 := by kernel_rfl
  c213 := by kernel_rfl
  c232 := by kernel_rfl
  c233 := by kernel_rfl }
open Go.RowKit in
theorem Tryz.strconv_ParseInt_10_at64_ok (s : ByteArray) (hmax : s.size ≤ 9223372036854775806) (v : Int) (h : Lib.parseIntB 64 s.data.toList = .ok v) (w : World) :
    Calls Tryz.prog 90 #[.string s, .int .i64 10, .int .i64 64] w fun e w' => e = .returned (.tuple #[.int .i64 v, .nilIface]) ∧ (w' = w ∨ ∃ t, w' = Lib.bytesWorld w 5 t) := Any.strconv_ParseInt_10_at64_ok Tryz.laysC174 s hmax v h w
open Go.RowKit in
theorem Tryz.strconv_ParseInt_10_at64_range (s : ByteArray) (hlim : s.size ≤ 281474976710656) (h : Lib.parseIntB 64 s.data.toList = .range) (ev : Value) (w : World) (hv : w.cell? ⟨8, 0, none⟩ = some ev) (hev : ev = .nilIface ∨ ∃ te pe, ev = .iface te pe) :
    Calls Tryz.prog 90 #[.string s, .int .i64 10, .int .i64 64] w fun e w' => ∃ N, e = .returned (.tuple #[.int .i64 (Lib.intSat 64 s.data.toList), .iface 232 (.pointer (some ⟨N, 0, none⟩))]) ∧ w.heap.size ≤ N ∧ w'.heap[N]? = some (.cells #[.string ⟨#[80, 97, 114, 115, 101, 73, 110, 116]⟩, .string s, ev] 249 (0, 0)) ∧ Below w.heap.size w w' := Any.strconv_ParseInt_10_at64_range Tryz.laysC174 s hlim h ev w hv hev
def Tryz.lays143_ren : Go.Shelf.Ren := ⟨fun | 143 => 88 | 219 => 114 | 217 => 131 | 225 => 132 | 224 => 133 | 267 => 134 | 266 => 147 | 314 => 148 | n => n, fun | 9 => 9 | 3 => 3 | 4 => 4 | 5 => 5 | 46 => 34 | 146 => 244 | 51 => 200 | n => n, fun | 1 => 3 | n => n⟩
theorem Tryz.lays143 : Go.Proofs.Lays.n143 Tryz.prog Tryz.lays143_ren := {
  mixed := by kernel_rfl
  f143 := Tryz.func88.trans (congrArg some (by kernel_rfl))
  f217 := Tryz.func131.trans (congrArg some (by kernel_rfl))
  f219 := Tryz.func114.trans (congrArg some (by kernel_rfl))
  f224 := Tryz.func133.trans (congrArg some (by kernel_rfl))
  f225 := Tryz.func132.trans (congrArg some (by kernel_rfl))
  f266 := Tryz.func147.trans (congrArg some (by kernel_rfl))
  f267 := Tryz.func134.trans (congrArg some (by kernel_rfl))
  f314 := Tryz.func148.trans (congrArg some (by kernel_rfl))
  t3 := Tryz.underlying3
  a3 := Tryz.isAgg3
  z3 := Tryz.sizeOf3
  v3 := Tryz.zeroValue3
  t4 := Tryz.underlying4
  a4 := Tryz.isAgg4
  z4 := Tryz.sizeOf4
  v4 := Tryz.zeroValue4
  t5 := Tryz.underlying5
  a5 := Tryz.isAgg5
  z5 := Tryz.sizeOf5
  v5 := Tryz.zeroValue5
  t9 := Tryz.underlying9
  a9 := Tryz.isAgg9
  z9 := Tryz.sizeOf9
  v9 := Tryz.zeroValue9
  t46 := Tryz.underlying34
  a46 := Tryz.isAgg34
  z46 := Tryz.sizeOf34
  v46 := Tryz.zeroValue34
  t51 := Tryz.underlying200
  a51 := Tryz.isAgg200
  z51 := Tryz.sizeOf200
  v51 := Tryz.zeroValue200
  t146 := Tryz.underlying244
  a146 := Tryz.isAgg244
  z146 := Tryz.sizeOf244
  v146 := Tryz.zeroValue244
  g1 := by kernel_rfl }
open Go.RowKit Go.Lib in
theorem Tryz.strings_Index (s sub : ByteArray) (m : Int) (w : World) (hs : s.size < 4294967281) (hm : w.cell? ⟨3, 0, none⟩ = some (.int .i64 m)) :
    Calls Tryz.prog 88 #[.string s, .string sub] w fun e w' => e = .returned (.int .i64 (Lib.index s.data.toList sub.data.toList)) ∧ w' = w := Any.strings_Index Tryz.lays143 s sub m w hs hm
def Tryz.lays144_ren : Go.Shelf.Ren := ⟨fun | 144 => 103 | 143 => 88 | 219 => 114 | 217 => 131 | 225 => 132 | 224 => 133 | 267 => 134 | 266 => 147 | 314 => 148 | n => n, fun | 9 => 9 | 4 => 4 | 3 => 3 | 5 => 5 | 46 => 34 | 146 => 244 | 51 => 200 | n => n, fun | 1 => 3 | n => n⟩
theorem Tryz.lays144 : Go.Proofs.Lays.n144 Tryz.prog Tryz.lays144_ren := {
  mixed := by kernel_rfl
  f143 := Tryz.func88.trans (congrArg some (by kernel_rfl))
  f144 := Tryz.func103.trans (congrArg some (by kernel_rfl))
  f217 := Tryz.func131.trans (congrArg some (by kernel_rfl))
  f219 := Tryz.func114.trans (congrArg some (by kernel_rfl))
  f224 := Tryz.func133.trans (congrArg some (by kernel_rfl))
  f225 := Tryz.func132.trans (congrArg some (by kernel_rfl))
  f266 := Tryz.func147.trans (congrArg some (by kernel_rfl))
  f267 := Tryz.func134.trans (congrArg some (by kernel_rfl))
  f314 := Tryz.func148.trans (congrArg some (by kernel_rfl))
  t3 := Tryz.underlying3
  a3 := Tryz.isAgg3
  z3 := Tryz.sizeOf3
  v3 := Tryz.zeroValue3
  t4 := Tryz.underlying4
  a4 := Tryz.isAgg4
  z4 := Tryz.sizeOf4
  v4 := Tryz.zeroValue4
  t5 := Tryz.underlying5
  a5 := Tryz.isAgg5
  z5 := Tryz.sizeOf5
  v5 := Tryz.zeroValue5
  t9 := Tryz.underlying9
  a9 := Tryz.isAgg9
  z9 := Tryz.sizeOf9
  v9 := Tryz.zeroValue9
  t46 := Tryz.underlying34
  a46 := Tryz.isAgg34
  z46 := Tryz.sizeOf34
  v46 := Tryz.zeroValue34
  t51 := Tryz.underlying200
  a51 := Tryz.isAgg200
  z51 := Tryz.sizeOf200
  v51 := Tryz.zeroValue200
  t146 := Tryz.underlying244
  a146 := Tryz.isAgg244
  z146 := Tryz.sizeOf244
  v146 := Tryz.zeroValue244
  g1 := by kernel_rfl }
open Go.RowKit Go.Lib in
theorem Tryz.strings_Contains (s sub : ByteArray) (m : Int) (w : World) (hs : s.size < 4294967281) (hm : w.cell? ⟨3, 0, none⟩ = some (.int .i64 m)) :
    Calls Tryz.prog 103 #[.string s, .string sub] w fun e w' => e = .returned (.bool (Lib.contains s.data.toList sub.data.toList)) ∧ w' = w := Any.strings_Contains Tryz.lays144 s sub m w hs hm
def Tryz.lays99_ren : Go.Shelf.Ren := ⟨fun | 99 => 94 | 206 => 120 | n => n, fun | 9 => 9 | 4 => 4 | 3 => 3 | n => n, fun | n => n⟩
theorem Tryz.lays99 : Go.Proofs.Lays.n99 Tryz.prog Tryz.lays99_ren := {
  mixed := by kernel_rfl
  f99 := Tryz.func94.trans (congrArg some (by kernel_rfl))
  f206 := Tryz.func120.trans (congrArg some (by kernel_rfl))
  t3 := Tryz.underlying3
  a3 := Tryz.isAgg3
  z3 := Tryz.sizeOf3
  v3 := Tryz.zeroValue3
  t4 := Tryz.underlying4
  a4 := Tryz.isAgg4
  z4 := Tryz.sizeOf4
  v4 := Tryz.zeroValue4
  t9 := Tryz.underlying9
  a9 := Tryz.isAgg9
  z9 := Tryz.sizeOf9
  v9 := Tryz.zeroValue9 }
open Go.RowKit Go.Lib in
theorem Tryz.strings_HasPrefix (s p : ByteArray) (w : World) :
    Calls Tryz.prog 94 #[.string s, .string p] w fun e w' => e = .returned (.bool (Lib.hasPrefix s.data.toList p.data.toList)) ∧ w' = w := Any.strings_HasPrefix Tryz.lays99 s p w
def Tryz.lays111_ren : Go.Shelf.Ren := ⟨fun | 111 => 33 | n => n, fun | 28 => 30 | 3 => 3 | 4 => 4 | 0 => 0 | n => n, fun | n => n⟩
theorem Tryz.lays111 : Go.Proofs.Lays.n111 Tryz.prog Tryz.lays111_ren := {
  mixed := by kernel_rfl
  f111 := Tryz.func33.trans (congrArg some (by kernel_rfl))
  t0 := Tryz.underlying0
  a0 := Tryz.isAgg0
  z0 := Tryz.sizeOf0
  v0 := Tryz.zeroValue0
  t3 := Tryz.underlying3
  a3 := Tryz.isAgg3
  z3 := Tryz.sizeOf3
  v3 := Tryz.zeroValue3
  t4 := Tryz.underlying4
  a4 := Tryz.isAgg4
  z4 := Tryz.sizeOf4
  v4 := Tryz.zeroValue4
  t28 := Tryz.underlying30
  a28 := Tryz.isAgg30
  z28 := Tryz.sizeOf30
  v28 := Tryz.zeroValue30 }
open Go.RowKit Go.Lib in
theorem Tryz.slices_Equal_int (b1 o1 n c b2 o2 m d : Nat) (xs ys : List Int) (w : World) (hx : n ≤ xs.length) (hy : m ≤ ys.length) (hbig : n ≤ 9223372036854775807) (hbig2 : m ≤ 9223372036854775807) (hc1 : ∀ j, j < xs.length → w.cell? ⟨b1, o1 + j, none⟩ = some (.int .i64 (xs.getD j 0))) (hc2 : ∀ j, j < ys.length → w.cell? ⟨b2, o2 + j, none⟩ = some (.int .i64 (ys.getD j 0))) :
    Calls Tryz.prog 33 #[.slice (some ⟨b1, o1, none⟩) n c, .slice (some ⟨b2, o2, none⟩) m d] w fun e w' => e = .returned (.bool (xs.take n == ys.take m)) ∧ ∃ q, w' = w.drewN q := Any.slices_Equal_int Tryz.lays111 b1 o1 n c b2 o2 m d xs ys w hx hy hbig hbig2 hc1 hc2
def Tryz.laysNm215_ren : Go.Shelf.Ren := ⟨fun | 15 => 45 | n => n, fun | 22 => 30 | 3 => 3 | 4 => 4 | n => n, fun | n => n⟩
theorem Tryz.laysNm215 : Go.Proofs.Lays2.n15 Tryz.prog Tryz.laysNm215_ren := {
  mixed := by kernel_rfl
  f15 := Tryz.func45.trans (congrArg some (by kernel_rfl))
  t3 := Tryz.underlying3
  a3 := Tryz.isAgg3
  z3 := Tryz.sizeOf3
  v3 := Tryz.zeroValue3
  t4 := Tryz.underlying4
  a4 := Tryz.isAgg4
  z4 := Tryz.sizeOf4
  v4 := Tryz.zeroValue4
  t22 := Tryz.underlying30
  a22 := Tryz.isAgg30
  z22 := Tryz.sizeOf30
  v22 := Tryz.zeroValue30
  i3 := by kernel_rfl }
open Go.RowKit Go.Lib in
theorem Tryz.slices_Clone_int (b off n c : Nat) (zs : List Int) (w : World) (hz : n ≤ zs.length) (hbig : n * 8 ≤ 140737488355328) (hc : ∀ j, j < zs.length → w.cell? ⟨b, off + j, none⟩ = some (.int .i64 (zs.getD j 0))) :
    Calls Tryz.prog 45 #[.slice (some ⟨b, off, none⟩) n c] w fun e w' => ∃ v', e = .returned v' ∧ w'.ownsRow w.heap.size 3 1 v' n ((zs.take n).map (Value.int .i64)) ∧ v' ≠ .slice none 0 0 ∧ Below w.heap.size w w' := Any.slices_Clone_int Tryz.laysNm215 b off n c zs w hz hbig hc
open Go.RowKit Go.Lib in
theorem Tryz.slices_Clone_int_nil (n c : Nat) (w : World) :
    Calls Tryz.prog 45 #[.slice none n c] w fun e w' => e = .returned (.slice none 0 0) ∧ w' = w := Any.slices_Clone_int_nil Tryz.laysNm215 n c w
def Tryz.laysNm216_ren : Go.Shelf.Ren := ⟨fun | 16 => 44 | n => n, fun | 24 => 31 | 9 => 9 | 4 => 4 | n => n, fun | n => n⟩
theorem Tryz.laysNm216 : Go.Proofs.Lays2.n16 Tryz.prog Tryz.laysNm216_ren := {
  mixed := by kernel_rfl
  f16 := Tryz.func44.trans (congrArg some (by kernel_rfl))
  t4 := Tryz.underlying4
  a4 := Tryz.isAgg4
  z4 := Tryz.sizeOf4
  v4 := Tryz.zeroValue4
  t9 := Tryz.underlying9
  a9 := Tryz.isAgg9
  z9 := Tryz.sizeOf9
  v9 := Tryz.zeroValue9
  t24 := Tryz.underlying31
  a24 := Tryz.isAgg31
  z24 := Tryz.sizeOf31
  v24 := Tryz.zeroValue31
  i9 := by kernel_rfl }
open Go.RowKit Go.Lib in
theorem Tryz.slices_Clone_string (b off n c : Nat) (zs : List ByteArray) (w : World) (hz : n ≤ zs.length) (hbig : n * 16 ≤ 140737488355328) (hc : ∀ j, j < zs.length → w.cell? ⟨b, off + j, none⟩ = some (.string (zs.getD j ByteArray.empty))) :
    Calls Tryz.prog 44 #[.slice (some ⟨b, off, none⟩) n c] w fun e w' => ∃ v', e = .returned v' ∧ w'.ownsRow w.heap.size 9 1 v' n ((zs.take n).map (Value.string)) ∧ v' ≠ .slice none 0 0 ∧ Below w.heap.size w w' := Any.slices_Clone_string Tryz.laysNm216 b off n c zs w hz hbig hc
open Go.RowKit Go.Lib in
theorem Tryz.slices_Clone_string_nil (n c : Nat) (w : World) :
    Calls Tryz.prog 44 #[.slice none n c] w fun e w' => e = .returned (.slice none 0 0) ∧ w' = w := Any.slices_Clone_string_nil Tryz.laysNm216 n c w
open Go.RowKit Go.Lib in
theorem Tryz.slices_Clone_int_zero (a : Addr) (c : Nat) (w : World) :
    Calls Tryz.prog 45 #[.slice (some a) 0 c] w fun e w' => ∃ v', e = .returned v' ∧ w'.ownsRow w.heap.size 3 1 v' 0 [] ∧ v' ≠ .slice none 0 0 ∧ Below w.heap.size w w' := Any.slices_Clone_int_zero Tryz.laysNm215 a c w
open Go.RowKit Go.Lib in
theorem Tryz.slices_Clone_string_zero (a : Addr) (c : Nat) (w : World) :
    Calls Tryz.prog 44 #[.slice (some a) 0 c] w fun e w' => ∃ v', e = .returned v' ∧ w'.ownsRow w.heap.size 9 1 v' 0 [] ∧ v' ≠ .slice none 0 0 ∧ Below w.heap.size w w' := Any.slices_Clone_string_zero Tryz.laysNm216 a c w
def Tryz.lays2_26_ren : Go.Shelf.Ren := ⟨fun | 26 => 143 | 33 => 154 | 34 => 155 | 38 => 162 | n => n, fun | 24 => 31 | 9 => 9 | 3 => 3 | 4 => 4 | 40 => 34 | 0 => 0 | n => n, fun | n => n⟩
theorem Tryz.lays2_26 : Go.Proofs.Lays2.n26 Tryz.prog Tryz.lays2_26_ren := {
  mixed := by kernel_rfl
  f26 := Tryz.func143.trans (congrArg some (by kernel_rfl))
  f33 := Tryz.func154.trans (congrArg some (by kernel_rfl))
  f34 := Tryz.func155.trans (congrArg some (by kernel_rfl))
  f38 := Tryz.func162.trans (congrArg some (by kernel_rfl))
  t0 := Tryz.underlying0
  a0 := Tryz.isAgg0
  z0 := Tryz.sizeOf0
  v0 := Tryz.zeroValue0
  t3 := Tryz.underlying3
  a3 := Tryz.isAgg3
  z3 := Tryz.sizeOf3
  v3 := Tryz.zeroValue3
  t4 := Tryz.underlying4
  a4 := Tryz.isAgg4
  z4 := Tryz.sizeOf4
  v4 := Tryz.zeroValue4
  t9 := Tryz.underlying9
  a9 := Tryz.isAgg9
  z9 := Tryz.sizeOf9
  v9 := Tryz.zeroValue9
  t24 := Tryz.underlying31
  a24 := Tryz.isAgg31
  z24 := Tryz.sizeOf31
  v24 := Tryz.zeroValue31
  t40 := Tryz.underlying34
  a40 := Tryz.isAgg34
  z40 := Tryz.sizeOf34
  v40 := Tryz.zeroValue34 }
open Go.RowKit in
theorem Tryz.slices_BinarySearch_string (b off n c : Nat) (Sx : Nat → ByteArray) (x : ByteArray) (w : World) (hbig : n < 4611686018427387904) (hc : ∀ j, j < n → w.cell? ⟨b, off + j, none⟩ = some (.string (Sx j))) :
    Calls Tryz.prog 143 #[.slice (some ⟨b, off, none⟩) n c, .string x] w fun e w' =>
      e = .returned (.tuple #[.int .i64 (Lib.bsGo (fun t => Op.bytesLess (Sx t).toList x.toList) n 0 n : Nat), .bool (decide (Lib.bsGo (fun t => Op.bytesLess (Sx t).toList x.toList) n 0 n < n ∧ Sx (Lib.bsGo (fun t => Op.bytesLess (Sx t).toList x.toList) n 0 n) = x))]) ∧ ∃ q, w' = w.drewN q := Any2.slices_BinarySearch_string Tryz.lays2_26 b off n c Sx x w hbig hc
end Go.Proofs
