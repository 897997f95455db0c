/- This text holds contracts of the Go library's functions at this program, laid by the kit's shelf (its plain mode). · This text gives the contracts of Go's library functions in the form of the symbolic executor. · This text gives the contracts of strconv.Itoa at any number, and of Decimal and Number of the references. · This text gives the contracts of strings.Builder, alone or at the head of a struct: WriteString, WriteByte, Write, Len, String. · This text gives the contracts of strings.Builder where any strings are written, empty ones too. · This text defines documents (trees of blocks and elements), their cells, and what it means that memory holds one. -/
import Derived.Shelf.Strings.Builder1
import Derived.Shelf.Strings.Builder2
import Derived.Shelf.Small.Utf8
import Derived.Shelf.Small.Bits
import Derived.Shelf.Small.Strs
import Derived.Shelf.Small.Wraps
import Derived.Shelf.Strings.BuilderF
import Derived.Shelf.Strings.BuilderK
import Derived.Shelf.Utf8.RuneCount
import Derived.Shelf.Strings.Builder2Cap
import Derived.Shelf.Strconv.Itoa0
import Derived.Shelf.Strconv.Itoa1
import Derived.Shelf.LaysM
import Derived.Shelf.Strconv.Itoa2
import Derived.Shelf.Strconv.Itoa3
import Derived.Shelf.Strings.Search1
import Derived.Shelf.Strings.Search2
import Derived.Shelf.Strings.Search3
import Derived.Shelf.Strings.Cut
import Derived.Shelf.Strings.Count
import Derived.Shelf.Strings.Shaped
import Derived.Shelf.Strings.Prefix
import Derived.Shelf.Strings.Split
import Derived.Shelf.Strings.Replace
import Derived.Shelf.Strings.SplitShaped
import Derived.Shelf.Unicode.Decode
import Derived.Shelf.Strings.Runes
import Derived.Shelf.Strings.RuneCount
import Derived.Shelf.Strings.IndexAny
import Derived.Shelf.Strings.AsciiSet
import Derived.Shelf.Strings.IndexAnyAll
import Derived.Shelf.Strings.Explode
import Derived.Shelf.Unicode.DecodeSlow
import Derived.Shelf.Unicode.DecodeAny
import Derived.Shelf.Strings.BuilderCap
import Derived.Ground.Names2Prog
import Derived.Shelf.Slices.SearchI
import Derived.Test.YtdnkeinjfddmnaaGreatDoorProg
import Derived.Test.YtdnkeinjfddmnaaGreatDoorW04
import Derived.Test.YtdnkeinjfddmnaaGreatDoorW05
import Derived.Lib.LaidTab
import Derived.Lib.ItoaNum
import Derived.Laws.Externs
set_option linter.all false
namespace Go.Proofs
open Go.Shelf
def Tryz.lays125_ren : Go.Shelf.Ren := ⟨fun | 125 => 106 | 128 => 144 | 129 => 145 | n => n, fun | 46 => 74 | 3 => 3 | 51 => 118 | 53 => 184 | 4 => 4 | 5 => 5 | 9 => 9 | n => n, fun | n => n⟩
theorem Tryz.lays125 : Go.Proofs.Lays.n125 Tryz.prog Tryz.lays125_ren := {
  mixed := by kernel_rfl
  f125 := Tryz.func106.trans (congrArg some (by kernel_rfl))
  f128 := Tryz.func144.trans (congrArg some (by kernel_rfl))
  f129 := Tryz.func145.trans (congrArg some (by kernel_rfl))
  t3 := Tryz.underlying3
  a3 := Tryz.isAgg3
  z3 := Tryz.sizeOf3
  v3 := Tryz.zeroValue3
  t4 := Tryz.underlying4
  a4 := Tryz.isAgg4
  z4 := Tryz.sizeOf4
  v4 := Tryz.zeroValue4
  t5 := Tryz.underlying5
  a5 := Tryz.isAgg5
  z5 := Tryz.sizeOf5
  v5 := Tryz.zeroValue5
  t9 := Tryz.underlying9
  a9 := Tryz.isAgg9
  z9 := Tryz.sizeOf9
  v9 := Tryz.zeroValue9
  t46 := Tryz.underlying74
  a46 := Tryz.isAgg74
  z46 := Tryz.sizeOf74
  v46 := Tryz.zeroValue74
  t51 := Tryz.underlying118
  a51 := Tryz.isAgg118
  z51 := Tryz.sizeOf118
  v51 := Tryz.zeroValue118
  t53 := Tryz.underlying184
  a53 := Tryz.isAgg184
  z53 := Tryz.sizeOf184
  v53 := Tryz.zeroValue184 }
theorem Tryz.bits_Len (x : Int) (w : World) (h0 : 0 ≤ x) (h1 : x ≤ 18446744073709551615) :
    Calls Tryz.prog 106 #[.int .u64 x] w fun e w' => e = .returned (.int .i64 (Lib.bitLen x.toNat)) ∧ w' = w := Any.bits_Len Tryz.lays125 x w h0 h1
def Tryz.lays106_ren : Go.Shelf.Ren := ⟨fun | 106 => 109 | 213 => 147 | 265 => 173 | n => n, fun | 9 => 9 | 3 => 3 | n => n, fun | n => n⟩
theorem Tryz.lays106 : Go.Proofs.Lays.n106 Tryz.prog Tryz.lays106_ren := {
  mixed := by kernel_rfl
  f106 := Tryz.func109.trans (congrArg some (by kernel_rfl))
  f213 := Tryz.func147.trans (congrArg some (by kernel_rfl))
  f265 := Tryz.func173.trans (congrArg some (by kernel_rfl))
  t3 := Tryz.underlying3
  a3 := Tryz.isAgg3
  z3 := Tryz.sizeOf3
  v3 := Tryz.zeroValue3
  t9 := Tryz.underlying9
  a9 := Tryz.isAgg9
  z9 := Tryz.sizeOf9
  v9 := Tryz.zeroValue9 }
open Go.RowKit in
theorem Tryz.strings_Compare (a b : ByteArray) (w : World) :
    Calls Tryz.prog 109 #[.string a, .string b] w fun e w' => e = .returned (.int .i64 (Lib.compareBytes a.data.toList b.data.toList)) ∧ w' = w := Any.strings_Compare Tryz.lays106 a b w
def Tryz.lays137_ren : Go.Shelf.Ren := ⟨fun | 137 => 42 | 217 => 82 | 266 => 120 | n => n, fun | 9 => 9 | 5 => 5 | 3 => 3 | n => n, fun | n => n⟩
theorem Tryz.lays137 : Go.Proofs.Lays.n137 Tryz.prog Tryz.lays137_ren := {
  mixed := by kernel_rfl
  f137 := Tryz.func42.trans (congrArg some (by kernel_rfl))
  f217 := Tryz.func82.trans (congrArg some (by kernel_rfl))
  f266 := Tryz.func120.trans (congrArg some (by kernel_rfl))
  t3 := Tryz.underlying3
  a3 := Tryz.isAgg3
  z3 := Tryz.sizeOf3
  v3 := Tryz.zeroValue3
  t5 := Tryz.underlying5
  a5 := Tryz.isAgg5
  z5 := Tryz.sizeOf5
  v5 := Tryz.zeroValue5
  t9 := Tryz.underlying9
  a9 := Tryz.isAgg9
  z9 := Tryz.sizeOf9
  v9 := Tryz.zeroValue9 }
open Go.RowKit in
theorem Tryz.strings_IndexByte (s : ByteArray) (c : Int) (w : World) :
    Calls Tryz.prog 42 #[.string s, .int .u8 c] w fun e w' => e = .returned (.int .i64 (Lib.indexByte s.data.toList c.toNat.toUInt8)) ∧ w' = w := Any.strings_IndexByte Tryz.lays137 s c w
def Tryz.lays122_ren : Go.Shelf.Ren := ⟨fun | 122 => 108 | 215 => 146 | n => n, fun | 3 => 3 | 4 => 4 | n => n, fun | n => n⟩
theorem Tryz.lays122 : Go.Proofs.Lays.n122 Tryz.prog Tryz.lays122_ren := {
  mixed := by kernel_rfl
  f122 := Tryz.func108.trans (congrArg some (by kernel_rfl))
  f215 := Tryz.func146.trans (congrArg some (by kernel_rfl))
  t3 := Tryz.underlying3
  a3 := Tryz.isAgg3
  z3 := Tryz.sizeOf3
  v3 := Tryz.zeroValue3
  t4 := Tryz.underlying4
  a4 := Tryz.isAgg4
  z4 := Tryz.sizeOf4
  v4 := Tryz.zeroValue4 }
open Go.RowKit in
theorem Tryz.cmp_Compare_int (x y : Int) (w : World) :
    Calls Tryz.prog 108 #[.int .i64 x, .int .i64 y] w fun e w' => e = .returned (.int .i64 (Lib.compareInt x y)) ∧ w' = w := Any.cmp_Compare_int Tryz.lays122 x y w
def Tryz.laysM171_ren : Go.Shelf.Ren := ⟨fun | 171 => 62 | 243 => 96 | 246 => 130 | 283 => 163 | 284 => 164 | 285 => 165 | 286 => 166 | 129 => 145 | 317 => 185 | 318 => 186 | 319 => 187 | 320 => 188 | 337 => 200 | 338 => 201 | n => n, fun | 3 => 3 | 9 => 9 | 2 => 2 | 4 => 4 | 171 => 207 | 0 => 0 | 53 => 184 | 37 => 64 | 5 => 5 | 173 => 209 | 212 => 239 | 51 => 118 | 20 => 20 | 213 => 240 | 46 => 74 | 232 => 255 | 233 => 256 | n => n, fun | 17 => 3 | 18 => 4 | 19 => 5 | n => n⟩
theorem Tryz.laysM171 : Go.Proofs.LaysM.n171 Tryz.prog Tryz.laysM171_ren := {
  mixed := by kernel_rfl
  f129 := Tryz.func145.trans (congrArg some (by kernel_rfl))
  f171 := Tryz.func62.trans (congrArg some (by kernel_rfl))
  f243 := Tryz.func96.trans (congrArg some (by kernel_rfl))
  f246 := Tryz.func130.trans (congrArg some (by kernel_rfl))
  f283 := Tryz.func163.trans (congrArg some (by kernel_rfl))
  f284 := Tryz.func164.trans (congrArg some (by kernel_rfl))
  f285 := Tryz.func165.trans (congrArg some (by kernel_rfl))
  f286 := Tryz.func166.trans (congrArg some (by kernel_rfl))
  f317 := Tryz.func185.trans (congrArg some (by kernel_rfl))
  f318 := Tryz.func186.trans (congrArg some (by kernel_rfl))
  f319 := Tryz.func187.trans (congrArg some (by kernel_rfl))
  f320 := Tryz.func188.trans (congrArg some (by kernel_rfl))
  f337 := Tryz.func200.trans (congrArg some (by kernel_rfl))
  f338 := Tryz.func201.trans (congrArg some (by kernel_rfl))
  t0 := Tryz.underlying0
  a0 := Tryz.isAgg0
  z0 := Tryz.sizeOf0
  v0 := Tryz.zeroValue0
  t2 := Tryz.underlying2
  a2 := Tryz.isAgg2
  z2 := Tryz.sizeOf2
  v2 := Tryz.zeroValue2
  t3 := Tryz.underlying3
  a3 := Tryz.isAgg3
  z3 := Tryz.sizeOf3
  v3 := Tryz.zeroValue3
  t4 := Tryz.underlying4
  a4 := Tryz.isAgg4
  z4 := Tryz.sizeOf4
  v4 := Tryz.zeroValue4
  t5 := Tryz.underlying5
  a5 := Tryz.isAgg5
  z5 := Tryz.sizeOf5
  v5 := Tryz.zeroValue5
  t9 := Tryz.underlying9
  a9 := Tryz.isAgg9
  z9 := Tryz.sizeOf9
  v9 := Tryz.zeroValue9
  t20 := Tryz.underlying20
  a20 := Tryz.isAgg20
  z20 := Tryz.sizeOf20
  v20 := Tryz.zeroValue20
  t37 := Tryz.underlying64
  a37 := Tryz.isAgg64
  z37 := Tryz.sizeOf64
  v37 := Tryz.zeroValue64
  t46 := Tryz.underlying74
  a46 := Tryz.isAgg74
  z46 := Tryz.sizeOf74
  v46 := Tryz.zeroValue74
  t51 := Tryz.underlying118
  a51 := Tryz.isAgg118
  z51 := Tryz.sizeOf118
  v51 := Tryz.zeroValue118
  t53 := Tryz.underlying184
  a53 := Tryz.isAgg184
  z53 := Tryz.sizeOf184
  v53 := Tryz.zeroValue184
  t171 := Tryz.underlying207
  a171 := Tryz.isAgg207
  z171 := Tryz.sizeOf207
  v171 := Tryz.zeroValue207
  t173 := Tryz.underlying209
  a173 := Tryz.isAgg209
  z173 := Tryz.sizeOf209
  v173 := Tryz.zeroValue209
  t212 := Tryz.underlying239
  a212 := Tryz.isAgg239
  z212 := Tryz.sizeOf239
  v212 := Tryz.zeroValue239
  t213 := Tryz.underlying240
  a213 := Tryz.isAgg240
  z213 := Tryz.sizeOf240
  t232 := Tryz.underlying255
  a232 := Tryz.isAgg255
  z232 := Tryz.sizeOf255
  v232 := Tryz.zeroValue255
  t233 := Tryz.underlying256
  a233 := Tryz.isAgg256
  z233 := Tryz.sizeOf256
  v233 := Tryz.zeroValue256
  g17 := by kernel_rfl
  g18 := by kernel_rfl
  g19 := by kernel_rfl
  i0 := by kernel_rfl
  i2 := by kernel_rfl
  i3 := by kernel_rfl
  i4 := by kernel_rfl
  i5 := by kernel_rfl
  i9 := by kernel_rfl
  i20 := by kernel_rfl
  i37 := by kernel_rfl
  i46 := by kernel_rfl
  i51 := by kernel_rfl
  i53 := by kernel_rfl
  i171 := by kernel_rfl
  i173 := by kernel_rfl
  i212 := by kernel_rfl
  i232 := by kernel_rfl
  i233 := by kernel_rfl
  m17 := by kernel_rfl
  m18 := by kernel_rfl
  m19 := by kernel_rfl }
open Go.RowKit Go.Sort Go.Lib in
theorem Tryz.strconv_Itoa (n : Int) (h0 : -9223372036854775808 ≤ n) (h1 : n ≤ 9223372036854775807) (w : World) (htab : Lib.TabIs Tryz.prog w "internal/strconv.uint64pow10" .u64 Lib.pow10Tab) :
    Calls Tryz.prog 62 #[.int .i64 n] w fun e w' => e = .returned (.string ⟨(Lib.itoa n).toArray⟩) ∧ ∃ k os, w' = grow (w.drewN k) os := Any.strconv_Itoa Tryz.laysM171 n h0 h1 w htab
def Tryz.lays144_ren : Go.Shelf.Ren := ⟨fun | 144 => 23 | 143 => 64 | 219 => 98 | 217 => 82 | 225 => 131 | 224 => 132 | 267 => 133 | 266 => 120 | 314 => 167 | n => n, fun | 9 => 9 | 4 => 4 | 3 => 3 | 5 => 5 | 46 => 74 | 146 => 211 | 51 => 118 | n => n, fun | 1 => 0 | n => n⟩
theorem Tryz.lays144 : Go.Proofs.Lays.n144 Tryz.prog Tryz.lays144_ren := {
  mixed := by kernel_rfl
  f143 := Tryz.func64.trans (congrArg some (by kernel_rfl))
  f144 := Tryz.func23.trans (congrArg some (by kernel_rfl))
  f217 := Tryz.func82.trans (congrArg some (by kernel_rfl))
  f219 := Tryz.func98.trans (congrArg some (by kernel_rfl))
  f224 := Tryz.func132.trans (congrArg some (by kernel_rfl))
  f225 := Tryz.func131.trans (congrArg some (by kernel_rfl))
  f266 := Tryz.func120.trans (congrArg some (by kernel_rfl))
  f267 := Tryz.func133.trans (congrArg some (by kernel_rfl))
  f314 := Tryz.func167.trans (congrArg some (by kernel_rfl))
  t3 := Tryz.underlying3
  a3 := Tryz.isAgg3
  z3 := Tryz.sizeOf3
  v3 := Tryz.zeroValue3
  t4 := Tryz.underlying4
  a4 := Tryz.isAgg4
  z4 := Tryz.sizeOf4
  v4 := Tryz.zeroValue4
  t5 := Tryz.underlying5
  a5 := Tryz.isAgg5
  z5 := Tryz.sizeOf5
  v5 := Tryz.zeroValue5
  t9 := Tryz.underlying9
  a9 := Tryz.isAgg9
  z9 := Tryz.sizeOf9
  v9 := Tryz.zeroValue9
  t46 := Tryz.underlying74
  a46 := Tryz.isAgg74
  z46 := Tryz.sizeOf74
  v46 := Tryz.zeroValue74
  t51 := Tryz.underlying118
  a51 := Tryz.isAgg118
  z51 := Tryz.sizeOf118
  v51 := Tryz.zeroValue118
  t146 := Tryz.underlying211
  a146 := Tryz.isAgg211
  z146 := Tryz.sizeOf211
  v146 := Tryz.zeroValue211
  g1 := by kernel_rfl }
open Go.RowKit Go.Lib in
theorem Tryz.strings_Contains (s sub : ByteArray) (m : Int) (w : World) (hs : s.size < 4294967281) (hm : w.cell? ⟨0, 0, none⟩ = some (.int .i64 m)) :
    Calls Tryz.prog 23 #[.string s, .string sub] w fun e w' => e = .returned (.bool (Lib.contains s.data.toList sub.data.toList)) ∧ w' = w := Any.strings_Contains Tryz.lays144 s sub m w hs hm
def Tryz.lays145_ren : Go.Shelf.Ren := ⟨fun | 145 => 158 | 220 => 183 | 219 => 98 | 217 => 82 | 225 => 131 | 224 => 132 | 267 => 133 | 266 => 120 | 314 => 167 | n => n, fun | 9 => 9 | 4 => 4 | 59 => 202 | 3 => 3 | 5 => 5 | 46 => 74 | 146 => 211 | 51 => 118 | n => n, fun | 1 => 0 | n => n⟩
theorem Tryz.lays145 : Go.Proofs.Lays.n145 Tryz.prog Tryz.lays145_ren := {
  mixed := by kernel_rfl
  f145 := Tryz.func158.trans (congrArg some (by kernel_rfl))
  f217 := Tryz.func82.trans (congrArg some (by kernel_rfl))
  f219 := Tryz.func98.trans (congrArg some (by kernel_rfl))
  f220 := Tryz.func183.trans (congrArg some (by kernel_rfl))
  f224 := Tryz.func132.trans (congrArg some (by kernel_rfl))
  f225 := Tryz.func131.trans (congrArg some (by kernel_rfl))
  f266 := Tryz.func120.trans (congrArg some (by kernel_rfl))
  f267 := Tryz.func133.trans (congrArg some (by kernel_rfl))
  f314 := Tryz.func167.trans (congrArg some (by kernel_rfl))
  t3 := Tryz.underlying3
  a3 := Tryz.isAgg3
  z3 := Tryz.sizeOf3
  v3 := Tryz.zeroValue3
  t4 := Tryz.underlying4
  a4 := Tryz.isAgg4
  z4 := Tryz.sizeOf4
  v4 := Tryz.zeroValue4
  t5 := Tryz.underlying5
  a5 := Tryz.isAgg5
  z5 := Tryz.sizeOf5
  v5 := Tryz.zeroValue5
  t9 := Tryz.underlying9
  a9 := Tryz.isAgg9
  z9 := Tryz.sizeOf9
  v9 := Tryz.zeroValue9
  t46 := Tryz.underlying74
  a46 := Tryz.isAgg74
  z46 := Tryz.sizeOf74
  v46 := Tryz.zeroValue74
  t51 := Tryz.underlying118
  a51 := Tryz.isAgg118
  z51 := Tryz.sizeOf118
  v51 := Tryz.zeroValue118
  t59 := Tryz.underlying202
  a59 := Tryz.isAgg202
  z59 := Tryz.sizeOf202
  v59 := Tryz.zeroValue202
  t146 := Tryz.underlying211
  a146 := Tryz.isAgg211
  z146 := Tryz.sizeOf211
  v146 := Tryz.zeroValue211
  g1 := by kernel_rfl }
open Go.RowKit Go.Lib in
theorem Tryz.strings_Cut (s sep : ByteArray) (m : Int) (w : World) (hs : s.size < 4294967281) (hm : w.cell? ⟨0, 0, none⟩ = some (.int .i64 m)) :
    Calls Tryz.prog 158 #[.string s, .string sep] w fun e w' => e = .returned (.tuple #[.string ⟨(Lib.cut s.data.toList sep.data.toList).1.toArray⟩, .string ⟨(Lib.cut s.data.toList sep.data.toList).2.1.toArray⟩, .bool (Lib.cut s.data.toList sep.data.toList).2.2]) ∧ ∃ n, w' = w.drewN n := Any.strings_Cut Tryz.lays145 s sep m w hs hm
def Tryz.lays138_ren : Go.Shelf.Ren := ⟨fun | 138 => 25 | 195 => 65 | 218 => 66 | 143 => 64 | 219 => 98 | 217 => 82 | 225 => 131 | 224 => 132 | 267 => 133 | 266 => 120 | 314 => 167 | n => n, fun | 9 => 9 | 3 => 3 | 4 => 4 | 5 => 5 | 0 => 0 | 46 => 74 | 146 => 211 | 51 => 118 | n => n, fun | 1 => 0 | n => n⟩
theorem Tryz.lays138 : Go.Proofs.Lays.n138 Tryz.prog Tryz.lays138_ren := {
  mixed := by kernel_rfl
  f138 := Tryz.func25.trans (congrArg some (by kernel_rfl))
  f143 := Tryz.func64.trans (congrArg some (by kernel_rfl))
  f195 := Tryz.func65.trans (congrArg some (by kernel_rfl))
  f217 := Tryz.func82.trans (congrArg some (by kernel_rfl))
  f218 := Tryz.func66.trans (congrArg some (by kernel_rfl))
  f219 := Tryz.func98.trans (congrArg some (by kernel_rfl))
  f224 := Tryz.func132.trans (congrArg some (by kernel_rfl))
  f225 := Tryz.func131.trans (congrArg some (by kernel_rfl))
  f266 := Tryz.func120.trans (congrArg some (by kernel_rfl))
  f267 := Tryz.func133.trans (congrArg some (by kernel_rfl))
  f314 := Tryz.func167.trans (congrArg some (by kernel_rfl))
  t0 := Tryz.underlying0
  a0 := Tryz.isAgg0
  z0 := Tryz.sizeOf0
  v0 := Tryz.zeroValue0
  t3 := Tryz.underlying3
  a3 := Tryz.isAgg3
  z3 := Tryz.sizeOf3
  v3 := Tryz.zeroValue3
  t4 := Tryz.underlying4
  a4 := Tryz.isAgg4
  z4 := Tryz.sizeOf4
  v4 := Tryz.zeroValue4
  t5 := Tryz.underlying5
  a5 := Tryz.isAgg5
  z5 := Tryz.sizeOf5
  v5 := Tryz.zeroValue5
  t9 := Tryz.underlying9
  a9 := Tryz.isAgg9
  z9 := Tryz.sizeOf9
  v9 := Tryz.zeroValue9
  t46 := Tryz.underlying74
  a46 := Tryz.isAgg74
  z46 := Tryz.sizeOf74
  v46 := Tryz.zeroValue74
  t51 := Tryz.underlying118
  a51 := Tryz.isAgg118
  z51 := Tryz.sizeOf118
  v51 := Tryz.zeroValue118
  t146 := Tryz.underlying211
  a146 := Tryz.isAgg211
  z146 := Tryz.sizeOf211
  v146 := Tryz.zeroValue211
  g1 := by kernel_rfl }
open Go.RowKit Go.Lib in
theorem Tryz.strings_Count_one (s : ByteArray) (c : UInt8) (w : World) :
    Calls Tryz.prog 25 #[.string s, .string ⟨#[c]⟩] w fun e w' => e = .returned (.int .i64 (Lib.countByte s.data.toList c)) ∧ w' = w := Any.strings_Count_one Tryz.lays138 s c w
open Go.RowKit Go.Lib in
theorem Tryz.strings_Count (s sub : ByteArray) (m : Int) (w : World) (hs : s.size < 4294967281) (hm : w.cell? ⟨0, 0, none⟩ = some (.int .i64 m)) (h2 : 2 ≤ sub.size) :
    Calls Tryz.prog 25 #[.string s, .string sub] w fun e w' => e = .returned (.int .i64 (Lib.countB s sub)) ∧ w' = w := Any.strings_Count Tryz.lays138 s sub m w hs hm h2
def Tryz.lays102_ren : Go.Shelf.Ren := ⟨fun | 102 => 160 | 209 => 184 | 207 => 199 | n => n, fun | 9 => 9 | 4 => 4 | 3 => 3 | n => n, fun | n => n⟩
theorem Tryz.lays102 : Go.Proofs.Lays.n102 Tryz.prog Tryz.lays102_ren := {
  mixed := by kernel_rfl
  f102 := Tryz.func160.trans (congrArg some (by kernel_rfl))
  f207 := Tryz.func199.trans (congrArg some (by kernel_rfl))
  f209 := Tryz.func184.trans (congrArg some (by kernel_rfl))
  t3 := Tryz.underlying3
  a3 := Tryz.isAgg3
  z3 := Tryz.sizeOf3
  v3 := Tryz.zeroValue3
  t4 := Tryz.underlying4
  a4 := Tryz.isAgg4
  z4 := Tryz.sizeOf4
  v4 := Tryz.zeroValue4
  t9 := Tryz.underlying9
  a9 := Tryz.isAgg9
  z9 := Tryz.sizeOf9
  v9 := Tryz.zeroValue9 }
open Go.RowKit Go.Lib in
theorem Tryz.strings_TrimSuffix (s p : ByteArray) (w : World) (hs : s.size ≤ 9223372036854775807) :
    Calls Tryz.prog 160 #[.string s, .string p] w fun e w' => e = .returned (.string ⟨(Lib.trimSuffix s.data.toList p.data.toList).toArray⟩) ∧ w' = w := Any.strings_TrimSuffix Tryz.lays102 s p w hs
def Tryz.lays146_ren : Go.Shelf.Ren := ⟨fun | 146 => 118 | 221 => 157 | 268 => 182 | 138 => 25 | 143 => 64 | 195 => 65 | 197 => 112 | 218 => 66 | 219 => 98 | 260 => 150 | 217 => 82 | 225 => 131 | 224 => 132 | 267 => 133 | 266 => 120 | 314 => 167 | n => n, fun | 9 => 9 | 31 => 60 | 3 => 3 | 4 => 4 | 0 => 0 | 105 => 158 | 21 => 21 | 5 => 5 | 46 => 74 | 119 => 194 | 139 => 222 | 138 => 221 | 146 => 211 | 51 => 118 | n => n, fun | 1 => 0 | 3 => 1 | 4 => 2 | n => n⟩
theorem Tryz.lays146 : Go.Proofs.Lays.n146 Tryz.prog Tryz.lays146_ren := {
  mixed := by kernel_rfl
  f138 := Tryz.func25.trans (congrArg some (by kernel_rfl))
  f143 := Tryz.func64.trans (congrArg some (by kernel_rfl))
  f146 := Tryz.func118.trans (congrArg some (by kernel_rfl))
  f195 := Tryz.func65.trans (congrArg some (by kernel_rfl))
  f197 := Tryz.func112.trans (congrArg some (by kernel_rfl))
  f217 := Tryz.func82.trans (congrArg some (by kernel_rfl))
  f218 := Tryz.func66.trans (congrArg some (by kernel_rfl))
  f219 := Tryz.func98.trans (congrArg some (by kernel_rfl))
  f221 := Tryz.func157.trans (congrArg some (by kernel_rfl))
  f224 := Tryz.func132.trans (congrArg some (by kernel_rfl))
  f225 := Tryz.func131.trans (congrArg some (by kernel_rfl))
  f260 := Tryz.func150.trans (congrArg some (by kernel_rfl))
  f266 := Tryz.func120.trans (congrArg some (by kernel_rfl))
  f267 := Tryz.func133.trans (congrArg some (by kernel_rfl))
  f268 := Tryz.func182.trans (congrArg some (by kernel_rfl))
  f314 := Tryz.func167.trans (congrArg some (by kernel_rfl))
  t0 := Tryz.underlying0
  a0 := Tryz.isAgg0
  z0 := Tryz.sizeOf0
  v0 := Tryz.zeroValue0
  t3 := Tryz.underlying3
  a3 := Tryz.isAgg3
  z3 := Tryz.sizeOf3
  v3 := Tryz.zeroValue3
  t4 := Tryz.underlying4
  a4 := Tryz.isAgg4
  z4 := Tryz.sizeOf4
  v4 := Tryz.zeroValue4
  t5 := Tryz.underlying5
  a5 := Tryz.isAgg5
  z5 := Tryz.sizeOf5
  v5 := Tryz.zeroValue5
  t9 := Tryz.underlying9
  a9 := Tryz.isAgg9
  z9 := Tryz.sizeOf9
  v9 := Tryz.zeroValue9
  t21 := Tryz.underlying21
  a21 := Tryz.isAgg21
  z21 := Tryz.sizeOf21
  v21 := Tryz.zeroValue21
  t31 := Tryz.underlying60
  a31 := Tryz.isAgg60
  z31 := Tryz.sizeOf60
  v31 := Tryz.zeroValue60
  t46 := Tryz.underlying74
  a46 := Tryz.isAgg74
  z46 := Tryz.sizeOf74
  v46 := Tryz.zeroValue74
  t51 := Tryz.underlying118
  a51 := Tryz.isAgg118
  z51 := Tryz.sizeOf118
  v51 := Tryz.zeroValue118
  t105 := Tryz.underlying158
  a105 := Tryz.isAgg158
  z105 := Tryz.sizeOf158
  v105 := Tryz.zeroValue158
  t119 := Tryz.underlying194
  a119 := Tryz.isAgg194
  z119 := Tryz.sizeOf194
  t138 := Tryz.underlying221
  a138 := Tryz.isAgg221
  z138 := Tryz.sizeOf221
  v138 := Tryz.zeroValue221
  t139 := Tryz.underlying222
  a139 := Tryz.isAgg222
  z139 := Tryz.sizeOf222
  v139 := Tryz.zeroValue222
  t146 := Tryz.underlying211
  a146 := Tryz.isAgg211
  z146 := Tryz.sizeOf211
  v146 := Tryz.zeroValue211
  g1 := by kernel_rfl
  g3 := by kernel_rfl
  g4 := by kernel_rfl }
open Go.RowKit Go.Lib in
theorem Tryz.strings_Split (s sep : ByteArray) (m : Int) (w : World) (hs : s.size < 4294967281) (hm : w.cell? ⟨0, 0, none⟩ = some (.int .i64 m)) (h1 : 1 ≤ sep.size) :
    Calls Tryz.prog 118 #[.string s, .string sep] w fun e w' =>
      e = .returned (.slice (some ⟨w.heap.size, 0, none⟩) (Lib.countB s sep + 1) (Lib.countB s sep + 1)) ∧ w' = w.alloc (.cells ((Lib.splitB sep 0 (Lib.countB s sep) s).map Value.string).toArray 9) := Any.strings_Split Tryz.lays146 (by kernel_rfl) s sep m w hs hm h1
def Tryz.lays155_ren : Go.Shelf.Ren := ⟨fun | 155 => 34 | 154 => 76 | 138 => 25 | 165 => 111 | 143 => 64 | 166 => 39 | 197 => 112 | 169 => 44 | 195 => 65 | 218 => 66 | 240 => 79 | 241 => 149 | 219 => 98 | 260 => 150 | 276 => 116 | 277 => 175 | 217 => 82 | 225 => 131 | 224 => 132 | 267 => 133 | 266 => 120 | 314 => 167 | n => n, fun | 9 => 9 | 3 => 3 | 4 => 4 | 72 => 66 | 0 => 0 | 76 => 69 | 105 => 158 | 21 => 21 | 5 => 5 | 70 => 63 | 20 => 20 | 37 => 64 | 75 => 68 | 127 => 134 | 164 => 162 | 46 => 74 | 119 => 194 | 139 => 222 | 138 => 221 | 146 => 211 | 51 => 118 | 80 => 75 | n => n, fun | 1 => 0 | 3 => 1 | 4 => 2 | n => n⟩
theorem Tryz.lays155 : Go.Proofs.Lays.n155 Tryz.prog Tryz.lays155_ren := {
  mixed := by kernel_rfl
  f138 := Tryz.func25.trans (congrArg some (by kernel_rfl))
  f143 := Tryz.func64.trans (congrArg some (by kernel_rfl))
  f154 := Tryz.func76.trans (congrArg some (by kernel_rfl))
  f155 := Tryz.func34.trans (congrArg some (by kernel_rfl))
  f165 := Tryz.func111.trans (congrArg some (by kernel_rfl))
  f166 := Tryz.func39.trans (congrArg some (by kernel_rfl))
  f169 := Tryz.func44.trans (congrArg some (by kernel_rfl))
  f195 := Tryz.func65.trans (congrArg some (by kernel_rfl))
  f197 := Tryz.func112.trans (congrArg some (by kernel_rfl))
  f217 := Tryz.func82.trans (congrArg some (by kernel_rfl))
  f218 := Tryz.func66.trans (congrArg some (by kernel_rfl))
  f219 := Tryz.func98.trans (congrArg some (by kernel_rfl))
  f224 := Tryz.func132.trans (congrArg some (by kernel_rfl))
  f225 := Tryz.func131.trans (congrArg some (by kernel_rfl))
  f240 := Tryz.func79.trans (congrArg some (by kernel_rfl))
  f241 := Tryz.func149.trans (congrArg some (by kernel_rfl))
  f260 := Tryz.func150.trans (congrArg some (by kernel_rfl))
  f266 := Tryz.func120.trans (congrArg some (by kernel_rfl))
  f267 := Tryz.func133.trans (congrArg some (by kernel_rfl))
  f276 := Tryz.func116.trans (congrArg some (by kernel_rfl))
  f277 := Tryz.func175.trans (congrArg some (by kernel_rfl))
  f314 := Tryz.func167.trans (congrArg some (by kernel_rfl))
  t0 := Tryz.underlying0
  a0 := Tryz.isAgg0
  z0 := Tryz.sizeOf0
  v0 := Tryz.zeroValue0
  t3 := Tryz.underlying3
  a3 := Tryz.isAgg3
  z3 := Tryz.sizeOf3
  v3 := Tryz.zeroValue3
  t4 := Tryz.underlying4
  a4 := Tryz.isAgg4
  z4 := Tryz.sizeOf4
  v4 := Tryz.zeroValue4
  t5 := Tryz.underlying5
  a5 := Tryz.isAgg5
  z5 := Tryz.sizeOf5
  v5 := Tryz.zeroValue5
  t9 := Tryz.underlying9
  a9 := Tryz.isAgg9
  z9 := Tryz.sizeOf9
  v9 := Tryz.zeroValue9
  t20 := Tryz.underlying20
  a20 := Tryz.isAgg20
  z20 := Tryz.sizeOf20
  v20 := Tryz.zeroValue20
  t21 := Tryz.underlying21
  a21 := Tryz.isAgg21
  z21 := Tryz.sizeOf21
  v21 := Tryz.zeroValue21
  t37 := Tryz.underlying64
  a37 := Tryz.isAgg64
  z37 := Tryz.sizeOf64
  v37 := Tryz.zeroValue64
  t46 := Tryz.underlying74
  a46 := Tryz.isAgg74
  z46 := Tryz.sizeOf74
  v46 := Tryz.zeroValue74
  t51 := Tryz.underlying118
  a51 := Tryz.isAgg118
  z51 := Tryz.sizeOf118
  v51 := Tryz.zeroValue118
  t70 := Tryz.underlying63
  a70 := Tryz.isAgg63
  z70 := Tryz.sizeOf63
  v70 := Tryz.zeroValue63
  t72 := Tryz.underlying66
  a72 := Tryz.isAgg66
  z72 := Tryz.sizeOf66
  v72 := Tryz.zeroValue66
  t75 := Tryz.underlying68
  a75 := Tryz.isAgg68
  z75 := Tryz.sizeOf68
  v75 := Tryz.zeroValue68
  t76 := Tryz.underlying69
  a76 := Tryz.isAgg69
  z76 := Tryz.sizeOf69
  v76 := Tryz.zeroValue69
  t105 := Tryz.underlying158
  a105 := Tryz.isAgg158
  z105 := Tryz.sizeOf158
  v105 := Tryz.zeroValue158
  t119 := Tryz.underlying194
  a119 := Tryz.isAgg194
  z119 := Tryz.sizeOf194
  t127 := Tryz.underlying134
  a127 := Tryz.isAgg134
  z127 := Tryz.sizeOf134
  v127 := Tryz.zeroValue134
  t138 := Tryz.underlying221
  a138 := Tryz.isAgg221
  z138 := Tryz.sizeOf221
  v138 := Tryz.zeroValue221
  t139 := Tryz.underlying222
  a139 := Tryz.isAgg222
  z139 := Tryz.sizeOf222
  v139 := Tryz.zeroValue222
  t146 := Tryz.underlying211
  a146 := Tryz.isAgg211
  z146 := Tryz.sizeOf211
  v146 := Tryz.zeroValue211
  t164 := Tryz.underlying162
  a164 := Tryz.isAgg162
  z164 := Tryz.sizeOf162
  v164 := Tryz.zeroValue162
  g1 := by kernel_rfl
  g3 := by kernel_rfl
  g4 := by kernel_rfl }
theorem Tryz.Builder_Extra_155 : Builder.Extra Tryz.prog Tryz.lays155_ren := {
  sizeBuilder := by kernel_rfl
  liesBuilder := by kernel_rfl
  t5 := Tryz.underlying5
  a5 := Tryz.isAgg5
  z5 := Tryz.sizeOf5
  v5 := Tryz.zeroValue5
  infoByte := by kernel_rfl
  cellsByte := by kernel_rfl
  sizeByte := by kernel_rfl
  neB5 := by decide }
open Go.RowKit Go.Lib in
theorem Tryz.strings_ReplaceAll (s old new : ByteArray) (m : Int) (w : World) (hs : s.size < 4294967281) (hm : w.cell? ⟨0, 0, none⟩ = some (.int .i64 m)) (h1 : 1 ≤ old.size) (hlen : s.size + Lib.countB s old * new.size ≤ 140737488355328) :
    Calls Tryz.prog 34 #[.string s, .string old, .string new] w fun e w' =>
      e = .returned (.string ⟨(Lib.replaceAll s.data.toList old.data.toList new.data.toList).toArray⟩) ∧ Below w.heap.size w w' := Any.strings_ReplaceAll Tryz.lays155 Tryz.Builder_Extra_155 s old new m w hs hm h1 hlen
end Go.Proofs
namespace Go.Proofs
open Go Go.X Go.RowKit Go.Shelf
theorem trimSuffix_ok (s p : List UInt8) (hs : s.length ≤ 9223372036854775807) : FnS Tryz.prog 160 [.c (.s s), .c (.s p)] [] [] (Is (.c (.s (Lib.trimSuffix s p)))) :=
  fn_pure ⟨_, Tryz.func160, by kernel_rfl, by kernel_rfl⟩ (fun w => Tryz.strings_TrimSuffix ⟨⟨s⟩⟩ ⟨⟨p⟩⟩ w hs)
theorem indexByte_ok (s : List UInt8) (c : UInt8) : FnS Tryz.prog 42 [.c (.s s), .c (.i .u8 c.toNat)] [] [] (Is (.c (.i .i64 (Lib.indexByte s c)))) :=
  fn_pure ⟨_, Tryz.func42, by kernel_rfl, by kernel_rfl⟩ (fun w => by
    have := Tryz.strings_IndexByte ⟨⟨s⟩⟩ c.toNat w
    simpa [V.enc, C.enc] using this)
theorem stringsCompare_ok (a b : List UInt8) : FnS Tryz.prog 109 [.c (.s a), .c (.s b)] [] [] (Is (.c (.i .i64 (Lib.compareBytes a b)))) :=
  fn_pure ⟨_, Tryz.func109, by kernel_rfl, by kernel_rfl⟩ (Tryz.strings_Compare ⟨⟨a⟩⟩ ⟨⟨b⟩⟩)
theorem compareInt_ok (a b : Int) : FnS Tryz.prog 108 [.c (.i .i64 a), .c (.i .i64 b)] [] [] (Is (.c (.i .i64 (Lib.compareInt a b)))) :=
  fn_pure ⟨_, Tryz.func108, by kernel_rfl, by kernel_rfl⟩ (Tryz.cmp_Compare_int a b)
theorem cut_ok (s sep : List UInt8) (hs : s.length < 4294967281) : FnS Tryz.prog 158 [.c (.s s), .c (.s sep)] [] [gInt 0]
    (Is (.t3 (.c (.s (Lib.cut s sep).1)) (.c (.s (Lib.cut s sep).2.1)) (.c (.b (Lib.cut s sep).2.2)))) :=
  fn_below ⟨_, Tryz.func158, by kernel_rfl, by kernel_rfl⟩ (fun w m hd hw => by
    obtain ⟨n, hn⟩ := gInt_cell hd hw
    refine (Tryz.strings_Cut ⟨⟨s⟩⟩ ⟨⟨sep⟩⟩ n w hs hn).mono ?_
    rintro e w' ⟨rfl, k, rfl⟩
    exact ⟨rfl, below_drewN w k⟩)
theorem cutOne_ok (s : List UInt8) (c : UInt8) (hs : s.length < 4294967281) : FnS Tryz.prog 158 [.c (.s s), .c (.s [c])] [] [gInt 0]
    (Is (.t3 (.c (.s (cutAt c s).1)) (.c (.s (cutAt c s).2.1)) (.c (.b (cutAt c s).2.2)))) := by
  rw [← cut_one]; exact cut_ok s [c] hs
theorem replaceAll_ok (s old new : List UInt8) (hs : s.length < 4294967281) (h1 : 1 ≤ old.length) (hlen : s.length + Lib.count s old * new.length ≤ 140737488355328) :
    FnS Tryz.prog 34 [.c (.s s), .c (.s old), .c (.s new)] [] [gInt 0] (Is (.c (.s (Lib.replaceAll s old new)))) :=
  fn_below ⟨_, Tryz.func34, by kernel_rfl, by kernel_rfl⟩ (fun w m hd hw => by
    obtain ⟨n, hn⟩ := gInt_cell hd hw
    exact Tryz.strings_ReplaceAll ⟨⟨s⟩⟩ ⟨⟨old⟩⟩ ⟨⟨new⟩⟩ n w hs hn h1 hlen)
theorem splitOne_ok (s : List UInt8) (c : UInt8) (hs : s.length < 4294967281) : FnS Tryz.prog 118 [.c (.s s), .c (.s [c])] [] [gInt 0]
    (fun v L D => ∃ g, v = .c (.sl (some ⟨g, 0, none⟩) (splitOn c s).length (splitOn c s).length) ∧
      L = [.row 9 1 (some ⟨g, 0, none⟩) (splitOn c s).length (splitOn c s).length ((splitOn c s).map C.s)] ∧ D = []) := by
  refine ⟨⟨_, Tryz.func118, by kernel_rfl, by kernel_rfl⟩, fun w m hh => ?_⟩
  obtain ⟨n, hn⟩ := gInt_cell hh.d (fun b o hb => (hh.im b o hb).1)
  refine (Tryz.strings_Split ⟨⟨s⟩⟩ ⟨⟨[c]⟩⟩ n w hs hn (Nat.le_refl 1)).mono ?_
  rintro e w' ⟨rfl, rfl⟩
  have hlen : (splitOn c s).length = Lib.countB ⟨⟨s⟩⟩ ⟨⟨[c]⟩⟩ + 1 := by
    have h1 := Lib.splitB_all ⟨⟨[c]⟩⟩ (Nat.le_refl 1) 0 (Lib.countB ⟨⟨s⟩⟩ ⟨⟨[c]⟩⟩) ⟨⟨s⟩⟩ rfl
    rw [← h1, ← splitK_one]
    show (Lib.splitK _ _ _ _).length = _
    rw [show Lib.splitK [c] 0 (Lib.count s [c]) s = Lib.splitK (ByteArray.mk ⟨[c]⟩).data.toList 0 (Lib.countB ⟨⟨s⟩⟩ ⟨⟨[c]⟩⟩) (ByteArray.mk ⟨s⟩).data.toList from rfl, ← Lib.splitB_data, List.length_map]
  have hcells : (Lib.splitB ⟨⟨[c]⟩⟩ 0 (Lib.countB ⟨⟨s⟩⟩ ⟨⟨[c]⟩⟩) ⟨⟨s⟩⟩).map Value.string = ((splitOn c s).map C.s).map C.enc := by
    rw [← splitK_one, show Lib.splitK [c] 0 (Lib.count s [c]) s = Lib.splitK (ByteArray.mk ⟨[c]⟩).data.toList 0 (Lib.countB ⟨⟨s⟩⟩ ⟨⟨[c]⟩⟩) (ByteArray.mk ⟨s⟩).data.toList from rfl, ← Lib.splitB_data,
      List.map_map, List.map_map]
    refine List.map_congr_left fun x _ => ?_
    obtain ⟨⟨x⟩⟩ := x
    rfl
  have h0 : Holds w m [] [] := ⟨hh.nd, hh.ok, hh.im, trivial⟩
  have hrow : Chunk.ok (w.alloc (.cells ((Lib.splitB ⟨⟨[c]⟩⟩ 0 (Lib.countB ⟨⟨s⟩⟩ ⟨⟨[c]⟩⟩) ⟨⟨s⟩⟩).map Value.string).toArray 9))
      (.row 9 1 (some ⟨w.heap.size, 0, none⟩) (splitOn c s).length (splitOn c s).length ((splitOn c s).map C.s)) := by
    refine ⟨fun x hx => ?_, .inr ⟨w.heap.size, rfl, _, 0, 0, heap_alloc_new w _, Nat.le_refl _, ?_, ?_, .inr (Nat.le_refl _), by simp, ?_⟩⟩
    · obtain ⟨y, _, rfl⟩ := List.mem_map.1 hx
      rfl
    · have := splitOn_length_le c s
      have h3 : (4294967281 : Nat) ≤ maxLen := by decide
      omega
    · rw [hcells]; simp
    · rw [hcells]; simp only [Nat.mul_one]; exact List.take_of_length_le (by simp)
  obtain ⟨h1, h2⟩ := holds_alloc h0 _ _ rfl hrow
  exact ⟨_, _, [], m, by rw [← hlen]; rfl, ⟨w.heap.size, rfl, rfl, rfl⟩, h1, h2⟩
end Go.Proofs
namespace Go.X
open Go Go.Lib
theorem decDigits_len : ∀ (k u : Nat), u < 10 ^ (k + 1) → (decDigits u).length ≤ k + 1
  | 0, u, h => by rw [decDigits, dif_pos (by simpa using h)]; simp
  | k + 1, u, h => by
    rw [decDigits]
    split
    · simp
    · have := decDigits_len k (u / 10) (by
        have h2 : 10 ^ (k + 1 + 1) = 10 ^ (k + 1) * 10 := Nat.pow_succ ..
        exact Nat.div_lt_of_lt_mul (by omega))
      rw [List.length_append, List.length_singleton]; omega
theorem decDigits_le {u : Nat} (h : u < 100000000000000000000) : (decDigits u).length ≤ 20 := decDigits_len 19 u h
theorem itoa_le {n : Int} (h0 : -9223372036854775808 ≤ n) (h1 : n ≤ 9223372036854775807) : (itoa n).length ≤ 21 := by
  unfold itoa
  split
  · have := decDigits_le (u := n.natAbs) (by omega)
    rw [List.length_cons]; omega
  · have := decDigits_le (u := n.toNat) (by omega)
    omega
end Go.X
namespace Go.Proofs
open Go Go.X Go.Lib
set_option maxRecDepth 100000
def tabF : Fact := ⟨fun m => ∃ t fr, m 3 = some (.cells (pow10Tab.map fun z => Value.int .u64 z).toArray t fr), fun _ _ hm ⟨t, fr, h⟩ => ⟨t, fr, hm _ _ h⟩⟩
theorem pow10_named : Tryz.prog.globalNamed "internal/strconv.uint64pow10" = some 3 := by kernel_rfl
theorem itoaBig_ok (n : Int) (h0 : -9223372036854775808 ≤ n) (h1 : n ≤ 9223372036854775807) : FnS Tryz.prog 62 [.c (.i .i64 n)] [] [tabF] (Is (.c (.s (itoa n)))) :=
  fn_below ⟨_, Tryz.func62, by kernel_rfl, by kernel_rfl⟩ (fun w m hd hm => by
    obtain ⟨⟨t, fr, ht⟩, _⟩ := hd
    have htab : TabIs Tryz.prog w "internal/strconv.uint64pow10" .u64 pow10Tab := by
      unfold TabIs World.var?
      rw [pow10_named, Option.bind_some, hm _ _ ht]
    refine (Tryz.strconv_Itoa n h0 h1 w htab).mono ?_
    rintro e w' ⟨rfl, k, os, rfl⟩
    refine ⟨rfl, rfl, rfl, rfl, ?_, fun b hb => ?_⟩
    · show w.heap.size ≤ (w.heap ++ os).size
      simp
    · show (w.heap ++ os)[b]? = w.heap[b]?
      exact Array.getElem?_append_left hb)
theorem dec_nat (n : Nat) : n ≤ 9223372036854775807 → FnS Tryz.prog 26 [.c (.i .i64 n)] [] [] (Is (.c (.s (decDigits n)))) := by
  induction n using Nat.strongRecOn with | _ n ih
  intro hn
  by_cases h1 : n < 10
  · rw [decDigits, dif_pos h1]
    have hm : (n : Int).tmod 10 = (n : Int) := by rw [Int.tmod_eq_emod_of_nonneg (by omega)]; omega
    have hu : byteC (UInt8.ofNat (48 + n)) = C.i .u8 (48 + (n : Int).tmod 10) := by rw [byteC, show ((UInt8.ofNat (48 + n)).toNat : Int) = 48 + (n : Int).tmod 10 from by rw [UInt8.toNat_ofNat', Nat.mod_eq_of_lt (by omega), hm]; omega]
    refine fn_of_J Tryz.tyOK 0 Tryz.func26 (by kernel_rfl) (c := Tryz.f26.body.getD .skip) (by kernel_rfl) Tryz.ntmps26 (rs := Tryz.f26.results.toList) rfl (by simp) (fun G => ?_)
    repeat' first
      | refine J_seq ?_ | refine J_region Tryz.tyOK ?_ | refine J_block ?_ | refine J_cond ?_ | refine J_ret ?_ | refine J_skip ?_ | refine J_exit ?_ | refine J_scope ?_
      | refine CondP.yes (by omega) ?_ | refine CondP.no (by omega) ?_ | refine CondP.mk (fun h => ?_) (fun h => ?_) | refine EqP.mk rfl ?_ | refine NewP.mk (fun ad => ?_) | refine ArP.exact (by simp only [inR]; omega) ?_ | refine SideP.mk (by first | omega | (dsimp only; omega) | (simp; omega)) ?_
      | refine ArP.exact (by simp only [inR, hm]; omega) ?_ | refine FinE.str rfl
      | fail
    refine BytesE.mk 5 [UInt8.ofNat (48 + n)] (.inl ⟨1, ?_⟩) ?_
    · rw [List.map_cons, List.map_nil, hu]; exact List.Mem.head _
    repeat' first
      | refine J_seq ?_ | refine J_region Tryz.tyOK ?_ | refine J_block ?_ | refine J_cond ?_ | refine J_ret ?_ | refine J_skip ?_ | refine J_exit ?_ | refine J_scope ?_
      | refine CondP.yes (by omega) ?_ | refine CondP.no (by omega) ?_ | refine CondP.mk (fun h => ?_) (fun h => ?_) | refine EqP.mk rfl ?_ | refine NewP.mk (fun ad => ?_) | refine ArP.exact (by simp only [inR]; omega) ?_ | refine SideP.mk (by first | omega | (dsimp only; omega) | (simp; omega)) ?_
      | refine FinE.str rfl
      | fail
  · rw [decDigits, dif_neg h1]
    have hm : (n : Int).tmod 10 = ((n % 10 : Nat) : Int) := by rw [Int.tmod_eq_emod_of_nonneg (by omega)]; omega
    have hd : (n : Int).tdiv 10 = ((n / 10 : Nat) : Int) := by rw [Int.tdiv_eq_ediv_of_nonneg (by omega)]; omega
    have hu : byteC (UInt8.ofNat (48 + n % 10)) = C.i .u8 (48 + (n : Int).tmod 10) := by rw [byteC, show ((UInt8.ofNat (48 + n % 10)).toNat : Int) = 48 + (n : Int).tmod 10 from by rw [UInt8.toNat_ofNat', Nat.mod_eq_of_lt (by omega), hm]; omega]
    have c1 : FnS Tryz.prog 26 [.c (.i .i64 ((n : Int).tdiv 10))] [] [] (Is (.c (.s (decDigits (n / 10))))) := by rw [hd]; exact ih (n / 10) (by omega) (by omega)
    have hl : (decDigits (n / 10)).length ≤ 20 := decDigits_le (by omega)
    generalize decDigits (n / 10) = q at *
    refine fn_of_J Tryz.tyOK 0 Tryz.func26 (by kernel_rfl) (c := Tryz.f26.body.getD .skip) (by kernel_rfl) Tryz.ntmps26 (rs := Tryz.f26.results.toList) rfl (by simp) (fun G => ?_)
    repeat' first
      | refine J_seq ?_ | refine J_region Tryz.tyOK ?_ | refine J_block ?_ | refine J_cond ?_ | refine J_ret ?_ | refine J_skip ?_ | refine J_exit ?_ | refine J_scope ?_
      | refine CondP.yes (by omega) ?_ | refine CondP.no (by omega) ?_ | refine CondP.mk (fun h => ?_) (fun h => ?_) | refine EqP.mk rfl ?_ | refine NewP.mk (fun ad => ?_) | refine ArP.exact (by simp only [inR]; omega) ?_ | refine SideP.mk (by first | omega | (dsimp only; omega) | (simp; omega)) ?_
      | refine ArP.exact (by simp only [inR, hm]; omega) ?_ | refine ArP.exact (by simp only [inR, hd]; omega) ?_
      | fail
    refine BytesE.mk 5 [UInt8.ofNat (48 + n % 10)] (.inl ⟨1, ?_⟩) ?_
    · rw [List.map_cons, List.map_nil, hu]; exact List.Mem.head _
    repeat' first
      | refine J_seq ?_ | refine J_region Tryz.tyOK ?_ | refine J_block ?_ | refine J_cond ?_ | refine J_ret ?_ | refine J_skip ?_ | refine J_exit ?_ | refine J_scope ?_
      | refine CondP.yes (by omega) ?_ | refine CondP.no (by omega) ?_ | refine CondP.mk (fun h => ?_) (fun h => ?_) | refine EqP.mk rfl ?_ | refine NewP.mk (fun ad => ?_) | refine ArP.exact (by simp only [inR]; omega) ?_ | refine SideP.mk (by first | omega | (dsimp only; omega) | (simp; omega)) ?_
      | refine ArP.exact (by simp only [inR, hd]; omega) ?_ | refine CallP.is c1 ?_ | refine SideP.mk (by simp only [List.length_singleton]; omega) ?_ | refine FinE.str rfl
      | fail
    all_goals trace_state
theorem dec_ok (n : Int) (h0 : -9223372036854775807 ≤ n) (h1 : n ≤ 9223372036854775807) : FnS Tryz.prog 26 [.c (.i .i64 n)] [] [] (Is (.c (.s (itoa n)))) := by
  unfold itoa
  by_cases hn : n < 0
  · rw [if_pos hn]
    have c1 := dec_nat n.natAbs (by omega)
    have hl : (decDigits n.natAbs).length ≤ 20 := decDigits_le (by omega)
    rw [show ((n.natAbs : Nat) : Int) = 0 - n by omega] at c1
    generalize decDigits n.natAbs = q at *
    refine fn_of_J Tryz.tyOK 0 Tryz.func26 (by kernel_rfl) (c := Tryz.f26.body.getD .skip) (by kernel_rfl) Tryz.ntmps26 (rs := Tryz.f26.results.toList) rfl (by simp) (fun G => ?_)
    repeat' first
      | refine J_seq ?_ | refine J_region Tryz.tyOK ?_ | refine J_block ?_ | refine J_cond ?_ | refine J_ret ?_ | refine J_skip ?_ | refine J_exit ?_ | refine J_scope ?_
      | refine CondP.yes (by omega) ?_ | refine CondP.no (by omega) ?_ | refine CondP.mk (fun h => ?_) (fun h => ?_) | refine EqP.mk rfl ?_ | refine NewP.mk (fun ad => ?_) | refine ArP.exact (by simp only [inR]; omega) ?_ | refine SideP.mk (by first | omega | (dsimp only; omega) | (simp; omega)) ?_
      | refine CallP.is c1 ?_ | refine FinE.str rfl
      | fail
    all_goals trace_state
  · rw [if_neg hn]
    have c1 := dec_nat n.toNat (by omega)
    rw [show ((n.toNat : Nat) : Int) = n by omega] at c1
    exact c1
end Go.Proofs
namespace Go.Proofs
open Go Go.X Go.RowKit Go.Shelf
set_option maxRecDepth 100000
structure BTy (ty k : Nat) : Prop where
  lies : liesAt Tryz.prog Tryz.prog.depth ty ((k + 2) / Tryz.prog.cellsOf ty) 0 66 1 = true
theorem bty0 : BTy 66 0 := ⟨by kernel_rfl⟩
theorem btyW : BTy 87 5 := ⟨by kernel_rfl⟩
theorem noEscape_run (x : Value) (w : World) : (callFunc 116 #[x]).run Tryz.prog w = .ok (.value x) w := by
  rw [run_callFunc_extern Tryz.func116 (by kernel_rfl) (by kernel_rfl) (by kernel_rfl) (e := Extern.AbiNoEscape.same) (by kernel_rfl), Lib.run_noEscape]
  rfl
theorem setK_s1 {x a b : C} {r : List C} {k : List C → Prop} (h : k (a :: x :: r)) : setK (0 + 1) [x] (a :: b :: r) k := by cases r <;> exact h
theorem perm3r {α : Type} (a b c : α) : List.Perm [a, b, c] ([b] ++ [c, a]) := (List.Perm.swap _ _ _).trans (List.Perm.cons _ (List.Perm.swap _ _ _))
theorem oneCopyFresh (ab ty : Nat) (x : C) (rest : List C) (hb : BTy ty rest.length) : FnS Tryz.prog 79 [.c (.p 0 ab 0)] [.box 0 ab ty (.raw (.pointer none) :: x :: rest)] []
    (fun v L D => v = .t0 ∧ L = [.box 0 ab ty (.p 0 ab 0 :: x :: rest)] ∧ D = []) := by
  refine fn_of_J Tryz.tyOK 7000 Tryz.func79 (by kernel_rfl) (c := Tryz.f79.body.getD .skip) (by kernel_rfl) Tryz.ntmps79 (rs := Tryz.f79.results.toList) rfl (by simp) (fun G => ?_)
  repeat' first
    | refine J_seq ?_ | refine J_region Tryz.tyOK ?_ | refine J_block ?_ | refine J_cond ?_ | refine J_ret ?_ | refine J_skip ?_ | refine J_exit ?_ | refine J_scope ?_
    | refine CondP.yes (by omega) ?_ | refine CondP.no (by omega) ?_ | refine CondP.mk (fun h => ?_) (fun h => ?_) | refine EqP.mk rfl ?_ | refine NewP.mk (fun ad => ?_) | refine ArP.exact (by simp only [inR]; omega) ?_ | refine SideP.mk (by first | omega | (dsimp only; omega) | (simp; omega)) ?_
    | refine SideP.mk ⟨rfl, Nat.zero_lt_succ _⟩ ?_ | refine SideP.mk ⟨rfl, hb.lies⟩ ?_ | refine CallP.ext (.c (.p 0 ab 0)) (fun _ w _ => noEscape_run _ w) ?_ | refine FinE.mk _ [] ⟨rfl, rfl, rfl⟩ (Ents.refl _ _)
    | fail
theorem oneCopyUsed (ab ty : Nat) (x : C) (rest : List C) : FnS Tryz.prog 79 [.c (.p 0 ab 0)] [.box 0 ab ty (.p 0 ab 0 :: x :: rest)] []
    (fun v L D => v = .t0 ∧ L = [.box 0 ab ty (.p 0 ab 0 :: x :: rest)] ∧ D = []) := by
  refine fn_of_J Tryz.tyOK 7000 Tryz.func79 (by kernel_rfl) (c := Tryz.f79.body.getD .skip) (by kernel_rfl) Tryz.ntmps79 (rs := Tryz.f79.results.toList) rfl (by simp) (fun G => ?_)
  repeat' first
    | refine J_seq ?_ | refine J_region Tryz.tyOK ?_ | refine J_block ?_ | refine J_cond ?_ | refine J_ret ?_ | refine J_skip ?_ | refine J_exit ?_ | refine J_scope ?_
    | refine CondP.yes (by omega) ?_ | refine CondP.no (by omega) ?_ | refine CondP.mk (fun h => ?_) (fun h => ?_) | refine EqP.mk rfl ?_ | refine NewP.mk (fun ad => ?_) | refine ArP.exact (by simp only [inR]; omega) ?_ | refine SideP.mk (by first | omega | (dsimp only; omega) | (simp; omega)) ?_
    | refine SideP.mk ⟨rfl, rfl⟩ ?_ | refine FinE.mk _ [] ⟨rfl, rfl, rfl⟩ (Ents.refl _ _)
    | fail
def bw (id ab ty : Nat) (a : Option Addr) (c : Nat) (l : List UInt8) (rest : List C) : List Chunk :=
  if l = [] then [.box id ab ty (.raw (.pointer none) :: .sl none 0 0 :: rest)] else [.box id ab ty (.p id ab 0 :: .sl a l.length c :: rest), .row 5 1 a l.length c (l.map byteC)]
theorem bw_nil (id ab ty : Nat) (a : Option Addr) (c : Nat) (rest : List C) : bw id ab ty a c [] rest = [.box id ab ty (.raw (.pointer none) :: .sl none 0 0 :: rest)] := rfl
theorem bw_cons (id ab ty : Nat) (a : Option Addr) (c : Nat) {l : List UInt8} (rest : List C) (h : l ≠ []) : bw id ab ty a c l rest = [.box id ab ty (.p id ab 0 :: .sl a l.length c :: rest), .row 5 1 a l.length c (l.map byteC)] := if_neg h
def BwPost (r : V) (id ab ty : Nat) (l : List UInt8) (rest : List C) : V → List Chunk → List Fact → Prop := fun v L D => ∃ a c, v = r ∧ L = bw id ab ty a c l rest ∧ D = []
theorem bw_same (id id' ab ty : Nat) (a : Option Addr) (c : Nat) (l : List UInt8) (rest : List C) : Same (bw id ab ty a c l rest) (bw id' ab ty a c l rest) := by
  unfold bw; split <;> exact ⟨rfl, fun _ => by simp [allOk, Chunk.ok, C.enc, oneAll, C.one]⟩
theorem bwString0 (ab ty : Nat) (a : Option Addr) (c : Nat) (l : List UInt8) (s : List UInt8) (rest : List C) (hb : BTy ty rest.length) (hs : s ≠ []) (hl : l.length + s.length ≤ 140737488355328) :
    FnS Tryz.prog 39 [.c (.p 0 ab 0), .c (.s s)] (bw 0 ab ty a c l rest) [] (BwPost (.t2 (.c (.i .i64 s.length)) (.c (.raw .nilIface))) 0 ab ty (l ++ s) rest) := by
  have hls : l ++ s ≠ [] := by simp [hs]
  by_cases h0 : l = []
  · subst h0
    rw [bw_nil]
    have c1 := oneCopyFresh ab ty (.sl none 0 0) rest hb
    refine fn_of_J Tryz.tyOK 7000 Tryz.func39 (by kernel_rfl) (c := Tryz.f39.body.getD .skip) (by kernel_rfl) Tryz.ntmps39 (rs := Tryz.f39.results.toList) rfl (by simp) (fun G => ?_)
    repeat' first
      | refine J_seq ?_ | refine J_region Tryz.tyOK ?_ | refine J_block ?_ | refine J_cond ?_ | refine J_ret ?_ | refine J_skip ?_ | refine J_exit ?_ | refine J_scope ?_
      | refine CondP.yes (by omega) ?_ | refine CondP.no (by omega) ?_ | refine CondP.mk (fun h => ?_) (fun h => ?_) | refine EqP.mk rfl ?_ | refine NewP.mk (fun ad => ?_) | refine ArP.exact (by simp only [inR]; omega) ?_ | refine SideP.mk (by first | omega | (dsimp only; omega) | (simp; omega)) ?_
      | refine CallP.mk [_] [] [] _ c1 (List.Perm.refl _) (fun _ _ => trivial) (fun v L' D' hp => ?_); obtain ⟨rfl, rfl, rfl⟩ := hp | refine AppE.nil (s.map byteC) s.length rfl rfl rfl (SrcE.str _ s rfl rfl rfl) (by show s.length * 1 ≤ _; simp only [List.length_nil] at hl; omega) (fun a' c' => ?_) | refine setK_s1 ?_ | refine FinE.mk (bw 0 ab ty a' c' ([] ++ s) rest) [] ⟨a', c', rfl, rfl, rfl⟩ ?_
      | fail
    exact (Ents.perm (List.Perm.swap _ _ _)).trans (Ents.of (by rw [bw_cons _ _ _ _ _ _ hls]; rfl))
  · rw [bw_cons _ _ _ _ _ _ h0]
    have c1 := oneCopyUsed ab ty (.sl a l.length c) rest
    refine fn_of_J Tryz.tyOK 7000 Tryz.func39 (by kernel_rfl) (c := Tryz.f39.body.getD .skip) (by kernel_rfl) Tryz.ntmps39 (rs := Tryz.f39.results.toList) rfl (by simp) (fun G => ?_)
    repeat' first
      | refine J_seq ?_ | refine J_region Tryz.tyOK ?_ | refine J_block ?_ | refine J_cond ?_ | refine J_ret ?_ | refine J_skip ?_ | refine J_exit ?_ | refine J_scope ?_
      | refine CondP.yes (by omega) ?_ | refine CondP.no (by omega) ?_ | refine CondP.mk (fun h => ?_) (fun h => ?_) | refine EqP.mk rfl ?_ | refine NewP.mk (fun ad => ?_) | refine ArP.exact (by simp only [inR]; omega) ?_ | refine SideP.mk (by first | omega | (dsimp only; omega) | (simp; omega)) ?_
      | refine CallP.mk [_] [_] [] _ c1 (List.Perm.refl _) (fun _ _ => trivial) (fun v L' D' hp => ?_); obtain ⟨rfl, rfl, rfl⟩ := hp | refine AppE.row [_] [] (l.map byteC) (s.map byteC) s.length rfl (SrcE.str _ s rfl rfl rfl) (by show (l.length + s.length) * 1 ≤ _; omega) (fun a' c' => ?_) | refine setK_s1 ?_ | refine FinE.mk (bw 0 ab ty a' c' (l ++ s) rest) [] ⟨a', c', rfl, rfl, rfl⟩ ?_
      | fail
    exact Ents.of (by rw [bw_cons _ _ _ _ _ _ hls, List.length_append, List.map_append]; rfl)
theorem bwString_ok (id ab ty : Nat) (a : Option Addr) (c : Nat) (l : List UInt8) (s : List UInt8) (rest : List C) (hb : BTy ty rest.length) (hs : s ≠ []) (hl : l.length + s.length ≤ 140737488355328) :
    FnS Tryz.prog 39 [.c (.p id ab 0), .c (.s s)] (bw id ab ty a c l rest) [] (BwPost (.t2 (.c (.i .i64 s.length)) (.c (.raw .nilIface))) id ab ty (l ++ s) rest) :=
  (bwString0 ab ty a c l s rest hb hs hl).same rfl (bw_same _ _ _ _ _ _ _ _) fun v L1 D1 ⟨a', c', h1, h2, h3⟩ => ⟨_, h2 ▸ bw_same 0 id ab ty a' c' (l ++ s) rest, a', c', h1, rfl, h3⟩
theorem bwByte0 (ab ty : Nat) (a : Option Addr) (c : Nat) (l : List UInt8) (s : UInt8) (rest : List C) (hb : BTy ty rest.length)  (hl : l.length + 1 ≤ 140737488355328) :
    FnS Tryz.prog 41 [.c (.p 0 ab 0), .c (byteC s)] (bw 0 ab ty a c l rest) [] (BwPost (.c (.raw .nilIface)) 0 ab ty (l ++ [s]) rest) := by
  have hls : l ++ [s] ≠ [] := by simp
  by_cases h0 : l = []
  · subst h0
    rw [bw_nil]
    have c1 := oneCopyFresh ab ty (.sl none 0 0) rest hb
    refine fn_of_J Tryz.tyOK 7000 Tryz.func41 (by kernel_rfl) (c := Tryz.f41.body.getD .skip) (by kernel_rfl) Tryz.ntmps41 (rs := Tryz.f41.results.toList) rfl (by simp) (fun G => ?_)
    repeat' first
      | refine J_seq ?_ | refine J_region Tryz.tyOK ?_ | refine J_block ?_ | refine J_cond ?_ | refine J_ret ?_ | refine J_skip ?_ | refine J_exit ?_ | refine J_scope ?_
      | refine CondP.yes (by omega) ?_ | refine CondP.no (by omega) ?_ | refine CondP.mk (fun h => ?_) (fun h => ?_) | refine EqP.mk rfl ?_ | refine NewP.mk (fun ad => ?_) | refine ArP.exact (by simp only [inR]; omega) ?_ | refine SideP.mk (by first | omega | (dsimp only; omega) | (simp; omega)) ?_
      | refine CallP.mk [_] [] [] _ c1 (List.Perm.refl _) (fun _ _ => trivial) (fun v L' D' hp => ?_); obtain ⟨rfl, rfl, rfl⟩ := hp | refine AppE.nil ([s].map byteC) 1 rfl rfl rfl (SrcE.sl 5 5 _ _ _ _ [byteC s] rfl rfl (.inl ⟨1, List.Mem.head _⟩) rfl) (by show 1 * 1 ≤ _; simp only [List.length_nil] at hl; omega) (fun a' c' => ?_) | refine setK_s1 ?_ | refine FinE.mk (bw 0 ab ty a' c' ([] ++ [s]) rest) [] ⟨a', c', rfl, rfl, rfl⟩ ?_
      | fail
    exact (Ents.sub ⟨_, perm3r _ _ _⟩).trans (Ents.of (by rw [bw_cons _ _ _ _ _ _ hls]; rfl))
  · rw [bw_cons _ _ _ _ _ _ h0]
    have c1 := oneCopyUsed ab ty (.sl a l.length c) rest
    refine fn_of_J Tryz.tyOK 7000 Tryz.func41 (by kernel_rfl) (c := Tryz.f41.body.getD .skip) (by kernel_rfl) Tryz.ntmps41 (rs := Tryz.f41.results.toList) rfl (by simp) (fun G => ?_)
    repeat' first
      | refine J_seq ?_ | refine J_region Tryz.tyOK ?_ | refine J_block ?_ | refine J_cond ?_ | refine J_ret ?_ | refine J_skip ?_ | refine J_exit ?_ | refine J_scope ?_
      | refine CondP.yes (by omega) ?_ | refine CondP.no (by omega) ?_ | refine CondP.mk (fun h => ?_) (fun h => ?_) | refine EqP.mk rfl ?_ | refine NewP.mk (fun ad => ?_) | refine ArP.exact (by simp only [inR]; omega) ?_ | refine SideP.mk (by first | omega | (dsimp only; omega) | (simp; omega)) ?_
      | refine CallP.mk [_] [_] [] _ c1 (List.Perm.refl _) (fun _ _ => trivial) (fun v L' D' hp => ?_); obtain ⟨rfl, rfl, rfl⟩ := hp | refine AppE.row [_, _] [] (l.map byteC) ([s].map byteC) 1 rfl (SrcE.sl 5 5 _ _ _ _ [byteC s] rfl rfl (.inl ⟨1, List.Mem.head _⟩) rfl) (by show (l.length + 1) * 1 ≤ _; omega) (fun a' c' => ?_) | refine setK_s1 ?_ | refine FinE.mk (bw 0 ab ty a' c' (l ++ [s]) rest) [] ⟨a', c', rfl, rfl, rfl⟩ ?_
      | fail
    exact Ents.drop.trans (Ents.of (by rw [bw_cons _ _ _ _ _ _ hls, List.length_append, List.map_append]; rfl))
theorem bwByte_ok (id ab ty : Nat) (a : Option Addr) (c : Nat) (l : List UInt8) (s : UInt8) (rest : List C) (hb : BTy ty rest.length)  (hl : l.length + 1 ≤ 140737488355328) :
    FnS Tryz.prog 41 [.c (.p id ab 0), .c (byteC s)] (bw id ab ty a c l rest) [] (BwPost (.c (.raw .nilIface)) id ab ty (l ++ [s]) rest) :=
  (bwByte0 ab ty a c l s rest hb  hl).same rfl (bw_same _ _ _ _ _ _ _ _) fun v L1 D1 ⟨a', c', h1, h2, h3⟩ => ⟨_, h2 ▸ bw_same 0 id ab ty a' c' (l ++ [s]) rest, a', c', h1, rfl, h3⟩
theorem bwWrite0 (ab ty : Nat) (a : Option Addr) (c : Nat) (l : List UInt8) (s : List UInt8) (pa : Option Addr) (pc : Nat) (rest : List C) (hb : BTy ty rest.length) (hs : s ≠ []) (hl : l.length + s.length ≤ 140737488355328) :
    FnS Tryz.prog 43 [.c (.p 0 ab 0), .c (.sl pa s.length pc)] (bw 0 ab ty a c l rest) [slFact 5 1 pa s.length (s.map byteC)] (BwPost (.t2 (.c (.i .i64 s.length)) (.c (.raw .nilIface))) 0 ab ty (l ++ s) rest) := by
  have hls : l ++ s ≠ [] := by simp [hs]
  by_cases h0 : l = []
  · subst h0
    rw [bw_nil]
    have c1 := oneCopyFresh ab ty (.sl none 0 0) rest hb
    refine fn_of_J Tryz.tyOK 7000 Tryz.func43 (by kernel_rfl) (c := Tryz.f43.body.getD .skip) (by kernel_rfl) Tryz.ntmps43 (rs := Tryz.f43.results.toList) rfl (by simp) (fun G => ?_)
    repeat' first
      | refine J_seq ?_ | refine J_region Tryz.tyOK ?_ | refine J_block ?_ | refine J_cond ?_ | refine J_ret ?_ | refine J_skip ?_ | refine J_exit ?_ | refine J_scope ?_
      | refine CondP.yes (by omega) ?_ | refine CondP.no (by omega) ?_ | refine CondP.mk (fun h => ?_) (fun h => ?_) | refine EqP.mk rfl ?_ | refine NewP.mk (fun ad => ?_) | refine ArP.exact (by simp only [inR]; omega) ?_ | refine SideP.mk (by first | omega | (dsimp only; omega) | (simp; omega)) ?_
      | refine CallP.mk [_] [] [] _ c1 (List.Perm.refl _) (fun _ _ => trivial) (fun v L' D' hp => ?_); obtain ⟨rfl, rfl, rfl⟩ := hp | refine AppE.nil (s.map byteC) s.length rfl rfl rfl (SrcE.sl 5 5 _ _ _ _ (s.map byteC) rfl rfl (.inr fun _ h => h.1) (by simp)) (by show s.length * 1 ≤ _; simp only [List.length_nil] at hl; omega) (fun a' c' => ?_) | refine setK_s1 ?_ | refine FinE.mk (bw 0 ab ty a' c' ([] ++ s) rest) [] ⟨a', c', rfl, rfl, rfl⟩ ?_
      | fail
    exact (Ents.perm (List.Perm.swap _ _ _)).trans ((Ents.of (by rw [bw_cons _ _ _ _ _ _ hls]; rfl)).trans (Ents.facts fun _ _ => trivial))
  · rw [bw_cons _ _ _ _ _ _ h0]
    have c1 := oneCopyUsed ab ty (.sl a l.length c) rest
    refine fn_of_J Tryz.tyOK 7000 Tryz.func43 (by kernel_rfl) (c := Tryz.f43.body.getD .skip) (by kernel_rfl) Tryz.ntmps43 (rs := Tryz.f43.results.toList) rfl (by simp) (fun G => ?_)
    repeat' first
      | refine J_seq ?_ | refine J_region Tryz.tyOK ?_ | refine J_block ?_ | refine J_cond ?_ | refine J_ret ?_ | refine J_skip ?_ | refine J_exit ?_ | refine J_scope ?_
      | refine CondP.yes (by omega) ?_ | refine CondP.no (by omega) ?_ | refine CondP.mk (fun h => ?_) (fun h => ?_) | refine EqP.mk rfl ?_ | refine NewP.mk (fun ad => ?_) | refine ArP.exact (by simp only [inR]; omega) ?_ | refine SideP.mk (by first | omega | (dsimp only; omega) | (simp; omega)) ?_
      | refine CallP.mk [_] [_] [] _ c1 (List.Perm.refl _) (fun _ _ => trivial) (fun v L' D' hp => ?_); obtain ⟨rfl, rfl, rfl⟩ := hp | refine AppE.row [_] [] (l.map byteC) (s.map byteC) s.length rfl (SrcE.sl 5 5 _ _ _ _ (s.map byteC) rfl rfl (.inr fun _ h => h.1) (by simp)) (by show (l.length + s.length) * 1 ≤ _; omega) (fun a' c' => ?_) | refine setK_s1 ?_ | refine FinE.mk (bw 0 ab ty a' c' (l ++ s) rest) [] ⟨a', c', rfl, rfl, rfl⟩ ?_
      | fail
    exact (Ents.of (by rw [bw_cons _ _ _ _ _ _ hls, List.length_append, List.map_append]; rfl)).trans (Ents.facts fun _ _ => trivial)
theorem bwWrite_ok (id ab ty : Nat) (a : Option Addr) (c : Nat) (l : List UInt8) (s : List UInt8) (pa : Option Addr) (pc : Nat) (rest : List C) (hb : BTy ty rest.length) (hs : s ≠ []) (hl : l.length + s.length ≤ 140737488355328) :
    FnS Tryz.prog 43 [.c (.p id ab 0), .c (.sl pa s.length pc)] (bw id ab ty a c l rest) [slFact 5 1 pa s.length (s.map byteC)] (BwPost (.t2 (.c (.i .i64 s.length)) (.c (.raw .nilIface))) id ab ty (l ++ s) rest) :=
  (bwWrite0 ab ty a c l s pa pc rest hb hs hl).same rfl (bw_same _ _ _ _ _ _ _ _) fun v L1 D1 ⟨a', c', h1, h2, h3⟩ => ⟨_, h2 ▸ bw_same 0 id ab ty a' c' (l ++ s) rest, a', c', h1, rfl, h3⟩
theorem bwLen0 (ab ty : Nat) (a : Option Addr) (c : Nat) (l : List UInt8) (rest : List C) : FnS Tryz.prog 97 [.c (.p 0 ab 0)] (bw 0 ab ty a c l rest) [] (fun v L D => v = .c (.i .i64 l.length) ∧ L = bw 0 ab ty a c l rest ∧ D = []) := by
  by_cases h0 : l = []
  · subst h0
    rw [bw_nil]
    refine fn_of_J Tryz.tyOK 7000 Tryz.func97 (by kernel_rfl) (c := Tryz.f97.body.getD .skip) (by kernel_rfl) Tryz.ntmps97 (rs := Tryz.f97.results.toList) rfl (by simp) (fun G => ?_)
    repeat' first
      | refine J_seq ?_ | refine J_region Tryz.tyOK ?_ | refine J_block ?_ | refine J_cond ?_ | refine J_ret ?_ | refine J_skip ?_ | refine J_exit ?_ | refine J_scope ?_
      | refine CondP.yes (by omega) ?_ | refine CondP.no (by omega) ?_ | refine CondP.mk (fun h => ?_) (fun h => ?_) | refine EqP.mk rfl ?_ | refine NewP.mk (fun ad => ?_) | refine ArP.exact (by simp only [inR]; omega) ?_ | refine SideP.mk (by first | omega | (dsimp only; omega) | (simp; omega)) ?_
      | exact FinE.mk _ [] ⟨rfl, rfl, rfl⟩ (Ents.refl _ _)
      | fail
  · rw [bw_cons _ _ _ _ _ _ h0]
    refine fn_of_J Tryz.tyOK 7000 Tryz.func97 (by kernel_rfl) (c := Tryz.f97.body.getD .skip) (by kernel_rfl) Tryz.ntmps97 (rs := Tryz.f97.results.toList) rfl (by simp) (fun G => ?_)
    repeat' first
      | refine J_seq ?_ | refine J_region Tryz.tyOK ?_ | refine J_block ?_ | refine J_cond ?_ | refine J_ret ?_ | refine J_skip ?_ | refine J_exit ?_ | refine J_scope ?_
      | refine CondP.yes (by omega) ?_ | refine CondP.no (by omega) ?_ | refine CondP.mk (fun h => ?_) (fun h => ?_) | refine EqP.mk rfl ?_ | refine NewP.mk (fun ad => ?_) | refine ArP.exact (by simp only [inR]; omega) ?_ | refine SideP.mk (by first | omega | (dsimp only; omega) | (simp; omega)) ?_
      | exact FinE.mk _ [] ⟨rfl, rfl, rfl⟩ (Ents.refl _ _)
      | fail
theorem J_some {P : Program} {G : Ent} {N : Nat} {c0 : Code} {env : Env} {L : List Chunk} {D : List Fact} {nid : Nat} {K : Kt} {e z : Nat} {a : Option Addr} {n c : Nat} {cs : List C} (hm : .row e z a n c cs ∈ L) (hn : n ≠ 0) (k : ∀ g, a = some ⟨g, 0, none⟩ → n ≤ c → J P G N c0 env L D nid K) : J P G N c0 env L D nid K :=
  ⟨fun ac w he hs => by
    obtain ⟨m, h1, _⟩ := id hs
    have hr := (allOk_mem h1.ok hm).2
    rcases hr with ⟨_, h0, _⟩ | ⟨g, hg, cur, lo, hi, _, h2, _⟩
    · exact absurd h0 hn
    · exact (k g hg h2).run ac w he hs⟩
theorem bwText0 (ab ty : Nat) (a : Option Addr) (c : Nat) (l : List UInt8) (rest : List C) : FnS Tryz.prog 44 [.c (.p 0 ab 0)] (bw 0 ab ty a c l rest) [] (Is (.c (.s l))) := by
  by_cases h0 : l = []
  · subst h0
    rw [bw_nil]
    refine fn_of_J Tryz.tyOK 7000 Tryz.func44 (by kernel_rfl) (c := Tryz.f44.body.getD .skip) (by kernel_rfl) Tryz.ntmps44 (rs := Tryz.f44.results.toList) rfl (by simp) (fun G => ?_)
    repeat' first
      | refine J_seq ?_ | refine J_region Tryz.tyOK ?_ | refine J_block ?_ | refine J_cond ?_ | refine J_ret ?_ | refine J_skip ?_ | refine J_exit ?_ | refine J_scope ?_
      | refine CondP.yes (by omega) ?_ | refine CondP.no (by omega) ?_ | refine CondP.mk (fun h => ?_) (fun h => ?_) | refine EqP.mk rfl ?_ | refine NewP.mk (fun ad => ?_) | refine ArP.exact (by simp only [inR]; omega) ?_ | refine SideP.mk (by first | omega | (dsimp only; omega) | (simp; omega)) ?_
      | refine J_drawS (id := 1) Tryz.tyOK (by kernel_rfl) [0, 1, 3, 7, 15, 0, 32, 96, 224, 480, 1023, 2047] [0, 1, 2, 3, 5, 6, 7, 8, 9, 4, 10, 11] [4, 10] [0] false (by kernel_rfl) ?_ | refine EntP.mk (Ents.ofSub (by repeat (first | exact List.Sublist.slnil | refine List.Sublist.cons_cons _ ?_ | refine List.Sublist.cons _ ?_)) (by first | exact fun _ h => h | exact fun _ _ => trivial | exact fun _ h => h.2 | exact fun _ h => h.2.2.2.2 | exact fun _ h => h.2.2 | exact fun _ h => h.2.2.2 | exact fun _ h => h.2.2.2.2.2 | exact fun _ h => h.2.2.2.2.2.2 | exact fun _ h => h.2.2.2.2.2.2.2 | exact fun _ h => h.2.2.2.2.2.2.2.2 | exact fun _ h => h.2.2.2.2.2.2.2.2.2 | exact fun _ h => h.2.2.2.2.2.2.2.2.2.2 | exact fun _ h => ((allD_append _ _).1 h).2)) ?_ | refine SlDataE.nil rfl ?_ | refine StrDataE.nil rfl rfl ?_ | refine FinE.str ?_
      | fail
    rfl
  · rw [bw_cons _ _ _ _ _ _ h0]
    have hl0 : l.length ≠ 0 := fun h => h0 (List.eq_nil_of_length_eq_zero h)
    refine fn_of_J Tryz.tyOK 7000 Tryz.func44 (by kernel_rfl) (c := Tryz.f44.body.getD .skip) (by kernel_rfl) Tryz.ntmps44 (rs := Tryz.f44.results.toList) rfl (by simp) (fun G => ?_)
    refine J_some (List.Mem.tail _ (List.Mem.head _)) hl0 (fun g hg hlc => ?_)
    subst hg
    repeat' first
      | refine J_seq ?_ | refine J_region Tryz.tyOK ?_ | refine J_block ?_ | refine J_cond ?_ | refine J_ret ?_ | refine J_skip ?_ | refine J_exit ?_ | refine J_scope ?_
      | refine CondP.yes (by omega) ?_ | refine CondP.no (by omega) ?_ | refine CondP.mk (fun h => ?_) (fun h => ?_) | refine EqP.mk rfl ?_ | refine NewP.mk (fun ad => ?_) | refine ArP.exact (by simp only [inR]; omega) ?_ | refine SideP.mk (by first | omega | (dsimp only; omega) | (simp; omega)) ?_
      | refine J_drawS (id := 1) Tryz.tyOK (by kernel_rfl) [0, 1, 3, 7, 15, 0, 32, 96, 224, 480, 1023, 2047] [0, 1, 2, 3, 5, 6, 7, 8, 9, 4, 10, 11] [4, 10] [0] false (by kernel_rfl) ?_ | refine EntP.mk (Ents.ofSub (by repeat (first | exact List.Sublist.slnil | refine List.Sublist.cons_cons _ ?_ | refine List.Sublist.cons _ ?_)) (by first | exact fun _ h => h | exact fun _ _ => trivial | exact fun _ h => h.2 | exact fun _ h => h.2.2.2.2 | exact fun _ h => h.2.2 | exact fun _ h => h.2.2.2 | exact fun _ h => h.2.2.2.2.2 | exact fun _ h => h.2.2.2.2.2.2 | exact fun _ h => h.2.2.2.2.2.2.2 | exact fun _ h => h.2.2.2.2.2.2.2.2 | exact fun _ h => h.2.2.2.2.2.2.2.2.2 | exact fun _ h => h.2.2.2.2.2.2.2.2.2.2 | exact fun _ h => ((allD_append _ _).1 h).2)) ?_ | refine SlDataE.row g 0 rfl (by omega) ?_ | refine StrDataE.row [_] 5 g l.length c l (List.Perm.swap _ _ _) rfl rfl h0 rfl (by kernel_rfl) ?_ | refine FinE.str ?_
      | fail
    rfl
theorem bwLen_ok (id ab ty : Nat) (a : Option Addr) (c : Nat) (l : List UInt8) (rest : List C) : FnS Tryz.prog 97 [.c (.p id ab 0)] (bw id ab ty a c l rest) [] (fun v L D => v = .c (.i .i64 l.length) ∧ L = bw id ab ty a c l rest ∧ D = []) :=
  (bwLen0 ab ty a c l rest).same rfl (bw_same _ _ _ _ _ _ _ _) fun v L1 D1 ⟨h1, h2, h3⟩ => ⟨_, h2 ▸ bw_same 0 id ab ty a c l rest, h1, rfl, h3⟩
theorem bwText_ok (id ab ty : Nat) (a : Option Addr) (c : Nat) (l : List UInt8) (rest : List C) : FnS Tryz.prog 44 [.c (.p id ab 0)] (bw id ab ty a c l rest) [] (Is (.c (.s l))) :=
  (bwText0 ab ty a c l rest).same rfl (bw_same _ _ _ _ _ _ _ _) fun v L1 D1 h => ⟨L1, ⟨rfl, fun _ => Iff.rfl⟩, h⟩
end Go.Proofs
namespace Go.Proofs
open Go Go.X Go.RowKit Go.Shelf
set_option maxRecDepth 100000
theorem FnS.pre {P : Program} {f : FuncId} {args : List V} {L L' : List Chunk} {D D' : List Fact} {post : V → List Chunk → List Fact → Prop} (hE : Ents L D L' D') (h : FnS P f args L' D' post) : FnS P f args L D post :=
  ⟨h.en, fun w m hh => by
    obtain ⟨m', h1, h2⟩ := hE ⟨w, L, m⟩ w ⟨m, hh, Fr.refl _ _ _⟩
    exact (h.run w m' h1).mono fun e w' ⟨v, L1, D1, m1, e1, p1, q1, r1⟩ => ⟨v, L1, D1, m1, e1, p1, q1, h2.trans r1⟩⟩
def bx (id ab ty : Nat) (u : Bool) (a : Option Addr) (c : Nat) (l : List UInt8) (rest : List C) : List Chunk :=
  [.box id ab ty ((if u then .p id ab 0 else .raw (.pointer none)) :: .sl a l.length c :: rest), .row 5 1 a l.length c (l.map byteC)]
structure BxI (u : Bool) (a : Option Addr) (c : Nat) (l : List UInt8) : Prop where
  h1 : u = false → l = []
  h2 : l = [] → a = none ∧ c = 0
theorem bxI0 : BxI false none 0 [] := ⟨fun _ => rfl, fun _ => ⟨rfl, rfl⟩⟩
def BxP (r : V) (id ab ty : Nat) (l : List UInt8) (rest : List C) : V → List Chunk → List Fact → Prop := fun v L D => ∃ u a c, BxI u a c l ∧ v = r ∧ L = bx id ab ty u a c l rest ∧ D = []
theorem bx_same (id id' ab ty : Nat) (u : Bool) (a : Option Addr) (c : Nat) (l : List UInt8) (rest : List C) : Same (bx id ab ty u a c l rest) (bx id' ab ty u a c l rest) := by
  unfold bx; cases u <;> exact ⟨rfl, fun _ => by simp [allOk, Chunk.ok, C.enc, oneAll, C.one]⟩
theorem bx_bw (id ab ty : Nat) (a : Option Addr) (c : Nat) {l : List UInt8} (rest : List C) (h : l ≠ []) : bx id ab ty true a c l rest = bw id ab ty a c l rest := (bw_cons _ _ _ _ _ _ h).symm
theorem bxI_used {u : Bool} {a : Option Addr} {c : Nat} {l : List UInt8} (h : BxI u a c l) (hl : l ≠ []) : u = true := by
  cases u with
  | true => rfl
  | false => exact absurd (h.h1 rfl) hl
theorem bxI_ne {a : Option Addr} {c : Nat} {l : List UInt8} (h : l ≠ []) : BxI true a c l := ⟨fun e => (by cases e), fun e => absurd e h⟩
theorem bxI_nil : BxI true none 0 [] := ⟨fun e => (by cases e), fun _ => ⟨rfl, rfl⟩⟩
theorem bx_fresh (id ab ty : Nat) (rest : List C) {D : List Fact} : Ents (bx id ab ty false none 0 [] rest) D [.box id ab ty (.raw (.pointer none) :: .sl none 0 0 :: rest)] D := (Ents.perm (List.Perm.swap _ _ _)).trans Ents.drop
theorem bx_toFresh (id ab ty : Nat) (rest : List C) {D : List Fact} : Ents [.box id ab ty (.raw (.pointer none) :: .sl none 0 0 :: rest)] D (bx id ab ty false none 0 [] rest) D := (Ents.nilRow (ety := 5) (esz := 1)).trans (Ents.perm (List.Perm.swap _ _ _))
theorem bw_post {id ab ty : Nat} {l : List UInt8} {rest : List C} {r : V} (hl : l ≠ []) {v : V} {L : List Chunk} {D : List Fact} (h : BwPost r id ab ty l rest v L D) : BxP r id ab ty l rest v L D := by
  obtain ⟨a, c, h1, h2, h3⟩ := h
  exact ⟨true, a, c, bxI_ne hl, h1, by rw [h2, bx_bw _ _ _ _ _ _ hl], h3⟩
theorem bxMore0 (ab ty : Nat) (a : Option Addr) (c : Nat) (l : List UInt8) (s : List UInt8) (rest : List C) (h0 : l ≠ []) (hl : l.length + s.length ≤ 140737488355328) :
    FnS Tryz.prog 39 [.c (.p 0 ab 0), .c (.s s)] (bw 0 ab ty a c l rest) [] (BwPost (.t2 (.c (.i .i64 s.length)) (.c (.raw .nilIface))) 0 ab ty (l ++ s) rest) := by
  have hls : l ++ s ≠ [] := by simp [h0]
  rw [bw_cons _ _ _ _ _ _ h0]
  have c1 := oneCopyUsed ab ty (.sl a l.length c) rest
  refine fn_of_J Tryz.tyOK 7000 Tryz.func39 (by kernel_rfl) (c := Tryz.f39.body.getD .skip) (by kernel_rfl) Tryz.ntmps39 (rs := Tryz.f39.results.toList) rfl (by simp) (fun G => ?_)
  repeat' first
    | refine J_seq ?_ | refine J_region Tryz.tyOK ?_ | refine J_block ?_ | refine J_cond ?_ | refine J_ret ?_ | refine J_skip ?_ | refine J_exit ?_ | refine J_scope ?_
    | refine CondP.yes (by omega) ?_ | refine CondP.no (by omega) ?_ | refine CondP.mk (fun h => ?_) (fun h => ?_) | refine EqP.mk rfl ?_ | refine NewP.mk (fun ad => ?_) | refine ArP.exact (by simp only [inR]; omega) ?_ | refine SideP.mk (by first | omega | (dsimp only; omega) | (simp; omega)) ?_
    | refine CallP.mk [_] [_] [] _ c1 (List.Perm.refl _) (fun _ _ => trivial) (fun v L' D' hp => ?_); obtain ⟨rfl, rfl, rfl⟩ := hp | refine AppE.row [_] [] (l.map byteC) (s.map byteC) s.length rfl (SrcE.str _ s rfl rfl rfl) (by show (l.length + s.length) * 1 ≤ _; omega) (fun a' c' => ?_) | refine setK_s1 ?_ | refine FinE.mk (bw 0 ab ty a' c' (l ++ s) rest) [] ⟨a', c', rfl, rfl, rfl⟩ ?_
    | fail
  exact Ents.of (by rw [bw_cons _ _ _ _ _ _ hls, List.length_append, List.map_append]; rfl)
theorem bxString0 (ab ty : Nat) (u : Bool) (a : Option Addr) (c : Nat) (l : List UInt8) (s : List UInt8) (rest : List C) (hb : BTy ty rest.length) (hi : BxI u a c l) (hl : l.length + s.length ≤ 140737488355328) :
    FnS Tryz.prog 39 [.c (.p 0 ab 0), .c (.s s)] (bx 0 ab ty u a c l rest) [] (BxP (.t2 (.c (.i .i64 s.length)) (.c (.raw .nilIface))) 0 ab ty (l ++ s) rest) := by
  by_cases h0 : l = []
  · obtain ⟨rfl, rfl⟩ := hi.h2 h0
    subst h0
    by_cases hs : s = []
    · subst hs
      cases u with
      | false =>
        have c1 := oneCopyFresh ab ty (.sl none 0 0) rest hb
        unfold bx
        refine fn_of_J Tryz.tyOK 7000 Tryz.func39 (by kernel_rfl) (c := Tryz.f39.body.getD .skip) (by kernel_rfl) Tryz.ntmps39 (rs := Tryz.f39.results.toList) rfl (by simp) (fun G => ?_)
        repeat' first
          | refine J_seq ?_ | refine J_region Tryz.tyOK ?_ | refine J_block ?_ | refine J_cond ?_ | refine J_ret ?_ | refine J_skip ?_ | refine J_exit ?_ | refine J_scope ?_
          | refine CondP.yes (by omega) ?_ | refine CondP.no (by omega) ?_ | refine CondP.mk (fun h => ?_) (fun h => ?_) | refine EqP.mk rfl ?_ | refine NewP.mk (fun ad => ?_) | refine ArP.exact (by simp only [inR]; omega) ?_ | refine SideP.mk (by first | omega | (dsimp only; omega) | (simp; omega)) ?_
          | refine CallP.mk [_] [_] [] _ c1 (List.Perm.refl _) (fun _ _ => trivial) (fun v L' D' hp => ?_); obtain ⟨rfl, rfl, rfl⟩ := hp | refine AppE.pre [_] [] 0 none [] [] [] 0 rfl rfl (SrcE.str _ [] rfl rfl rfl) (Nat.le_refl 0) rfl ?_ | refine setK_s1 ?_ | exact FinE.mk _ [] ⟨true, none, 0, bxI_nil, rfl, rfl, rfl⟩ (Ents.refl _ _)
          | fail
        all_goals trace_state
      | true =>
        have c1 := oneCopyUsed ab ty (.sl none 0 0) rest
        unfold bx
        refine fn_of_J Tryz.tyOK 7000 Tryz.func39 (by kernel_rfl) (c := Tryz.f39.body.getD .skip) (by kernel_rfl) Tryz.ntmps39 (rs := Tryz.f39.results.toList) rfl (by simp) (fun G => ?_)
        repeat' first
          | refine J_seq ?_ | refine J_region Tryz.tyOK ?_ | refine J_block ?_ | refine J_cond ?_ | refine J_ret ?_ | refine J_skip ?_ | refine J_exit ?_ | refine J_scope ?_
          | refine CondP.yes (by omega) ?_ | refine CondP.no (by omega) ?_ | refine CondP.mk (fun h => ?_) (fun h => ?_) | refine EqP.mk rfl ?_ | refine NewP.mk (fun ad => ?_) | refine ArP.exact (by simp only [inR]; omega) ?_ | refine SideP.mk (by first | omega | (dsimp only; omega) | (simp; omega)) ?_
          | refine CallP.mk [_] [_] [] _ c1 (List.Perm.refl _) (fun _ _ => trivial) (fun v L' D' hp => ?_); obtain ⟨rfl, rfl, rfl⟩ := hp | refine AppE.pre [_] [] 0 none [] [] [] 0 rfl rfl (SrcE.str _ [] rfl rfl rfl) (Nat.le_refl 0) rfl ?_ | refine setK_s1 ?_ | exact FinE.mk _ [] ⟨true, none, 0, bxI_nil, rfl, rfl, rfl⟩ (Ents.refl _ _)
          | fail
        all_goals trace_state
    · cases u with
      | false =>
        have h := bwString0 ab ty none 0 [] s rest hb hs hl
        rw [bw_nil] at h
        exact ((FnS.pre (bx_fresh 0 ab ty rest) h).mono fun v L D hp => bw_post (by simpa using hs) hp)
      | true =>
        have c1 := oneCopyUsed ab ty (.sl none 0 0) rest
        have hls : [] ++ s ≠ [] := by simpa using hs
        unfold bx
        refine fn_of_J Tryz.tyOK 7000 Tryz.func39 (by kernel_rfl) (c := Tryz.f39.body.getD .skip) (by kernel_rfl) Tryz.ntmps39 (rs := Tryz.f39.results.toList) rfl (by simp) (fun G => ?_)
        repeat' first
          | refine J_seq ?_ | refine J_region Tryz.tyOK ?_ | refine J_block ?_ | refine J_cond ?_ | refine J_ret ?_ | refine J_skip ?_ | refine J_exit ?_ | refine J_scope ?_
          | refine CondP.yes (by omega) ?_ | refine CondP.no (by omega) ?_ | refine CondP.mk (fun h => ?_) (fun h => ?_) | refine EqP.mk rfl ?_ | refine NewP.mk (fun ad => ?_) | refine ArP.exact (by simp only [inR]; omega) ?_ | refine SideP.mk (by first | omega | (dsimp only; omega) | (simp; omega)) ?_
          | refine CallP.mk [_] [_] [] _ c1 (List.Perm.refl _) (fun _ _ => trivial) (fun v L' D' hp => ?_); obtain ⟨rfl, rfl, rfl⟩ := hp | refine AppE.row [_] [] [] (s.map byteC) s.length rfl (SrcE.str _ s rfl rfl rfl) (by show (0 + s.length) * 1 ≤ _; simp only [List.length_nil] at hl; omega) (fun a' c' => ?_) | refine setK_s1 ?_ | refine FinE.mk (bx 0 ab ty true a' c' ([] ++ s) rest) [] ⟨true, a', c', bxI_ne hls, rfl, rfl, rfl⟩ ?_
          | fail
        exact Ents.of (by unfold bx; simp)
  · have hu := bxI_used hi h0
    subst hu
    rw [bx_bw _ _ _ _ _ _ h0]
    exact (bxMore0 ab ty a c l s rest h0 hl).mono fun v L D hp => bw_post (by simp [h0]) hp
theorem bxString_ok (id ab ty : Nat) (u : Bool) (a : Option Addr) (c : Nat) (l : List UInt8) (s : List UInt8) (rest : List C) (hb : BTy ty rest.length) (hi : BxI u a c l) (hl : l.length + s.length ≤ 140737488355328) :
    FnS Tryz.prog 39 [.c (.p id ab 0), .c (.s s)] (bx id ab ty u a c l rest) [] (BxP (.t2 (.c (.i .i64 s.length)) (.c (.raw .nilIface))) id ab ty (l ++ s) rest) :=
  (bxString0 ab ty u a c l s rest hb hi hl).same rfl (bx_same _ _ _ _ _ _ _ _ _) fun v L1 D1 ⟨u', a', c', h0, h1, h2, h3⟩ => ⟨_, h2 ▸ bx_same 0 id ab ty u' a' c' (l ++ s) rest, u', a', c', h0, h1, rfl, h3⟩
theorem bxByte0 (ab ty : Nat) (u : Bool) (a : Option Addr) (c : Nat) (l : List UInt8) (s : UInt8) (rest : List C) (hb : BTy ty rest.length) (hi : BxI u a c l) (hl : l.length + 1 ≤ 140737488355328) :
    FnS Tryz.prog 41 [.c (.p 0 ab 0), .c (byteC s)] (bx 0 ab ty u a c l rest) [] (BxP (.c (.raw .nilIface)) 0 ab ty (l ++ [s]) rest) := by
  have hls : l ++ [s] ≠ [] := by simp
  by_cases h0 : l = []
  · obtain ⟨rfl, rfl⟩ := hi.h2 h0
    subst h0
    cases u with
    | false =>
      have h := bwByte0 ab ty none 0 [] s rest hb hl
      rw [bw_nil] at h
      exact ((FnS.pre (bx_fresh 0 ab ty rest) h).mono fun v L D hp => bw_post hls hp)
    | true =>
      have c1 := oneCopyUsed ab ty (.sl none 0 0) rest
      unfold bx
      refine fn_of_J Tryz.tyOK 7000 Tryz.func41 (by kernel_rfl) (c := Tryz.f41.body.getD .skip) (by kernel_rfl) Tryz.ntmps41 (rs := Tryz.f41.results.toList) rfl (by simp) (fun G => ?_)
      repeat' first
        | refine J_seq ?_ | refine J_region Tryz.tyOK ?_ | refine J_block ?_ | refine J_cond ?_ | refine J_ret ?_ | refine J_skip ?_ | refine J_exit ?_ | refine J_scope ?_
        | refine CondP.yes (by omega) ?_ | refine CondP.no (by omega) ?_ | refine CondP.mk (fun h => ?_) (fun h => ?_) | refine EqP.mk rfl ?_ | refine NewP.mk (fun ad => ?_) | refine ArP.exact (by simp only [inR]; omega) ?_ | refine SideP.mk (by first | omega | (dsimp only; omega) | (simp; omega)) ?_
        | refine CallP.mk [_] [_] [] _ c1 (List.Perm.refl _) (fun _ _ => trivial) (fun v L' D' hp => ?_); obtain ⟨rfl, rfl, rfl⟩ := hp | refine AppE.row [_, _] [] [] ([s].map byteC) 1 rfl (SrcE.sl 5 5 _ _ _ _ [byteC s] rfl rfl (.inl ⟨1, List.Mem.head _⟩) rfl) (by show (0 + 1) * 1 ≤ _; decide) (fun a' c' => ?_) | refine setK_s1 ?_ | refine FinE.mk (bx 0 ab ty true a' c' ([] ++ [s]) rest) [] ⟨true, a', c', bxI_ne hls, rfl, rfl, rfl⟩ ?_
        | fail
      exact Ents.drop.trans (Ents.of (by unfold bx; simp))
  · have hu := bxI_used hi h0
    subst hu
    rw [bx_bw _ _ _ _ _ _ h0]
    exact (bwByte0 ab ty a c l s rest hb hl).mono fun v L D hp => bw_post hls hp
theorem bxByte_ok (id ab ty : Nat) (u : Bool) (a : Option Addr) (c : Nat) (l : List UInt8) (s : UInt8) (rest : List C) (hb : BTy ty rest.length) (hi : BxI u a c l) (hl : l.length + 1 ≤ 140737488355328) :
    FnS Tryz.prog 41 [.c (.p id ab 0), .c (byteC s)] (bx id ab ty u a c l rest) [] (BxP (.c (.raw .nilIface)) id ab ty (l ++ [s]) rest) :=
  (bxByte0 ab ty u a c l s rest hb hi hl).same rfl (bx_same _ _ _ _ _ _ _ _ _) fun v L1 D1 ⟨u', a', c', h0, h1, h2, h3⟩ => ⟨_, h2 ▸ bx_same 0 id ab ty u' a' c' (l ++ [s]) rest, u', a', c', h0, h1, rfl, h3⟩
theorem bxText0 (ab ty : Nat) (u : Bool) (a : Option Addr) (c : Nat) (l : List UInt8) (rest : List C) (hi : BxI u a c l) : FnS Tryz.prog 44 [.c (.p 0 ab 0)] (bx 0 ab ty u a c l rest) [] (Is (.c (.s l))) := by
  by_cases h0 : l = []
  · obtain ⟨rfl, rfl⟩ := hi.h2 h0
    subst h0
    cases u with
    | false =>
      have h := bwText0 ab ty none 0 [] rest
      rw [bw_nil] at h
      exact FnS.pre (bx_fresh 0 ab ty rest) h
    | true =>
      unfold bx
      refine fn_of_J Tryz.tyOK 7000 Tryz.func44 (by kernel_rfl) (c := Tryz.f44.body.getD .skip) (by kernel_rfl) Tryz.ntmps44 (rs := Tryz.f44.results.toList) rfl (by simp) (fun G => ?_)
      repeat' first
        | refine J_seq ?_ | refine J_region Tryz.tyOK ?_ | refine J_block ?_ | refine J_cond ?_ | refine J_ret ?_ | refine J_skip ?_ | refine J_exit ?_ | refine J_scope ?_
        | refine CondP.yes (by omega) ?_ | refine CondP.no (by omega) ?_ | refine CondP.mk (fun h => ?_) (fun h => ?_) | refine EqP.mk rfl ?_ | refine NewP.mk (fun ad => ?_) | refine ArP.exact (by simp only [inR]; omega) ?_ | refine SideP.mk (by first | omega | (dsimp only; omega) | (simp; omega)) ?_
        | refine J_drawS (id := 1) Tryz.tyOK (by kernel_rfl) [0, 1, 3, 7, 15, 0, 32, 96, 224, 480, 1023, 2047] [0, 1, 2, 3, 5, 6, 7, 8, 9, 4, 10, 11] [4, 10] [0] false (by kernel_rfl) ?_ | refine EntP.mk (Ents.ofSub (by repeat (first | exact List.Sublist.slnil | refine List.Sublist.cons_cons _ ?_ | refine List.Sublist.cons _ ?_)) (by first | exact fun _ h => h | exact fun _ _ => trivial | exact fun _ h => h.2 | exact fun _ h => h.2.2.2.2 | exact fun _ h => h.2.2 | exact fun _ h => h.2.2.2 | exact fun _ h => h.2.2.2.2.2 | exact fun _ h => h.2.2.2.2.2.2 | exact fun _ h => h.2.2.2.2.2.2.2 | exact fun _ h => h.2.2.2.2.2.2.2.2 | exact fun _ h => h.2.2.2.2.2.2.2.2.2 | exact fun _ h => h.2.2.2.2.2.2.2.2.2.2 | exact fun _ h => ((allD_append _ _).1 h).2)) ?_ | refine SlDataE.nil rfl ?_ | refine StrDataE.nil rfl rfl ?_ | refine FinE.str ?_
        | fail
      rfl
  · have hu := bxI_used hi h0
    subst hu
    rw [bx_bw _ _ _ _ _ _ h0]
    exact bwText0 ab ty a c l rest
theorem bxText_ok (id ab ty : Nat) (u : Bool) (a : Option Addr) (c : Nat) (l : List UInt8) (rest : List C) (hi : BxI u a c l) : FnS Tryz.prog 44 [.c (.p id ab 0)] (bx id ab ty u a c l rest) [] (Is (.c (.s l))) :=
  (bxText0 ab ty u a c l rest hi).same rfl (bx_same _ _ _ _ _ _ _ _ _) fun v L1 D1 h => ⟨L1, ⟨rfl, fun _ => Iff.rfl⟩, h⟩
end Go.Proofs
namespace Go.Proofs
open Go Go.X
set_option maxRecDepth 100000
inductive Inl where
  | mk (kind : Int) (text : List UInt8) (sp : Int) (name anchor : List UInt8) (ka : Option Addr) (kc : Nat) (kids : List Inl)
namespace Inl
def kind : Inl → Int | .mk k _ _ _ _ _ _ _ => k
def text : Inl → List UInt8 | .mk _ t _ _ _ _ _ _ => t
def sp : Inl → Int | .mk _ _ s _ _ _ _ _ => s
def name : Inl → List UInt8 | .mk _ _ _ n _ _ _ _ => n
def anchor : Inl → List UInt8 | .mk _ _ _ _ a _ _ _ => a
def ka : Inl → Option Addr | .mk _ _ _ _ _ a _ _ => a
def kc : Inl → Nat | .mk _ _ _ _ _ _ c _ => c
def kids : Inl → List Inl | .mk _ _ _ _ _ _ _ l => l
def cells (x : Inl) : List C := [.i .i64 x.kind, .s x.text, .i .i64 x.sp, .s x.name, .s x.anchor, .sl x.ka x.kids.length x.kc]
end Inl
inductive Blk where
  | mk (kind level : Int) (text : List UInt8) (ia : Option Addr) (ic : Nat) (inl : List Inl) (ka : Option Addr) (kc : Nat) (kids : List Blk)
namespace Blk
def kind : Blk → Int | .mk k _ _ _ _ _ _ _ _ => k
def level : Blk → Int | .mk _ v _ _ _ _ _ _ _ => v
def text : Blk → List UInt8 | .mk _ _ t _ _ _ _ _ _ => t
def ia : Blk → Option Addr | .mk _ _ _ a _ _ _ _ _ => a
def ic : Blk → Nat | .mk _ _ _ _ c _ _ _ _ => c
def inl : Blk → List Inl | .mk _ _ _ _ _ l _ _ _ => l
def ka : Blk → Option Addr | .mk _ _ _ _ _ _ a _ _ => a
def kc : Blk → Nat | .mk _ _ _ _ _ _ _ c _ => c
def kids : Blk → List Blk | .mk _ _ _ _ _ _ _ _ l => l
def cells (x : Blk) : List C := [.i .i64 x.kind, .i .i64 x.level, .s x.text, .sl x.ia x.inl.length x.ic, .sl x.ka x.kids.length x.kc]
end Blk
def inlC (l : List Inl) : List C := l.flatMap Inl.cells
def blkC (l : List Blk) : List C := l.flatMap Blk.cells
theorem inlC_len (l : List Inl) : (inlC l).length = l.length * 6 := flat_len (F := Inl.cells) (z := 6) (fun _ => rfl) l
theorem inlC_get {l : List Inl} {i : Nat} (h : i < l.length) {o k : Nat} (hk : o + k ≤ 6) : ((inlC l).drop (i * 6 + o)).take k = (l[i].cells.drop o).take k := flat_get (F := Inl.cells) (z := 6) (fun _ => rfl) h hk
theorem blkC_get {l : List Blk} {i : Nat} (h : i < l.length) {o k : Nat} (hk : o + k ≤ 5) : ((blkC l).drop (i * 5 + o)).take k = (l[i].cells.drop o).take k := flat_get (F := Blk.cells) (z := 5) (fun _ => rfl) h hk
mutual
def Inl.lies (m : Im) : Inl → Prop
  | .mk _ _ _ _ _ ka _ kids => SlF m 102 6 ka kids.length (inlC kids) ∧ inlsLie m kids
def inlsLie (m : Im) : List Inl → Prop
  | [] => True
  | x :: r => x.lies m ∧ inlsLie m r
end
mutual
def Blk.lies (m : Im) : Blk → Prop
  | .mk _ _ _ ia _ inl ka _ kids => (SlF m 102 6 ia inl.length (inlC inl) ∧ inlsLie m inl) ∧ SlF m 81 5 ka kids.length (blkC kids) ∧ blksLie m kids
def blksLie (m : Im) : List Blk → Prop
  | [] => True
  | x :: r => x.lies m ∧ blksLie m r
end
theorem slF_mono {m m' : Im} (hm : ∀ b o, m b = some o → m' b = some o) {e z n : Nat} {a : Option Addr} {cs : List C} (h : SlF m e z a n cs) : SlF m' e z a n cs := (slFact e z a n cs).mono m m' hm h
mutual
theorem Inl.lies_mono {m m' : Im} (hm : ∀ b o, m b = some o → m' b = some o) : ∀ x : Inl, x.lies m → x.lies m'
  | .mk _ _ _ _ _ _ _ kids, h => by unfold Inl.lies at h ⊢; exact ⟨slF_mono hm h.1, inlsLie_mono hm kids h.2⟩
theorem inlsLie_mono {m m' : Im} (hm : ∀ b o, m b = some o → m' b = some o) : ∀ l : List Inl, inlsLie m l → inlsLie m' l
  | [], _ => by unfold inlsLie; trivial
  | x :: r, h => by unfold inlsLie at h ⊢; exact ⟨Inl.lies_mono hm x h.1, inlsLie_mono hm r h.2⟩
end
mutual
theorem Blk.lies_mono {m m' : Im} (hm : ∀ b o, m b = some o → m' b = some o) : ∀ x : Blk, x.lies m → x.lies m'
  | .mk _ _ _ _ _ inl _ _ kids, h => by unfold Blk.lies at h ⊢; exact ⟨⟨slF_mono hm h.1.1, inlsLie_mono hm inl h.1.2⟩, slF_mono hm h.2.1, blksLie_mono hm kids h.2.2⟩
theorem blksLie_mono {m m' : Im} (hm : ∀ b o, m b = some o → m' b = some o) : ∀ l : List Blk, blksLie m l → blksLie m' l
  | [], _ => by unfold blksLie; trivial
  | x :: r, h => by unfold blksLie at h ⊢; exact ⟨Blk.lies_mono hm x h.1, blksLie_mono hm r h.2⟩
end
def inlF (a : Option Addr) (l : List Inl) : Fact := ⟨fun m => SlF m 102 6 a l.length (inlC l) ∧ inlsLie m l, fun _ _ hm h => ⟨slF_mono hm h.1, inlsLie_mono hm l h.2⟩⟩
def blkF (a : Option Addr) (l : List Blk) : Fact := ⟨fun m => SlF m 81 5 a l.length (blkC l) ∧ blksLie m l, fun _ _ hm h => ⟨slF_mono hm h.1, blksLie_mono hm l h.2⟩⟩
theorem inlsLie_mem {m : Im} : ∀ {l : List Inl} {x : Inl}, inlsLie m l → x ∈ l → x.lies m
  | y :: r, x, h, hx => by
    unfold inlsLie at h
    rcases List.mem_cons.1 hx with rfl | hx
    · exact h.1
    · exact inlsLie_mem h.2 hx
  | [], _, _, hx => by cases hx
theorem inlsLie_append {m : Im} : ∀ {l k : List Inl}, inlsLie m (l ++ k) ↔ inlsLie m l ∧ inlsLie m k
  | [], k => by simp [inlsLie]
  | x :: r, k => by simp only [List.cons_append, inlsLie, inlsLie_append (l := r), and_assoc]
theorem blksLie_mem {m : Im} : ∀ {l : List Blk} {x : Blk}, blksLie m l → x ∈ l → x.lies m
  | y :: r, x, h, hx => by
    unfold blksLie at h
    rcases List.mem_cons.1 hx with rfl | hx
    · exact h.1
    · exact blksLie_mem h.2 hx
  | [], _, _, hx => by cases hx
theorem blksLie_append {m : Im} : ∀ {l k : List Blk}, blksLie m (l ++ k) ↔ blksLie m l ∧ blksLie m k
  | [], k => by simp [blksLie]
  | x :: r, k => by simp only [List.cons_append, blksLie, blksLie_append (l := r), and_assoc]
theorem Inl.lies_kids {m : Im} {x : Inl} (h : x.lies m) : (inlF x.ka x.kids).p m := by cases x; unfold Inl.lies at h; exact h
theorem Blk.lies_inl {m : Im} {x : Blk} (h : x.lies m) : (inlF x.ia x.inl).p m := by cases x; unfold Blk.lies at h; exact h.1
theorem Blk.lies_kids {m : Im} {x : Blk} (h : x.lies m) : (blkF x.ka x.kids).p m := by cases x; unfold Blk.lies at h; exact h.2
theorem inl_kids {a : Option Addr} {l : List Inl} {i : Nat} (h : i < l.length) : ∀ m, allD m [inlF a l] → allD m [inlF l[i].ka l[i].kids] := fun _ hm => ⟨Inl.lies_kids (inlsLie_mem hm.1.2 (List.getElem_mem h)), trivial⟩
theorem blk_inl {a : Option Addr} {l : List Blk} {i : Nat} (h : i < l.length) : ∀ m, allD m [blkF a l] → allD m [inlF l[i].ia l[i].inl] := fun _ hm => ⟨Blk.lies_inl (blksLie_mem hm.1.2 (List.getElem_mem h)), trivial⟩
theorem blk_kids {a : Option Addr} {l : List Blk} {i : Nat} (h : i < l.length) : ∀ m, allD m [blkF a l] → allD m [blkF l[i].ka l[i].kids] := fun _ hm => ⟨Blk.lies_kids (blksLie_mem hm.1.2 (List.getElem_mem h)), trivial⟩
theorem inl_reads {a : Option Addr} {l : List Inl} {L : List Chunk} {D : List Fact} (h : ∀ m, allD m D → allD m [inlF a l]) : Reads L D 102 6 a l.length (inlC l) := .inr fun m hm => (h m hm).1.1
theorem blk_reads {a : Option Addr} {l : List Blk} {L : List Chunk} {D : List Fact} (h : ∀ m, allD m D → allD m [blkF a l]) : Reads L D 81 5 a l.length (blkC l) := .inr fun m hm => (h m hm).1.1
mutual
def Inl.nodes : Inl → Nat
  | .mk _ _ _ _ _ _ _ kids => 1 + inlNodes kids
def inlNodes : List Inl → Nat
  | [] => 0
  | x :: r => x.nodes + inlNodes r
end
mutual
def Blk.nodes : Blk → Nat
  | .mk _ _ _ _ _ inl _ _ kids => 1 + inlNodes inl + blkNodes kids
def blkNodes : List Blk → Nat
  | [] => 0
  | x :: r => x.nodes + blkNodes r
end
theorem Inl.nodes_eq (x : Inl) : x.nodes = 1 + inlNodes x.kids := by cases x; rw [Inl.nodes]; rfl
theorem Blk.nodes_eq (x : Blk) : x.nodes = 1 + inlNodes x.inl + blkNodes x.kids := by cases x; rw [Blk.nodes]; rfl
theorem inlNodes_append : ∀ (l k : List Inl), inlNodes (l ++ k) = inlNodes l + inlNodes k
  | [], k => by simp [inlNodes]
  | x :: r, k => by simp only [List.cons_append, inlNodes, inlNodes_append r k]; omega
theorem blkNodes_append : ∀ (l k : List Blk), blkNodes (l ++ k) = blkNodes l + blkNodes k
  | [], k => by simp [blkNodes]
  | x :: r, k => by simp only [List.cons_append, blkNodes, blkNodes_append r k]; omega
theorem inlNodes_succ {l : List Inl} {i : Nat} (h : i < l.length) : inlNodes (l.take (i + 1)) = inlNodes (l.take i) + (1 + inlNodes l[i].kids) := by
  rw [List.take_succ_eq_append_getElem h, inlNodes_append]
  simp only [inlNodes, Inl.nodes_eq]; omega
theorem blkNodes_succ {l : List Blk} {i : Nat} (h : i < l.length) : blkNodes (l.take (i + 1)) = blkNodes (l.take i) + (1 + inlNodes l[i].inl + blkNodes l[i].kids) := by
  rw [List.take_succ_eq_append_getElem h, blkNodes_append]
  simp only [blkNodes, Blk.nodes_eq]; omega
theorem inlNodes_take_le (l : List Inl) (i : Nat) : inlNodes (l.take i) ≤ inlNodes l := by
  have := inlNodes_append (l.take i) (l.drop i)
  rw [List.take_append_drop] at this; omega
theorem blkNodes_take_le (l : List Blk) (i : Nat) : blkNodes (l.take i) ≤ blkNodes l := by
  have := blkNodes_append (l.take i) (l.drop i)
  rw [List.take_append_drop] at this; omega
theorem inlNodes_len : ∀ l : List Inl, l.length ≤ inlNodes l
  | [] => Nat.le_refl _
  | x :: r => by
    have := inlNodes_len r
    simp only [inlNodes, Inl.nodes_eq, List.length_cons]; omega
theorem blkNodes_len : ∀ l : List Blk, l.length ≤ blkNodes l
  | [] => Nat.le_refl _
  | x :: r => by
    have := blkNodes_len r
    simp only [blkNodes, Blk.nodes_eq, List.length_cons]; omega
theorem inlNodes_kid {l : List Inl} {i : Nat} (h : i < l.length) : inlNodes l[i].kids < inlNodes l := by
  have := inlNodes_succ h
  have := inlNodes_take_le l (i + 1)
  omega
theorem blkNodes_kid {l : List Blk} {i : Nat} (h : i < l.length) : blkNodes l[i].kids + inlNodes l[i].inl < blkNodes l := by
  have := blkNodes_succ h
  have := blkNodes_take_le l (i + 1)
  omega
end Go.Proofs
