/- This text holds contracts of the Go library's functions at this program, laid by the kit's shelf (its plain mode). · This text gives the contracts of Go's library functions in the form of the symbolic executor. · This text says in plain Lean what the functions on titles compute. · This text walks through the functions of the package title, and shows what each computes. · This text says in plain Lean what the reference functions of chapter 1 compute, and links it to what the package title computes. · This text walks through the small functions of the reference of chapter 1. · This text walks through the functions prefixed, cut, blanks and Parts of the reference of chapter 1. · This text walks through the functions blanks and Parts of the reference of chapter 1. -/
import Derived.Shelf.Strings.Builder1
import Derived.Shelf.Strings.Builder2
import Derived.Shelf.Small.Utf8
import Derived.Shelf.Small.Bits
import Derived.Shelf.Small.Strs
import Derived.Shelf.Small.Wraps
import Derived.Shelf.Strings.BuilderF
import Derived.Shelf.Strings.BuilderK
import Derived.Shelf.Utf8.RuneCount
import Derived.Shelf.Strings.Builder2Cap
import Derived.Shelf.Strconv.Itoa0
import Derived.Shelf.Strconv.Itoa1
import Derived.Shelf.LaysM
import Derived.Shelf.Strconv.Itoa2
import Derived.Shelf.Strconv.Itoa3
import Derived.Shelf.Strings.Search1
import Derived.Shelf.Strings.Search2
import Derived.Shelf.Strings.Search3
import Derived.Shelf.Strings.Cut
import Derived.Shelf.Strings.Count
import Derived.Shelf.Strings.Shaped
import Derived.Shelf.Strings.Prefix
import Derived.Shelf.Strings.Split
import Derived.Shelf.Strings.Replace
import Derived.Shelf.Strings.SplitShaped
import Derived.Shelf.Unicode.Decode
import Derived.Shelf.Strings.Runes
import Derived.Shelf.Strings.RuneCount
import Derived.Shelf.Strings.IndexAny
import Derived.Shelf.Strings.AsciiSet
import Derived.Shelf.Strings.IndexAnyAll
import Derived.Shelf.Strings.Explode
import Derived.Shelf.Unicode.DecodeSlow
import Derived.Shelf.Unicode.DecodeAny
import Derived.Shelf.Strings.BuilderCap
import Derived.Ground.Names2Prog
import Derived.Shelf.Slices.SearchI
import Derived.Test.YtdnkeinjfddmnaaGreatDoorProg
import Derived.Test.YtdnkeinjfddmnaaGreatDoorV04
import Derived.Test.YtdnkeinjfddmnaaGreatDoorV05
import Derived.Lib.SlTrimSet
set_option linter.all false
namespace Go.Proofs
open Go.Shelf
def Tryz.lays137_ren : Go.Shelf.Ren := ⟨fun | 137 => 42 | 217 => 82 | 266 => 120 | n => n, fun | 9 => 9 | 5 => 5 | 3 => 3 | n => n, fun | n => n⟩
theorem Tryz.lays137 : Go.Proofs.Lays.n137 Tryz.prog Tryz.lays137_ren := {
  mixed := by kernel_rfl
  f137 := Tryz.func42.trans (congrArg some (by kernel_rfl))
  f217 := Tryz.func82.trans (congrArg some (by kernel_rfl))
  f266 := Tryz.func120.trans (congrArg some (by kernel_rfl))
  t3 := Tryz.underlying3
  a3 := Tryz.isAgg3
  z3 := Tryz.sizeOf3
  v3 := Tryz.zeroValue3
  t5 := Tryz.underlying5
  a5 := Tryz.isAgg5
  z5 := Tryz.sizeOf5
  v5 := Tryz.zeroValue5
  t9 := Tryz.underlying9
  a9 := Tryz.isAgg9
  z9 := Tryz.sizeOf9
  v9 := Tryz.zeroValue9 }
open Go.RowKit in
theorem Tryz.strings_IndexByte (s : ByteArray) (c : Int) (w : World) :
    Calls Tryz.prog 42 #[.string s, .int .u8 c] w fun e w' => e = .returned (.int .i64 (Lib.indexByte s.data.toList c.toNat.toUInt8)) ∧ w' = w := Any.strings_IndexByte Tryz.lays137 s c w
def Tryz.laysM171_ren : Go.Shelf.Ren := ⟨fun | 171 => 62 | 243 => 96 | 246 => 130 | 283 => 163 | 284 => 164 | 285 => 165 | 286 => 166 | 129 => 145 | 317 => 185 | 318 => 186 | 319 => 187 | 320 => 188 | 337 => 200 | 338 => 201 | n => n, fun | 3 => 3 | 9 => 9 | 2 => 2 | 4 => 4 | 171 => 207 | 0 => 0 | 53 => 184 | 37 => 64 | 5 => 5 | 173 => 209 | 212 => 239 | 51 => 118 | 20 => 20 | 213 => 240 | 46 => 74 | 232 => 255 | 233 => 256 | n => n, fun | 17 => 3 | 18 => 4 | 19 => 5 | n => n⟩
theorem Tryz.laysM171 : Go.Proofs.LaysM.n171 Tryz.prog Tryz.laysM171_ren := {
  mixed := by kernel_rfl
  f129 := Tryz.func145.trans (congrArg some (by kernel_rfl))
  f171 := Tryz.func62.trans (congrArg some (by kernel_rfl))
  f243 := Tryz.func96.trans (congrArg some (by kernel_rfl))
  f246 := Tryz.func130.trans (congrArg some (by kernel_rfl))
  f283 := Tryz.func163.trans (congrArg some (by kernel_rfl))
  f284 := Tryz.func164.trans (congrArg some (by kernel_rfl))
  f285 := Tryz.func165.trans (congrArg some (by kernel_rfl))
  f286 := Tryz.func166.trans (congrArg some (by kernel_rfl))
  f317 := Tryz.func185.trans (congrArg some (by kernel_rfl))
  f318 := Tryz.func186.trans (congrArg some (by kernel_rfl))
  f319 := Tryz.func187.trans (congrArg some (by kernel_rfl))
  f320 := Tryz.func188.trans (congrArg some (by kernel_rfl))
  f337 := Tryz.func200.trans (congrArg some (by kernel_rfl))
  f338 := Tryz.func201.trans (congrArg some (by kernel_rfl))
  t0 := Tryz.underlying0
  a0 := Tryz.isAgg0
  z0 := Tryz.sizeOf0
  v0 := Tryz.zeroValue0
  t2 := Tryz.underlying2
  a2 := Tryz.isAgg2
  z2 := Tryz.sizeOf2
  v2 := Tryz.zeroValue2
  t3 := Tryz.underlying3
  a3 := Tryz.isAgg3
  z3 := Tryz.sizeOf3
  v3 := Tryz.zeroValue3
  t4 := Tryz.underlying4
  a4 := Tryz.isAgg4
  z4 := Tryz.sizeOf4
  v4 := Tryz.zeroValue4
  t5 := Tryz.underlying5
  a5 := Tryz.isAgg5
  z5 := Tryz.sizeOf5
  v5 := Tryz.zeroValue5
  t9 := Tryz.underlying9
  a9 := Tryz.isAgg9
  z9 := Tryz.sizeOf9
  v9 := Tryz.zeroValue9
  t20 := Tryz.underlying20
  a20 := Tryz.isAgg20
  z20 := Tryz.sizeOf20
  v20 := Tryz.zeroValue20
  t37 := Tryz.underlying64
  a37 := Tryz.isAgg64
  z37 := Tryz.sizeOf64
  v37 := Tryz.zeroValue64
  t46 := Tryz.underlying74
  a46 := Tryz.isAgg74
  z46 := Tryz.sizeOf74
  v46 := Tryz.zeroValue74
  t51 := Tryz.underlying118
  a51 := Tryz.isAgg118
  z51 := Tryz.sizeOf118
  v51 := Tryz.zeroValue118
  t53 := Tryz.underlying184
  a53 := Tryz.isAgg184
  z53 := Tryz.sizeOf184
  v53 := Tryz.zeroValue184
  t171 := Tryz.underlying207
  a171 := Tryz.isAgg207
  z171 := Tryz.sizeOf207
  v171 := Tryz.zeroValue207
  t173 := Tryz.underlying209
  a173 := Tryz.isAgg209
  z173 := Tryz.sizeOf209
  v173 := Tryz.zeroValue209
  t212 := Tryz.underlying239
  a212 := Tryz.isAgg239
  z212 := Tryz.sizeOf239
  v212 := Tryz.zeroValue239
  t213 := Tryz.underlying240
  a213 := Tryz.isAgg240
  z213 := Tryz.sizeOf240
  t232 := Tryz.underlying255
  a232 := Tryz.isAgg255
  z232 := Tryz.sizeOf255
  v232 := Tryz.zeroValue255
  t233 := Tryz.underlying256
  a233 := Tryz.isAgg256
  z233 := Tryz.sizeOf256
  v233 := Tryz.zeroValue256
  g17 := by kernel_rfl
  g18 := by kernel_rfl
  g19 := by kernel_rfl
  i0 := by kernel_rfl
  i2 := by kernel_rfl
  i3 := by kernel_rfl
  i4 := by kernel_rfl
  i5 := by kernel_rfl
  i9 := by kernel_rfl
  i20 := by kernel_rfl
  i37 := by kernel_rfl
  i46 := by kernel_rfl
  i51 := by kernel_rfl
  i53 := by kernel_rfl
  i171 := by kernel_rfl
  i173 := by kernel_rfl
  i212 := by kernel_rfl
  i232 := by kernel_rfl
  i233 := by kernel_rfl
  m17 := by kernel_rfl
  m18 := by kernel_rfl
  m19 := by kernel_rfl }
open Go.RowKit Go.Sort Go.Lib in
theorem Tryz.strconv_Itoa (n : Int) (h0 : -9223372036854775808 ≤ n) (h1 : n ≤ 9223372036854775807) (w : World) (htab : Lib.TabIs Tryz.prog w "internal/strconv.uint64pow10" .u64 Lib.pow10Tab) :
    Calls Tryz.prog 62 #[.int .i64 n] w fun e w' => e = .returned (.string ⟨(Lib.itoa n).toArray⟩) ∧ ∃ k os, w' = grow (w.drewN k) os := Any.strconv_Itoa Tryz.laysM171 n h0 h1 w htab
def Tryz.lays145_ren : Go.Shelf.Ren := ⟨fun | 145 => 158 | 220 => 183 | 219 => 98 | 217 => 82 | 225 => 131 | 224 => 132 | 267 => 133 | 266 => 120 | 314 => 167 | n => n, fun | 9 => 9 | 4 => 4 | 59 => 202 | 3 => 3 | 5 => 5 | 46 => 74 | 146 => 211 | 51 => 118 | n => n, fun | 1 => 0 | n => n⟩
theorem Tryz.lays145 : Go.Proofs.Lays.n145 Tryz.prog Tryz.lays145_ren := {
  mixed := by kernel_rfl
  f145 := Tryz.func158.trans (congrArg some (by kernel_rfl))
  f217 := Tryz.func82.trans (congrArg some (by kernel_rfl))
  f219 := Tryz.func98.trans (congrArg some (by kernel_rfl))
  f220 := Tryz.func183.trans (congrArg some (by kernel_rfl))
  f224 := Tryz.func132.trans (congrArg some (by kernel_rfl))
  f225 := Tryz.func131.trans (congrArg some (by kernel_rfl))
  f266 := Tryz.func120.trans (congrArg some (by kernel_rfl))
  f267 := Tryz.func133.trans (congrArg some (by kernel_rfl))
  f314 := Tryz.func167.trans (congrArg some (by kernel_rfl))
  t3 := Tryz.underlying3
  a3 := Tryz.isAgg3
  z3 := Tryz.sizeOf3
  v3 := Tryz.zeroValue3
  t4 := Tryz.underlying4
  a4 := Tryz.isAgg4
  z4 := Tryz.sizeOf4
  v4 := Tryz.zeroValue4
  t5 := Tryz.underlying5
  a5 := Tryz.isAgg5
  z5 := Tryz.sizeOf5
  v5 := Tryz.zeroValue5
  t9 := Tryz.underlying9
  a9 := Tryz.isAgg9
  z9 := Tryz.sizeOf9
  v9 := Tryz.zeroValue9
  t46 := Tryz.underlying74
  a46 := Tryz.isAgg74
  z46 := Tryz.sizeOf74
  v46 := Tryz.zeroValue74
  t51 := Tryz.underlying118
  a51 := Tryz.isAgg118
  z51 := Tryz.sizeOf118
  v51 := Tryz.zeroValue118
  t59 := Tryz.underlying202
  a59 := Tryz.isAgg202
  z59 := Tryz.sizeOf202
  v59 := Tryz.zeroValue202
  t146 := Tryz.underlying211
  a146 := Tryz.isAgg211
  z146 := Tryz.sizeOf211
  v146 := Tryz.zeroValue211
  g1 := by kernel_rfl }
open Go.RowKit Go.Lib in
theorem Tryz.strings_Cut (s sep : ByteArray) (m : Int) (w : World) (hs : s.size < 4294967281) (hm : w.cell? ⟨0, 0, none⟩ = some (.int .i64 m)) :
    Calls Tryz.prog 158 #[.string s, .string sep] w fun e w' => e = .returned (.tuple #[.string ⟨(Lib.cut s.data.toList sep.data.toList).1.toArray⟩, .string ⟨(Lib.cut s.data.toList sep.data.toList).2.1.toArray⟩, .bool (Lib.cut s.data.toList sep.data.toList).2.2]) ∧ ∃ n, w' = w.drewN n := Any.strings_Cut Tryz.lays145 s sep m w hs hm
def Tryz.lays138_ren : Go.Shelf.Ren := ⟨fun | 138 => 25 | 195 => 65 | 218 => 66 | 143 => 64 | 219 => 98 | 217 => 82 | 225 => 131 | 224 => 132 | 267 => 133 | 266 => 120 | 314 => 167 | n => n, fun | 9 => 9 | 3 => 3 | 4 => 4 | 5 => 5 | 0 => 0 | 46 => 74 | 146 => 211 | 51 => 118 | n => n, fun | 1 => 0 | n => n⟩
theorem Tryz.lays138 : Go.Proofs.Lays.n138 Tryz.prog Tryz.lays138_ren := {
  mixed := by kernel_rfl
  f138 := Tryz.func25.trans (congrArg some (by kernel_rfl))
  f143 := Tryz.func64.trans (congrArg some (by kernel_rfl))
  f195 := Tryz.func65.trans (congrArg some (by kernel_rfl))
  f217 := Tryz.func82.trans (congrArg some (by kernel_rfl))
  f218 := Tryz.func66.trans (congrArg some (by kernel_rfl))
  f219 := Tryz.func98.trans (congrArg some (by kernel_rfl))
  f224 := Tryz.func132.trans (congrArg some (by kernel_rfl))
  f225 := Tryz.func131.trans (congrArg some (by kernel_rfl))
  f266 := Tryz.func120.trans (congrArg some (by kernel_rfl))
  f267 := Tryz.func133.trans (congrArg some (by kernel_rfl))
  f314 := Tryz.func167.trans (congrArg some (by kernel_rfl))
  t0 := Tryz.underlying0
  a0 := Tryz.isAgg0
  z0 := Tryz.sizeOf0
  v0 := Tryz.zeroValue0
  t3 := Tryz.underlying3
  a3 := Tryz.isAgg3
  z3 := Tryz.sizeOf3
  v3 := Tryz.zeroValue3
  t4 := Tryz.underlying4
  a4 := Tryz.isAgg4
  z4 := Tryz.sizeOf4
  v4 := Tryz.zeroValue4
  t5 := Tryz.underlying5
  a5 := Tryz.isAgg5
  z5 := Tryz.sizeOf5
  v5 := Tryz.zeroValue5
  t9 := Tryz.underlying9
  a9 := Tryz.isAgg9
  z9 := Tryz.sizeOf9
  v9 := Tryz.zeroValue9
  t46 := Tryz.underlying74
  a46 := Tryz.isAgg74
  z46 := Tryz.sizeOf74
  v46 := Tryz.zeroValue74
  t51 := Tryz.underlying118
  a51 := Tryz.isAgg118
  z51 := Tryz.sizeOf118
  v51 := Tryz.zeroValue118
  t146 := Tryz.underlying211
  a146 := Tryz.isAgg211
  z146 := Tryz.sizeOf211
  v146 := Tryz.zeroValue211
  g1 := by kernel_rfl }
open Go.RowKit Go.Lib in
theorem Tryz.strings_Count_one (s : ByteArray) (c : UInt8) (w : World) :
    Calls Tryz.prog 25 #[.string s, .string ⟨#[c]⟩] w fun e w' => e = .returned (.int .i64 (Lib.countByte s.data.toList c)) ∧ w' = w := Any.strings_Count_one Tryz.lays138 s c w
def Tryz.lays102_ren : Go.Shelf.Ren := ⟨fun | 102 => 160 | 209 => 184 | 207 => 199 | n => n, fun | 9 => 9 | 4 => 4 | 3 => 3 | n => n, fun | n => n⟩
theorem Tryz.lays102 : Go.Proofs.Lays.n102 Tryz.prog Tryz.lays102_ren := {
  mixed := by kernel_rfl
  f102 := Tryz.func160.trans (congrArg some (by kernel_rfl))
  f207 := Tryz.func199.trans (congrArg some (by kernel_rfl))
  f209 := Tryz.func184.trans (congrArg some (by kernel_rfl))
  t3 := Tryz.underlying3
  a3 := Tryz.isAgg3
  z3 := Tryz.sizeOf3
  v3 := Tryz.zeroValue3
  t4 := Tryz.underlying4
  a4 := Tryz.isAgg4
  z4 := Tryz.sizeOf4
  v4 := Tryz.zeroValue4
  t9 := Tryz.underlying9
  a9 := Tryz.isAgg9
  z9 := Tryz.sizeOf9
  v9 := Tryz.zeroValue9 }
open Go.RowKit Go.Lib in
theorem Tryz.strings_TrimSuffix (s p : ByteArray) (w : World) (hs : s.size ≤ 9223372036854775807) :
    Calls Tryz.prog 160 #[.string s, .string p] w fun e w' => e = .returned (.string ⟨(Lib.trimSuffix s.data.toList p.data.toList).toArray⟩) ∧ w' = w := Any.strings_TrimSuffix Tryz.lays102 s p w hs
def Tryz.lays146_ren : Go.Shelf.Ren := ⟨fun | 146 => 118 | 221 => 157 | 268 => 182 | 138 => 25 | 143 => 64 | 195 => 65 | 197 => 112 | 218 => 66 | 219 => 98 | 260 => 150 | 217 => 82 | 225 => 131 | 224 => 132 | 267 => 133 | 266 => 120 | 314 => 167 | n => n, fun | 9 => 9 | 31 => 60 | 3 => 3 | 4 => 4 | 0 => 0 | 105 => 158 | 21 => 21 | 5 => 5 | 46 => 74 | 119 => 194 | 139 => 222 | 138 => 221 | 146 => 211 | 51 => 118 | n => n, fun | 1 => 0 | 3 => 1 | 4 => 2 | n => n⟩
theorem Tryz.lays146 : Go.Proofs.Lays.n146 Tryz.prog Tryz.lays146_ren := {
  mixed := by kernel_rfl
  f138 := Tryz.func25.trans (congrArg some (by kernel_rfl))
  f143 := Tryz.func64.trans (congrArg some (by kernel_rfl))
  f146 := Tryz.func118.trans (congrArg some (by kernel_rfl))
  f195 := Tryz.func65.trans (congrArg some (by kernel_rfl))
  f197 := Tryz.func112.trans (congrArg some (by kernel_rfl))
  f217 := Tryz.func82.trans (congrArg some (by kernel_rfl))
  f218 := Tryz.func66.trans (congrArg some (by kernel_rfl))
  f219 := Tryz.func98.trans (congrArg some (by kernel_rfl))
  f221 := Tryz.func157.trans (congrArg some (by kernel_rfl))
  f224 := Tryz.func132.trans (congrArg some (by kernel_rfl))
  f225 := Tryz.func131.trans (congrArg some (by kernel_rfl))
  f260 := Tryz.func150.trans (congrArg some (by kernel_rfl))
  f266 := Tryz.func120.trans (congrArg some (by kernel_rfl))
  f267 := Tryz.func133.trans (congrArg some (by kernel_rfl))
  f268 := Tryz.func182.trans (congrArg some (by kernel_rfl))
  f314 := Tryz.func167.trans (congrArg some (by kernel_rfl))
  t0 := Tryz.underlying0
  a0 := Tryz.isAgg0
  z0 := Tryz.sizeOf0
  v0 := Tryz.zeroValue0
  t3 := Tryz.underlying3
  a3 := Tryz.isAgg3
  z3 := Tryz.sizeOf3
  v3 := Tryz.zeroValue3
  t4 := Tryz.underlying4
  a4 := Tryz.isAgg4
  z4 := Tryz.sizeOf4
  v4 := Tryz.zeroValue4
  t5 := Tryz.underlying5
  a5 := Tryz.isAgg5
  z5 := Tryz.sizeOf5
  v5 := Tryz.zeroValue5
  t9 := Tryz.underlying9
  a9 := Tryz.isAgg9
  z9 := Tryz.sizeOf9
  v9 := Tryz.zeroValue9
  t21 := Tryz.underlying21
  a21 := Tryz.isAgg21
  z21 := Tryz.sizeOf21
  v21 := Tryz.zeroValue21
  t31 := Tryz.underlying60
  a31 := Tryz.isAgg60
  z31 := Tryz.sizeOf60
  v31 := Tryz.zeroValue60
  t46 := Tryz.underlying74
  a46 := Tryz.isAgg74
  z46 := Tryz.sizeOf74
  v46 := Tryz.zeroValue74
  t51 := Tryz.underlying118
  a51 := Tryz.isAgg118
  z51 := Tryz.sizeOf118
  v51 := Tryz.zeroValue118
  t105 := Tryz.underlying158
  a105 := Tryz.isAgg158
  z105 := Tryz.sizeOf158
  v105 := Tryz.zeroValue158
  t119 := Tryz.underlying194
  a119 := Tryz.isAgg194
  z119 := Tryz.sizeOf194
  t138 := Tryz.underlying221
  a138 := Tryz.isAgg221
  z138 := Tryz.sizeOf221
  v138 := Tryz.zeroValue221
  t139 := Tryz.underlying222
  a139 := Tryz.isAgg222
  z139 := Tryz.sizeOf222
  v139 := Tryz.zeroValue222
  t146 := Tryz.underlying211
  a146 := Tryz.isAgg211
  z146 := Tryz.sizeOf211
  v146 := Tryz.zeroValue211
  g1 := by kernel_rfl
  g3 := by kernel_rfl
  g4 := by kernel_rfl }
open Go.RowKit Go.Lib in
theorem Tryz.strings_Split (s sep : ByteArray) (m : Int) (w : World) (hs : s.size < 4294967281) (hm : w.cell? ⟨0, 0, none⟩ = some (.int .i64 m)) (h1 : 1 ≤ sep.size) :
    Calls Tryz.prog 118 #[.string s, .string sep] w fun e w' =>
      e = .returned (.slice (some ⟨w.heap.size, 0, none⟩) (Lib.countB s sep + 1) (Lib.countB s sep + 1)) ∧ w' = w.alloc (.cells ((Lib.splitB sep 0 (Lib.countB s sep) s).map Value.string).toArray 9) := Any.strings_Split Tryz.lays146 (by kernel_rfl) s sep m w hs hm h1
end Go.Proofs
namespace Go.Proofs
open Go Go.X Go.RowKit Go.Shelf
theorem trimSuffix_ok (s p : List UInt8) (hs : s.length ≤ 9223372036854775807) : FnS Tryz.prog 160 [.c (.s s), .c (.s p)] [] [] (Is (.c (.s (Lib.trimSuffix s p)))) :=
  fn_pure ⟨_, Tryz.func160, by kernel_rfl, by kernel_rfl⟩ (fun w => Tryz.strings_TrimSuffix ⟨⟨s⟩⟩ ⟨⟨p⟩⟩ w hs)
theorem indexByte_ok (s : List UInt8) (c : UInt8) : FnS Tryz.prog 42 [.c (.s s), .c (.i .u8 c.toNat)] [] [] (Is (.c (.i .i64 (Lib.indexByte s c)))) :=
  fn_pure ⟨_, Tryz.func42, by kernel_rfl, by kernel_rfl⟩ (fun w => by
    have := Tryz.strings_IndexByte ⟨⟨s⟩⟩ c.toNat w
    simpa [V.enc, C.enc] using this)
theorem cut_ok (s sep : List UInt8) (hs : s.length < 4294967281) : FnS Tryz.prog 158 [.c (.s s), .c (.s sep)] [] [gInt 0]
    (Is (.t3 (.c (.s (Lib.cut s sep).1)) (.c (.s (Lib.cut s sep).2.1)) (.c (.b (Lib.cut s sep).2.2)))) :=
  fn_below ⟨_, Tryz.func158, by kernel_rfl, by kernel_rfl⟩ (fun w m hd hw => by
    obtain ⟨n, hn⟩ := gInt_cell hd hw
    refine (Tryz.strings_Cut ⟨⟨s⟩⟩ ⟨⟨sep⟩⟩ n w hs hn).mono ?_
    rintro e w' ⟨rfl, k, rfl⟩
    exact ⟨rfl, below_drewN w k⟩)
theorem cutOne_ok (s : List UInt8) (c : UInt8) (hs : s.length < 4294967281) : FnS Tryz.prog 158 [.c (.s s), .c (.s [c])] [] [gInt 0]
    (Is (.t3 (.c (.s (cutAt c s).1)) (.c (.s (cutAt c s).2.1)) (.c (.b (cutAt c s).2.2)))) := by
  rw [← cut_one]; exact cut_ok s [c] hs
theorem splitOne_ok (s : List UInt8) (c : UInt8) (hs : s.length < 4294967281) : FnS Tryz.prog 118 [.c (.s s), .c (.s [c])] [] [gInt 0]
    (fun v L D => ∃ g, v = .c (.sl (some ⟨g, 0, none⟩) (splitOn c s).length (splitOn c s).length) ∧
      L = [.row 9 1 (some ⟨g, 0, none⟩) (splitOn c s).length (splitOn c s).length ((splitOn c s).map C.s)] ∧ D = []) := by
  refine ⟨⟨_, Tryz.func118, by kernel_rfl, by kernel_rfl⟩, fun w m hh => ?_⟩
  obtain ⟨n, hn⟩ := gInt_cell hh.d (fun b o hb => (hh.im b o hb).1)
  refine (Tryz.strings_Split ⟨⟨s⟩⟩ ⟨⟨[c]⟩⟩ n w hs hn (Nat.le_refl 1)).mono ?_
  rintro e w' ⟨rfl, rfl⟩
  have hlen : (splitOn c s).length = Lib.countB ⟨⟨s⟩⟩ ⟨⟨[c]⟩⟩ + 1 := by
    have h1 := Lib.splitB_all ⟨⟨[c]⟩⟩ (Nat.le_refl 1) 0 (Lib.countB ⟨⟨s⟩⟩ ⟨⟨[c]⟩⟩) ⟨⟨s⟩⟩ rfl
    rw [← h1, ← splitK_one]
    show (Lib.splitK _ _ _ _).length = _
    rw [show Lib.splitK [c] 0 (Lib.count s [c]) s = Lib.splitK (ByteArray.mk ⟨[c]⟩).data.toList 0 (Lib.countB ⟨⟨s⟩⟩ ⟨⟨[c]⟩⟩) (ByteArray.mk ⟨s⟩).data.toList from rfl, ← Lib.splitB_data, List.length_map]
  have hcells : (Lib.splitB ⟨⟨[c]⟩⟩ 0 (Lib.countB ⟨⟨s⟩⟩ ⟨⟨[c]⟩⟩) ⟨⟨s⟩⟩).map Value.string = ((splitOn c s).map C.s).map C.enc := by
    rw [← splitK_one, show Lib.splitK [c] 0 (Lib.count s [c]) s = Lib.splitK (ByteArray.mk ⟨[c]⟩).data.toList 0 (Lib.countB ⟨⟨s⟩⟩ ⟨⟨[c]⟩⟩) (ByteArray.mk ⟨s⟩).data.toList from rfl, ← Lib.splitB_data,
      List.map_map, List.map_map]
    refine List.map_congr_left fun x _ => ?_
    obtain ⟨⟨x⟩⟩ := x
    rfl
  have h0 : Holds w m [] [] := ⟨hh.nd, hh.ok, hh.im, trivial⟩
  have hrow : Chunk.ok (w.alloc (.cells ((Lib.splitB ⟨⟨[c]⟩⟩ 0 (Lib.countB ⟨⟨s⟩⟩ ⟨⟨[c]⟩⟩) ⟨⟨s⟩⟩).map Value.string).toArray 9))
      (.row 9 1 (some ⟨w.heap.size, 0, none⟩) (splitOn c s).length (splitOn c s).length ((splitOn c s).map C.s)) := by
    refine ⟨fun x hx => ?_, .inr ⟨w.heap.size, rfl, _, 0, 0, heap_alloc_new w _, Nat.le_refl _, ?_, ?_, .inr (Nat.le_refl _), by simp, ?_⟩⟩
    · obtain ⟨y, _, rfl⟩ := List.mem_map.1 hx
      rfl
    · have := splitOn_length_le c s
      have h3 : (4294967281 : Nat) ≤ maxLen := by decide
      omega
    · rw [hcells]; simp
    · rw [hcells]; simp only [Nat.mul_one]; exact List.take_of_length_le (by simp)
  obtain ⟨h1, h2⟩ := holds_alloc h0 _ _ rfl hrow
  exact ⟨_, _, [], m, by rw [← hlen]; rfl, ⟨w.heap.size, rfl, rfl, rfl⟩, h1, h2⟩
end Go.Proofs
namespace Go.X
def lowB (b : UInt8) : UInt8 := if 65 ≤ b ∧ b ≤ 90 then b + 32 else b
theorem lowB_yes {b : UInt8} (h : 65 ≤ (b.toNat : Int)) (h' : (b.toNat : Int) ≤ 90) : ((lowB b).toNat : Int) = b.toNat + 32 := by
  have h1 : (65 : UInt8) ≤ b := by rw [UInt8.le_iff_toNat_le]; simp; omega
  have h2 : b ≤ (90 : UInt8) := by rw [UInt8.le_iff_toNat_le]; simp; omega
  unfold lowB
  rw [if_pos ⟨h1, h2⟩, UInt8.toNat_add]
  simp; omega
theorem lowB_no {b : UInt8} (h : ¬ (65 ≤ (b.toNat : Int) ∧ (b.toNat : Int) ≤ 90)) : lowB b = b := by
  unfold lowB
  rw [if_neg]
  rintro ⟨h1, h2⟩
  rw [UInt8.le_iff_toNat_le] at h1 h2
  simp at h1 h2
  omega
def spName : Nat → List UInt8
  | 1 => [84, 97, 108, 107]
  | 2 => [85, 115, 101, 114]
  | 3 => [84, 101, 109, 112, 108, 97, 116, 101]
  | 4 => [67, 97, 116, 101, 103, 111, 114, 121]
  | 5 => [80, 114, 111, 106, 101, 99, 116]
  | _ => []
def spaceNo (p : List UInt8) : Nat :=
  if p.map lowB = (spName 1).map lowB then 1 else if p.map lowB = (spName 2).map lowB then 2 else if p.map lowB = (spName 3).map lowB then 3
  else if p.map lowB = (spName 4).map lowB then 4 else if p.map lowB = (spName 5).map lowB then 5 else 0
def colonNo (s : List UInt8) : Nat := if (cutAt 58 s).2.2 = true then spaceNo (Lib.trimSuffix (cutAt 58 s).1 [32]) else 0
def behind (s : List UInt8) : List UInt8 := (cutAt 58 s).2.1
def badB (c : UInt8) : Bool := decide ((c.toNat : Int) < 32) || decide ((c.toNat : Int) = 127) || decide (0 ≤ Lib.indexByte [60, 62, 91, 93, 123, 125, 124, 35, 95] c)
def cleanB : Bool → List UInt8 → Bool
  | _, [] => true
  | p, c :: r => !badB c && !(p && c.toNat == 32) && cleanB (c.toNat == 32) r
def pieceOK (p : List UInt8) : Bool := !decide (p = []) && !decide (((p.getD 0 0).toNat : Int) = 32) && !decide (((p.getD ((p.length : Int) - 1).toNat 0).toNat : Int) = 32)
def headOK (s : List UInt8) : Bool := !decide (((s.getD 0 0).toNat : Int) = 58) && !(decide (97 ≤ ((s.getD 0 0).toNat : Int)) && decide (((s.getD 0 0).toNat : Int) ≤ 122))
def validT (sp : Int) (s : List UInt8) : Bool :=
  !decide (sp < 0) && !decide (6 ≤ sp) && !decide ((s.length : Int) < 1) && !decide (100 < (s.length : Int)) && cleanB false s && (splitOn 47 s).all pieceOK && headOK s && (!decide (sp = 0) || !decide (colonNo s ≠ 0))
theorem trimSuffix_le (s p : List UInt8) : (Lib.trimSuffix s p).length ≤ s.length := by
  unfold Lib.trimSuffix; split
  · simp
  · exact Nat.le_refl _
theorem cutAt_len1 (c : UInt8) : ∀ s : List UInt8, (cutAt c s).1.length ≤ s.length
  | [] => by simp [cutAt]
  | x :: r => by
    have := cutAt_len1 c r
    simp only [cutAt]; split <;> simp; omega
theorem validT_bounds {sp : Int} {s : List UInt8} (h : validT sp s = true) : 0 ≤ sp ∧ sp < 6 ∧ 1 ≤ s.length ∧ s.length ≤ 100 := by
  unfold validT at h
  simp only [Bool.and_eq_true, Bool.not_eq_true', decide_eq_false_iff_not] at h
  omega
def formatT (sp : Int) (s : List UInt8) : List UInt8 := if validT sp s = true then (if sp = 0 then s else spName sp.toNat ++ [58] ++ s) else []
theorem spName_le (n : Nat) : (spName n).length ≤ 8 := by unfold spName; split <;> decide
theorem formatT_le (sp : Int) (s : List UInt8) : (formatT sp s).length ≤ 109 := by
  unfold formatT
  split
  · rename_i h
    have h1 := validT_bounds h
    have h2 := spName_le sp.toNat
    split <;> simp <;> omega
  · simp
end Go.X
namespace Go.Proofs
open Go Go.X
set_option maxRecDepth 100000
theorem setC_one {l : List C} {i : Nat} {x : C} (h : i < l.length) : setC i [x] l = l.set i x := by
  rw [List.set_eq_take_append_cons_drop, if_pos h]; simp [setC]
def mixed (l : List UInt8) (i : Nat) : List UInt8 := (l.take i).map lowB ++ l.drop i
theorem mixed_get {l : List UInt8} {i : Nat} (h : i < l.length) : ((mixed l i).map byteC).drop i = byteC l[i] :: (l.drop (i + 1)).map byteC := by
  rw [← List.map_drop, mixed, List.drop_left' (by simp; omega), List.drop_eq_getElem_cons h, List.map_cons]
theorem mixed_len {l : List UInt8} {i : Nat} (h : i ≤ l.length) : (mixed l i).length = l.length := by simp [mixed]; omega
theorem mixed_succ {l : List UInt8} {i : Nat} (h : i < l.length) : (mixed l i).set i (lowB l[i]) = mixed l (i + 1) := by
  unfold mixed
  have hlen : ((l.take i).map lowB).length = i := by simp; omega
  rw [List.set_append_right _ _ (by omega), List.take_succ_eq_append_getElem h, hlen, Nat.sub_self, List.drop_eq_getElem_cons h, List.set_cons_zero, List.map_append]
  simp
theorem mixed_same {l : List UInt8} {i : Nat} (h : i < l.length) (h' : lowB l[i] = l[i]) : mixed l i = mixed l (i + 1) := by
  rw [← mixed_succ h, h']
  have := mixed_get h
  have hi : (mixed l i)[i]? = some l[i] := by
    have h2 := congrArg (fun x => x[0]?) this
    simp only [List.getElem?_drop, Nat.add_zero, List.getElem?_cons_zero, List.getElem?_map] at h2
    cases hx : (mixed l i)[i]? with
    | none => rw [hx] at h2; simp at h2
    | some u =>
      rw [hx] at h2
      simp [byteC] at h2
      have : u.toNat = l[i].toNat := by omega
      rw [UInt8.toNat_inj.1 this]
  obtain ⟨hlt, he⟩ := List.getElem?_eq_some_iff.1 hi
  rw [← he, List.set_getElem_self]
theorem fold_ok (l : List UInt8) (hl : l.length ≤ 1100000) : FnS Tryz.prog 159 [.c (.s l)] [] [] (Is (.c (.s (l.map lowB)))) := by
  refine fn_of_J Tryz.tyOK 0 Tryz.func159 (by kernel_rfl) (c := Tryz.f159.body.getD .skip) (by kernel_rfl) Tryz.ntmps159 (rs := Tryz.f159.results.toList) rfl (by simp) (fun G => ?_)
  repeat' first
    | refine J_seq ?_ | refine J_region Tryz.tyOK ?_ | refine J_block ?_ | refine J_cond ?_ | refine J_ret ?_ | refine J_skip ?_ | refine J_exit ?_ | refine J_scope ?_
    | refine CondP.yes (by omega) ?_ | refine CondP.no (by omega) ?_ | refine CondP.mk (fun h => ?_) (fun h => ?_) | refine EqP.mk rfl ?_ | refine NewP.mk (fun ad => ?_) | refine ArP.exact (by simp only [inR]; omega) ?_ | refine SideP.mk (by first | omega | (dsimp only; omega) | (simp; omega)) ?_
    | refine NewB.mk (fun ad c => ?_)
    | fail
  refine J_loop (α := Nat) (fun i => [(10, .c (.i .i64 i)), (9, lenV l.length), (8, .c (.sl (some ⟨ad, 0, none⟩) l.length c)), (3, .c (.sl (some ⟨ad, 0, none⟩) l.length c))])
    (fun i => [.row 5 1 (some ⟨ad, 0, none⟩) l.length c ((mixed l i).map byteC)]) (fun _ => []) 0 (fun i => i ≤ l.length) (fun i => l.length - i) (InFam.mk 0 (by omega) ?_ (Ents.of (by simp [mixed]))) (fun i hi => ?_)
  · repeat' first
      | exact SubE.nil | refine SubE.cons rfl ?_ ?_ | exact VEq.refl _ | refine VEq.int (by omega) | refine VEq.sl rfl (by first | rfl | omega | (rw [List.length_append]; rfl) | (simp; omega)) rfl
      | fail
  have hrd : Reads [.row 5 1 (some ⟨ad, 0, none⟩) l.length c ((mixed l i).map byteC)] [] 5 1 (some ⟨ad, 0, none⟩) l.length ((mixed l i).map byteC) := .inl ⟨c, by simp⟩
  by_cases hlt : i < l.length
  · have hb := (l[i]).toNat_lt
    have hg := mixed_get hlt
    repeat' first
      | refine J_seq ?_ | refine J_region Tryz.tyOK ?_ | refine J_block ?_ | refine J_cond ?_ | refine J_ret ?_ | refine J_skip ?_ | refine J_exit ?_ | refine J_scope ?_
      | refine CondP.yes (by omega) ?_ | refine CondP.no (by omega) ?_ | refine CondP.mk (fun h => ?_) (fun h => ?_) | refine EqP.mk rfl ?_ | refine NewP.mk (fun ad => ?_) | refine ArP.exact (by simp only [inR]; omega) ?_ | refine SideP.mk (by first | omega | (dsimp only; omega) | (simp; omega)) ?_
      | refine IdxE.mk 5 1 _ hrd (by omega) (by omega) ?_ | refine LoadE.mk 5 _ _ [byteC l[i]] hrd (by omega) (by omega) (by omega) (by simp [hg]) ?_ | (exfalso; omega)
      | fail
    · refine StoreE.mk [] [] 5 _ c _ ((mixed l (i + 1)).map byteC) rfl (by omega) (by omega) (by simp) ?_ ?_
      · rw [← mixed_succ hlt, List.map_set, ← setC_one (by simp [mixed_len hi, hlt]), byteC, lowB_yes (by assumption) (by assumption)]
        simp
      · repeat' first
          | refine J_seq ?_ | refine J_region Tryz.tyOK ?_ | refine J_block ?_ | refine J_cond ?_ | refine J_ret ?_ | refine J_skip ?_ | refine J_exit ?_ | refine J_scope ?_
          | refine CondP.yes (by omega) ?_ | refine CondP.no (by omega) ?_ | refine CondP.mk (fun h => ?_) (fun h => ?_) | refine EqP.mk rfl ?_ | refine NewP.mk (fun ad => ?_) | refine ArP.exact (by simp only [inR]; omega) ?_ | refine SideP.mk (by first | omega | (dsimp only; omega) | (simp; omega)) ?_
          | fail
        refine Round.mk (i + 1) (by omega) (by omega) ?_ (Ents.refl _ _)
        repeat' first
          | exact SubE.nil | refine SubE.cons rfl ?_ ?_ | exact VEq.refl _ | refine VEq.int (by omega) | refine VEq.sl rfl (by first | rfl | omega | (rw [List.length_append]; rfl) | (simp; omega)) rfl
          | fail
    all_goals
      refine Round.mk (i + 1) (by omega) (by omega) ?_ (Ents.of (by rw [mixed_same hlt (lowB_no (by omega))]))
      repeat' first
        | exact SubE.nil | refine SubE.cons rfl ?_ ?_ | exact VEq.refl _ | refine VEq.int (by omega) | refine VEq.sl rfl (by first | rfl | omega | (rw [List.length_append]; rfl) | (simp; omega)) rfl
        | fail
  · have hil : i = l.length := by omega
    subst hil
    repeat' first
      | refine J_seq ?_ | refine J_region Tryz.tyOK ?_ | refine J_block ?_ | refine J_cond ?_ | refine J_ret ?_ | refine J_skip ?_ | refine J_exit ?_ | refine J_scope ?_
      | refine CondP.yes (by omega) ?_ | refine CondP.no (by omega) ?_ | refine CondP.mk (fun h => ?_) (fun h => ?_) | refine EqP.mk rfl ?_ | refine NewP.mk (fun ad => ?_) | refine ArP.exact (by simp only [inR]; omega) ?_ | refine SideP.mk (by first | omega | (dsimp only; omega) | (simp; omega)) ?_
      | (exfalso; omega)
      | fail
    refine BytesE.mk 5 (l.map lowB) ?_ ?_
    · have : mixed l l.length = l.map lowB := by simp [mixed]
      rw [← this]; exact hrd
    · repeat' first
        | refine J_seq ?_ | refine J_region Tryz.tyOK ?_ | refine J_block ?_ | refine J_cond ?_ | refine J_ret ?_ | refine J_skip ?_ | refine J_exit ?_ | refine J_scope ?_
        | refine CondP.yes (by omega) ?_ | refine CondP.no (by omega) ?_ | refine CondP.mk (fun h => ?_) (fun h => ?_) | refine EqP.mk rfl ?_ | refine NewP.mk (fun ad => ?_) | refine ArP.exact (by simp only [inR]; omega) ?_ | refine SideP.mk (by first | omega | (dsimp only; omega) | (simp; omega)) ?_
        | exact FinE.is rfl
        | fail
theorem spaces_ok : FnS Tryz.prog 81 [] [] [] (Is (.agg [.s [], .s (spName 1), .s (spName 2), .s (spName 3), .s (spName 4), .s (spName 5)])) := by
  refine fn_of_J Tryz.tyOK 0 Tryz.func81 (by kernel_rfl) (c := Tryz.f81.body.getD .skip) (by kernel_rfl) Tryz.ntmps81 (rs := Tryz.f81.results.toList) rfl (by simp) (fun G => ?_)
  repeat' first
    | refine J_seq ?_ | refine J_region Tryz.tyOK ?_ | refine J_block ?_ | refine J_cond ?_ | refine J_ret ?_ | refine J_skip ?_ | refine J_exit ?_ | refine J_scope ?_
    | refine CondP.yes (by omega) ?_ | refine CondP.no (by omega) ?_ | refine CondP.mk (fun h => ?_) (fun h => ?_) | refine EqP.mk rfl ?_ | refine NewP.mk (fun ad => ?_) | refine ArP.exact (by simp only [inR]; omega) ?_ | refine SideP.mk (by first | omega | (dsimp only; omega) | (simp; omega)) ?_
    | exact FinE.is rfl
    | fail
theorem prefix_ok (s : List UInt8) (hs : s.length ≤ 1100000) : FnS Tryz.prog 119 [.c (.s s)] [] [gInt 0]
    (Is (.t3 (.c (.i .i64 (colonNo s))) (.c (.s (if colonNo s = 0 then [] else behind s))) (.c (.b (decide (colonNo s ≠ 0)))))) := by
  have h1 := cutAt_len1 58 s
  have h2 := trimSuffix_le (cutAt 58 s).1 [32]
  cases hc : (cutAt 58 s).2.2 with
  | false =>
    have e : colonNo s = 0 := by simp [colonNo, hc]
    refine fn_of_J Tryz.tyOK 0 Tryz.func119 (by kernel_rfl) (c := Tryz.f119.body.getD .skip) (by kernel_rfl) Tryz.ntmps119 (rs := Tryz.f119.results.toList) rfl (by simp) (fun G => ?_)
    repeat' first
      | refine J_seq ?_ | refine J_region Tryz.tyOK ?_ | refine J_block ?_ | refine J_cond ?_ | refine J_ret ?_ | refine J_skip ?_ | refine J_exit ?_ | refine J_scope ?_
      | refine CondP.yes (by omega) ?_ | refine CondP.no (by omega) ?_ | refine CondP.mk (fun h => ?_) (fun h => ?_) | refine EqP.mk rfl ?_ | refine NewP.mk (fun ad => ?_) | refine ArP.exact (by simp only [inR]; omega) ?_ | refine SideP.mk (by first | omega | (dsimp only; omega) | (simp; omega)) ?_
      | refine CallP.is (cutOne_ok s 58 (by omega)) ?_ | rw [hc]
      | fail
    refine FinE.is ?_
    simp only [e]; rfl
  | true =>
    have e : colonNo s = spaceNo (Lib.trimSuffix (cutAt 58 s).1 [32]) := by simp [colonNo, hc]
    refine fn_of_J Tryz.tyOK 0 Tryz.func119 (by kernel_rfl) (c := Tryz.f119.body.getD .skip) (by kernel_rfl) Tryz.ntmps119 (rs := Tryz.f119.results.toList) rfl (by simp) (fun G => ?_)
    repeat' first
      | refine J_seq ?_ | refine J_region Tryz.tyOK ?_ | refine J_block ?_ | refine J_cond ?_ | refine J_ret ?_ | refine J_skip ?_ | refine J_exit ?_ | refine J_scope ?_
      | refine CondP.yes (by omega) ?_ | refine CondP.no (by omega) ?_ | refine CondP.mk (fun h => ?_) (fun h => ?_) | refine EqP.mk rfl ?_ | refine NewP.mk (fun ad => ?_) | refine ArP.exact (by simp only [inR]; omega) ?_ | refine SideP.mk (by first | omega | (dsimp only; omega) | (simp; omega)) ?_
      | refine CallP.is (cutOne_ok s 58 (by omega)) ?_ | rw [hc] | refine CallP.is (trimSuffix_ok _ [32] (by omega)) ?_ | refine CallP.is (fold_ok _ (Nat.le_trans h2 (Nat.le_trans h1 hs))) ?_ | refine CallP.is (fold_ok _ (by decide)) ?_ | refine CallP.is spaces_ok ?_ | refine J_rounds 7 ?_ | refine JR_succ ?_ | refine IdxA.mk _ (by omega) (by omega) rfl rfl ?_ | refine FinE.is ?_
      | fail
    all_goals
      have hk := e
      unfold spaceNo at hk
      repeat (first | rw [if_pos (by assumption)] at hk | rw [if_neg (by assumption)] at hk)
      simp only [hk]
      rfl
def pv (s : List UInt8) (i : Nat) : Bool := decide (0 < (i : Int)) && decide (((s.getD ((i : Int) - 1).toNat 0).toNat : Int) = 32)
theorem drop_getD {s : List UInt8} {i : Nat} (h : i < s.length) : s.drop i = s.getD i 0 :: s.drop (i + 1) := by
  rw [List.drop_eq_getElem_cons h]; simp [h]
theorem clean_step {s : List UInt8} {i : Nat} (h : i < s.length) :
    cleanB (pv s i) (s.drop i) = (!badB (s.getD i 0) && !(pv s i && decide (((s.getD i 0).toNat : Int) = 32)) && cleanB (pv s (i + 1)) (s.drop (i + 1))) := by
  have e : pv s (i + 1) = ((s.getD i 0).toNat == 32) := by
    have h1 : (((i + 1 : Nat) : Int) - 1).toNat = i := by omega
    have h2 : (0 : Int) < ((i + 1 : Nat) : Int) := by omega
    unfold pv
    rw [h1, decide_eq_true h2, Bool.true_and]
    rw [Bool.eq_iff_iff]; simp; omega
  have e2 : decide (((s.getD i 0).toNat : Int) = 32) = ((s.getD i 0).toNat == 32) := by rw [Bool.eq_iff_iff]; simp; omega
  rw [drop_getD h, cleanB, e, e2]
theorem clean_ok (s : List UInt8) (hs : s.length ≤ 1100000) : FnS Tryz.prog 117 [.c (.s s)] [] [] (Is (.c (.b (cleanB false s)))) := by
  refine fn_of_J Tryz.tyOK 0 Tryz.func117 (by kernel_rfl) (c := Tryz.f117.body.getD .skip) (by kernel_rfl) Tryz.ntmps117 (rs := Tryz.f117.results.toList) rfl (by simp) (fun G => ?_)
  repeat' first
    | refine J_seq ?_ | refine J_region Tryz.tyOK ?_ | refine J_block ?_ | refine J_cond ?_ | refine J_ret ?_ | refine J_skip ?_ | refine J_exit ?_ | refine J_scope ?_
    | refine CondP.yes (by omega) ?_ | refine CondP.no (by omega) ?_ | refine CondP.mk (fun h => ?_) (fun h => ?_) | refine EqP.mk rfl ?_ | refine NewP.mk (fun ad => ?_) | refine ArP.exact (by simp only [inR]; omega) ?_ | refine SideP.mk (by first | omega | (dsimp only; omega) | (simp; omega)) ?_
    | fail
  refine J_loop (α := Nat) (fun i => [(0, .c (.s s)), (3, .c (.i .i64 i))]) (fun _ => []) (fun _ => []) 0 (fun i => i ≤ s.length ∧ cleanB false s = cleanB (pv s i) (s.drop i)) (fun i => s.length - i)
    (InFam.mk 0 ⟨by omega, by simp [pv]⟩ ?_ (Ents.refl _ _)) (fun i hi => ?_)
  · repeat' first
      | exact SubE.nil | refine SubE.cons rfl ?_ ?_ | exact VEq.refl _ | refine VEq.int (by omega) | refine VEq.sl rfl (by first | rfl | omega | (rw [List.length_append]; rfl) | (simp; omega)) rfl
      | fail
  obtain ⟨hi, hcl⟩ := hi
  by_cases hlt : i < s.length
  · have hst := clean_step hlt
    have hb := (s.getD i 0).toNat_lt
    repeat' first
      | refine J_seq ?_ | refine J_region Tryz.tyOK ?_ | refine J_block ?_ | refine J_cond ?_ | refine J_ret ?_ | refine J_skip ?_ | refine J_exit ?_ | refine J_scope ?_
      | refine CondP.yes (by omega) ?_ | refine CondP.no (by omega) ?_ | refine CondP.mk (fun h => ?_) (fun h => ?_) | refine EqP.mk rfl ?_ | refine NewP.mk (fun ad => ?_) | refine ArP.exact (by simp only [inR]; omega) ?_ | refine SideP.mk (by first | omega | (dsimp only; omega) | (simp; omega)) ?_
      | refine CallP.is (indexByte_ok [60, 62, 91, 93, 123, 125, 124, 35, 95] (s.getD i 0)) ?_ | refine FinE.bool ?_ | refine Round.mk (i + 1) (by omega) ⟨by omega, ?_⟩ (by repeat' first | exact SubE.nil | refine SubE.cons rfl ?_ ?_ | exact VEq.refl _ | refine VEq.int (by omega) | refine VEq.sl rfl (by first | rfl | omega | (rw [List.length_append]; rfl) | (simp; omega)) rfl) (Ents.refl _ _)
      | fail
    all_goals simp only [Int.toNat_natCast] at *
    all_goals rw [hcl, hst]
    all_goals (clear hcl hst; (try simp only [Int.toNat_natCast, Int.toNat_zero] at *); simp only [badB, pv, *, decide_true, decide_false, Bool.true_and, Bool.false_and, Bool.and_true, Bool.and_false, Bool.not_true, Bool.not_false, Bool.true_or, Bool.false_or, Bool.or_true, Bool.or_false, not_true, not_false_eq_true, ne_eq, if_true, if_false, Bool.false_eq_true]; try rfl)
  · have hil : i = s.length := by omega
    subst hil
    repeat' first
      | refine J_seq ?_ | refine J_region Tryz.tyOK ?_ | refine J_block ?_ | refine J_cond ?_ | refine J_ret ?_ | refine J_skip ?_ | refine J_exit ?_ | refine J_scope ?_
      | refine CondP.yes (by omega) ?_ | refine CondP.no (by omega) ?_ | refine CondP.mk (fun h => ?_) (fun h => ?_) | refine EqP.mk rfl ?_ | refine NewP.mk (fun ad => ?_) | refine ArP.exact (by simp only [inR]; omega) ?_ | refine SideP.mk (by first | omega | (dsimp only; omega) | (simp; omega)) ?_
      | refine FinE.bool ?_
      | fail
    rw [hcl]; simp [cleanB]
end Go.Proofs
namespace Go.X
open Go.Lib
def refIdx (s t : List UInt8) (i : Nat) : Int := if index (s.drop i) t = -1 then -1 else index (s.drop i) t + i
theorem slice_mid (s : List UInt8) (i n : Nat) : (s.take (i + n)).drop i = (s.drop i).take n := by
  rw [List.drop_take]; congr 1; omega
theorem pre_iff (s t : List UInt8) : t.isPrefixOf s = true ↔ s.take t.length = t := by
  rw [List.isPrefixOf_iff_prefix, List.prefix_iff_eq_take]
  exact eq_comm
theorem refIdx_hit {s t : List UInt8} {i : Nat} (ht : 1 ≤ t.length) (h : i + t.length ≤ s.length) (he : (s.take (i + t.length)).drop i = t) : refIdx s t i = i := by
  rw [slice_mid] at he
  have hp := (pre_iff (s.drop i) t).2 he
  have : index (s.drop i) t = 0 := by
    cases hs : s.drop i with
    | nil => have := congrArg List.length hs; simp at this; omega
    | cons b r => rw [hs] at hp; simp [index, hp]
  simp [refIdx, this]
theorem refIdx_miss {s t : List UInt8} {i : Nat} (ht : 1 ≤ t.length) (h : i + t.length ≤ s.length) (he : ¬ (s.take (i + t.length)).drop i = t) : refIdx s t i = refIdx s t (i + 1) := by
  rw [slice_mid] at he
  have hp : t.isPrefixOf (s.drop i) = false := by
    cases hx : t.isPrefixOf (s.drop i) with
    | false => rfl
    | true => exact absurd ((pre_iff _ _).1 hx) he
  have hd : s.drop (i + 1) = (s.drop i).tail := by rw [List.tail_drop]
  unfold refIdx
  rw [hd]
  cases hs : s.drop i with
  | nil => have := congrArg List.length hs; simp at this; omega
  | cons b r =>
    rw [hs] at hp
    have hge := index_ge r t
    have e : index (b :: r) t = if index r t = -1 then -1 else index r t + 1 := by simp [index, hp]
    rw [e, List.tail_cons]
    by_cases hm : index r t = -1
    · simp [hm]
    · rw [if_neg hm, if_neg hm, if_neg (by omega)]; omega
theorem refIdx_end {s t : List UInt8} {i : Nat} (ht : 1 ≤ t.length) (h : ¬ i + t.length ≤ s.length) : refIdx s t i = -1 := by
  have : index (s.drop i) t = -1 := by
    have hge := index_ge (s.drop i) t
    by_cases hx : index (s.drop i) t = -1
    · exact hx
    · have := index_room (s.drop i) t (by omega)
      simp at this; omega
  simp [refIdx, this]
theorem index_cut (c : UInt8) : ∀ s : List UInt8, index s [c] = if (cutAt c s).2.2 = true then ((cutAt c s).1.length : Int) else -1
  | [] => by simp [index_nil, cutAt]
  | x :: r => by
    have ih := index_cut c r
    by_cases h : x = c
    · subst h; simp [index_same, cutAt]
    · rw [index_other h, ih]
      simp only [cutAt, if_neg h]
      by_cases hc : (cutAt c r).2.2 = true
      · rw [if_pos hc, if_pos hc, if_neg (by omega)]; simp
      · rw [if_neg hc, if_neg hc, if_pos rfl]
theorem cutAt_take (c : UInt8) : ∀ s : List UInt8, s.take (cutAt c s).1.length = (cutAt c s).1
  | [] => by simp [cutAt]
  | x :: r => by
    have ih := cutAt_take c r
    simp only [cutAt]; split
    · simp
    · simp [ih]
theorem index_byte (c : UInt8) : ∀ l : List UInt8, index l [c] = indexByte l c
  | [] => by simp [index_nil, indexByte]
  | x :: r => by
    have ih := index_byte c r
    by_cases h : x = c
    · subst h; simp [index_same, indexByte]
    · rw [index_other h, ih]
      simp only [indexByte, beq_iff_eq, if_neg h]
theorem refIdx_byte (l : List UInt8) (c : UInt8) : refIdx l [c] 0 = indexByte l c := by
  rw [← index_byte]
  unfold refIdx
  rw [List.drop_zero]
  split
  · rename_i h; rw [h]
  · omega
def noEnd (p : List UInt8) : List UInt8 := if (decide (0 < (p.length : Int)) && decide (((p.getD ((p.length : Int) - 1).toNat 0).toNat : Int) = 32)) = true then p.take ((p.length : Int) - 1).toNat else p
theorem noEnd_eq (p : List UInt8) : noEnd p = trimSuffix p [32] := by
  have key : (decide (0 < (p.length : Int)) && decide (((p.getD ((p.length : Int) - 1).toNat 0).toNat : Int) = 32)) = hasSuffix p [32] := by
    rcases List.eq_nil_or_concat p with rfl | ⟨q, x, rfl⟩
    · rfl
    · have e : (((q.concat x).length : Int) - 1).toNat = q.length := by simp
      rw [e]
      have h1 : (q.concat x).getD q.length 0 = x := by simp
      rw [h1]
      rw [Bool.eq_iff_iff]
      simp only [Bool.and_eq_true, decide_eq_true_eq, hasSuffix, List.isSuffixOf_iff_suffix, List.concat_eq_append]
      constructor
      · rintro ⟨_, h⟩
        have : x = 32 := UInt8.toNat_inj.1 (by simpa using Int.ofNat.inj h)
        subst this
        exact List.suffix_append _ _
      · rintro ⟨t, ht⟩
        have := List.append_inj_right' ht (by simp)
        simp at this
        subst this
        simp
  unfold noEnd trimSuffix
  rw [key]
  cases hs : hasSuffix p [32] with
  | false => simp
  | true =>
    simp only [if_true, List.length_singleton]
    congr 1
    omega
theorem slice_one {s : List UInt8} {i : Nat} (h : i < s.length) : (s.take (i + 1)).drop i = [s.getD i 0] := by
  rw [slice_mid, List.drop_eq_getElem_cons h]
  simp only [List.take_succ_cons, List.take_zero]
  simp [h]
theorem splitOn_snoc (c x : UInt8) : ∀ l : List UInt8, splitOn c (l ++ [x]) = if x = c then splitOn c l ++ [[]] else (splitOn c l).dropLast ++ [(splitOn c l).getLastD [] ++ [x]]
  | [] => by simp only [List.nil_append, splitOn]; split <;> rfl
  | y :: r => by
    have ih := splitOn_snoc c x r
    have e := splitOn_eq c r
    simp only [List.cons_append, splitOn]
    rw [ih]
    by_cases hx : x = c
    · simp only [if_pos hx]
      by_cases hy : y = c
      · simp [hy]
      · simp only [if_neg hy]
        rw [e]; rfl
    · simp only [if_neg hx]
      cases ht : (splitOn c r).tail with
      | nil =>
        rw [ht] at e
        by_cases hy : y = c
        · simp only [if_pos hy]; rw [e]; rfl
        · simp only [if_neg hy]; rw [e]; rfl
      | cons z t =>
        rw [ht] at e
        by_cases hy : y = c
        · simp only [if_pos hy]; rw [e]; simp [List.getLastD]
        · simp only [if_neg hy]; rw [e]; simp [List.getLastD]
end Go.X
namespace Go.Proofs
open Go Go.X
set_option maxRecDepth 100000
theorem lower_ok (b : UInt8) : FnS Tryz.prog 135 [.c (byteC b)] [] [] (Is (.c (byteC (lowB b)))) := by
  have hb := b.toNat_lt
  refine fn_of_J Tryz.tyOK 0 Tryz.func135 (by kernel_rfl) (c := Tryz.f135.body.getD .skip) (by kernel_rfl) Tryz.ntmps135 (rs := Tryz.f135.results.toList) rfl (by simp) (fun G => ?_)
  repeat' first
    | refine J_seq ?_ | refine J_region Tryz.tyOK ?_ | refine J_block ?_ | refine J_cond ?_ | refine J_ret ?_ | refine J_skip ?_ | refine J_exit ?_ | refine J_scope ?_
    | refine CondP.yes (by omega) ?_ | refine CondP.no (by omega) ?_ | refine CondP.mk (fun h => ?_) (fun h => ?_) | refine EqP.mk rfl ?_ | refine NewP.mk (fun ad => ?_) | refine ArP.exact (by simp only [inR]; omega) ?_ | refine SideP.mk (by first | omega | (dsimp only; omega) | (simp; omega)) ?_
    | refine FinE.is ?_
    | fail
  · rw [byteC, lowB_yes (by assumption) (by assumption)]
  · rw [lowB_no (by omega)]
  · rw [lowB_no (by omega)]
theorem low_same {a b : UInt8} : ((lowB a).toNat : Int) = (lowB b).toNat ↔ lowB a = lowB b :=
  ⟨fun h => UInt8.toNat_inj.1 (by omega), fun h => by rw [h]⟩
theorem map_take_succ {f : UInt8 → UInt8} {a : List UInt8} {i : Nat} (h : i < a.length) : (a.take (i + 1)).map f = (a.take i).map f ++ [f (a.getD i 0)] := by
  rw [List.take_succ_eq_append_getElem h, List.map_append]; simp [h]
theorem sameLetters_ok (a b : List UInt8) (ha : a.length ≤ 1100000) : FnS Tryz.prog 103 [.c (.s a), .c (.s b)] [] [] (Is (.c (.b (decide (a.map lowB = b.map lowB))))) := by
  refine fn_of_J Tryz.tyOK 0 Tryz.func103 (by kernel_rfl) (c := Tryz.f103.body.getD .skip) (by kernel_rfl) Tryz.ntmps103 (rs := Tryz.f103.results.toList) rfl (by simp) (fun G => ?_)
  repeat' first
    | refine J_stop (c := .seq (.seq (.region 3 _ _) _) _) ?_
    | refine J_seq ?_ | refine J_region Tryz.tyOK ?_ | refine J_block ?_ | refine J_cond ?_ | refine J_ret ?_ | refine J_skip ?_ | refine J_exit ?_ | refine J_scope ?_
    | refine CondP.yes (by omega) ?_ | refine CondP.no (by omega) ?_ | refine CondP.mk (fun h => ?_) (fun h => ?_) | refine EqP.mk rfl ?_ | refine NewP.mk (fun ad => ?_) | refine ArP.exact (by simp only [inR]; omega) ?_ | refine SideP.mk (by first | omega | (dsimp only; omega) | (simp; omega)) ?_
    | refine FinE.bool ?_
    | fail
  rotate_left
  · refine decide_eq_false fun h => ?_
    have := congrArg List.length h
    simp at this; omega
  refine ⟨?_⟩
  refine J_seq ?_
  repeat' first
    | refine J_seq ?_ | refine J_region Tryz.tyOK ?_ | refine J_block ?_ | refine J_cond ?_ | refine J_ret ?_ | refine J_skip ?_ | refine J_exit ?_ | refine J_scope ?_
    | refine CondP.yes (by omega) ?_ | refine CondP.no (by omega) ?_ | refine CondP.mk (fun h => ?_) (fun h => ?_) | refine EqP.mk rfl ?_ | refine NewP.mk (fun ad => ?_) | refine ArP.exact (by simp only [inR]; omega) ?_ | refine SideP.mk (by first | omega | (dsimp only; omega) | (simp; omega)) ?_
    | fail
    | fail
  refine J_loop (α := Nat) (fun i => [(0, .c (.s a)), (1, .c (.s b)), (5, .c (.i .i64 i))]) (fun _ => []) (fun _ => []) 0 (fun i => i ≤ a.length ∧ (a.take i).map lowB = (b.take i).map lowB) (fun i => a.length - i)
    (InFam.mk 0 ⟨by omega, rfl⟩ (by repeat' first | exact SubE.nil | refine SubE.cons rfl ?_ ?_ | exact VEq.refl _ | refine VEq.int (by omega) | refine VEq.sl rfl (by first | rfl | omega | (rw [List.length_append]; rfl) | (simp; omega)) rfl) (Ents.refl _ _)) (fun i hi => ?_)
  obtain ⟨hi, hal⟩ := hi
  by_cases hlt : i < a.length
  · have h1 := map_take_succ (f := lowB) hlt
    have h2 := map_take_succ (f := lowB) (a := b) (i := i) (by omega)
    repeat' first
      | refine J_seq ?_ | refine J_region Tryz.tyOK ?_ | refine J_block ?_ | refine J_cond ?_ | refine J_ret ?_ | refine J_skip ?_ | refine J_exit ?_ | refine J_scope ?_
      | refine CondP.yes (by omega) ?_ | refine CondP.no (by omega) ?_ | refine CondP.mk (fun h => ?_) (fun h => ?_) | refine EqP.mk rfl ?_ | refine NewP.mk (fun ad => ?_) | refine ArP.exact (by simp only [inR]; omega) ?_ | refine SideP.mk (by first | omega | (dsimp only; omega) | (simp; omega)) ?_
      | refine J_draw Tryz.tyOK (by kernel_rfl) [0, 1, 2, 3, 4, 5, 6, 7, 8] [] _ _ (by kernel_rfl) (Ents.refl _ _) ?_ | refine CallQ.mk [] _ (lower_ok _) (fun _ _ => trivial) ?_ | refine Round.mk (i + 1) (by omega) ⟨by omega, ?_⟩ (by repeat' first | exact SubE.nil | refine SubE.cons rfl ?_ ?_ | exact VEq.refl _ | refine VEq.int (by omega) | refine VEq.sl rfl (by first | rfl | omega | (rw [List.length_append]; rfl) | (simp; omega)) rfl) (Ents.refl _ _) | refine FinE.bool ?_
      | fail
    · have h5 : lowB (a.getD i 0) = lowB (b.getD i 0) := low_same.1 (by assumption)
      rw [h1, h2, hal, h5]
    · refine decide_eq_false fun hh => ?_
      have h3 : (a.take (i + 1)).map lowB = (b.take (i + 1)).map lowB := by rw [List.map_take, List.map_take, hh]
      rw [h1, h2, hal] at h3
      have h4 := List.append_cancel_left h3
      simp only [List.cons.injEq, and_true] at h4
      have h5 := low_same.2 h4
      exact absurd h5 (by assumption)
  · have hil : i = a.length := by omega
    subst hil
    repeat' first
      | refine J_seq ?_ | refine J_region Tryz.tyOK ?_ | refine J_block ?_ | refine J_cond ?_ | refine J_ret ?_ | refine J_skip ?_ | refine J_exit ?_ | refine J_scope ?_
      | refine CondP.yes (by omega) ?_ | refine CondP.no (by omega) ?_ | refine CondP.mk (fun h => ?_) (fun h => ?_) | refine EqP.mk rfl ?_ | refine NewP.mk (fun ad => ?_) | refine ArP.exact (by simp only [inR]; omega) ?_ | refine SideP.mk (by first | omega | (dsimp only; omega) | (simp; omega)) ?_
      | refine FinE.bool ?_
      | fail
    refine decide_eq_true ?_
    rw [List.take_length, List.take_of_length_le (by omega)] at hal
    exact hal
theorem spaceName_ok (n : Int) : FnS Tryz.prog 83 [.c (.i .i64 n)] [] [] (Is (.c (.s (spName n.toNat)))) := by
  have hlo : n < 0 → spName n.toNat = [] := fun h => by rw [show n.toNat = 0 by omega]; rfl
  have hhi : 6 ≤ n → spName n.toNat = [] := fun h => by
    obtain ⟨k, hk⟩ : ∃ k, n.toNat = k + 6 := ⟨n.toNat - 6, by omega⟩
    rw [hk]; rfl
  have hid : 0 ≤ n → n < 6 → ([C.s [], .s (spName 1), .s (spName 2), .s (spName 3), .s (spName 4), .s (spName 5)].drop (n.toNat * 1 + 0)).take 1 = [C.s (spName n.toNat)] := fun h0 h1 => by
    rcases (by omega : n = 0 ∨ n = 1 ∨ n = 2 ∨ n = 3 ∨ n = 4 ∨ n = 5) with rfl | rfl | rfl | rfl | rfl | rfl <;> rfl
  refine fn_of_J Tryz.tyOK 0 Tryz.func83 (by kernel_rfl) (c := Tryz.f83.body.getD .skip) (by kernel_rfl) Tryz.ntmps83 (rs := Tryz.f83.results.toList) rfl (by simp) (fun G => ?_)
  repeat' first
    | refine J_seq ?_ | refine J_region Tryz.tyOK ?_ | refine J_block ?_ | refine J_cond ?_ | refine J_ret ?_ | refine J_skip ?_ | refine J_exit ?_ | refine J_scope ?_
    | refine CondP.yes (by omega) ?_ | refine CondP.no (by omega) ?_ | refine CondP.mk (fun h => ?_) (fun h => ?_) | refine EqP.mk rfl ?_ | refine NewP.mk (fun ad => ?_) | refine ArP.exact (by simp only [inR]; omega) ?_ | refine SideP.mk (by first | omega | (dsimp only; omega) | (simp; omega)) ?_
    | refine FinE.str ?_ | refine IdxE.mk 9 1 _ (.inl ⟨6, List.Mem.head _⟩) (by omega) (by omega) ?_ | refine LoadE.mk 9 6 [C.s [], .s (spName 1), .s (spName 2), .s (spName 3), .s (spName 4), .s (spName 5)] [C.s (spName n.toNat)] (.inl ⟨6, List.Mem.head _⟩) (by omega) (by omega) (by omega) (hid (by omega) (by omega)) ?_
    | fail
  · exact hlo (by omega)
  · exact hhi (by omega)
  · rfl
theorem index_ok (s t : List UInt8) (i0 : Nat) (hs : s.length ≤ 1100000) (ht1 : 1 ≤ t.length) (ht : t.length ≤ 1100000) (hi0 : i0 ≤ s.length) : FnS Tryz.prog 46 [.c (.s s), .c (.s t), .c (.i .i64 i0)] [] [] (Is (.c (.i .i64 (refIdx s t i0)))) := by
  refine fn_of_J Tryz.tyOK 0 Tryz.func46 (by kernel_rfl) (c := Tryz.f46.body.getD .skip) (by kernel_rfl) Tryz.ntmps46 (rs := Tryz.f46.results.toList) rfl (by simp) (fun G => ?_)
  refine J_seq ?_
  repeat' first
    | refine J_stop (c := .seq (.seq (.region 1 _ _) _) _) ?_
    | refine J_seq ?_ | refine J_region Tryz.tyOK ?_ | refine J_block ?_ | refine J_cond ?_ | refine J_ret ?_ | refine J_skip ?_ | refine J_exit ?_ | refine J_scope ?_
    | refine CondP.yes (by omega) ?_ | refine CondP.no (by omega) ?_ | refine CondP.mk (fun h => ?_) (fun h => ?_) | refine EqP.mk rfl ?_ | refine NewP.mk (fun ad => ?_) | refine ArP.exact (by simp only [inR]; omega) ?_ | refine SideP.mk (by first | omega | (dsimp only; omega) | (simp; omega)) ?_
    | fail
    | fail
  refine ⟨?_⟩
  refine J_seq ?_
  repeat' first
    | refine J_seq ?_ | refine J_region Tryz.tyOK ?_ | refine J_block ?_ | refine J_cond ?_ | refine J_ret ?_ | refine J_skip ?_ | refine J_exit ?_ | refine J_scope ?_
    | refine CondP.yes (by omega) ?_ | refine CondP.no (by omega) ?_ | refine CondP.mk (fun h => ?_) (fun h => ?_) | refine EqP.mk rfl ?_ | refine NewP.mk (fun ad => ?_) | refine ArP.exact (by simp only [inR]; omega) ?_ | refine SideP.mk (by first | omega | (dsimp only; omega) | (simp; omega)) ?_
    | fail
    | fail
  refine J_loop (α := Nat) (fun i => [(0, .c (.s s)), (1, .c (.s t)), (7, .c (.i .i64 i))]) (fun _ => []) (fun _ => []) 0 (fun i => i ≤ s.length ∧ refIdx s t i0 = refIdx s t i) (fun i => s.length - i)
    (InFam.mk i0 ⟨by omega, rfl⟩ (by repeat' first | exact SubE.nil | refine SubE.cons rfl ?_ ?_ | exact VEq.refl _ | refine VEq.int (by omega) | refine VEq.sl rfl (by first | rfl | omega | (rw [List.length_append]; rfl) | (simp; omega)) rfl) (Ents.refl _ _)) (fun i hi => ?_)
  obtain ⟨hi, hal⟩ := hi
  by_cases hle : i + t.length ≤ s.length
  · have h1 := refIdx_hit (s := s) (t := t) (i := i) ht1 hle
    have h2 := refIdx_miss (s := s) (t := t) (i := i) ht1 hle
    repeat' first
      | refine J_seq ?_ | refine J_region Tryz.tyOK ?_ | refine J_block ?_ | refine J_cond ?_ | refine J_ret ?_ | refine J_skip ?_ | refine J_exit ?_ | refine J_scope ?_
      | refine CondP.yes (by omega) ?_ | refine CondP.no (by omega) ?_ | refine CondP.mk (fun h => ?_) (fun h => ?_) | refine EqP.mk rfl ?_ | refine NewP.mk (fun ad => ?_) | refine ArP.exact (by simp only [inR]; omega) ?_ | refine SideP.mk (by first | omega | (dsimp only; omega) | (simp; omega)) ?_
      | refine Round.mk (i + 1) (by omega) ⟨by omega, ?_⟩ (by repeat' first | exact SubE.nil | refine SubE.cons rfl ?_ ?_ | exact VEq.refl _ | refine VEq.int (by omega) | refine VEq.sl rfl (by first | rfl | omega | (rw [List.length_append]; rfl) | (simp; omega)) rfl) (Ents.refl _ _) | refine FinE.int ?_
      | fail
    · rw [hal]; exact h1 (by assumption)
    · rw [hal]; exact h2 (by assumption)
  · repeat' first
      | refine J_seq ?_ | refine J_region Tryz.tyOK ?_ | refine J_block ?_ | refine J_cond ?_ | refine J_ret ?_ | refine J_skip ?_ | refine J_exit ?_ | refine J_scope ?_
      | refine CondP.yes (by omega) ?_ | refine CondP.no (by omega) ?_ | refine CondP.mk (fun h => ?_) (fun h => ?_) | refine EqP.mk rfl ?_ | refine NewP.mk (fun ad => ?_) | refine ArP.exact (by simp only [inR]; omega) ?_ | refine SideP.mk (by first | omega | (dsimp only; omega) | (simp; omega)) ?_
      | refine FinE.int ?_
      | fail
    rw [hal, refIdx_end ht1 hle]
end Go.Proofs
namespace Go.Proofs
open Go Go.X
set_option maxRecDepth 100000
theorem prefixed_ok (s : List UInt8) (hs : s.length ≤ 1100000) : FnS Tryz.prog 69 [.c (.s s)] [] []
    (Is (.t2 (.c (.i .i64 (colonNo s))) (.c (.i .i64 (if colonNo s = 0 then 0 else ((cutAt 58 s).1.length : Int)))))) := by
  have c1 := index_ok s [58] 0 hs (by decide) (by decide) (by omega)
  have hr : refIdx s [58] 0 = if (cutAt 58 s).2.2 = true then ((cutAt 58 s).1.length : Int) else -1 := by
    rw [← index_cut]
    unfold refIdx
    rw [List.drop_zero]
    split
    · rename_i h; rw [h]
    · omega
  rw [hr] at c1
  have hl := cutAt_len1 58 s
  cases hc : (cutAt 58 s).2.2 with
  | false =>
    have e : colonNo s = 0 := by simp [colonNo, hc]
    rw [hc, if_neg (by decide)] at c1
    rw [e]
    refine fn_of_J Tryz.tyOK 0 Tryz.func69 (by kernel_rfl) (c := Tryz.f69.body.getD .skip) (by kernel_rfl) Tryz.ntmps69 (rs := Tryz.f69.results.toList) rfl (by simp) (fun G => ?_)
    repeat' first
      | refine J_seq ?_ | refine J_region Tryz.tyOK ?_ | refine J_block ?_ | refine J_cond ?_ | refine J_ret ?_ | refine J_skip ?_ | refine J_exit ?_ | refine J_scope ?_
      | refine CondP.yes (by omega) ?_ | refine CondP.no (by omega) ?_ | refine CondP.mk (fun h => ?_) (fun h => ?_) | refine EqP.mk rfl ?_ | refine NewP.mk (fun ad => ?_) | refine ArP.exact (by simp only [inR]; omega) ?_ | refine SideP.mk (by first | omega | (dsimp only; omega) | (simp; omega)) ?_
      | refine CallP.is c1 ?_ | refine FinE.is ?_
      | fail
    all_goals rfl
  | true =>
    have e : colonNo s = spaceNo (noEnd (cutAt 58 s).1) := by rw [noEnd_eq]; simp [colonNo, hc]
    have ht := cutAt_take 58 s
    rw [hc, if_pos rfl] at c1
    rw [e]
    generalize (cutAt 58 s).1 = p at *
    obtain ⟨q, hq⟩ : ∃ q, noEnd p = q := ⟨_, rfl⟩
    have hql : q.length ≤ p.length := by
      rw [← hq]; unfold noEnd; split
      · simp
      · exact Nat.le_refl _
    rw [hq]
    refine fn_of_J Tryz.tyOK 0 Tryz.func69 (by kernel_rfl) (c := Tryz.f69.body.getD .skip) (by kernel_rfl) Tryz.ntmps69 (rs := Tryz.f69.results.toList) rfl (by simp) (fun G => ?_)
    repeat' first
      | refine J_cut (x := .seq (.region 5 _ _) _) (α := Unit) (fun _ => [(0, .c (.s s)), (4, .c (.i .i64 p.length)), (5, .c (.s q))]) (fun _ => []) (fun _ => []) 0 (fun _ => True) ?_ (fun _ _ => ?_) | refine J_cut (x := .region 4 _ _) (α := Unit) (fun _ => [(0, .c (.s s)), (4, .c (.i .i64 p.length)), (5, .c (.s p))]) (fun _ => []) (fun _ => []) 0 (fun _ => True) ?_ (fun _ _ => ?_)
      | refine J_seq ?_ | refine J_region Tryz.tyOK ?_ | refine J_block ?_ | refine J_cond ?_ | refine J_ret ?_ | refine J_skip ?_ | refine J_exit ?_ | refine J_scope ?_
      | refine CondP.yes (by omega) ?_ | refine CondP.no (by omega) ?_ | refine CondP.mk (fun h => ?_) (fun h => ?_) | refine EqP.mk rfl ?_ | refine NewP.mk (fun ad => ?_) | refine ArP.exact (by simp only [inR]; omega) ?_ | refine SideP.mk (by first | omega | (dsimp only; omega) | (simp; omega)) ?_
      | refine CallP.is c1 ?_ | refine FinE.is ?_ | refine InFam.mk () trivial (SubE.cons rfl (VEq.refl _) (SubE.cons rfl (VEq.refl _) (SubE.cons rfl (VEq.str ?_) SubE.nil))) (Ents.refl _ _) | refine J_rounds 6 ?_ | refine JR_succ ?_ | refine CallP.is (spaceName_ok _) ?_ | refine CallP.isB (sameLetters_ok q _ (by omega)) (fun h => ?_) (fun h => ?_)
      | fail
    · exact ht
    · rw [← hq]; unfold noEnd; (try simp only [Int.toNat_natCast, Int.toNat_zero] at *); simp only [*, decide_true, decide_false, Bool.true_and, Bool.false_and, Bool.and_true, Bool.and_false, Bool.not_true, Bool.not_false, Bool.true_or, Bool.false_or, Bool.or_true, Bool.or_false, not_true, not_false_eq_true, ne_eq, if_true, if_false, Bool.false_eq_true]
    · rw [← hq]; unfold noEnd; (try simp only [Int.toNat_natCast, Int.toNat_zero] at *); simp only [*, decide_true, decide_false, Bool.true_and, Bool.false_and, Bool.and_true, Bool.and_false, Bool.not_true, Bool.not_false, Bool.true_or, Bool.false_or, Bool.or_true, Bool.or_false, not_true, not_false_eq_true, ne_eq, if_true, if_false, Bool.false_eq_true]
    · rw [← hq]; unfold noEnd; (try simp only [Int.toNat_natCast, Int.toNat_zero] at *); simp only [*, decide_true, decide_false, Bool.true_and, Bool.false_and, Bool.and_true, Bool.and_false, Bool.not_true, Bool.not_false, Bool.true_or, Bool.false_or, Bool.or_true, Bool.or_false, not_true, not_false_eq_true, ne_eq, if_true, if_false, Bool.false_eq_true]
    all_goals
      have hk : ∃ k, spaceNo q = k := ⟨_, rfl⟩
      obtain ⟨k, hk⟩ := hk
      have hk' := hk
      unfold spaceNo at hk
      repeat (first | rw [if_pos (of_decide_eq_true (by assumption))] at hk | rw [if_neg (of_decide_eq_false (by assumption))] at hk)
      subst hk
      rw [hk']
      rfl
end Go.Proofs
namespace Go.Proofs
open Go Go.X
set_option maxRecDepth 100000
theorem set_last {α : Type} {A : List α} (h : A ≠ []) (x : α) : A.set ((A.length : Int) - 1).toNat x = A.dropLast ++ [x] := by
  rcases List.eq_nil_or_concat A with rfl | ⟨q, y, rfl⟩
  · exact absurd rfl h
  · have e : (((q.concat y).length : Int) - 1).toNat = q.length := by simp
    rw [e]
    simp [List.concat_eq_append]
theorem byte_is {x : UInt8} {n : Nat} (hn : n < 256) (h : (x.toNat : Int) = (n : Int)) : x = UInt8.ofNat n := by
  apply UInt8.toNat_inj.1
  have e : (UInt8.ofNat n).toNat = n % 256 := by simp
  rw [e, Nat.mod_eq_of_lt hn]; omega
theorem byte_not {x : UInt8} {n : Nat} (hn : n < 256) (h : ¬ (x.toNat : Int) = (n : Int)) : ¬ x = UInt8.ofNat n := fun hx => by
  have e : (UInt8.ofNat n).toNat = n % 256 := by simp
  rw [hx, e, Nat.mod_eq_of_lt hn] at h
  exact h rfl
theorem parts_ok (s : List UInt8) (hs : s.length ≤ 1100000) : FnS Tryz.prog 68 [.c (.s s)] [] []
    (fun v L D => ∃ a c, v = .c (.sl a (splitOn 47 s).length c) ∧ L = [.row 9 1 a (splitOn 47 s).length c ((splitOn 47 s).map C.s)] ∧ D = []) := by
  refine fn_of_J Tryz.tyOK 0 Tryz.func68 (by kernel_rfl) (c := Tryz.f68.body.getD .skip) (by kernel_rfl) Tryz.ntmps68 (rs := Tryz.f68.results.toList) rfl (by simp) (fun G => ?_)
  refine J_seq ?_
  repeat' first
    | refine J_stop (c := .seq (.seq (.region 2 _ _) _) _) ?_
    | refine J_seq ?_ | refine J_region Tryz.tyOK ?_ | refine J_block ?_ | refine J_cond ?_ | refine J_ret ?_ | refine J_skip ?_ | refine J_exit ?_ | refine J_scope ?_
    | refine CondP.yes (by omega) ?_ | refine CondP.no (by omega) ?_ | refine CondP.mk (fun h => ?_) (fun h => ?_) | refine EqP.mk rfl ?_ | refine NewP.mk (fun ad => ?_) | refine ArP.exact (by simp only [inR]; omega) ?_ | refine SideP.mk (by first | omega | (dsimp only; omega) | (simp; omega)) ?_
    | fail
    | fail
  refine ⟨?_⟩
  refine J_seq ?_
  repeat' first
    | refine J_seq ?_ | refine J_region Tryz.tyOK ?_ | refine J_block ?_ | refine J_cond ?_ | refine J_ret ?_ | refine J_skip ?_ | refine J_exit ?_ | refine J_scope ?_
    | refine CondP.yes (by omega) ?_ | refine CondP.no (by omega) ?_ | refine CondP.mk (fun h => ?_) (fun h => ?_) | refine EqP.mk rfl ?_ | refine NewP.mk (fun ad => ?_) | refine ArP.exact (by simp only [inR]; omega) ?_ | refine SideP.mk (by first | omega | (dsimp only; omega) | (simp; omega)) ?_
    | fail
    | fail
  refine J_loop (α := Nat × Option Addr × Nat) (fun x => [(0, .c (.s s)), (3, .c (.sl x.2.1 (splitOn 47 (s.take x.1)).length x.2.2)), (4, .c (.i .i64 x.1))])
    (fun x => [.row 9 1 x.2.1 (splitOn 47 (s.take x.1)).length x.2.2 ((splitOn 47 (s.take x.1)).map C.s)]) (fun _ => []) 0 (fun x => x.1 ≤ s.length) (fun x => s.length - x.1)
    (InFam.mk (0, some ⟨ad, 0, none⟩, 1) (by simp) (by repeat' first | exact SubE.nil | refine SubE.cons rfl ?_ ?_ | exact VEq.refl _ | refine VEq.int (by omega) | refine VEq.sl rfl (by first | rfl | omega | (rw [List.length_append]; rfl) | (simp; omega)) rfl) (Ents.refl _ _)) (fun x hi => ?_)
  obtain ⟨i, a, c⟩ := x
  dsimp only at hi ⊢
  have hsl := splitOn_length_le 47 (s.take i)
  have hsn := splitOn_ne 47 (s.take i)
  have hml := mem_splitOn_le 47 (s.take i)
  have htl : (s.take i).length = i := by simp; omega
  by_cases hlt : i < s.length
  · have hgi : s[i] = s.getD i 0 := by simp [hlt]
    have hst : splitOn 47 (s.take (i + 1)) = if s.getD i 0 = 47 then splitOn 47 (s.take i) ++ [[]] else (splitOn 47 (s.take i)).dropLast ++ [(splitOn 47 (s.take i)).getLastD [] ++ [s.getD i 0]] := by
      rw [List.take_succ_eq_append_getElem hlt, hgi, splitOn_snoc]
    have h1 := slice_one hlt
    have hl1 : ((s.take (i + 1)).drop i).length = 1 := by rw [h1]; rfl
    generalize splitOn 47 (s.take i) = A at *
    have hA := List.length_pos_iff.2 hsn
    have hrd : Reads [.row 9 1 a A.length c (A.map C.s)] [] 9 1 a A.length (A.map C.s) := .inl ⟨c, List.Mem.head _⟩
    have hla : (((A.map C.s).drop (((A.length : Int) - 1).toNat * 1 + 0)).take 1) = [C.s (A.getLastD [])] := by
      have e : ((A.length : Int) - 1).toNat = A.length - 1 := by omega
      rw [e, map_take1 (by omega)]
      simp only [List.getLastD_eq_getLast?, List.getLast?_eq_getElem?]
      rw [List.getElem?_eq_getElem (by omega)]; rfl
    have hll : (A.getLastD []).length ≤ i := by
      have := hml (A.getLastD []) (by rw [List.getLastD_eq_getLast?, List.getLast?_eq_some_getLast hsn]; exact List.getLast_mem hsn)
      omega
    repeat' first
      | refine J_seq ?_ | refine J_region Tryz.tyOK ?_ | refine J_block ?_ | refine J_cond ?_ | refine J_ret ?_ | refine J_skip ?_ | refine J_exit ?_ | refine J_scope ?_
      | refine CondP.yes (by omega) ?_ | refine CondP.no (by omega) ?_ | refine CondP.mk (fun h => ?_) (fun h => ?_) | refine EqP.mk rfl ?_ | refine NewP.mk (fun ad => ?_) | refine ArP.exact (by simp only [inR]; omega) ?_ | refine SideP.mk (by first | omega | (dsimp only; omega) | (simp; omega)) ?_
      | refine J_draw Tryz.tyOK (by kernel_rfl) [0, 1, 2, 3, 4, 5, 6, 7, 10, 11, 12, 13, 14, 8, 9, 15, 16, 17] [8, 9, 16, 17] [] [] (by kernel_rfl) Ents.dropAll ?_ | refine EntP.mk Ents.dropAll ?_ | refine IdxE.mk 9 1 _ hrd (by omega) (by omega) ?_ | refine LoadE.mk 9 _ _ _ hrd (by omega) (by omega) (by omega) hla ?_ | refine AppE.row [_] [] (A.map C.s) [C.s []] 1 rfl (SrcE.sl 9 9 _ _ 1 1 _ rfl rfl (.inl ⟨1, List.Mem.head _⟩) rfl) (by dsimp only; omega) (fun a' c' => ?_) | refine SideP.mk (Nat.le_trans (Nat.add_le_add hll (Nat.le_of_eq hl1)) (by omega)) ?_ | refine StoreE.mk [] [] 9 _ _ (A.map C.s) _ rfl (by omega) (by omega) (by simp) (setC_map (f := C.s) (by omega)) ?_ | refine Round.mk (i + 1, a', c') (by simp; omega) (by simp; omega) ?_ ?_ | refine Round.mk (i + 1, a, c) (by simp; omega) (by simp; omega) ?_ ?_
      | fail
    all_goals
      dsimp only
      first
        | (have h47 : s.getD i 0 = 47 := byte_is (n := 47) (by decide) (by assumption)
           rw [hst, if_pos h47])
        | (have h47 : ¬ s.getD i 0 = 47 := byte_not (n := 47) (by decide) (by assumption)
           rw [hst, if_neg h47])
      first
        | refine Ents.drop.trans (Ents.of (by rw [List.map_append, List.length_append]; rfl))
        | (refine Ents.of ?_
           have hs2 := set_last hsn (A.getLastD [] ++ (s.take (i + 1)).drop i)
           rw [h1] at hs2
           rw [← hs2, List.length_set, ← h1]
           rfl)
        | skip
    repeat' first
      | exact SubE.nil | refine SubE.cons rfl ?_ ?_ | exact VEq.refl _ | refine VEq.int (by omega) | refine VEq.sl rfl (by first | rfl | omega | (rw [List.length_append]; rfl) | (simp; omega)) rfl
      | fail
    repeat' first
      | exact SubE.nil | refine SubE.cons rfl ?_ ?_ | exact VEq.refl _ | refine VEq.int (by omega) | refine VEq.sl rfl (by first | rfl | omega | (rw [List.length_append]; rfl) | (simp; omega)) rfl
      | fail
  · have hil : i = s.length := by omega
    subst hil
    rw [List.take_length]
    repeat' first
      | refine J_seq ?_ | refine J_region Tryz.tyOK ?_ | refine J_block ?_ | refine J_cond ?_ | refine J_ret ?_ | refine J_skip ?_ | refine J_exit ?_ | refine J_scope ?_
      | refine CondP.yes (by omega) ?_ | refine CondP.no (by omega) ?_ | refine CondP.mk (fun h => ?_) (fun h => ?_) | refine EqP.mk rfl ?_ | refine NewP.mk (fun ad => ?_) | refine ArP.exact (by simp only [inR]; omega) ?_ | refine SideP.mk (by first | omega | (dsimp only; omega) | (simp; omega)) ?_
      | fail
      | fail
    exact FinE.mk [_] [] ⟨a, c, rfl, rfl, rfl⟩ (Ents.refl _ _)
end Go.Proofs
