/- This text gives the contracts of Go's library functions in the form of the symbolic executor. -/
import Derived.Test.YtggnedoblokenaaDoorLib
import Derived.Test.YtggnedoblokenaaDoorStr
import Derived.Test.YtggnedoblokenaaDoorTypes
import Derived.Test.YtggnedoblokenaaDoorShelf
import Derived.Shelf.Strings.SlTrimAscii
set_option linter.all false

namespace Go.Proofs
open Go Go.X Go.RowKit Go.Shelf

theorem size_bytes (l : List UInt8) : ByteArray.size ⟨⟨l⟩⟩ = l.length := rfl

theorem trim_ok (s cs : List UInt8) (hs : s.length ≤ 9223372036854775807) (hc : cs.length < 4294967281) (ha : ∀ (j : Nat) b, cs[j]? = some b → b.toNat < 128) : FnS Tryd.prog 26 [.c (.s s), .c (.s cs)] [] [] (Is (.c (.s (Lib.trimS s cs)))) :=
  fn_below ⟨_, Tryd.func26, by kernel_rfl, by kernel_rfl⟩ (fun w _ _ _ => Any.strings_Trim_laid Tryd.lays160 (by kernel_rfl) ⟨⟨s⟩⟩ ⟨⟨cs⟩⟩ w hs hc ha)
theorem itoa_ok (i : Nat) (hi : i < 100) : FnS Tryd.prog 21 [.c (.i .i64 i)] [] [] (Is (.c (.s (Lib.decDigits i)))) :=
  fn_pure ⟨_, Tryd.func21, by kernel_rfl, by kernel_rfl⟩ (fun w => Tryd.strconv_Itoa_small i hi w)
end Go.Proofs
