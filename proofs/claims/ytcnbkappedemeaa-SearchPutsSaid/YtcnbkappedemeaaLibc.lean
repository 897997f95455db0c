/- This text gives the contracts of Go's library functions in the form of the symbolic executor. -/
import Derived.Test.YtcnbkappedemeaaLib
import Derived.Test.YtcnbkappedemeaaStr
import Derived.Test.YtcnbkappedemeaaTypes
import Derived.Test.YtcnbkappedemeaaShelf
set_option linter.all false

namespace Go.Proofs
open Go Go.X Go.RowKit Go.Shelf

theorem size_bytes (l : List UInt8) : ByteArray.size ⟨⟨l⟩⟩ = l.length := rfl

theorem stringsCompare_ok (a b : List UInt8) : FnS Try.prog 46 [.c (.s a), .c (.s b)] [] [] (Is (.c (.i .i64 (Lib.compareBytes a b)))) :=
  fn_pure ⟨_, Try.func46, by kernel_rfl, by kernel_rfl⟩ (Try.strings_Compare ⟨⟨a⟩⟩ ⟨⟨b⟩⟩)
end Go.Proofs
