/- This text walks through the functions Parse, Format, Compare and Resolve of the package title. -/
import Derived.Test.YtdnkeinjfddmnaaGreatDoorWParse
set_option linter.all false

namespace Go.Proofs
open Go Go.X
set_option maxRecDepth 100000

def titleV (sp : Int) (s : List UInt8) : V := .agg [.i .i64 sp, .s s]
def parseV (r : Int × List UInt8 × Int) : V := .t2 (.agg [.i .i64 r.1, .s r.2.1]) (.c (.i .i64 r.2.2))

theorem up_byte {x : UInt8} (h : 97 ≤ (x.toNat : Int)) : [C.i .u8 ((x.toNat : Int) - 32)] = [x - 32].map byteC := by
  have : (x - 32).toNat = x.toNat - 32 := by
    rw [UInt8.toNat_sub_of_le]
    · rfl
    · rw [UInt8.le_iff_toNat_le]; simp; omega
  simp only [List.map_cons, List.map_nil, byteC, this]
  congr 2
  omega

end Go.Proofs
