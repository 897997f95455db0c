/- This text walks through the functions Resolve and Ancestors of the package title. -/
import Derived.Test.YtdnkeinjfddmnaaGreatDoorWFormat
set_option linter.all false

namespace Go.Proofs
open Go Go.X
set_option maxRecDepth 100000


/-- The cells of titles of one namespace. -/
def titlesC (sp : Int) (l : List (List UInt8)) : List C := l.flatMap fun p => [.i .i64 sp, .s p]

end Go.Proofs
