/- This text walks through the functions Ancestors and Format of the reference of chapter 1. -/
import Derived.Test.YtabmiagnfihleaaGreatDoorRef1e
import Derived.Test.YtabmiagnfihleaaGreatDoorWResolve
set_option linter.all false

namespace Go.Proofs
open Go Go.X
set_option maxRecDepth 100000

end Go.Proofs
