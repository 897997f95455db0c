/- This text walks through the function Parse of the package title, and what it calls. -/
import Derived.Test.YtdnkeinjfddmnaaGreatDoorWValid
set_option linter.all false

namespace Go.Proofs
open Go Go.X
set_option maxRecDepth 100000

end Go.Proofs
