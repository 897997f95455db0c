/- This text walks through the functions Format and Compare of the package title. -/
import Derived.Test.YtabmiagnfihleaaGreatDoorWParse2
set_option linter.all false

namespace Go.Proofs
open Go Go.X
set_option maxRecDepth 100000

theorem spName_idx {sp : Int} (h0 : 0 ≤ sp) (h1 : sp < 6) : ([C.s [], .s (spName 1), .s (spName 2), .s (spName 3), .s (spName 4), .s (spName 5)].drop (sp.toNat * 1)).take 1 = [C.s (spName sp.toNat)] := by
  rcases (by omega : sp = 0 ∨ sp = 1 ∨ sp = 2 ∨ sp = 3 ∨ sp = 4 ∨ sp = 5) with rfl | rfl | rfl | rfl | rfl | rfl <;> rfl


end Go.Proofs
