/- This text walks through the statements and whole texts in the reference of chapter 12. -/
import Derived.Test.YtabmiagnfihleaaGreatDoorPolT
import Derived.Test.YtabmiagnfihleaaGreatDoorPolE
set_option linter.all false

namespace Go.Proofs
open Go Go.X
set_option maxRecDepth 100000
set_option maxHeartbeats 4000000

/-- What a statement of the reference leaves: a policy in memory that stays. -/
abbrev rsPost (p : PolM) (r : Bool × P3) : V → List Chunk → List Fact → Prop := fun v L D => ∃ p' : PolM, (r.1 = true → p'.p3 = r.2) ∧ (p.gs.length ≤ p.gc → p'.gs.length ≤ p'.gc) ∧ v = .t2 (.agg p'.cells) (.c (.b r.1)) ∧ L = [] ∧ D = p'.facts

end Go.Proofs
