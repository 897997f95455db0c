/-
  No cell of these rows narrows 'for every input' (looked for: loops, veiled, ifaces, maps, wideKeys, modest, calm, conditions, laid).
  DERIVED. THE GIVEN ROWS OF THIS SEAT. 5 by the template 'for every input the law returns true; each argument reads behind the call as it read before'; 0 by the template 'total and deterministic' (their statements: YthknndkjnglegaaGreatTotals.lean).
  GIVEN WITH THE SEED: the statements are not yours to turn. If you find one false, say at which input.
  Laid BY PROGRAM, IN A SANDBOX (cutbox-rows.mjs): the forced cells as the released guide's own fill.sh prints them over the translation 1f4716c86465a2bf… (all of the seat's roots in one cut). By AI agents, Wed Nov 11 2026. No macro, syntax, notation, axiom, sorry.
-/
import Derived.Test.YthknndkjnglegaaGreatChecked
import GoSem.Claim
import GoSem.ClaimJoined
import GoSem.ClaimMapViews
import Derived.JoinedTies
import Derived.KernelRfl
namespace Go.Proofs.YthknndkjnglegaaGreat
/- THE CELL 'sum', in the pinned program and in every row, IS THE sha256 OF THE DUMP (.gsa) THAT YthknndkjnglegaaGreatProg.lean LOADS. Nothing in Lean hashes anything: it is a label: what it is worth is what the hold of that sum in a sandbox is worth. -/
noncomputable def Tryz.pinned : Pinned := { name := "ythknndkjnglegaagreat", sum := "1f4716c86465a2bf7dea61a1a123fcbe32c79a5f3fabbd2229719fc24c4e094b", checked := Tryz.checked }
namespace Rows
def none {H : Type} : Left H := { results := [], args := [] }

/-- 'trclaw35.SearchFinds': WHATEVER THE INPUT: true; the input reads as it did. -/
def searchFindsSpec : ChangeSpec := { name := "searchFinds", fn := fun _ => fun
  | [d1, d2, d3, d4, d5, d6, d7] => { results := [.lit (.bool true)], args := [d1, d2, d3, d4, d5, d6, d7] }
  | _ => none }
def searchFindsRow : OpenClaim := { program := "ythknndkjnglegaagreat", sum := "1f4716c86465a2bf7dea61a1a123fcbe32c79a5f3fabbd2229719fc24c4e094b", func := "transclude/trclaw35.SearchFinds", spec := "searchFinds", inPlace := ["internal/bytealg.abigen_runtime_cmpstring"], unfollowed := true, recurses := true, plainKeys := false, apart := false }
def SearchFindsSaid : Prop := searchFindsRow.holds Tryz.pinned (OpenSpec.ofChange searchFindsSpec)

/-- ITS FALSE NEIGHBOUR: 'it returns false'. Refute it at one input. -/
def searchFindsWrong : ChangeSpec := { name := "searchFinds", fn := fun _ => fun
  | [d1, d2, d3, d4, d5, d6, d7] => { results := [.lit (.bool false)], args := [d1, d2, d3, d4, d5, d6, d7] }
  | _ => none }
def SearchFindsWrongFalsely : Prop := searchFindsRow.holds Tryz.pinned (OpenSpec.ofChange searchFindsWrong)

/-- 'trclaw35.SearchVisible': WHATEVER THE INPUT: true; the input reads as it did. -/
def searchVisibleSpec : ChangeSpec := { name := "searchVisible", fn := fun _ => fun
  | [d1, d2, d3, d4] => { results := [.lit (.bool true)], args := [d1, d2, d3, d4] }
  | _ => none }
def searchVisibleRow : OpenClaim := { program := "ythknndkjnglegaagreat", sum := "1f4716c86465a2bf7dea61a1a123fcbe32c79a5f3fabbd2229719fc24c4e094b", func := "transclude/trclaw35.SearchVisible", spec := "searchVisible", inPlace := ["internal/bytealg.abigen_runtime_cmpstring"], unfollowed := true, recurses := true, plainKeys := false, apart := false }
def SearchVisibleSaid : Prop := searchVisibleRow.holds Tryz.pinned (OpenSpec.ofChange searchVisibleSpec)

/-- ITS FALSE NEIGHBOUR: 'it returns false'. Refute it at one input. -/
def searchVisibleWrong : ChangeSpec := { name := "searchVisible", fn := fun _ => fun
  | [d1, d2, d3, d4] => { results := [.lit (.bool false)], args := [d1, d2, d3, d4] }
  | _ => none }
def SearchVisibleWrongFalsely : Prop := searchVisibleRow.holds Tryz.pinned (OpenSpec.ofChange searchVisibleWrong)

/-- 'trclaw35.SearchRows': WHATEVER THE INPUT: true; the input reads as it did. -/
def searchRowsSpec : ChangeSpec := { name := "searchRows", fn := fun _ => fun
  | [d1, d2, d3, d4] => { results := [.lit (.bool true)], args := [d1, d2, d3, d4] }
  | _ => none }
def searchRowsRow : OpenClaim := { program := "ythknndkjnglegaagreat", sum := "1f4716c86465a2bf7dea61a1a123fcbe32c79a5f3fabbd2229719fc24c4e094b", func := "transclude/trclaw35.SearchRows", spec := "searchRows", inPlace := ["internal/bytealg.abigen_runtime_cmpstring"], unfollowed := true, recurses := true, plainKeys := false, apart := false }
def SearchRowsSaid : Prop := searchRowsRow.holds Tryz.pinned (OpenSpec.ofChange searchRowsSpec)

/-- ITS FALSE NEIGHBOUR: 'it returns false'. Refute it at one input. -/
def searchRowsWrong : ChangeSpec := { name := "searchRows", fn := fun _ => fun
  | [d1, d2, d3, d4] => { results := [.lit (.bool false)], args := [d1, d2, d3, d4] }
  | _ => none }
def SearchRowsWrongFalsely : Prop := searchRowsRow.holds Tryz.pinned (OpenSpec.ofChange searchRowsWrong)

/-- 'trclaw35.SearchComplete': WHATEVER THE INPUT: true; the input reads as it did. -/
def searchCompleteSpec : ChangeSpec := { name := "searchComplete", fn := fun _ => fun
  | [d1, d2, d3, d4] => { results := [.lit (.bool true)], args := [d1, d2, d3, d4] }
  | _ => none }
def searchCompleteRow : OpenClaim := { program := "ythknndkjnglegaagreat", sum := "1f4716c86465a2bf7dea61a1a123fcbe32c79a5f3fabbd2229719fc24c4e094b", func := "transclude/trclaw35.SearchComplete", spec := "searchComplete", inPlace := ["internal/bytealg.abigen_runtime_cmpstring"], unfollowed := true, recurses := true, plainKeys := false, apart := false }
def SearchCompleteSaid : Prop := searchCompleteRow.holds Tryz.pinned (OpenSpec.ofChange searchCompleteSpec)

/-- ITS FALSE NEIGHBOUR: 'it returns false'. Refute it at one input. -/
def searchCompleteWrong : ChangeSpec := { name := "searchComplete", fn := fun _ => fun
  | [d1, d2, d3, d4] => { results := [.lit (.bool false)], args := [d1, d2, d3, d4] }
  | _ => none }
def SearchCompleteWrongFalsely : Prop := searchCompleteRow.holds Tryz.pinned (OpenSpec.ofChange searchCompleteWrong)

/-- 'trclaw35.SearchSteps': WHATEVER THE INPUT: true; the input reads as it did. -/
def searchStepsSpec : ChangeSpec := { name := "searchSteps", fn := fun _ => fun
  | [d1, d2, d3] => { results := [.lit (.bool true)], args := [d1, d2, d3] }
  | _ => none }
def searchStepsRow : OpenClaim := { program := "ythknndkjnglegaagreat", sum := "1f4716c86465a2bf7dea61a1a123fcbe32c79a5f3fabbd2229719fc24c4e094b", func := "transclude/trclaw35.SearchSteps", spec := "searchSteps", inPlace := ["internal/bytealg.abigen_runtime_cmpstring"], unfollowed := true, recurses := true, plainKeys := false, apart := false }
def SearchStepsSaid : Prop := searchStepsRow.holds Tryz.pinned (OpenSpec.ofChange searchStepsSpec)

/-- ITS FALSE NEIGHBOUR: 'it returns false'. Refute it at one input. -/
def searchStepsWrong : ChangeSpec := { name := "searchSteps", fn := fun _ => fun
  | [d1, d2, d3] => { results := [.lit (.bool false)], args := [d1, d2, d3] }
  | _ => none }
def SearchStepsWrongFalsely : Prop := searchStepsRow.holds Tryz.pinned (OpenSpec.ofChange searchStepsWrong)

/- THE SECOND FORM. 'bulk': how many values and letters a reading holds, each counted each time it is reached (what is shared counts as often as it is met; a slice's spare places count too). A statement '..UptoSaid' is the law's where the arguments, and the package variables that the reading takes, are together of bulk at most 1048576: NARROWER than '..Said'. Prove '..Said' where nothing that the law and all that it calls make is longer than what came in: it says more and counts as full. Else prove '..UptoSaid'. A law counts once. -/
mutual
def uptoBulk {H : Type} : DataW H → Nat
  | .lit (.string bytes) => bytes.length + 1
  | .lit _ => 1
  | .nil => 1
  | .ptr d => uptoBulk d + 1
  | .slice elems spare => uptoBulkAll elems + uptoBulkAll spare + 1
  | .agg parts => uptoBulkAll parts + 1
  | .iface _ d => uptoBulk d + 1
  | .map entries => uptoBulkEntries entries + 1
  | .held _ => 1
def uptoBulkAll {H : Type} : List (DataW H) → Nat
  | [] => 0
  | d :: r => uptoBulk d + uptoBulkAll r
def uptoBulkEntries {H : Type} : List (Lit × DataW H) → Nat
  | [] => 0
  | x :: r => uptoBulkEntry x + uptoBulkEntries r
def uptoBulkEntry {H : Type} : Lit × DataW H → Nat
  | (.string bytes, d) => bytes.length + uptoBulk d + 1
  | (_, d) => uptoBulk d + 1
 end
def uptoSmall : (H : Type) → List (DataW H) → Bool := fun _ ds => decide (uptoBulkAll ds ≤ 1048576)
def OpenSpec.upto (s : _root_.Go.ChangeSpec) : _root_.Go.OpenSpec := { _root_.Go.OpenSpec.ofChange s with cond := some uptoSmall }

/-- 'trclaw35.SearchFinds', WHERE WHAT IT READS IS OF BULK AT MOST 1048576: true; the input reads as it did. -/
def searchFindsUptoRow : OpenClaim := { program := "ythknndkjnglegaagreat", sum := "1f4716c86465a2bf7dea61a1a123fcbe32c79a5f3fabbd2229719fc24c4e094b", func := "transclude/trclaw35.SearchFinds", spec := "searchFinds", inPlace := ["internal/bytealg.abigen_runtime_cmpstring"], unfollowed := true, recurses := true, plainKeys := false, apart := false, narrowed := true }
def SearchFindsUptoSaid : Prop := searchFindsUptoRow.holds Tryz.pinned (OpenSpec.upto searchFindsSpec)

/-- 'trclaw35.SearchVisible', WHERE WHAT IT READS IS OF BULK AT MOST 1048576: true; the input reads as it did. -/
def searchVisibleUptoRow : OpenClaim := { program := "ythknndkjnglegaagreat", sum := "1f4716c86465a2bf7dea61a1a123fcbe32c79a5f3fabbd2229719fc24c4e094b", func := "transclude/trclaw35.SearchVisible", spec := "searchVisible", inPlace := ["internal/bytealg.abigen_runtime_cmpstring"], unfollowed := true, recurses := true, plainKeys := false, apart := false, narrowed := true }
def SearchVisibleUptoSaid : Prop := searchVisibleUptoRow.holds Tryz.pinned (OpenSpec.upto searchVisibleSpec)

/-- 'trclaw35.SearchRows', WHERE WHAT IT READS IS OF BULK AT MOST 1048576: true; the input reads as it did. -/
def searchRowsUptoRow : OpenClaim := { program := "ythknndkjnglegaagreat", sum := "1f4716c86465a2bf7dea61a1a123fcbe32c79a5f3fabbd2229719fc24c4e094b", func := "transclude/trclaw35.SearchRows", spec := "searchRows", inPlace := ["internal/bytealg.abigen_runtime_cmpstring"], unfollowed := true, recurses := true, plainKeys := false, apart := false, narrowed := true }
def SearchRowsUptoSaid : Prop := searchRowsUptoRow.holds Tryz.pinned (OpenSpec.upto searchRowsSpec)

/-- 'trclaw35.SearchComplete', WHERE WHAT IT READS IS OF BULK AT MOST 1048576: true; the input reads as it did. -/
def searchCompleteUptoRow : OpenClaim := { program := "ythknndkjnglegaagreat", sum := "1f4716c86465a2bf7dea61a1a123fcbe32c79a5f3fabbd2229719fc24c4e094b", func := "transclude/trclaw35.SearchComplete", spec := "searchComplete", inPlace := ["internal/bytealg.abigen_runtime_cmpstring"], unfollowed := true, recurses := true, plainKeys := false, apart := false, narrowed := true }
def SearchCompleteUptoSaid : Prop := searchCompleteUptoRow.holds Tryz.pinned (OpenSpec.upto searchCompleteSpec)

/-- 'trclaw35.SearchSteps', WHERE WHAT IT READS IS OF BULK AT MOST 1048576: true; the input reads as it did. -/
def searchStepsUptoRow : OpenClaim := { program := "ythknndkjnglegaagreat", sum := "1f4716c86465a2bf7dea61a1a123fcbe32c79a5f3fabbd2229719fc24c4e094b", func := "transclude/trclaw35.SearchSteps", spec := "searchSteps", inPlace := ["internal/bytealg.abigen_runtime_cmpstring"], unfollowed := true, recurses := true, plainKeys := false, apart := false, narrowed := true }
def SearchStepsUptoSaid : Prop := searchStepsUptoRow.holds Tryz.pinned (OpenSpec.upto searchStepsSpec)

end Rows
end Go.Proofs.YthknndkjnglegaaGreat
