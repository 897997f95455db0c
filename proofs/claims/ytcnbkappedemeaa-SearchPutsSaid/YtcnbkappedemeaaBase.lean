/- This text holds what all rows of this seat share: a world in which the listed tables lie, and closed facts of the program. -/
import Derived.Test.YtcnbkappedemeaaRows
import Derived.ChangeShapes
import Derived.Test.YtcnbkappedemeaaLaw
import Derived.Test.YtcnbkappedemeaaTypes
import Derived.Lib.LaidTab
set_option linter.all false

namespace Go.Proofs.Ytcnbkappedemeaa
open Go Go.X Go.ChangeShapes Go.WideShapes Go.ChangeAt Go.RowKit
set_option maxRecDepth 100000

theorem own : ownKnob Try.prog.godebug = none := by kernel_rfl
theorem laidOut : laidOutB Try.prog = true := by kernel_rfl

/-- A world for the witnesses: the settled one. -/
noncomputable def laidWorld (os : Os) : World := World.holding Try.prog os ⟨#[], #[], []⟩

theorem world_vars (os : Os) (args : Array Value) : ((laidWorld os).forCall (fun _ _ => 0) ⟨#[], args, []⟩).variablesB Try.checked.prog = true := by kernel_rfl
theorem world_rest (os : Os) (args : Array Value) : (((laidWorld os).forCall (fun _ _ => 0) ⟨#[], args, []⟩).heap.toList.drop Try.checked.prog.globals.size).take ((begin Try.checked.prog (fun _ _ => 0) default).world.heap.size - Try.checked.prog.globals.size) =
    (begin Try.checked.prog (fun _ _ => 0) default).world.heap.toList.drop Try.checked.prog.globals.size := by kernel_rfl
theorem laid_met (os : Os) (args : Array Value) : laidMet Try.prog [] ((laidWorld os).forCall (fun _ _ => 0) ⟨#[], args, []⟩).memory := by
  exact ⟨[], by constructor, List.nodup_nil, fun _ _ h => by cases h⟩

theorem maxLen_fact {W : World} (h : W.ShapedOpen Try.prog) : allD (fun b => W.heap[b]?) [gInt 0] :=
  ⟨gInt_of_shape (t := 3) h (of_decide_eq_true (by kernel_rfl)) (by kernel_rfl) (by kernel_rfl) (by kernel_rfl) Try.underlying3, trivial⟩

theorem okTy {t : Nat} {i : TyI} (h : find Try.tyT t = some i) : i.ok Try.prog t := Try.tyOK t i h
end Go.Proofs.Ytcnbkappedemeaa
