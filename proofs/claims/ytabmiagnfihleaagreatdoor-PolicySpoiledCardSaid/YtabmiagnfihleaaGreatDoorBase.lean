/- This text holds what all rows of this seat share: a world in which the listed tables lie, and closed facts of the program. -/
import Derived.Test.YtabmiagnfihleaaGreatDoorCards
import Derived.Test.YtabmiagnfihleaaGreatDoorTie
import Derived.Test.YtabmiagnfihleaaGreatDoorLaw
import Derived.Test.YtabmiagnfihleaaGreatDoorTypes
import Derived.Lib.LaidTab
set_option linter.all false

namespace Go.Proofs.YtabmiagnfihleaaGreatDoor
open Go Go.X Go.ChangeShapes Go.WideShapes Go.ChangeAt Go.RowKit
set_option maxRecDepth 100000

theorem own : ownKnob Tryz.prog.godebug = none := by kernel_rfl
theorem laidOut : laidOutB Tryz.prog = true := by kernel_rfl
theorem no_looks : false = Tryz.pinned.checked.prog.looks [] := by kernel_rfl

noncomputable def cellsOfZ (l : List Nat) : Array Value := (l.map fun n : Nat => Value.int .u8 (Int.ofNat n)).toArray
noncomputable def setCells (cs : Array Value) : Obj → Obj
  | .cells _ t fr => .cells cs t fr
  | o => o
noncomputable def tabPow10 (h : Array Obj) : Array Obj := h
noncomputable def tabDb32 (h : Array Obj) : Array Obj := h
noncomputable def tabDb64 (h : Array Obj) : Array Obj := h
/-- A world for the witnesses: the settled one, the two tables holding what their initialisers lay. -/
noncomputable def laidWorld (os : Os) : World :=
  { World.holding Tryz.prog os ⟨#[], #[], []⟩ with
    heap := tabDb64 (tabDb32 (tabPow10 (((World.holding Tryz.prog os ⟨#[], #[], []⟩).heap.modify 1 (setCells (cellsOfZ Go.Pinned.utf8FirstZ))).modify 2 (setCells (cellsOfZ [128, 191, 160, 191, 128, 159, 144, 191, 128, 143, 0, 0, 0, 0, 0, 0, 0, 0, 0, 0, 0, 0, 0, 0, 0, 0, 0, 0, 0, 0, 0, 0]))))) }

theorem world_vars (os : Os) (args : Array Value) : ((laidWorld os).forCall (fun _ _ => 0) ⟨#[], args, []⟩).variablesB Tryz.checked.prog = true := by kernel_rfl
theorem world_rest (os : Os) (args : Array Value) : (((laidWorld os).forCall (fun _ _ => 0) ⟨#[], args, []⟩).heap.toList.drop Tryz.checked.prog.globals.size).take ((begin Tryz.checked.prog (fun _ _ => 0) default).world.heap.size - Tryz.checked.prog.globals.size) =
    (begin Tryz.checked.prog (fun _ _ => 0) default).world.heap.toList.drop Tryz.checked.prog.globals.size := by kernel_rfl
theorem laid_met (os : Os) (args : Array Value) : laidMet Tryz.prog Rows.policySpoiledRow.laid ((laidWorld os).forCall (fun _ _ => 0) ⟨#[], args, []⟩).memory :=
  laidMet_of_run' 8 (by kernel_rfl) (by kernel_rfl)

theorem maxLen_fact {W : World} (h : W.ShapedOpen Tryz.prog) : allD (fun b => W.heap[b]?) [gInt 0] :=
  ⟨gInt_of_shape (t := 3) h (of_decide_eq_true (by kernel_rfl)) (by kernel_rfl) (by kernel_rfl) (by kernel_rfl) Tryz.underlying3, trivial⟩

theorem okTy {t : Nat} {i : TyI} (h : find Tryz.tyT t = some i) : i.ok Tryz.prog t := Tryz.tyOK t i h
end Go.Proofs.YtabmiagnfihleaaGreatDoor
