/- This text holds what all rows of this seat share: a world in which the listed tables lie, and closed facts of the program. -/
import Derived.Test.YtdnkeinjfddmnaaGreatDoorCards
import Derived.Test.YtdnkeinjfddmnaaGreatDoorTie
import Derived.Test.YtdnkeinjfddmnaaGreatDoorLaw
import Derived.Test.YtdnkeinjfddmnaaGreatDoorTypes
import Derived.Lib.LaidTab
set_option linter.all false

namespace Go.Proofs.YtdnkeinjfddmnaaGreatDoor
open Go Go.X Go.ChangeShapes Go.WideShapes Go.ChangeAt Go.RowKit
set_option maxRecDepth 100000

theorem own : ownKnob Tryz.prog.godebug = none := by kernel_rfl
theorem laidOut : laidOutB Tryz.prog = true := by kernel_rfl
theorem no_looks : true = Tryz.pinned.checked.prog.looks [] := by kernel_rfl

noncomputable def cellsOfZ (l : List Nat) : Array Value := (l.map fun n : Nat => Value.int .u8 (Int.ofNat n)).toArray
noncomputable def setCells (cs : Array Value) : Obj → Obj
  | .cells _ t fr => .cells cs t fr
  | o => o
noncomputable def tabPow10 (h : Array Obj) : Array Obj := h.modify 3 (setCells (([1, 10, 100, 1000, 10000, 100000, 1000000, 10000000, 100000000, 1000000000, 10000000000, 100000000000, 1000000000000, 10000000000000, 100000000000000, 1000000000000000, 10000000000000000, 100000000000000000, 1000000000000000000, 10000000000000000000] : List Nat).map fun n : Nat => Value.int .u64 (Int.ofNat n)).toArray)
noncomputable def tabDb32 (h : Array Obj) : Array Obj := h.modify 4 (setCells (cellsOfZ [0, 1, 28, 2, 29, 14, 24, 3, 30, 22, 20, 15, 25, 17, 4, 8, 31, 27, 13, 23, 21, 19, 16, 7, 26, 12, 18, 6, 11, 5, 10, 9]))
noncomputable def tabDb64 (h : Array Obj) : Array Obj := h.modify 5 (setCells (cellsOfZ [0, 1, 56, 2, 57, 49, 28, 3, 61, 58, 42, 50, 38, 29, 17, 4, 62, 47, 59, 36, 45, 43, 51, 22, 53, 39, 33, 30, 24, 18, 12, 5, 63, 55, 48, 27, 60, 41, 37, 16, 46, 35, 44, 21, 52, 32, 23, 11, 54, 26, 40, 15, 34, 20, 31, 10, 25, 14, 19, 9, 13, 8, 7, 6]))
noncomputable def tabRules (h : Array Obj) : Array Obj := h
/-- A world for the witnesses: the settled one, the two tables holding what their initialisers lay. -/
noncomputable def laidWorld (os : Os) : World :=
  { World.holding Tryz.prog os ⟨#[], #[], []⟩ with
    heap := tabRules (tabDb64 (tabDb32 (tabPow10 (((World.holding Tryz.prog os ⟨#[], #[], []⟩).heap.modify 1 (setCells (cellsOfZ Go.Pinned.utf8FirstZ))).modify 2 (setCells (cellsOfZ [128, 191, 160, 191, 128, 159, 144, 191, 128, 143, 0, 0, 0, 0, 0, 0, 0, 0, 0, 0, 0, 0, 0, 0, 0, 0, 0, 0, 0, 0, 0, 0])))))) }

theorem world_vars (os : Os) (args : Array Value) : ((laidWorld os).forCall (fun _ _ => 0) ⟨#[], args, []⟩).variablesB Tryz.checked.prog = true := by kernel_rfl
theorem world_rest (os : Os) (args : Array Value) : (((laidWorld os).forCall (fun _ _ => 0) ⟨#[], args, []⟩).heap.toList.drop Tryz.checked.prog.globals.size).take ((begin Tryz.checked.prog (fun _ _ => 0) default).world.heap.size - Tryz.checked.prog.globals.size) =
    (begin Tryz.checked.prog (fun _ _ => 0) default).world.heap.toList.drop Tryz.checked.prog.globals.size := by kernel_rfl
theorem laid_met (os : Os) (args : Array Value) : laidMet Tryz.prog Rows.htmlTextsRow.laid ((laidWorld os).forCall (fun _ _ => 0) ⟨#[], args, []⟩).memory :=
  laidMet_of_run' 8 (by kernel_rfl) (by kernel_rfl)

theorem maxLen_fact {W : World} (h : W.ShapedOpen Tryz.prog) : allD (fun b => W.heap[b]?) [gInt 0] :=
  ⟨gInt_of_shape (t := 3) h (of_decide_eq_true (by kernel_rfl)) (by kernel_rfl) (by kernel_rfl) (by kernel_rfl) Tryz.underlying3, trivial⟩

theorem okTy {t : Nat} {i : TyI} (h : find Tryz.tyT t = some i) : i.ok Tryz.prog t := Tryz.tyOK t i h
end Go.Proofs.YtdnkeinjfddmnaaGreatDoor
