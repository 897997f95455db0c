/- This text checks closed facts of rows, each by itself. -/
import Derived.Test.YtcddpbpbebkdmaaGreatDoorK17
set_option linter.all false
namespace Go.Proofs.YtcddpbpbebkdmaaGreatDoor
open Go Go.X Go.ChangeShapes Go.WideShapes Go.ChangeAt Go.RowKit
set_option maxRecDepth 100000

namespace stateMoves
theorem inPlaceT : (Rows.stateMovesRow.inPlace == Tryz.prog.inPlace 9) = true := by kernel_rfl
theorem unfT : (Rows.stateMovesRow.unfollowed == Tryz.prog.unfollowed 9) = true := by kernel_rfl
theorem recT : (Rows.stateMovesRow.unfollowed && Rows.stateMovesRow.recurses) = true := by kernel_rfl
theorem varsT : (Rows.stateMovesRow.named == Tryz.prog.varsNamed 9) = true := by kernel_rfl
theorem wfT : Rows.stateMovesRow.wfByText (OpenSpec.ofChange Rows.stateMovesSpec) = true := by kernel_rfl
theorem goesT : false = Rows.stateMovesRow.goesBy Tryz.pinned.checked.prog := by kernel_rfl
end stateMoves
end Go.Proofs.YtcddpbpbebkdmaaGreatDoor
