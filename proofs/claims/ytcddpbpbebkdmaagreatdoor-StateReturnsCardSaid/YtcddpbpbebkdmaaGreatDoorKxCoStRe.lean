/- This text checks closed facts of rows, each by itself. -/
import Derived.Test.YtcddpbpbebkdmaaGreatDoorK17
set_option linter.all false
namespace Go.Proofs.YtcddpbpbebkdmaaGreatDoor
open Go Go.X Go.ChangeShapes Go.WideShapes Go.ChangeAt Go.RowKit
set_option maxRecDepth 100000

namespace stateReturns
theorem inPlaceT : (Rows.stateReturnsRow.inPlace == Tryz.prog.inPlace 8) = true := by kernel_rfl
theorem unfT : (Rows.stateReturnsRow.unfollowed == Tryz.prog.unfollowed 8) = true := by kernel_rfl
theorem recT : (Rows.stateReturnsRow.unfollowed && Rows.stateReturnsRow.recurses) = true := by kernel_rfl
theorem varsT : (Rows.stateReturnsRow.named == Tryz.prog.varsNamed 8) = true := by kernel_rfl
theorem wfT : Rows.stateReturnsRow.wfByText (OpenSpec.ofChange Rows.stateReturnsSpec) = true := by kernel_rfl
theorem goesT : false = Rows.stateReturnsRow.goesBy Tryz.pinned.checked.prog := by kernel_rfl
end stateReturns
end Go.Proofs.YtcddpbpbebkdmaaGreatDoor
