/- This text checks closed facts of rows, each by itself. -/
import Derived.Test.YtcddpbpbebkdmaaGreatDoorK17
set_option linter.all false
namespace Go.Proofs.YtcddpbpbebkdmaaGreatDoor
open Go Go.X Go.ChangeShapes Go.WideShapes Go.ChangeAt Go.RowKit
set_option maxRecDepth 100000

namespace stateOthers
theorem inPlaceT : (Rows.stateOthersRow.inPlace == Tryz.prog.inPlace 10) = true := by kernel_rfl
theorem unfT : (Rows.stateOthersRow.unfollowed == Tryz.prog.unfollowed 10) = true := by kernel_rfl
theorem recT : (Rows.stateOthersRow.unfollowed && Rows.stateOthersRow.recurses) = true := by kernel_rfl
theorem varsT : (Rows.stateOthersRow.named == Tryz.prog.varsNamed 10) = true := by kernel_rfl
theorem wfT : Rows.stateOthersRow.wfByText (OpenSpec.ofChange Rows.stateOthersSpec) = true := by kernel_rfl
theorem goesT : false = Rows.stateOthersRow.goesBy Tryz.pinned.checked.prog := by kernel_rfl
end stateOthers
end Go.Proofs.YtcddpbpbebkdmaaGreatDoor
