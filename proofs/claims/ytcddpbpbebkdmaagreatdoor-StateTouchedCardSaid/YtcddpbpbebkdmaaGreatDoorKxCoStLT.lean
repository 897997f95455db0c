/- This text checks closed facts of rows, each by itself. -/
import Derived.Test.YtcddpbpbebkdmaaGreatDoorK17
set_option linter.all false
namespace Go.Proofs.YtcddpbpbebkdmaaGreatDoor
open Go Go.X Go.ChangeShapes Go.WideShapes Go.ChangeAt Go.RowKit
set_option maxRecDepth 100000
namespace stateTouched
theorem inPlaceT : (Rows.stateTouchedRow.inPlace == Tryz.prog.inPlace 5) = true := by kernel_rfl
theorem unfT : (Rows.stateTouchedRow.unfollowed == Tryz.prog.unfollowed 5) = true := by kernel_rfl
theorem recT : (Rows.stateTouchedRow.unfollowed && Rows.stateTouchedRow.recurses) = true := by kernel_rfl
theorem varsT : (Rows.stateTouchedRow.named == Tryz.prog.varsNamed 5) = true := by kernel_rfl
theorem wfT : Rows.stateTouchedRow.wfByText (OpenSpec.ofChange Rows.stateTouchedSpec) = true := by kernel_rfl
theorem goesT : false = Rows.stateTouchedRow.goesBy Tryz.pinned.checked.prog := by kernel_rfl
end stateTouched
end Go.Proofs.YtcddpbpbebkdmaaGreatDoor
