/- This text checks closed facts of rows, each by itself. -/
import Derived.Test.YtcddpbpbebkdmaaGreatDoorK17
set_option linter.all false
namespace Go.Proofs.YtcddpbpbebkdmaaGreatDoor
open Go Go.X Go.ChangeShapes Go.WideShapes Go.ChangeAt Go.RowKit
set_option maxRecDepth 100000

namespace stateSplits
theorem inPlaceT : (Rows.stateSplitsRow.inPlace == Tryz.prog.inPlace 7) = true := by kernel_rfl
theorem unfT : (Rows.stateSplitsRow.unfollowed == Tryz.prog.unfollowed 7) = true := by kernel_rfl
theorem recT : (Rows.stateSplitsRow.unfollowed && Rows.stateSplitsRow.recurses) = true := by kernel_rfl
theorem varsT : (Rows.stateSplitsRow.named == Tryz.prog.varsNamed 7) = true := by kernel_rfl
theorem wfT : Rows.stateSplitsRow.wfByText (OpenSpec.ofChange Rows.stateSplitsSpec) = true := by kernel_rfl
theorem goesT : false = Rows.stateSplitsRow.goesBy Tryz.pinned.checked.prog := by kernel_rfl
end stateSplits
end Go.Proofs.YtcddpbpbebkdmaaGreatDoor
