/- This text checks closed facts of rows, each by itself. -/
import Derived.Test.YtcddpbpbebkdmaaGreatDoorK17
set_option linter.all false
namespace Go.Proofs.YtcddpbpbebkdmaaGreatDoor
open Go Go.X Go.ChangeShapes Go.WideShapes Go.ChangeAt Go.RowKit
set_option maxRecDepth 100000

namespace stateFull
theorem inPlaceT : (Rows.stateFullRow.inPlace == Tryz.prog.inPlace 13) = true := by kernel_rfl
theorem unfT : (Rows.stateFullRow.unfollowed == Tryz.prog.unfollowed 13) = true := by kernel_rfl
theorem recT : (Rows.stateFullRow.unfollowed && Rows.stateFullRow.recurses) = true := by kernel_rfl
theorem varsT : (Rows.stateFullRow.named == Tryz.prog.varsNamed 13) = true := by kernel_rfl
theorem wfT : Rows.stateFullRow.wfByText (OpenSpec.ofChange Rows.stateFullSpec) = true := by kernel_rfl
theorem goesT : false = Rows.stateFullRow.goesBy Tryz.pinned.checked.prog := by kernel_rfl
end stateFull
end Go.Proofs.YtcddpbpbebkdmaaGreatDoor
