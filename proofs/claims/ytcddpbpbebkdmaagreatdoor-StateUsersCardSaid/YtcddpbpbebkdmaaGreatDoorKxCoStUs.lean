/- This text checks closed facts of rows, each by itself. -/
import Derived.Test.YtcddpbpbebkdmaaGreatDoorK17
set_option linter.all false
namespace Go.Proofs.YtcddpbpbebkdmaaGreatDoor
open Go Go.X Go.ChangeShapes Go.WideShapes Go.ChangeAt Go.RowKit
set_option maxRecDepth 100000

namespace stateUsers
theorem inPlaceT : (Rows.stateUsersRow.inPlace == Tryz.prog.inPlace 12) = true := by kernel_rfl
theorem unfT : (Rows.stateUsersRow.unfollowed == Tryz.prog.unfollowed 12) = true := by kernel_rfl
theorem recT : (Rows.stateUsersRow.unfollowed && Rows.stateUsersRow.recurses) = true := by kernel_rfl
theorem varsT : (Rows.stateUsersRow.named == Tryz.prog.varsNamed 12) = true := by kernel_rfl
theorem wfT : Rows.stateUsersRow.wfByText (OpenSpec.ofChange Rows.stateUsersSpec) = true := by kernel_rfl
theorem goesT : false = Rows.stateUsersRow.goesBy Tryz.pinned.checked.prog := by kernel_rfl
end stateUsers
end Go.Proofs.YtcddpbpbebkdmaaGreatDoor
