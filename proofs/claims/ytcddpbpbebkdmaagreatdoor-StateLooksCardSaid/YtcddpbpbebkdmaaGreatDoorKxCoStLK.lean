/- This text checks closed facts of rows, each by itself. -/
import Derived.Test.YtcddpbpbebkdmaaGreatDoorK17
set_option linter.all false
namespace Go.Proofs.YtcddpbpbebkdmaaGreatDoor
open Go Go.X Go.ChangeShapes Go.WideShapes Go.ChangeAt Go.RowKit
set_option maxRecDepth 100000
namespace stateKeeps
theorem inPlaceT : (Rows.stateKeepsRow.inPlace == Tryz.prog.inPlace 6) = true := by kernel_rfl
theorem unfT : (Rows.stateKeepsRow.unfollowed == Tryz.prog.unfollowed 6) = true := by kernel_rfl
theorem recT : (Rows.stateKeepsRow.unfollowed && Rows.stateKeepsRow.recurses) = true := by kernel_rfl
theorem varsT : (Rows.stateKeepsRow.named == Tryz.prog.varsNamed 6) = true := by kernel_rfl
theorem wfT : Rows.stateKeepsRow.wfByText (OpenSpec.ofChange Rows.stateKeepsSpec) = true := by kernel_rfl
theorem goesT : false = Rows.stateKeepsRow.goesBy Tryz.pinned.checked.prog := by kernel_rfl
end stateKeeps
namespace stateLooks
theorem inPlaceT : (Rows.stateLooksRow.inPlace == Tryz.prog.inPlace 14) = true := by kernel_rfl
theorem unfT : (Rows.stateLooksRow.unfollowed == Tryz.prog.unfollowed 14) = true := by kernel_rfl
theorem recT : (Rows.stateLooksRow.unfollowed && Rows.stateLooksRow.recurses) = true := by kernel_rfl
theorem varsT : (Rows.stateLooksRow.named == Tryz.prog.varsNamed 14) = true := by kernel_rfl
theorem wfT : Rows.stateLooksRow.wfByText (OpenSpec.ofChange Rows.stateLooksSpec) = true := by kernel_rfl
theorem goesT : false = Rows.stateLooksRow.goesBy Tryz.pinned.checked.prog := by kernel_rfl
end stateLooks
end Go.Proofs.YtcddpbpbebkdmaaGreatDoor
