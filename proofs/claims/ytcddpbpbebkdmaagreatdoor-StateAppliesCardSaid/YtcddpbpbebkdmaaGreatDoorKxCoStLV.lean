/- This text checks closed facts of rows, each by itself. -/
import Derived.Test.YtcddpbpbebkdmaaGreatDoorK17
set_option linter.all false
namespace Go.Proofs.YtcddpbpbebkdmaaGreatDoor
open Go Go.X Go.ChangeShapes Go.WideShapes Go.ChangeAt Go.RowKit
set_option maxRecDepth 100000
namespace stateValid
theorem inPlaceT : (Rows.stateValidRow.inPlace == Tryz.prog.inPlace 3) = true := by kernel_rfl
theorem unfT : (Rows.stateValidRow.unfollowed == Tryz.prog.unfollowed 3) = true := by kernel_rfl
theorem recT : (Rows.stateValidRow.unfollowed && Rows.stateValidRow.recurses) = true := by kernel_rfl
theorem varsT : (Rows.stateValidRow.named == Tryz.prog.varsNamed 3) = true := by kernel_rfl
theorem wfT : Rows.stateValidRow.wfByText (OpenSpec.ofChange Rows.stateValidSpec) = true := by kernel_rfl
theorem goesT : false = Rows.stateValidRow.goesBy Tryz.pinned.checked.prog := by kernel_rfl
end stateValid
namespace stateApplies
theorem inPlaceT : (Rows.stateAppliesRow.inPlace == Tryz.prog.inPlace 4) = true := by kernel_rfl
theorem unfT : (Rows.stateAppliesRow.unfollowed == Tryz.prog.unfollowed 4) = true := by kernel_rfl
theorem recT : (Rows.stateAppliesRow.unfollowed && Rows.stateAppliesRow.recurses) = true := by kernel_rfl
theorem varsT : (Rows.stateAppliesRow.named == Tryz.prog.varsNamed 4) = true := by kernel_rfl
theorem wfT : Rows.stateAppliesRow.wfByText (OpenSpec.ofChange Rows.stateAppliesSpec) = true := by kernel_rfl
theorem goesT : false = Rows.stateAppliesRow.goesBy Tryz.pinned.checked.prog := by kernel_rfl
end stateApplies
end Go.Proofs.YtcddpbpbebkdmaaGreatDoor
