/- This text checks closed facts of rows, each by itself. -/
import Derived.Test.YtcddpbpbebkdmaaGreatDoorK17
set_option linter.all false
namespace Go.Proofs.YtcddpbpbebkdmaaGreatDoor
open Go Go.X Go.ChangeShapes Go.WideShapes Go.ChangeAt Go.RowKit
set_option maxRecDepth 100000

namespace statePolicy
theorem inPlaceT : (Rows.statePolicyRow.inPlace == Tryz.prog.inPlace 11) = true := by kernel_rfl
theorem unfT : (Rows.statePolicyRow.unfollowed == Tryz.prog.unfollowed 11) = true := by kernel_rfl
theorem recT : (Rows.statePolicyRow.unfollowed && Rows.statePolicyRow.recurses) = true := by kernel_rfl
theorem varsT : (Rows.statePolicyRow.named == Tryz.prog.varsNamed 11) = true := by kernel_rfl
theorem wfT : Rows.statePolicyRow.wfByText (OpenSpec.ofChange Rows.statePolicySpec) = true := by kernel_rfl
theorem goesT : false = Rows.statePolicyRow.goesBy Tryz.pinned.checked.prog := by kernel_rfl
end statePolicy
end Go.Proofs.YtcddpbpbebkdmaaGreatDoor
