/-
  DERIVED. GIVEN WITH THE SEED: THE CARDS: each row of YtcddpbpbebkdmaaGreatDoorRows.lean that lists a variable, with what it lists TIED to the program's text (the seventh form; the later family's looks); each row that meets fmt, with fmt's text TOLD by the authors' own Lean function (tested against real Go, not proved from fmt's source: count such statements apart). THE CARD IS WHAT COUNTS. Prove the row's statement (the work); the ties are given (YtcddpbpbebkdmaaGreatDoorTie.lean); close each card by the builder's one call (the guide's Derived/Test/ToyasCard.lean, 'card_holds'). Laid BY PROGRAM, IN A SANDBOX (cutbox-door.mjs). By AI agents, Wed Nov 11 2026. No macro, syntax, notation, axiom, sorry.
-/
import Derived.Test.YtcddpbpbebkdmaaGreatDoorRows
import GoSem.ClaimSeven
namespace Go.Proofs.YtcddpbpbebkdmaaGreatDoor
namespace Rows

/-- THE TIED CARD OF 'trclaw27.StateValid'. -/
def stateValidCard : Claim7 := { stood := { row := stateValidRow, standIns := [], harness := (true, "ee19e52ef103a166e7b28bdf2b82a279575ebf76c8ac1a4fbf5b7ffca69b17e3"), looks := false }, kinds := [], alts := [], laidByText := true, laidKinds := [.data, .data, .pinned], laidTests := true, laidLooks := .later }
def StateValidCardSaid : Prop := Claim7.holds Tryz.pinned (.plain (OpenSpec.ofChange stateValidSpec)) stateValidCard

/-- THE TIED CARD OF 'trclaw27.StateApplies'. -/
def stateAppliesCard : Claim7 := { stood := { row := stateAppliesRow, standIns := [], harness := (true, "ee19e52ef103a166e7b28bdf2b82a279575ebf76c8ac1a4fbf5b7ffca69b17e3"), looks := false }, kinds := [], alts := [], laidByText := true, laidKinds := [.data, .data, .pinned], laidTests := true, laidLooks := .later }
def StateAppliesCardSaid : Prop := Claim7.holds Tryz.pinned (.plain (OpenSpec.ofChange stateAppliesSpec)) stateAppliesCard

/-- THE TIED CARD OF 'trclaw27.StateTouched'. -/
def stateTouchedCard : Claim7 := { stood := { row := stateTouchedRow, standIns := [], harness := (true, "ee19e52ef103a166e7b28bdf2b82a279575ebf76c8ac1a4fbf5b7ffca69b17e3"), looks := false }, kinds := [], alts := [], laidByText := true, laidKinds := [.data, .data, .pinned], laidTests := true, laidLooks := .later }
def StateTouchedCardSaid : Prop := Claim7.holds Tryz.pinned (.plain (OpenSpec.ofChange stateTouchedSpec)) stateTouchedCard

/-- THE TIED CARD OF 'trclaw27.StateKeeps'. -/
def stateKeepsCard : Claim7 := { stood := { row := stateKeepsRow, standIns := [], harness := (true, "ee19e52ef103a166e7b28bdf2b82a279575ebf76c8ac1a4fbf5b7ffca69b17e3"), looks := false }, kinds := [], alts := [], laidByText := true, laidKinds := [.data, .data, .pinned], laidTests := true, laidLooks := .later }
def StateKeepsCardSaid : Prop := Claim7.holds Tryz.pinned (.plain (OpenSpec.ofChange stateKeepsSpec)) stateKeepsCard

/-- THE TIED CARD OF 'trclaw27.StateSplits'. -/
def stateSplitsCard : Claim7 := { stood := { row := stateSplitsRow, standIns := [], harness := (true, "ee19e52ef103a166e7b28bdf2b82a279575ebf76c8ac1a4fbf5b7ffca69b17e3"), looks := false }, kinds := [], alts := [], laidByText := true, laidKinds := [.data, .data, .pinned], laidTests := true, laidLooks := .later }
def StateSplitsCardSaid : Prop := Claim7.holds Tryz.pinned (.plain (OpenSpec.ofChange stateSplitsSpec)) stateSplitsCard

/-- THE TIED CARD OF 'trclaw27.StateReturns'. -/
def stateReturnsCard : Claim7 := { stood := { row := stateReturnsRow, standIns := [], harness := (true, "ee19e52ef103a166e7b28bdf2b82a279575ebf76c8ac1a4fbf5b7ffca69b17e3"), looks := false }, kinds := [], alts := [], laidByText := true, laidKinds := [.data, .data, .pinned], laidTests := true, laidLooks := .later }
def StateReturnsCardSaid : Prop := Claim7.holds Tryz.pinned (.plain (OpenSpec.ofChange stateReturnsSpec)) stateReturnsCard

/-- THE TIED CARD OF 'trclaw27.StateMoves'. -/
def stateMovesCard : Claim7 := { stood := { row := stateMovesRow, standIns := [], harness := (true, "ee19e52ef103a166e7b28bdf2b82a279575ebf76c8ac1a4fbf5b7ffca69b17e3"), looks := false }, kinds := [], alts := [], laidByText := true, laidKinds := [.data, .data, .pinned], laidTests := true, laidLooks := .later }
def StateMovesCardSaid : Prop := Claim7.holds Tryz.pinned (.plain (OpenSpec.ofChange stateMovesSpec)) stateMovesCard

/-- THE TIED CARD OF 'trclaw27.StateOthers'. -/
def stateOthersCard : Claim7 := { stood := { row := stateOthersRow, standIns := [], harness := (true, "ee19e52ef103a166e7b28bdf2b82a279575ebf76c8ac1a4fbf5b7ffca69b17e3"), looks := false }, kinds := [], alts := [], laidByText := true, laidKinds := [.data, .data, .pinned], laidTests := true, laidLooks := .later }
def StateOthersCardSaid : Prop := Claim7.holds Tryz.pinned (.plain (OpenSpec.ofChange stateOthersSpec)) stateOthersCard

/-- THE TIED CARD OF 'trclaw27.StatePolicy'. -/
def statePolicyCard : Claim7 := { stood := { row := statePolicyRow, standIns := [], harness := (true, "ee19e52ef103a166e7b28bdf2b82a279575ebf76c8ac1a4fbf5b7ffca69b17e3"), looks := false }, kinds := [], alts := [], laidByText := true, laidKinds := [.data, .data, .pinned], laidTests := true, laidLooks := .later }
def StatePolicyCardSaid : Prop := Claim7.holds Tryz.pinned (.plain (OpenSpec.ofChange statePolicySpec)) statePolicyCard

/-- THE TIED CARD OF 'trclaw27.StateUsers'. -/
def stateUsersCard : Claim7 := { stood := { row := stateUsersRow, standIns := [], harness := (true, "ee19e52ef103a166e7b28bdf2b82a279575ebf76c8ac1a4fbf5b7ffca69b17e3"), looks := false }, kinds := [], alts := [], laidByText := true, laidKinds := [.data, .data, .pinned], laidTests := true, laidLooks := .later }
def StateUsersCardSaid : Prop := Claim7.holds Tryz.pinned (.plain (OpenSpec.ofChange stateUsersSpec)) stateUsersCard

/-- THE TIED CARD OF 'trclaw27.StateFull'. -/
def stateFullCard : Claim7 := { stood := { row := stateFullRow, standIns := [], harness := (true, "ee19e52ef103a166e7b28bdf2b82a279575ebf76c8ac1a4fbf5b7ffca69b17e3"), looks := false }, kinds := [], alts := [], laidByText := true, laidKinds := [.data, .data, .pinned], laidTests := true, laidLooks := .later }
def StateFullCardSaid : Prop := Claim7.holds Tryz.pinned (.plain (OpenSpec.ofChange stateFullSpec)) stateFullCard

/-- THE TIED CARD OF 'trclaw27.StateLooks'. -/
def stateLooksCard : Claim7 := { stood := { row := stateLooksRow, standIns := [], harness := (true, "ee19e52ef103a166e7b28bdf2b82a279575ebf76c8ac1a4fbf5b7ffca69b17e3"), looks := false }, kinds := [], alts := [], laidByText := true, laidKinds := [.data, .data, .pinned], laidTests := true, laidLooks := .later }
def StateLooksCardSaid : Prop := Claim7.holds Tryz.pinned (.plain (OpenSpec.ofChange stateLooksSpec)) stateLooksCard

/-- THE SECOND FORM's CARD OF 'trclaw27.StateValid'. -/
def stateValidUptoCard : Claim7 := { stood := { row := stateValidUptoRow, standIns := [], harness := (true, "ee19e52ef103a166e7b28bdf2b82a279575ebf76c8ac1a4fbf5b7ffca69b17e3"), looks := false }, kinds := [], alts := [], laidByText := true, laidKinds := [.data, .data, .pinned], laidTests := true, laidLooks := .later }
def StateValidUptoCardSaid : Prop := Claim7.holds Tryz.pinned (.plain (OpenSpec.upto stateValidSpec)) stateValidUptoCard

/-- THE SECOND FORM's CARD OF 'trclaw27.StateApplies'. -/
def stateAppliesUptoCard : Claim7 := { stood := { row := stateAppliesUptoRow, standIns := [], harness := (true, "ee19e52ef103a166e7b28bdf2b82a279575ebf76c8ac1a4fbf5b7ffca69b17e3"), looks := false }, kinds := [], alts := [], laidByText := true, laidKinds := [.data, .data, .pinned], laidTests := true, laidLooks := .later }
def StateAppliesUptoCardSaid : Prop := Claim7.holds Tryz.pinned (.plain (OpenSpec.upto stateAppliesSpec)) stateAppliesUptoCard

/-- THE SECOND FORM's CARD OF 'trclaw27.StateTouched'. -/
def stateTouchedUptoCard : Claim7 := { stood := { row := stateTouchedUptoRow, standIns := [], harness := (true, "ee19e52ef103a166e7b28bdf2b82a279575ebf76c8ac1a4fbf5b7ffca69b17e3"), looks := false }, kinds := [], alts := [], laidByText := true, laidKinds := [.data, .data, .pinned], laidTests := true, laidLooks := .later }
def StateTouchedUptoCardSaid : Prop := Claim7.holds Tryz.pinned (.plain (OpenSpec.upto stateTouchedSpec)) stateTouchedUptoCard

/-- THE SECOND FORM's CARD OF 'trclaw27.StateKeeps'. -/
def stateKeepsUptoCard : Claim7 := { stood := { row := stateKeepsUptoRow, standIns := [], harness := (true, "ee19e52ef103a166e7b28bdf2b82a279575ebf76c8ac1a4fbf5b7ffca69b17e3"), looks := false }, kinds := [], alts := [], laidByText := true, laidKinds := [.data, .data, .pinned], laidTests := true, laidLooks := .later }
def StateKeepsUptoCardSaid : Prop := Claim7.holds Tryz.pinned (.plain (OpenSpec.upto stateKeepsSpec)) stateKeepsUptoCard

/-- THE SECOND FORM's CARD OF 'trclaw27.StateSplits'. -/
def stateSplitsUptoCard : Claim7 := { stood := { row := stateSplitsUptoRow, standIns := [], harness := (true, "ee19e52ef103a166e7b28bdf2b82a279575ebf76c8ac1a4fbf5b7ffca69b17e3"), looks := false }, kinds := [], alts := [], laidByText := true, laidKinds := [.data, .data, .pinned], laidTests := true, laidLooks := .later }
def StateSplitsUptoCardSaid : Prop := Claim7.holds Tryz.pinned (.plain (OpenSpec.upto stateSplitsSpec)) stateSplitsUptoCard

/-- THE SECOND FORM's CARD OF 'trclaw27.StateReturns'. -/
def stateReturnsUptoCard : Claim7 := { stood := { row := stateReturnsUptoRow, standIns := [], harness := (true, "ee19e52ef103a166e7b28bdf2b82a279575ebf76c8ac1a4fbf5b7ffca69b17e3"), looks := false }, kinds := [], alts := [], laidByText := true, laidKinds := [.data, .data, .pinned], laidTests := true, laidLooks := .later }
def StateReturnsUptoCardSaid : Prop := Claim7.holds Tryz.pinned (.plain (OpenSpec.upto stateReturnsSpec)) stateReturnsUptoCard

/-- THE SECOND FORM's CARD OF 'trclaw27.StateMoves'. -/
def stateMovesUptoCard : Claim7 := { stood := { row := stateMovesUptoRow, standIns := [], harness := (true, "ee19e52ef103a166e7b28bdf2b82a279575ebf76c8ac1a4fbf5b7ffca69b17e3"), looks := false }, kinds := [], alts := [], laidByText := true, laidKinds := [.data, .data, .pinned], laidTests := true, laidLooks := .later }
def StateMovesUptoCardSaid : Prop := Claim7.holds Tryz.pinned (.plain (OpenSpec.upto stateMovesSpec)) stateMovesUptoCard

/-- THE SECOND FORM's CARD OF 'trclaw27.StateOthers'. -/
def stateOthersUptoCard : Claim7 := { stood := { row := stateOthersUptoRow, standIns := [], harness := (true, "ee19e52ef103a166e7b28bdf2b82a279575ebf76c8ac1a4fbf5b7ffca69b17e3"), looks := false }, kinds := [], alts := [], laidByText := true, laidKinds := [.data, .data, .pinned], laidTests := true, laidLooks := .later }
def StateOthersUptoCardSaid : Prop := Claim7.holds Tryz.pinned (.plain (OpenSpec.upto stateOthersSpec)) stateOthersUptoCard

/-- THE SECOND FORM's CARD OF 'trclaw27.StatePolicy'. -/
def statePolicyUptoCard : Claim7 := { stood := { row := statePolicyUptoRow, standIns := [], harness := (true, "ee19e52ef103a166e7b28bdf2b82a279575ebf76c8ac1a4fbf5b7ffca69b17e3"), looks := false }, kinds := [], alts := [], laidByText := true, laidKinds := [.data, .data, .pinned], laidTests := true, laidLooks := .later }
def StatePolicyUptoCardSaid : Prop := Claim7.holds Tryz.pinned (.plain (OpenSpec.upto statePolicySpec)) statePolicyUptoCard

/-- THE SECOND FORM's CARD OF 'trclaw27.StateUsers'. -/
def stateUsersUptoCard : Claim7 := { stood := { row := stateUsersUptoRow, standIns := [], harness := (true, "ee19e52ef103a166e7b28bdf2b82a279575ebf76c8ac1a4fbf5b7ffca69b17e3"), looks := false }, kinds := [], alts := [], laidByText := true, laidKinds := [.data, .data, .pinned], laidTests := true, laidLooks := .later }
def StateUsersUptoCardSaid : Prop := Claim7.holds Tryz.pinned (.plain (OpenSpec.upto stateUsersSpec)) stateUsersUptoCard

/-- THE SECOND FORM's CARD OF 'trclaw27.StateFull'. -/
def stateFullUptoCard : Claim7 := { stood := { row := stateFullUptoRow, standIns := [], harness := (true, "ee19e52ef103a166e7b28bdf2b82a279575ebf76c8ac1a4fbf5b7ffca69b17e3"), looks := false }, kinds := [], alts := [], laidByText := true, laidKinds := [.data, .data, .pinned], laidTests := true, laidLooks := .later }
def StateFullUptoCardSaid : Prop := Claim7.holds Tryz.pinned (.plain (OpenSpec.upto stateFullSpec)) stateFullUptoCard

/-- THE SECOND FORM's CARD OF 'trclaw27.StateLooks'. -/
def stateLooksUptoCard : Claim7 := { stood := { row := stateLooksUptoRow, standIns := [], harness := (true, "ee19e52ef103a166e7b28bdf2b82a279575ebf76c8ac1a4fbf5b7ffca69b17e3"), looks := false }, kinds := [], alts := [], laidByText := true, laidKinds := [.data, .data, .pinned], laidTests := true, laidLooks := .later }
def StateLooksUptoCardSaid : Prop := Claim7.holds Tryz.pinned (.plain (OpenSpec.upto stateLooksSpec)) stateLooksUptoCard
end Rows
end Go.Proofs.YtcddpbpbebkdmaaGreatDoor
