/-
  DERIVED. GIVEN WITH THE SEED: THE CARDS: each row of YtcgagjbkfgaacaaGreatDoorRows.lean that lists a variable, with what it lists TIED to the program's text (the seventh form; the later family's looks); each row that meets fmt, with fmt's text TOLD by the authors' own Lean function (tested against real Go, not proved from fmt's source: count such statements apart). THE CARD IS WHAT COUNTS. Prove the row's statement (the work); the ties are given (YtcgagjbkfgaacaaGreatDoorTie.lean); close each card by the builder's one call (the guide's Derived/Test/ToyasCard.lean, 'card_holds'). Laid BY PROGRAM, IN A SANDBOX (cutbox-door.mjs). By AI agents, Wed Nov 11 2026. No macro, syntax, notation, axiom, sorry.
-/
import Derived.Test.YtcgagjbkfgaacaaGreatDoorRows
import GoSem.ClaimSeven
namespace Go.Proofs.YtcgagjbkfgaacaaGreatDoor
namespace Rows

/-- THE TIED CARD OF 'trclaw12.PolicyParse'. -/
def policyParseCard : Claim7 := { stood := { row := policyParseRow, standIns := [], harness := (true, "0143d623797f3f9583a313d2e85a576cf47020ab22a402ec6d1b8dc345f58c4a"), looks := false }, kinds := [], alts := [], laidByText := true, laidKinds := [.data, .pinned], laidTests := true, laidLooks := .later }
def PolicyParseCardSaid : Prop := Claim7.holds Tryz.pinned (.plain (OpenSpec.ofChange policyParseSpec)) policyParseCard

/-- THE TIED CARD OF 'trclaw12.PolicyBuilt'. -/
def policyBuiltCard : Claim7 := { stood := { row := policyBuiltRow, standIns := [], harness := (true, "0143d623797f3f9583a313d2e85a576cf47020ab22a402ec6d1b8dc345f58c4a"), looks := false }, kinds := [], alts := [], laidByText := true, laidKinds := [.data, .pinned], laidTests := true, laidLooks := .later }
def PolicyBuiltCardSaid : Prop := Claim7.holds Tryz.pinned (.plain (OpenSpec.ofChange policyBuiltSpec)) policyBuiltCard

/-- THE TIED CARD OF 'trclaw12.PolicySpoiled'. -/
def policySpoiledCard : Claim7 := { stood := { row := policySpoiledRow, standIns := [], harness := (true, "0143d623797f3f9583a313d2e85a576cf47020ab22a402ec6d1b8dc345f58c4a"), looks := false }, kinds := [], alts := [], laidByText := true, laidKinds := [.data, .pinned], laidTests := true, laidLooks := .later }
def PolicySpoiledCardSaid : Prop := Claim7.holds Tryz.pinned (.plain (OpenSpec.ofChange policySpoiledSpec)) policySpoiledCard

/-- THE TIED CARD OF 'trclaw12.PolicyValidate'. -/
def policyValidateCard : Claim7 := { stood := { row := policyValidateRow, standIns := [], harness := (true, "0143d623797f3f9583a313d2e85a576cf47020ab22a402ec6d1b8dc345f58c4a"), looks := false }, kinds := [], alts := [], laidByText := true, laidKinds := [.data, .pinned], laidTests := true, laidLooks := .later }
def PolicyValidateCardSaid : Prop := Claim7.holds Tryz.pinned (.plain (OpenSpec.ofChange policyValidateSpec)) policyValidateCard

/-- THE TIED CARD OF 'trclaw12.PolicyRoundTrip'. -/
def policyRoundTripCard : Claim7 := { stood := { row := policyRoundTripRow, standIns := [], harness := (true, "0143d623797f3f9583a313d2e85a576cf47020ab22a402ec6d1b8dc345f58c4a"), looks := false }, kinds := [], alts := [], laidByText := true, laidKinds := [.data, .pinned], laidTests := true, laidLooks := .later }
def PolicyRoundTripCardSaid : Prop := Claim7.holds Tryz.pinned (.plain (OpenSpec.ofChange policyRoundTripSpec)) policyRoundTripCard

/-- THE TIED CARD OF 'trclaw12.PolicyComments'. -/
def policyCommentsCard : Claim7 := { stood := { row := policyCommentsRow, standIns := [], harness := (true, "0143d623797f3f9583a313d2e85a576cf47020ab22a402ec6d1b8dc345f58c4a"), looks := false }, kinds := [], alts := [], laidByText := true, laidKinds := [.data, .pinned], laidTests := true, laidLooks := .later }
def PolicyCommentsCardSaid : Prop := Claim7.holds Tryz.pinned (.plain (OpenSpec.ofChange policyCommentsSpec)) policyCommentsCard

/-- THE SECOND FORM's CARD OF 'trclaw12.PolicyParse'. -/
def policyParseUptoCard : Claim7 := { stood := { row := policyParseUptoRow, standIns := [], harness := (true, "0143d623797f3f9583a313d2e85a576cf47020ab22a402ec6d1b8dc345f58c4a"), looks := false }, kinds := [], alts := [], laidByText := true, laidKinds := [.data, .pinned], laidTests := true, laidLooks := .later }
def PolicyParseUptoCardSaid : Prop := Claim7.holds Tryz.pinned (.plain (OpenSpec.upto policyParseSpec)) policyParseUptoCard

/-- THE SECOND FORM's CARD OF 'trclaw12.PolicyBuilt'. -/
def policyBuiltUptoCard : Claim7 := { stood := { row := policyBuiltUptoRow, standIns := [], harness := (true, "0143d623797f3f9583a313d2e85a576cf47020ab22a402ec6d1b8dc345f58c4a"), looks := false }, kinds := [], alts := [], laidByText := true, laidKinds := [.data, .pinned], laidTests := true, laidLooks := .later }
def PolicyBuiltUptoCardSaid : Prop := Claim7.holds Tryz.pinned (.plain (OpenSpec.upto policyBuiltSpec)) policyBuiltUptoCard

/-- THE SECOND FORM's CARD OF 'trclaw12.PolicySpoiled'. -/
def policySpoiledUptoCard : Claim7 := { stood := { row := policySpoiledUptoRow, standIns := [], harness := (true, "0143d623797f3f9583a313d2e85a576cf47020ab22a402ec6d1b8dc345f58c4a"), looks := false }, kinds := [], alts := [], laidByText := true, laidKinds := [.data, .pinned], laidTests := true, laidLooks := .later }
def PolicySpoiledUptoCardSaid : Prop := Claim7.holds Tryz.pinned (.plain (OpenSpec.upto policySpoiledSpec)) policySpoiledUptoCard

/-- THE SECOND FORM's CARD OF 'trclaw12.PolicyValidate'. -/
def policyValidateUptoCard : Claim7 := { stood := { row := policyValidateUptoRow, standIns := [], harness := (true, "0143d623797f3f9583a313d2e85a576cf47020ab22a402ec6d1b8dc345f58c4a"), looks := false }, kinds := [], alts := [], laidByText := true, laidKinds := [.data, .pinned], laidTests := true, laidLooks := .later }
def PolicyValidateUptoCardSaid : Prop := Claim7.holds Tryz.pinned (.plain (OpenSpec.upto policyValidateSpec)) policyValidateUptoCard

/-- THE SECOND FORM's CARD OF 'trclaw12.PolicyRoundTrip'. -/
def policyRoundTripUptoCard : Claim7 := { stood := { row := policyRoundTripUptoRow, standIns := [], harness := (true, "0143d623797f3f9583a313d2e85a576cf47020ab22a402ec6d1b8dc345f58c4a"), looks := false }, kinds := [], alts := [], laidByText := true, laidKinds := [.data, .pinned], laidTests := true, laidLooks := .later }
def PolicyRoundTripUptoCardSaid : Prop := Claim7.holds Tryz.pinned (.plain (OpenSpec.upto policyRoundTripSpec)) policyRoundTripUptoCard

/-- THE SECOND FORM's CARD OF 'trclaw12.PolicyComments'. -/
def policyCommentsUptoCard : Claim7 := { stood := { row := policyCommentsUptoRow, standIns := [], harness := (true, "0143d623797f3f9583a313d2e85a576cf47020ab22a402ec6d1b8dc345f58c4a"), looks := false }, kinds := [], alts := [], laidByText := true, laidKinds := [.data, .pinned], laidTests := true, laidLooks := .later }
def PolicyCommentsUptoCardSaid : Prop := Claim7.holds Tryz.pinned (.plain (OpenSpec.upto policyCommentsSpec)) policyCommentsUptoCard
end Rows
end Go.Proofs.YtcgagjbkfgaacaaGreatDoor
