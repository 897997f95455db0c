/-
  DERIVED. GIVEN WITH THE SEED: THE CARDS: each row of YtdnkeinjfddmnaaGreatDoorRows.lean that lists a variable, with what it lists TIED to the program's text (the seventh form; the later family's looks); each row that meets fmt, with fmt's text TOLD by the authors' own Lean function (tested against real Go, not proved from fmt's source: count such statements apart). THE CARD IS WHAT COUNTS. Prove the row's statement (the work); the ties are given (YtdnkeinjfddmnaaGreatDoorTie.lean); close each card by the builder's one call (the guide's Derived/Test/ToyasCard.lean, 'card_holds'). Laid BY PROGRAM, IN A SANDBOX (cutbox-door.mjs). By AI agents, Wed Nov 11 2026. No macro, syntax, notation, axiom, sorry.
-/
import Derived.Test.YtdnkeinjfddmnaaGreatDoorRows
import GoSem.ClaimSeven
namespace Go.Proofs.YtdnkeinjfddmnaaGreatDoor
namespace Rows

/-- THE TIED CARD OF 'trclaw20.HtmlTexts'. -/
def htmlTextsCard : Claim7 := { stood := { row := htmlTextsRow, standIns := [], harness := (true, "36fc93c73915596cb728fd58ec0af19ca9d62d5d85d17c4f583d298e9414f5ca"), looks := true }, kinds := [], alts := [], laidByText := true, laidKinds := [.data, .data, .data, .data, .pinned], laidTests := true, laidLooks := .later }
def HtmlTextsCardSaid : Prop := Claim7.holds Tryz.pinned (.plain (OpenSpec.ofChange htmlTextsSpec)) htmlTextsCard

/-- THE TIED CARD OF 'trclaw20.HtmlRender'. -/
def htmlRenderCard : Claim7 := { stood := { row := htmlRenderRow, standIns := [], harness := (true, "36fc93c73915596cb728fd58ec0af19ca9d62d5d85d17c4f583d298e9414f5ca"), looks := true }, kinds := [], alts := [], laidByText := true, laidKinds := [.data, .data, .data, .data, .pinned], laidTests := true, laidLooks := .later }
def HtmlRenderCardSaid : Prop := Claim7.holds Tryz.pinned (.plain (OpenSpec.ofChange htmlRenderSpec)) htmlRenderCard

/-- THE TIED CARD OF 'trclaw20.HtmlEscapes'. -/
def htmlEscapesCard : Claim7 := { stood := { row := htmlEscapesRow, standIns := [], harness := (true, "36fc93c73915596cb728fd58ec0af19ca9d62d5d85d17c4f583d298e9414f5ca"), looks := true }, kinds := [], alts := [], laidByText := true, laidKinds := [.data, .data, .data, .data, .pinned], laidTests := true, laidLooks := .later }
def HtmlEscapesCardSaid : Prop := Claim7.holds Tryz.pinned (.plain (OpenSpec.ofChange htmlEscapesSpec)) htmlEscapesCard

/-- THE TIED CARD OF 'trclaw20.HtmlReferences'. -/
def htmlReferencesCard : Claim7 := { stood := { row := htmlReferencesRow, standIns := [], harness := (true, "36fc93c73915596cb728fd58ec0af19ca9d62d5d85d17c4f583d298e9414f5ca"), looks := true }, kinds := [], alts := [], laidByText := true, laidKinds := [.data, .data, .data, .data, .pinned], laidTests := true, laidLooks := .later }
def HtmlReferencesCardSaid : Prop := Claim7.holds Tryz.pinned (.plain (OpenSpec.ofChange htmlReferencesSpec)) htmlReferencesCard

/-- THE TIED CARD OF 'trclaw20.HtmlSafe'. -/
def htmlSafeCard : Claim7 := { stood := { row := htmlSafeRow, standIns := [], harness := (true, "36fc93c73915596cb728fd58ec0af19ca9d62d5d85d17c4f583d298e9414f5ca"), looks := true }, kinds := [], alts := [], laidByText := true, laidKinds := [.data, .data, .data, .data, .pinned], laidTests := true, laidLooks := .later }
def HtmlSafeCardSaid : Prop := Claim7.holds Tryz.pinned (.plain (OpenSpec.ofChange htmlSafeSpec)) htmlSafeCard

/-- THE TIED CARD OF 'trclaw20.HtmlPaths'. -/
def htmlPathsCard : Claim7 := { stood := { row := htmlPathsRow, standIns := [], harness := (true, "36fc93c73915596cb728fd58ec0af19ca9d62d5d85d17c4f583d298e9414f5ca"), looks := true }, kinds := [], alts := [], laidByText := true, laidKinds := [.data, .data, .data, .data, .pinned], laidTests := true, laidLooks := .later }
def HtmlPathsCardSaid : Prop := Claim7.holds Tryz.pinned (.plain (OpenSpec.ofChange htmlPathsSpec)) htmlPathsCard

/-- THE TIED CARD OF 'trclaw20.HtmlTargets'. -/
def htmlTargetsCard : Claim7 := { stood := { row := htmlTargetsRow, standIns := [], harness := (true, "36fc93c73915596cb728fd58ec0af19ca9d62d5d85d17c4f583d298e9414f5ca"), looks := true }, kinds := [], alts := [], laidByText := true, laidKinds := [.data, .data, .data, .data, .pinned], laidTests := true, laidLooks := .later }
def HtmlTargetsCardSaid : Prop := Claim7.holds Tryz.pinned (.plain (OpenSpec.ofChange htmlTargetsSpec)) htmlTargetsCard

/-- THE TIED CARD OF 'trclaw20.HtmlMissing'. -/
def htmlMissingCard : Claim7 := { stood := { row := htmlMissingRow, standIns := [], harness := (true, "36fc93c73915596cb728fd58ec0af19ca9d62d5d85d17c4f583d298e9414f5ca"), looks := true }, kinds := [], alts := [], laidByText := true, laidKinds := [.data, .data, .data, .data, .pinned], laidTests := true, laidLooks := .later }
def HtmlMissingCardSaid : Prop := Claim7.holds Tryz.pinned (.plain (OpenSpec.ofChange htmlMissingSpec)) htmlMissingCard

/-- THE SECOND FORM's CARD OF 'trclaw20.HtmlTexts'. -/
def htmlTextsUptoCard : Claim7 := { stood := { row := htmlTextsUptoRow, standIns := [], harness := (true, "36fc93c73915596cb728fd58ec0af19ca9d62d5d85d17c4f583d298e9414f5ca"), looks := true }, kinds := [], alts := [], laidByText := true, laidKinds := [.data, .data, .data, .data, .pinned], laidTests := true, laidLooks := .later }
def HtmlTextsUptoCardSaid : Prop := Claim7.holds Tryz.pinned (.plain (OpenSpec.upto htmlTextsSpec)) htmlTextsUptoCard

/-- THE SECOND FORM's CARD OF 'trclaw20.HtmlRender'. -/
def htmlRenderUptoCard : Claim7 := { stood := { row := htmlRenderUptoRow, standIns := [], harness := (true, "36fc93c73915596cb728fd58ec0af19ca9d62d5d85d17c4f583d298e9414f5ca"), looks := true }, kinds := [], alts := [], laidByText := true, laidKinds := [.data, .data, .data, .data, .pinned], laidTests := true, laidLooks := .later }
def HtmlRenderUptoCardSaid : Prop := Claim7.holds Tryz.pinned (.plain (OpenSpec.upto htmlRenderSpec)) htmlRenderUptoCard

/-- THE SECOND FORM's CARD OF 'trclaw20.HtmlEscapes'. -/
def htmlEscapesUptoCard : Claim7 := { stood := { row := htmlEscapesUptoRow, standIns := [], harness := (true, "36fc93c73915596cb728fd58ec0af19ca9d62d5d85d17c4f583d298e9414f5ca"), looks := true }, kinds := [], alts := [], laidByText := true, laidKinds := [.data, .data, .data, .data, .pinned], laidTests := true, laidLooks := .later }
def HtmlEscapesUptoCardSaid : Prop := Claim7.holds Tryz.pinned (.plain (OpenSpec.upto htmlEscapesSpec)) htmlEscapesUptoCard

/-- THE SECOND FORM's CARD OF 'trclaw20.HtmlReferences'. -/
def htmlReferencesUptoCard : Claim7 := { stood := { row := htmlReferencesUptoRow, standIns := [], harness := (true, "36fc93c73915596cb728fd58ec0af19ca9d62d5d85d17c4f583d298e9414f5ca"), looks := true }, kinds := [], alts := [], laidByText := true, laidKinds := [.data, .data, .data, .data, .pinned], laidTests := true, laidLooks := .later }
def HtmlReferencesUptoCardSaid : Prop := Claim7.holds Tryz.pinned (.plain (OpenSpec.upto htmlReferencesSpec)) htmlReferencesUptoCard

/-- THE SECOND FORM's CARD OF 'trclaw20.HtmlSafe'. -/
def htmlSafeUptoCard : Claim7 := { stood := { row := htmlSafeUptoRow, standIns := [], harness := (true, "36fc93c73915596cb728fd58ec0af19ca9d62d5d85d17c4f583d298e9414f5ca"), looks := true }, kinds := [], alts := [], laidByText := true, laidKinds := [.data, .data, .data, .data, .pinned], laidTests := true, laidLooks := .later }
def HtmlSafeUptoCardSaid : Prop := Claim7.holds Tryz.pinned (.plain (OpenSpec.upto htmlSafeSpec)) htmlSafeUptoCard

/-- THE SECOND FORM's CARD OF 'trclaw20.HtmlPaths'. -/
def htmlPathsUptoCard : Claim7 := { stood := { row := htmlPathsUptoRow, standIns := [], harness := (true, "36fc93c73915596cb728fd58ec0af19ca9d62d5d85d17c4f583d298e9414f5ca"), looks := true }, kinds := [], alts := [], laidByText := true, laidKinds := [.data, .data, .data, .data, .pinned], laidTests := true, laidLooks := .later }
def HtmlPathsUptoCardSaid : Prop := Claim7.holds Tryz.pinned (.plain (OpenSpec.upto htmlPathsSpec)) htmlPathsUptoCard

/-- THE SECOND FORM's CARD OF 'trclaw20.HtmlTargets'. -/
def htmlTargetsUptoCard : Claim7 := { stood := { row := htmlTargetsUptoRow, standIns := [], harness := (true, "36fc93c73915596cb728fd58ec0af19ca9d62d5d85d17c4f583d298e9414f5ca"), looks := true }, kinds := [], alts := [], laidByText := true, laidKinds := [.data, .data, .data, .data, .pinned], laidTests := true, laidLooks := .later }
def HtmlTargetsUptoCardSaid : Prop := Claim7.holds Tryz.pinned (.plain (OpenSpec.upto htmlTargetsSpec)) htmlTargetsUptoCard

/-- THE SECOND FORM's CARD OF 'trclaw20.HtmlMissing'. -/
def htmlMissingUptoCard : Claim7 := { stood := { row := htmlMissingUptoRow, standIns := [], harness := (true, "36fc93c73915596cb728fd58ec0af19ca9d62d5d85d17c4f583d298e9414f5ca"), looks := true }, kinds := [], alts := [], laidByText := true, laidKinds := [.data, .data, .data, .data, .pinned], laidTests := true, laidLooks := .later }
def HtmlMissingUptoCardSaid : Prop := Claim7.holds Tryz.pinned (.plain (OpenSpec.upto htmlMissingSpec)) htmlMissingUptoCard
end Rows
end Go.Proofs.YtdnkeinjfddmnaaGreatDoor
