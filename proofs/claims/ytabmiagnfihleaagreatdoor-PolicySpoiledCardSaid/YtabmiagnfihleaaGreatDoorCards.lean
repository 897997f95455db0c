/-
  DERIVED. GIVEN WITH THE SEED: THE CARDS: each row of YtabmiagnfihleaaGreatDoorRows.lean that lists a variable, with what it lists TIED to the program's text (the seventh form; the later family's looks); each row that meets fmt, with fmt's text TOLD by the authors' own Lean function (tested against real Go, not proved from fmt's source: count such statements apart). THE CARD IS WHAT COUNTS. Prove the row's statement (the work); the ties are given (YtabmiagnfihleaaGreatDoorTie.lean); close each card by the builder's one call (the guide's Derived/Test/ToyasCard.lean, 'card_holds'). Laid BY PROGRAM, IN A SANDBOX (cutbox-door.mjs). By AI agents, Wed Nov 11 2026. No macro, syntax, notation, axiom, sorry.
-/
import Derived.Test.YtabmiagnfihleaaGreatDoorRows
import GoSem.ClaimSeven
namespace Go.Proofs.YtabmiagnfihleaaGreatDoor
namespace Rows

/-- THE TIED CARD OF 'trclaw12.PolicySpoiled'. -/
def policySpoiledCard : Claim7 := { stood := { row := policySpoiledRow, standIns := [], harness := (true, "13c0d1aff493698ecf5039a8275fc97b83b8d9d5b858cf44e68f13be7c7513bc"), looks := false }, kinds := [], alts := [], laidByText := true, laidKinds := [.data, .pinned], laidTests := true, laidLooks := .later }
def PolicySpoiledCardSaid : Prop := Claim7.holds Tryz.pinned (.plain (OpenSpec.ofChange policySpoiledSpec)) policySpoiledCard

/-- THE SECOND FORM's CARD OF 'trclaw12.PolicySpoiled'. -/
def policySpoiledUptoCard : Claim7 := { stood := { row := policySpoiledUptoRow, standIns := [], harness := (true, "13c0d1aff493698ecf5039a8275fc97b83b8d9d5b858cf44e68f13be7c7513bc"), looks := false }, kinds := [], alts := [], laidByText := true, laidKinds := [.data, .pinned], laidTests := true, laidLooks := .later }
def PolicySpoiledUptoCardSaid : Prop := Claim7.holds Tryz.pinned (.plain (OpenSpec.upto policySpoiledSpec)) policySpoiledUptoCard
end Rows
end Go.Proofs.YtabmiagnfihleaaGreatDoor
