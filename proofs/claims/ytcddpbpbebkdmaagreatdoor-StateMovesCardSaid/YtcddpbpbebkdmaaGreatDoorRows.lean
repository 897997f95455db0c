/-
  NARROWER THAN 'FOR EVERY INPUT', by the rows' own cells (each row's printed sentence says how): StateValid: laid · StateApplies: laid · StateTouched: laid · StateKeeps: laid · StateSplits: laid · StateReturns: laid · StateMoves: laid · StateOthers: laid · StatePolicy: laid · StateUsers: laid · StateFull: laid · StateLooks: laid.
  DERIVED. THE GIVEN ROWS OF THIS SEAT. 12 by the template 'for every input the law returns true; each argument reads behind the call as it read before'; 0 by the template 'total and deterministic' (their statements: YtcddpbpbebkdmaaGreatDoorTotals.lean).
  GIVEN WITH THE SEED: the statements are not yours to turn. If you find one false, say at which input.
  Laid BY PROGRAM, IN A SANDBOX (cutbox-rows.mjs): the forced cells as the released guide's own fill.sh prints them over the translation 990b09dabd4740d0… (all of the seat's roots in one cut). By AI agents, Wed Nov 11 2026. No macro, syntax, notation, axiom, sorry.
-/
import Derived.Test.YtcddpbpbebkdmaaGreatDoorChecked
import GoSem.PinnedTables
import GoSem.Claim
import GoSem.ClaimJoined
import GoSem.ClaimMapViews
import Derived.JoinedTies
import Derived.KernelRfl
namespace Go.Proofs.YtcddpbpbebkdmaaGreatDoor
/- THE CELL 'sum', in the pinned program and in every row, IS THE sha256 OF THE DUMP (.gsa) THAT YtcddpbpbebkdmaaGreatDoorProg.lean LOADS. Nothing in Lean hashes anything: it is a label: what it is worth is what the hold of that sum in a sandbox is worth. -/
noncomputable def Tryz.pinned : Pinned := { name := "ytcddpbpbebkdmaagreatdoor", sum := "990b09dabd4740d00373f3f9619dae841d838d40385a661de8906be4ddcbd9af", checked := Tryz.checked }
namespace Rows
def none {H : Type} : Left H := { results := [], args := [] }

/- WHAT THE LISTED PACKAGE-LEVEL VARIABLES READ AS WHEN THE CALL BEGINS. Each datum BY PROGRAM (the guide's laid-datum.mjs) off the statement by which the dump's own 'gosem.cut.vars' lays the variable. In a bare row this is a premise. The card (YtcddpbpbebkdmaaGreatDoorCards.lean) ties it to the program's text. -/
def laid_unicode_utf8_acceptRanges {H : Type} : DataW H := .agg [.agg [.lit (.int .u8 128), .lit (.int .u8 191)], .agg [.lit (.int .u8 160), .lit (.int .u8 191)], .agg [.lit (.int .u8 128), .lit (.int .u8 159)], .agg [.lit (.int .u8 144), .lit (.int .u8 191)], .agg [.lit (.int .u8 128), .lit (.int .u8 143)], .agg [.lit (.int .u8 0), .lit (.int .u8 0)], .agg [.lit (.int .u8 0), .lit (.int .u8 0)], .agg [.lit (.int .u8 0), .lit (.int .u8 0)], .agg [.lit (.int .u8 0), .lit (.int .u8 0)], .agg [.lit (.int .u8 0), .lit (.int .u8 0)], .agg [.lit (.int .u8 0), .lit (.int .u8 0)], .agg [.lit (.int .u8 0), .lit (.int .u8 0)], .agg [.lit (.int .u8 0), .lit (.int .u8 0)], .agg [.lit (.int .u8 0), .lit (.int .u8 0)], .agg [.lit (.int .u8 0), .lit (.int .u8 0)], .agg [.lit (.int .u8 0), .lit (.int .u8 0)]]
def laid_transclude_state_rules {H : Type} : DataW H := .agg [.lit (.int .i64 5), .lit (.string [80, 111, 108, 105, 99, 121])]
/-- One of Go's own tables, pinned by name: the form's constant. -/
def laid_unicode_utf8_first : DataW Unit := Go.Pinned.utf8First

/-- 'trclaw27.StateValid': WHATEVER THE INPUT: true; the input reads as it did. -/
def stateValidSpec : ChangeSpec := { name := "stateValid", fn := fun _ => fun
  | [d1, d2, d3, d4] => { results := [.lit (.bool true)], args := [d1, d2, d3, d4] }
  | _ => none }
def stateValidRow : OpenClaim := { program := "ytcddpbpbebkdmaagreatdoor", sum := "990b09dabd4740d00373f3f9619dae841d838d40385a661de8906be4ddcbd9af", func := "transclude/trclaw27.StateValid", spec := "stateValid", inPlace := ["internal/bytealg.IndexByteString", "internal/bytealg.CountString", "internal/bytealg.IndexString", "internal/bytealg.abigen_runtime_cmpstring", "internal/abi.NoEscape", "internal/bytealg.MakeNoZero", "slices.overlaps[transclude/api.Stored]", "slices.overlaps[transclude/api.Watch]", "slices.overlaps[transclude/api.Last]"], unfollowed := true, recurses := true, named := ["unicode/utf8.first", "unicode/utf8.acceptRanges", "internal/bytealg.MaxLen", "transclude/state.rules"], apart := false, laid := [("unicode/utf8.acceptRanges", laid_unicode_utf8_acceptRanges), ("transclude/state.rules", laid_transclude_state_rules), ("unicode/utf8.first", laid_unicode_utf8_first)] }
def StateValidSaid : Prop := stateValidRow.holds Tryz.pinned (OpenSpec.ofChange stateValidSpec)

/-- ITS FALSE NEIGHBOUR: 'it returns false'. Refute it at one input. -/
def stateValidWrong : ChangeSpec := { name := "stateValid", fn := fun _ => fun
  | [d1, d2, d3, d4] => { results := [.lit (.bool false)], args := [d1, d2, d3, d4] }
  | _ => none }
def StateValidWrongFalsely : Prop := stateValidRow.holds Tryz.pinned (OpenSpec.ofChange stateValidWrong)

/-- 'trclaw27.StateApplies': WHATEVER THE INPUT: true; the input reads as it did. -/
def stateAppliesSpec : ChangeSpec := { name := "stateApplies", fn := fun _ => fun
  | [d1, d2, d3, d4, d5, d6] => { results := [.lit (.bool true)], args := [d1, d2, d3, d4, d5, d6] }
  | _ => none }
def stateAppliesRow : OpenClaim := { program := "ytcddpbpbebkdmaagreatdoor", sum := "990b09dabd4740d00373f3f9619dae841d838d40385a661de8906be4ddcbd9af", func := "transclude/trclaw27.StateApplies", spec := "stateApplies", inPlace := ["internal/bytealg.IndexByteString", "internal/bytealg.CountString", "internal/bytealg.IndexString", "internal/bytealg.abigen_runtime_cmpstring", "internal/abi.NoEscape", "internal/bytealg.MakeNoZero", "slices.overlaps[transclude/api.Stored]", "slices.overlaps[transclude/api.Watch]", "slices.overlaps[transclude/api.Last]"], unfollowed := true, recurses := true, named := ["unicode/utf8.first", "unicode/utf8.acceptRanges", "internal/bytealg.MaxLen", "transclude/state.rules"], apart := false, laid := [("unicode/utf8.acceptRanges", laid_unicode_utf8_acceptRanges), ("transclude/state.rules", laid_transclude_state_rules), ("unicode/utf8.first", laid_unicode_utf8_first)] }
def StateAppliesSaid : Prop := stateAppliesRow.holds Tryz.pinned (OpenSpec.ofChange stateAppliesSpec)

/-- ITS FALSE NEIGHBOUR: 'it returns false'. Refute it at one input. -/
def stateAppliesWrong : ChangeSpec := { name := "stateApplies", fn := fun _ => fun
  | [d1, d2, d3, d4, d5, d6] => { results := [.lit (.bool false)], args := [d1, d2, d3, d4, d5, d6] }
  | _ => none }
def StateAppliesWrongFalsely : Prop := stateAppliesRow.holds Tryz.pinned (OpenSpec.ofChange stateAppliesWrong)

/-- 'trclaw27.StateTouched': WHATEVER THE INPUT: true; the input reads as it did. -/
def stateTouchedSpec : ChangeSpec := { name := "stateTouched", fn := fun _ => fun
  | [d1, d2, d3, d4, d5] => { results := [.lit (.bool true)], args := [d1, d2, d3, d4, d5] }
  | _ => none }
def stateTouchedRow : OpenClaim := { program := "ytcddpbpbebkdmaagreatdoor", sum := "990b09dabd4740d00373f3f9619dae841d838d40385a661de8906be4ddcbd9af", func := "transclude/trclaw27.StateTouched", spec := "stateTouched", inPlace := ["internal/bytealg.IndexByteString", "internal/bytealg.CountString", "internal/bytealg.IndexString", "internal/bytealg.abigen_runtime_cmpstring", "internal/abi.NoEscape", "internal/bytealg.MakeNoZero", "slices.overlaps[transclude/api.Stored]", "slices.overlaps[transclude/api.Watch]", "slices.overlaps[transclude/api.Last]"], unfollowed := true, recurses := true, named := ["unicode/utf8.first", "unicode/utf8.acceptRanges", "internal/bytealg.MaxLen", "transclude/state.rules"], apart := false, laid := [("unicode/utf8.acceptRanges", laid_unicode_utf8_acceptRanges), ("transclude/state.rules", laid_transclude_state_rules), ("unicode/utf8.first", laid_unicode_utf8_first)] }
def StateTouchedSaid : Prop := stateTouchedRow.holds Tryz.pinned (OpenSpec.ofChange stateTouchedSpec)

/-- ITS FALSE NEIGHBOUR: 'it returns false'. Refute it at one input. -/
def stateTouchedWrong : ChangeSpec := { name := "stateTouched", fn := fun _ => fun
  | [d1, d2, d3, d4, d5] => { results := [.lit (.bool false)], args := [d1, d2, d3, d4, d5] }
  | _ => none }
def StateTouchedWrongFalsely : Prop := stateTouchedRow.holds Tryz.pinned (OpenSpec.ofChange stateTouchedWrong)

/-- 'trclaw27.StateKeeps': WHATEVER THE INPUT: true; the input reads as it did. -/
def stateKeepsSpec : ChangeSpec := { name := "stateKeeps", fn := fun _ => fun
  | [d1, d2] => { results := [.lit (.bool true)], args := [d1, d2] }
  | _ => none }
def stateKeepsRow : OpenClaim := { program := "ytcddpbpbebkdmaagreatdoor", sum := "990b09dabd4740d00373f3f9619dae841d838d40385a661de8906be4ddcbd9af", func := "transclude/trclaw27.StateKeeps", spec := "stateKeeps", inPlace := ["internal/bytealg.IndexByteString", "internal/bytealg.CountString", "internal/bytealg.IndexString", "internal/bytealg.abigen_runtime_cmpstring", "internal/abi.NoEscape", "internal/bytealg.MakeNoZero", "slices.overlaps[transclude/api.Stored]", "slices.overlaps[transclude/api.Watch]", "slices.overlaps[transclude/api.Last]"], unfollowed := true, recurses := true, named := ["unicode/utf8.first", "unicode/utf8.acceptRanges", "internal/bytealg.MaxLen", "transclude/state.rules"], apart := false, laid := [("unicode/utf8.acceptRanges", laid_unicode_utf8_acceptRanges), ("transclude/state.rules", laid_transclude_state_rules), ("unicode/utf8.first", laid_unicode_utf8_first)] }
def StateKeepsSaid : Prop := stateKeepsRow.holds Tryz.pinned (OpenSpec.ofChange stateKeepsSpec)

/-- ITS FALSE NEIGHBOUR: 'it returns false'. Refute it at one input. -/
def stateKeepsWrong : ChangeSpec := { name := "stateKeeps", fn := fun _ => fun
  | [d1, d2] => { results := [.lit (.bool false)], args := [d1, d2] }
  | _ => none }
def StateKeepsWrongFalsely : Prop := stateKeepsRow.holds Tryz.pinned (OpenSpec.ofChange stateKeepsWrong)

/-- 'trclaw27.StateSplits': WHATEVER THE INPUT: true; the input reads as it did. -/
def stateSplitsSpec : ChangeSpec := { name := "stateSplits", fn := fun _ => fun
  | [d1, d2, d3] => { results := [.lit (.bool true)], args := [d1, d2, d3] }
  | _ => none }
def stateSplitsRow : OpenClaim := { program := "ytcddpbpbebkdmaagreatdoor", sum := "990b09dabd4740d00373f3f9619dae841d838d40385a661de8906be4ddcbd9af", func := "transclude/trclaw27.StateSplits", spec := "stateSplits", inPlace := ["internal/bytealg.IndexByteString", "internal/bytealg.CountString", "internal/bytealg.IndexString", "internal/bytealg.abigen_runtime_cmpstring", "internal/abi.NoEscape", "internal/bytealg.MakeNoZero", "slices.overlaps[transclude/api.Stored]", "slices.overlaps[transclude/api.Watch]", "slices.overlaps[transclude/api.Last]"], unfollowed := true, recurses := true, named := ["unicode/utf8.first", "unicode/utf8.acceptRanges", "internal/bytealg.MaxLen", "transclude/state.rules"], apart := false, laid := [("unicode/utf8.acceptRanges", laid_unicode_utf8_acceptRanges), ("transclude/state.rules", laid_transclude_state_rules), ("unicode/utf8.first", laid_unicode_utf8_first)] }
def StateSplitsSaid : Prop := stateSplitsRow.holds Tryz.pinned (OpenSpec.ofChange stateSplitsSpec)

/-- ITS FALSE NEIGHBOUR: 'it returns false'. Refute it at one input. -/
def stateSplitsWrong : ChangeSpec := { name := "stateSplits", fn := fun _ => fun
  | [d1, d2, d3] => { results := [.lit (.bool false)], args := [d1, d2, d3] }
  | _ => none }
def StateSplitsWrongFalsely : Prop := stateSplitsRow.holds Tryz.pinned (OpenSpec.ofChange stateSplitsWrong)

/-- 'trclaw27.StateReturns': WHATEVER THE INPUT: true; the input reads as it did. -/
def stateReturnsSpec : ChangeSpec := { name := "stateReturns", fn := fun _ => fun
  | [d1, d2, d3] => { results := [.lit (.bool true)], args := [d1, d2, d3] }
  | _ => none }
def stateReturnsRow : OpenClaim := { program := "ytcddpbpbebkdmaagreatdoor", sum := "990b09dabd4740d00373f3f9619dae841d838d40385a661de8906be4ddcbd9af", func := "transclude/trclaw27.StateReturns", spec := "stateReturns", inPlace := ["internal/bytealg.IndexByteString", "internal/bytealg.CountString", "internal/bytealg.IndexString", "internal/bytealg.abigen_runtime_cmpstring", "internal/abi.NoEscape", "internal/bytealg.MakeNoZero", "slices.overlaps[transclude/api.Stored]", "slices.overlaps[transclude/api.Watch]", "slices.overlaps[transclude/api.Last]"], unfollowed := true, recurses := true, named := ["unicode/utf8.first", "unicode/utf8.acceptRanges", "internal/bytealg.MaxLen", "transclude/state.rules"], apart := false, laid := [("unicode/utf8.acceptRanges", laid_unicode_utf8_acceptRanges), ("transclude/state.rules", laid_transclude_state_rules), ("unicode/utf8.first", laid_unicode_utf8_first)] }
def StateReturnsSaid : Prop := stateReturnsRow.holds Tryz.pinned (OpenSpec.ofChange stateReturnsSpec)

/-- ITS FALSE NEIGHBOUR: 'it returns false'. Refute it at one input. -/
def stateReturnsWrong : ChangeSpec := { name := "stateReturns", fn := fun _ => fun
  | [d1, d2, d3] => { results := [.lit (.bool false)], args := [d1, d2, d3] }
  | _ => none }
def StateReturnsWrongFalsely : Prop := stateReturnsRow.holds Tryz.pinned (OpenSpec.ofChange stateReturnsWrong)

/-- 'trclaw27.StateMoves': WHATEVER THE INPUT: true; the input reads as it did. -/
def stateMovesSpec : ChangeSpec := { name := "stateMoves", fn := fun _ => fun
  | [d1, d2, d3, d4] => { results := [.lit (.bool true)], args := [d1, d2, d3, d4] }
  | _ => none }
def stateMovesRow : OpenClaim := { program := "ytcddpbpbebkdmaagreatdoor", sum := "990b09dabd4740d00373f3f9619dae841d838d40385a661de8906be4ddcbd9af", func := "transclude/trclaw27.StateMoves", spec := "stateMoves", inPlace := ["internal/bytealg.IndexByteString", "internal/bytealg.CountString", "internal/bytealg.IndexString", "internal/bytealg.abigen_runtime_cmpstring", "internal/abi.NoEscape", "internal/bytealg.MakeNoZero", "slices.overlaps[transclude/api.Stored]", "slices.overlaps[transclude/api.Watch]", "slices.overlaps[transclude/api.Last]"], unfollowed := true, recurses := true, named := ["unicode/utf8.first", "unicode/utf8.acceptRanges", "internal/bytealg.MaxLen", "transclude/state.rules"], apart := false, laid := [("unicode/utf8.acceptRanges", laid_unicode_utf8_acceptRanges), ("transclude/state.rules", laid_transclude_state_rules), ("unicode/utf8.first", laid_unicode_utf8_first)] }
def StateMovesSaid : Prop := stateMovesRow.holds Tryz.pinned (OpenSpec.ofChange stateMovesSpec)

/-- ITS FALSE NEIGHBOUR: 'it returns false'. Refute it at one input. -/
def stateMovesWrong : ChangeSpec := { name := "stateMoves", fn := fun _ => fun
  | [d1, d2, d3, d4] => { results := [.lit (.bool false)], args := [d1, d2, d3, d4] }
  | _ => none }
def StateMovesWrongFalsely : Prop := stateMovesRow.holds Tryz.pinned (OpenSpec.ofChange stateMovesWrong)

/-- 'trclaw27.StateOthers': WHATEVER THE INPUT: true; the input reads as it did. -/
def stateOthersSpec : ChangeSpec := { name := "stateOthers", fn := fun _ => fun
  | [d1, d2, d3] => { results := [.lit (.bool true)], args := [d1, d2, d3] }
  | _ => none }
def stateOthersRow : OpenClaim := { program := "ytcddpbpbebkdmaagreatdoor", sum := "990b09dabd4740d00373f3f9619dae841d838d40385a661de8906be4ddcbd9af", func := "transclude/trclaw27.StateOthers", spec := "stateOthers", inPlace := ["internal/bytealg.IndexByteString", "internal/bytealg.CountString", "internal/bytealg.IndexString", "internal/bytealg.abigen_runtime_cmpstring", "internal/abi.NoEscape", "internal/bytealg.MakeNoZero", "slices.overlaps[transclude/api.Stored]", "slices.overlaps[transclude/api.Watch]", "slices.overlaps[transclude/api.Last]"], unfollowed := true, recurses := true, named := ["unicode/utf8.first", "unicode/utf8.acceptRanges", "internal/bytealg.MaxLen", "transclude/state.rules"], apart := false, laid := [("unicode/utf8.acceptRanges", laid_unicode_utf8_acceptRanges), ("transclude/state.rules", laid_transclude_state_rules), ("unicode/utf8.first", laid_unicode_utf8_first)] }
def StateOthersSaid : Prop := stateOthersRow.holds Tryz.pinned (OpenSpec.ofChange stateOthersSpec)

/-- ITS FALSE NEIGHBOUR: 'it returns false'. Refute it at one input. -/
def stateOthersWrong : ChangeSpec := { name := "stateOthers", fn := fun _ => fun
  | [d1, d2, d3] => { results := [.lit (.bool false)], args := [d1, d2, d3] }
  | _ => none }
def StateOthersWrongFalsely : Prop := stateOthersRow.holds Tryz.pinned (OpenSpec.ofChange stateOthersWrong)

/-- 'trclaw27.StatePolicy': WHATEVER THE INPUT: true; the input reads as it did. -/
def statePolicySpec : ChangeSpec := { name := "statePolicy", fn := fun _ => fun
  | [d1, d2, d3, d4] => { results := [.lit (.bool true)], args := [d1, d2, d3, d4] }
  | _ => none }
def statePolicyRow : OpenClaim := { program := "ytcddpbpbebkdmaagreatdoor", sum := "990b09dabd4740d00373f3f9619dae841d838d40385a661de8906be4ddcbd9af", func := "transclude/trclaw27.StatePolicy", spec := "statePolicy", inPlace := ["internal/bytealg.IndexByteString", "internal/bytealg.CountString", "internal/bytealg.IndexString", "internal/bytealg.abigen_runtime_cmpstring", "internal/abi.NoEscape", "internal/bytealg.MakeNoZero", "slices.overlaps[transclude/api.Stored]", "slices.overlaps[transclude/api.Watch]", "slices.overlaps[transclude/api.Last]"], unfollowed := true, recurses := true, named := ["unicode/utf8.first", "unicode/utf8.acceptRanges", "internal/bytealg.MaxLen", "transclude/state.rules"], apart := false, laid := [("unicode/utf8.acceptRanges", laid_unicode_utf8_acceptRanges), ("transclude/state.rules", laid_transclude_state_rules), ("unicode/utf8.first", laid_unicode_utf8_first)] }
def StatePolicySaid : Prop := statePolicyRow.holds Tryz.pinned (OpenSpec.ofChange statePolicySpec)

/-- ITS FALSE NEIGHBOUR: 'it returns false'. Refute it at one input. -/
def statePolicyWrong : ChangeSpec := { name := "statePolicy", fn := fun _ => fun
  | [d1, d2, d3, d4] => { results := [.lit (.bool false)], args := [d1, d2, d3, d4] }
  | _ => none }
def StatePolicyWrongFalsely : Prop := statePolicyRow.holds Tryz.pinned (OpenSpec.ofChange statePolicyWrong)

/-- 'trclaw27.StateUsers': WHATEVER THE INPUT: true; the input reads as it did. -/
def stateUsersSpec : ChangeSpec := { name := "stateUsers", fn := fun _ => fun
  | [d1, d2, d3] => { results := [.lit (.bool true)], args := [d1, d2, d3] }
  | _ => none }
def stateUsersRow : OpenClaim := { program := "ytcddpbpbebkdmaagreatdoor", sum := "990b09dabd4740d00373f3f9619dae841d838d40385a661de8906be4ddcbd9af", func := "transclude/trclaw27.StateUsers", spec := "stateUsers", inPlace := ["internal/bytealg.IndexByteString", "internal/bytealg.CountString", "internal/bytealg.IndexString", "internal/bytealg.abigen_runtime_cmpstring", "internal/abi.NoEscape", "internal/bytealg.MakeNoZero", "slices.overlaps[transclude/api.Stored]", "slices.overlaps[transclude/api.Watch]", "slices.overlaps[transclude/api.Last]"], unfollowed := true, recurses := true, named := ["unicode/utf8.first", "unicode/utf8.acceptRanges", "internal/bytealg.MaxLen", "transclude/state.rules"], apart := false, laid := [("unicode/utf8.acceptRanges", laid_unicode_utf8_acceptRanges), ("transclude/state.rules", laid_transclude_state_rules), ("unicode/utf8.first", laid_unicode_utf8_first)] }
def StateUsersSaid : Prop := stateUsersRow.holds Tryz.pinned (OpenSpec.ofChange stateUsersSpec)

/-- ITS FALSE NEIGHBOUR: 'it returns false'. Refute it at one input. -/
def stateUsersWrong : ChangeSpec := { name := "stateUsers", fn := fun _ => fun
  | [d1, d2, d3] => { results := [.lit (.bool false)], args := [d1, d2, d3] }
  | _ => none }
def StateUsersWrongFalsely : Prop := stateUsersRow.holds Tryz.pinned (OpenSpec.ofChange stateUsersWrong)

/-- 'trclaw27.StateFull': WHATEVER THE INPUT: true; the input reads as it did. -/
def stateFullSpec : ChangeSpec := { name := "stateFull", fn := fun _ => fun
  | [d1, d2] => { results := [.lit (.bool true)], args := [d1, d2] }
  | _ => none }
def stateFullRow : OpenClaim := { program := "ytcddpbpbebkdmaagreatdoor", sum := "990b09dabd4740d00373f3f9619dae841d838d40385a661de8906be4ddcbd9af", func := "transclude/trclaw27.StateFull", spec := "stateFull", inPlace := ["internal/bytealg.IndexByteString", "internal/bytealg.CountString", "internal/bytealg.IndexString", "internal/bytealg.abigen_runtime_cmpstring", "internal/abi.NoEscape", "internal/bytealg.MakeNoZero", "slices.overlaps[transclude/api.Stored]", "slices.overlaps[transclude/api.Watch]", "slices.overlaps[transclude/api.Last]"], unfollowed := true, recurses := true, named := ["unicode/utf8.first", "unicode/utf8.acceptRanges", "internal/bytealg.MaxLen", "transclude/state.rules"], apart := false, laid := [("unicode/utf8.acceptRanges", laid_unicode_utf8_acceptRanges), ("transclude/state.rules", laid_transclude_state_rules), ("unicode/utf8.first", laid_unicode_utf8_first)] }
def StateFullSaid : Prop := stateFullRow.holds Tryz.pinned (OpenSpec.ofChange stateFullSpec)

/-- ITS FALSE NEIGHBOUR: 'it returns false'. Refute it at one input. -/
def stateFullWrong : ChangeSpec := { name := "stateFull", fn := fun _ => fun
  | [d1, d2] => { results := [.lit (.bool false)], args := [d1, d2] }
  | _ => none }
def StateFullWrongFalsely : Prop := stateFullRow.holds Tryz.pinned (OpenSpec.ofChange stateFullWrong)

/-- 'trclaw27.StateLooks': WHATEVER THE INPUT: true; the input reads as it did. -/
def stateLooksSpec : ChangeSpec := { name := "stateLooks", fn := fun _ => fun
  | [d1, d2, d3, d4, d5, d6, d7] => { results := [.lit (.bool true)], args := [d1, d2, d3, d4, d5, d6, d7] }
  | _ => none }
def stateLooksRow : OpenClaim := { program := "ytcddpbpbebkdmaagreatdoor", sum := "990b09dabd4740d00373f3f9619dae841d838d40385a661de8906be4ddcbd9af", func := "transclude/trclaw27.StateLooks", spec := "stateLooks", inPlace := ["internal/bytealg.IndexByteString", "internal/bytealg.CountString", "internal/bytealg.IndexString", "internal/bytealg.abigen_runtime_cmpstring", "internal/abi.NoEscape", "internal/bytealg.MakeNoZero", "slices.overlaps[transclude/api.Stored]", "slices.overlaps[transclude/api.Watch]", "slices.overlaps[transclude/api.Last]"], unfollowed := true, recurses := true, named := ["unicode/utf8.first", "unicode/utf8.acceptRanges", "internal/bytealg.MaxLen", "transclude/state.rules"], apart := false, laid := [("unicode/utf8.acceptRanges", laid_unicode_utf8_acceptRanges), ("transclude/state.rules", laid_transclude_state_rules), ("unicode/utf8.first", laid_unicode_utf8_first)] }
def StateLooksSaid : Prop := stateLooksRow.holds Tryz.pinned (OpenSpec.ofChange stateLooksSpec)

/-- ITS FALSE NEIGHBOUR: 'it returns false'. Refute it at one input. -/
def stateLooksWrong : ChangeSpec := { name := "stateLooks", fn := fun _ => fun
  | [d1, d2, d3, d4, d5, d6, d7] => { results := [.lit (.bool false)], args := [d1, d2, d3, d4, d5, d6, d7] }
  | _ => none }
def StateLooksWrongFalsely : Prop := stateLooksRow.holds Tryz.pinned (OpenSpec.ofChange stateLooksWrong)

/- THE SECOND FORM. 'bulk': how many values and letters a reading holds, each counted each time it is reached (what is shared counts as often as it is met; a slice's spare places count too). A statement '..UptoSaid' is the law's where the arguments, and the package variables that the reading takes, are together of bulk at most 1048576: NARROWER than '..Said'. Prove '..Said' where nothing that the law and all that it calls make is longer than what came in: it says more and counts as full. Else prove '..UptoSaid'. A law counts once. -/
mutual
def uptoBulk {H : Type} : DataW H → Nat
  | .lit (.string bytes) => bytes.length + 1
  | .lit _ => 1
  | .nil => 1
  | .ptr d => uptoBulk d + 1
  | .slice elems spare => uptoBulkAll elems + uptoBulkAll spare + 1
  | .agg parts => uptoBulkAll parts + 1
  | .iface _ d => uptoBulk d + 1
  | .map entries => uptoBulkEntries entries + 1
  | .held _ => 1
def uptoBulkAll {H : Type} : List (DataW H) → Nat
  | [] => 0
  | d :: r => uptoBulk d + uptoBulkAll r
def uptoBulkEntries {H : Type} : List (Lit × DataW H) → Nat
  | [] => 0
  | x :: r => uptoBulkEntry x + uptoBulkEntries r
def uptoBulkEntry {H : Type} : Lit × DataW H → Nat
  | (.string bytes, d) => bytes.length + uptoBulk d + 1
  | (_, d) => uptoBulk d + 1
 end
def uptoSmall : (H : Type) → List (DataW H) → Bool := fun _ ds => decide (uptoBulkAll ds ≤ 1048576)
def OpenSpec.upto (s : _root_.Go.ChangeSpec) : _root_.Go.OpenSpec := { _root_.Go.OpenSpec.ofChange s with cond := some uptoSmall }

/-- 'trclaw27.StateValid', WHERE WHAT IT READS IS OF BULK AT MOST 1048576: true; the input reads as it did. -/
def stateValidUptoRow : OpenClaim := { program := "ytcddpbpbebkdmaagreatdoor", sum := "990b09dabd4740d00373f3f9619dae841d838d40385a661de8906be4ddcbd9af", func := "transclude/trclaw27.StateValid", spec := "stateValid", inPlace := ["internal/bytealg.IndexByteString", "internal/bytealg.CountString", "internal/bytealg.IndexString", "internal/bytealg.abigen_runtime_cmpstring", "internal/abi.NoEscape", "internal/bytealg.MakeNoZero", "slices.overlaps[transclude/api.Stored]", "slices.overlaps[transclude/api.Watch]", "slices.overlaps[transclude/api.Last]"], unfollowed := true, recurses := true, named := ["unicode/utf8.first", "unicode/utf8.acceptRanges", "internal/bytealg.MaxLen", "transclude/state.rules"], apart := false, laid := [("unicode/utf8.acceptRanges", laid_unicode_utf8_acceptRanges), ("transclude/state.rules", laid_transclude_state_rules), ("unicode/utf8.first", laid_unicode_utf8_first)], narrowed := true }
def StateValidUptoSaid : Prop := stateValidUptoRow.holds Tryz.pinned (OpenSpec.upto stateValidSpec)

/-- 'trclaw27.StateApplies', WHERE WHAT IT READS IS OF BULK AT MOST 1048576: true; the input reads as it did. -/
def stateAppliesUptoRow : OpenClaim := { program := "ytcddpbpbebkdmaagreatdoor", sum := "990b09dabd4740d00373f3f9619dae841d838d40385a661de8906be4ddcbd9af", func := "transclude/trclaw27.StateApplies", spec := "stateApplies", inPlace := ["internal/bytealg.IndexByteString", "internal/bytealg.CountString", "internal/bytealg.IndexString", "internal/bytealg.abigen_runtime_cmpstring", "internal/abi.NoEscape", "internal/bytealg.MakeNoZero", "slices.overlaps[transclude/api.Stored]", "slices.overlaps[transclude/api.Watch]", "slices.overlaps[transclude/api.Last]"], unfollowed := true, recurses := true, named := ["unicode/utf8.first", "unicode/utf8.acceptRanges", "internal/bytealg.MaxLen", "transclude/state.rules"], apart := false, laid := [("unicode/utf8.acceptRanges", laid_unicode_utf8_acceptRanges), ("transclude/state.rules", laid_transclude_state_rules), ("unicode/utf8.first", laid_unicode_utf8_first)], narrowed := true }
def StateAppliesUptoSaid : Prop := stateAppliesUptoRow.holds Tryz.pinned (OpenSpec.upto stateAppliesSpec)

/-- 'trclaw27.StateTouched', WHERE WHAT IT READS IS OF BULK AT MOST 1048576: true; the input reads as it did. -/
def stateTouchedUptoRow : OpenClaim := { program := "ytcddpbpbebkdmaagreatdoor", sum := "990b09dabd4740d00373f3f9619dae841d838d40385a661de8906be4ddcbd9af", func := "transclude/trclaw27.StateTouched", spec := "stateTouched", inPlace := ["internal/bytealg.IndexByteString", "internal/bytealg.CountString", "internal/bytealg.IndexString", "internal/bytealg.abigen_runtime_cmpstring", "internal/abi.NoEscape", "internal/bytealg.MakeNoZero", "slices.overlaps[transclude/api.Stored]", "slices.overlaps[transclude/api.Watch]", "slices.overlaps[transclude/api.Last]"], unfollowed := true, recurses := true, named := ["unicode/utf8.first", "unicode/utf8.acceptRanges", "internal/bytealg.MaxLen", "transclude/state.rules"], apart := false, laid := [("unicode/utf8.acceptRanges", laid_unicode_utf8_acceptRanges), ("transclude/state.rules", laid_transclude_state_rules), ("unicode/utf8.first", laid_unicode_utf8_first)], narrowed := true }
def StateTouchedUptoSaid : Prop := stateTouchedUptoRow.holds Tryz.pinned (OpenSpec.upto stateTouchedSpec)

/-- 'trclaw27.StateKeeps', WHERE WHAT IT READS IS OF BULK AT MOST 1048576: true; the input reads as it did. -/
def stateKeepsUptoRow : OpenClaim := { program := "ytcddpbpbebkdmaagreatdoor", sum := "990b09dabd4740d00373f3f9619dae841d838d40385a661de8906be4ddcbd9af", func := "transclude/trclaw27.StateKeeps", spec := "stateKeeps", inPlace := ["internal/bytealg.IndexByteString", "internal/bytealg.CountString", "internal/bytealg.IndexString", "internal/bytealg.abigen_runtime_cmpstring", "internal/abi.NoEscape", "internal/bytealg.MakeNoZero", "slices.overlaps[transclude/api.Stored]", "slices.overlaps[transclude/api.Watch]", "slices.overlaps[transclude/api.Last]"], unfollowed := true, recurses := true, named := ["unicode/utf8.first", "unicode/utf8.acceptRanges", "internal/bytealg.MaxLen", "transclude/state.rules"], apart := false, laid := [("unicode/utf8.acceptRanges", laid_unicode_utf8_acceptRanges), ("transclude/state.rules", laid_transclude_state_rules), ("unicode/utf8.first", laid_unicode_utf8_first)], narrowed := true }
def StateKeepsUptoSaid : Prop := stateKeepsUptoRow.holds Tryz.pinned (OpenSpec.upto stateKeepsSpec)

/-- 'trclaw27.StateSplits', WHERE WHAT IT READS IS OF BULK AT MOST 1048576: true; the input reads as it did. -/
def stateSplitsUptoRow : OpenClaim := { program := "ytcddpbpbebkdmaagreatdoor", sum := "990b09dabd4740d00373f3f9619dae841d838d40385a661de8906be4ddcbd9af", func := "transclude/trclaw27.StateSplits", spec := "stateSplits", inPlace := ["internal/bytealg.IndexByteString", "internal/bytealg.CountString", "internal/bytealg.IndexString", "internal/bytealg.abigen_runtime_cmpstring", "internal/abi.NoEscape", "internal/bytealg.MakeNoZero", "slices.overlaps[transclude/api.Stored]", "slices.overlaps[transclude/api.Watch]", "slices.overlaps[transclude/api.Last]"], unfollowed := true, recurses := true, named := ["unicode/utf8.first", "unicode/utf8.acceptRanges", "internal/bytealg.MaxLen", "transclude/state.rules"], apart := false, laid := [("unicode/utf8.acceptRanges", laid_unicode_utf8_acceptRanges), ("transclude/state.rules", laid_transclude_state_rules), ("unicode/utf8.first", laid_unicode_utf8_first)], narrowed := true }
def StateSplitsUptoSaid : Prop := stateSplitsUptoRow.holds Tryz.pinned (OpenSpec.upto stateSplitsSpec)

/-- 'trclaw27.StateReturns', WHERE WHAT IT READS IS OF BULK AT MOST 1048576: true; the input reads as it did. -/
def stateReturnsUptoRow : OpenClaim := { program := "ytcddpbpbebkdmaagreatdoor", sum := "990b09dabd4740d00373f3f9619dae841d838d40385a661de8906be4ddcbd9af", func := "transclude/trclaw27.StateReturns", spec := "stateReturns", inPlace := ["internal/bytealg.IndexByteString", "internal/bytealg.CountString", "internal/bytealg.IndexString", "internal/bytealg.abigen_runtime_cmpstring", "internal/abi.NoEscape", "internal/bytealg.MakeNoZero", "slices.overlaps[transclude/api.Stored]", "slices.overlaps[transclude/api.Watch]", "slices.overlaps[transclude/api.Last]"], unfollowed := true, recurses := true, named := ["unicode/utf8.first", "unicode/utf8.acceptRanges", "internal/bytealg.MaxLen", "transclude/state.rules"], apart := false, laid := [("unicode/utf8.acceptRanges", laid_unicode_utf8_acceptRanges), ("transclude/state.rules", laid_transclude_state_rules), ("unicode/utf8.first", laid_unicode_utf8_first)], narrowed := true }
def StateReturnsUptoSaid : Prop := stateReturnsUptoRow.holds Tryz.pinned (OpenSpec.upto stateReturnsSpec)

/-- 'trclaw27.StateMoves', WHERE WHAT IT READS IS OF BULK AT MOST 1048576: true; the input reads as it did. -/
def stateMovesUptoRow : OpenClaim := { program := "ytcddpbpbebkdmaagreatdoor", sum := "990b09dabd4740d00373f3f9619dae841d838d40385a661de8906be4ddcbd9af", func := "transclude/trclaw27.StateMoves", spec := "stateMoves", inPlace := ["internal/bytealg.IndexByteString", "internal/bytealg.CountString", "internal/bytealg.IndexString", "internal/bytealg.abigen_runtime_cmpstring", "internal/abi.NoEscape", "internal/bytealg.MakeNoZero", "slices.overlaps[transclude/api.Stored]", "slices.overlaps[transclude/api.Watch]", "slices.overlaps[transclude/api.Last]"], unfollowed := true, recurses := true, named := ["unicode/utf8.first", "unicode/utf8.acceptRanges", "internal/bytealg.MaxLen", "transclude/state.rules"], apart := false, laid := [("unicode/utf8.acceptRanges", laid_unicode_utf8_acceptRanges), ("transclude/state.rules", laid_transclude_state_rules), ("unicode/utf8.first", laid_unicode_utf8_first)], narrowed := true }
def StateMovesUptoSaid : Prop := stateMovesUptoRow.holds Tryz.pinned (OpenSpec.upto stateMovesSpec)

/-- 'trclaw27.StateOthers', WHERE WHAT IT READS IS OF BULK AT MOST 1048576: true; the input reads as it did. -/
def stateOthersUptoRow : OpenClaim := { program := "ytcddpbpbebkdmaagreatdoor", sum := "990b09dabd4740d00373f3f9619dae841d838d40385a661de8906be4ddcbd9af", func := "transclude/trclaw27.StateOthers", spec := "stateOthers", inPlace := ["internal/bytealg.IndexByteString", "internal/bytealg.CountString", "internal/bytealg.IndexString", "internal/bytealg.abigen_runtime_cmpstring", "internal/abi.NoEscape", "internal/bytealg.MakeNoZero", "slices.overlaps[transclude/api.Stored]", "slices.overlaps[transclude/api.Watch]", "slices.overlaps[transclude/api.Last]"], unfollowed := true, recurses := true, named := ["unicode/utf8.first", "unicode/utf8.acceptRanges", "internal/bytealg.MaxLen", "transclude/state.rules"], apart := false, laid := [("unicode/utf8.acceptRanges", laid_unicode_utf8_acceptRanges), ("transclude/state.rules", laid_transclude_state_rules), ("unicode/utf8.first", laid_unicode_utf8_first)], narrowed := true }
def StateOthersUptoSaid : Prop := stateOthersUptoRow.holds Tryz.pinned (OpenSpec.upto stateOthersSpec)

/-- 'trclaw27.StatePolicy', WHERE WHAT IT READS IS OF BULK AT MOST 1048576: true; the input reads as it did. -/
def statePolicyUptoRow : OpenClaim := { program := "ytcddpbpbebkdmaagreatdoor", sum := "990b09dabd4740d00373f3f9619dae841d838d40385a661de8906be4ddcbd9af", func := "transclude/trclaw27.StatePolicy", spec := "statePolicy", inPlace := ["internal/bytealg.IndexByteString", "internal/bytealg.CountString", "internal/bytealg.IndexString", "internal/bytealg.abigen_runtime_cmpstring", "internal/abi.NoEscape", "internal/bytealg.MakeNoZero", "slices.overlaps[transclude/api.Stored]", "slices.overlaps[transclude/api.Watch]", "slices.overlaps[transclude/api.Last]"], unfollowed := true, recurses := true, named := ["unicode/utf8.first", "unicode/utf8.acceptRanges", "internal/bytealg.MaxLen", "transclude/state.rules"], apart := false, laid := [("unicode/utf8.acceptRanges", laid_unicode_utf8_acceptRanges), ("transclude/state.rules", laid_transclude_state_rules), ("unicode/utf8.first", laid_unicode_utf8_first)], narrowed := true }
def StatePolicyUptoSaid : Prop := statePolicyUptoRow.holds Tryz.pinned (OpenSpec.upto statePolicySpec)

/-- 'trclaw27.StateUsers', WHERE WHAT IT READS IS OF BULK AT MOST 1048576: true; the input reads as it did. -/
def stateUsersUptoRow : OpenClaim := { program := "ytcddpbpbebkdmaagreatdoor", sum := "990b09dabd4740d00373f3f9619dae841d838d40385a661de8906be4ddcbd9af", func := "transclude/trclaw27.StateUsers", spec := "stateUsers", inPlace := ["internal/bytealg.IndexByteString", "internal/bytealg.CountString", "internal/bytealg.IndexString", "internal/bytealg.abigen_runtime_cmpstring", "internal/abi.NoEscape", "internal/bytealg.MakeNoZero", "slices.overlaps[transclude/api.Stored]", "slices.overlaps[transclude/api.Watch]", "slices.overlaps[transclude/api.Last]"], unfollowed := true, recurses := true, named := ["unicode/utf8.first", "unicode/utf8.acceptRanges", "internal/bytealg.MaxLen", "transclude/state.rules"], apart := false, laid := [("unicode/utf8.acceptRanges", laid_unicode_utf8_acceptRanges), ("transclude/state.rules", laid_transclude_state_rules), ("unicode/utf8.first", laid_unicode_utf8_first)], narrowed := true }
def StateUsersUptoSaid : Prop := stateUsersUptoRow.holds Tryz.pinned (OpenSpec.upto stateUsersSpec)

/-- 'trclaw27.StateFull', WHERE WHAT IT READS IS OF BULK AT MOST 1048576: true; the input reads as it did. -/
def stateFullUptoRow : OpenClaim := { program := "ytcddpbpbebkdmaagreatdoor", sum := "990b09dabd4740d00373f3f9619dae841d838d40385a661de8906be4ddcbd9af", func := "transclude/trclaw27.StateFull", spec := "stateFull", inPlace := ["internal/bytealg.IndexByteString", "internal/bytealg.CountString", "internal/bytealg.IndexString", "internal/bytealg.abigen_runtime_cmpstring", "internal/abi.NoEscape", "internal/bytealg.MakeNoZero", "slices.overlaps[transclude/api.Stored]", "slices.overlaps[transclude/api.Watch]", "slices.overlaps[transclude/api.Last]"], unfollowed := true, recurses := true, named := ["unicode/utf8.first", "unicode/utf8.acceptRanges", "internal/bytealg.MaxLen", "transclude/state.rules"], apart := false, laid := [("unicode/utf8.acceptRanges", laid_unicode_utf8_acceptRanges), ("transclude/state.rules", laid_transclude_state_rules), ("unicode/utf8.first", laid_unicode_utf8_first)], narrowed := true }
def StateFullUptoSaid : Prop := stateFullUptoRow.holds Tryz.pinned (OpenSpec.upto stateFullSpec)

/-- 'trclaw27.StateLooks', WHERE WHAT IT READS IS OF BULK AT MOST 1048576: true; the input reads as it did. -/
def stateLooksUptoRow : OpenClaim := { program := "ytcddpbpbebkdmaagreatdoor", sum := "990b09dabd4740d00373f3f9619dae841d838d40385a661de8906be4ddcbd9af", func := "transclude/trclaw27.StateLooks", spec := "stateLooks", inPlace := ["internal/bytealg.IndexByteString", "internal/bytealg.CountString", "internal/bytealg.IndexString", "internal/bytealg.abigen_runtime_cmpstring", "internal/abi.NoEscape", "internal/bytealg.MakeNoZero", "slices.overlaps[transclude/api.Stored]", "slices.overlaps[transclude/api.Watch]", "slices.overlaps[transclude/api.Last]"], unfollowed := true, recurses := true, named := ["unicode/utf8.first", "unicode/utf8.acceptRanges", "internal/bytealg.MaxLen", "transclude/state.rules"], apart := false, laid := [("unicode/utf8.acceptRanges", laid_unicode_utf8_acceptRanges), ("transclude/state.rules", laid_transclude_state_rules), ("unicode/utf8.first", laid_unicode_utf8_first)], narrowed := true }
def StateLooksUptoSaid : Prop := stateLooksUptoRow.holds Tryz.pinned (OpenSpec.upto stateLooksSpec)

end Rows
end Go.Proofs.YtcddpbpbebkdmaaGreatDoor
