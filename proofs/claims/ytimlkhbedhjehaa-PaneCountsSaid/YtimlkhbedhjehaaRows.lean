/-
  No cell of these rows narrows 'for every input' (looked for: loops, veiled, ifaces, maps, wideKeys, modest, calm, conditions, laid).
  DERIVED. THE GIVEN ROWS OF THIS SEAT. 21 by the template 'for every input the law returns true; each argument reads behind the call as it read before'; 0 by the template 'total and deterministic' (their statements: YtimlkhbedhjehaaTotals.lean).
  GIVEN WITH THE SEED: the statements are not yours to turn. If you find one false, say at which input.
  Laid BY PROGRAM, IN A SANDBOX (cutbox-rows.mjs): the forced cells as the released guide's own fill.sh prints them over the translation 9067aa3628bd3fca… (all of the seat's roots in one cut). By AI agents, Wed Nov 11 2026. No macro, syntax, notation, axiom, sorry.
-/
import Derived.Test.YtimlkhbedhjehaaChecked
import GoSem.Claim
import GoSem.ClaimJoined
import GoSem.ClaimMapViews
import Derived.JoinedTies
import Derived.KernelRfl
namespace Go.Proofs.Ytimlkhbedhjehaa
/- THE CELL 'sum', in the pinned program and in every row, IS THE sha256 OF THE DUMP (.gsa) THAT YtimlkhbedhjehaaProg.lean LOADS. Nothing in Lean hashes anything: it is a label: what it is worth is what the hold of that sum in a sandbox is worth. -/
noncomputable def Try.pinned : Pinned := { name := "ytimlkhbedhjehaa", sum := "9067aa3628bd3fcab2002aa3dc4db5b2b8d14b625e85d51b2e86699e0c88ffbd", checked := Try.checked }
namespace Rows
def none {H : Type} : Left H := { results := [], args := [] }

/-- 'clepsydralaw09.GroupAdvances': WHATEVER THE INPUT: true; the input reads as it did. -/
def groupAdvancesSpec : ChangeSpec := { name := "groupAdvances", fn := fun _ => fun
  | [d1, d2, d3] => { results := [.lit (.bool true)], args := [d1, d2, d3] }
  | _ => none }
def groupAdvancesRow : OpenClaim := { program := "ytimlkhbedhjehaa", sum := "9067aa3628bd3fcab2002aa3dc4db5b2b8d14b625e85d51b2e86699e0c88ffbd", func := "clepsydra/clepsydralaw09.GroupAdvances", spec := "groupAdvances", unfollowed := true, recurses := true, plainKeys := false, apart := false }
def GroupAdvancesSaid : Prop := groupAdvancesRow.holds Try.pinned (OpenSpec.ofChange groupAdvancesSpec)

/-- ITS FALSE NEIGHBOUR: 'it returns false'. Refute it at one input. -/
def groupAdvancesWrong : ChangeSpec := { name := "groupAdvances", fn := fun _ => fun
  | [d1, d2, d3] => { results := [.lit (.bool false)], args := [d1, d2, d3] }
  | _ => none }
def GroupAdvancesWrongFalsely : Prop := groupAdvancesRow.holds Try.pinned (OpenSpec.ofChange groupAdvancesWrong)

/-- 'clepsydralaw09.GroupSteps': WHATEVER THE INPUT: true; the input reads as it did. -/
def groupStepsSpec : ChangeSpec := { name := "groupSteps", fn := fun _ => fun
  | [d1, d2, d3, d4] => { results := [.lit (.bool true)], args := [d1, d2, d3, d4] }
  | _ => none }
def groupStepsRow : OpenClaim := { program := "ytimlkhbedhjehaa", sum := "9067aa3628bd3fcab2002aa3dc4db5b2b8d14b625e85d51b2e86699e0c88ffbd", func := "clepsydra/clepsydralaw09.GroupSteps", spec := "groupSteps", unfollowed := true, recurses := true, plainKeys := false, apart := false }
def GroupStepsSaid : Prop := groupStepsRow.holds Try.pinned (OpenSpec.ofChange groupStepsSpec)

/-- ITS FALSE NEIGHBOUR: 'it returns false'. Refute it at one input. -/
def groupStepsWrong : ChangeSpec := { name := "groupSteps", fn := fun _ => fun
  | [d1, d2, d3, d4] => { results := [.lit (.bool false)], args := [d1, d2, d3, d4] }
  | _ => none }
def GroupStepsWrongFalsely : Prop := groupStepsRow.holds Try.pinned (OpenSpec.ofChange groupStepsWrong)

/-- 'clepsydralaw09.GroupBytes': WHATEVER THE INPUT: true; the input reads as it did. -/
def groupBytesSpec : ChangeSpec := { name := "groupBytes", fn := fun _ => fun
  | [d1, d2] => { results := [.lit (.bool true)], args := [d1, d2] }
  | _ => none }
def groupBytesRow : OpenClaim := { program := "ytimlkhbedhjehaa", sum := "9067aa3628bd3fcab2002aa3dc4db5b2b8d14b625e85d51b2e86699e0c88ffbd", func := "clepsydra/clepsydralaw09.GroupBytes", spec := "groupBytes", inPlace := ["internal/abi.NoEscape"], unfollowed := true, recurses := true, plainKeys := false, apart := false }
def GroupBytesSaid : Prop := groupBytesRow.holds Try.pinned (OpenSpec.ofChange groupBytesSpec)

/-- ITS FALSE NEIGHBOUR: 'it returns false'. Refute it at one input. -/
def groupBytesWrong : ChangeSpec := { name := "groupBytes", fn := fun _ => fun
  | [d1, d2] => { results := [.lit (.bool false)], args := [d1, d2] }
  | _ => none }
def GroupBytesWrongFalsely : Prop := groupBytesRow.holds Try.pinned (OpenSpec.ofChange groupBytesWrong)

/-- 'clepsydralaw09.GroupBack': WHATEVER THE INPUT: true; the input reads as it did. -/
def groupBackSpec : ChangeSpec := { name := "groupBack", fn := fun _ => fun
  | [d1, d2] => { results := [.lit (.bool true)], args := [d1, d2] }
  | _ => none }
def groupBackRow : OpenClaim := { program := "ytimlkhbedhjehaa", sum := "9067aa3628bd3fcab2002aa3dc4db5b2b8d14b625e85d51b2e86699e0c88ffbd", func := "clepsydra/clepsydralaw09.GroupBack", spec := "groupBack", inPlace := ["internal/abi.NoEscape"], unfollowed := true, recurses := true, plainKeys := false, apart := false }
def GroupBackSaid : Prop := groupBackRow.holds Try.pinned (OpenSpec.ofChange groupBackSpec)

/-- ITS FALSE NEIGHBOUR: 'it returns false'. Refute it at one input. -/
def groupBackWrong : ChangeSpec := { name := "groupBack", fn := fun _ => fun
  | [d1, d2] => { results := [.lit (.bool false)], args := [d1, d2] }
  | _ => none }
def GroupBackWrongFalsely : Prop := groupBackRow.holds Try.pinned (OpenSpec.ofChange groupBackWrong)

/-- 'clepsydralaw07.PaneAdds': WHATEVER THE INPUT: true; the input reads as it did. -/
def paneAddsSpec : ChangeSpec := { name := "paneAdds", fn := fun _ => fun
  | [d1, d2, d3, d4, d5] => { results := [.lit (.bool true)], args := [d1, d2, d3, d4, d5] }
  | _ => none }
def paneAddsRow : OpenClaim := { program := "ytimlkhbedhjehaa", sum := "9067aa3628bd3fcab2002aa3dc4db5b2b8d14b625e85d51b2e86699e0c88ffbd", func := "clepsydra/clepsydralaw07.PaneAdds", spec := "paneAdds", inPlace := ["slices.overlaps[clepsydra/api.Pane]"], unfollowed := true, recurses := true, plainKeys := false, apart := false }
def PaneAddsSaid : Prop := paneAddsRow.holds Try.pinned (OpenSpec.ofChange paneAddsSpec)

/-- ITS FALSE NEIGHBOUR: 'it returns false'. Refute it at one input. -/
def paneAddsWrong : ChangeSpec := { name := "paneAdds", fn := fun _ => fun
  | [d1, d2, d3, d4, d5] => { results := [.lit (.bool false)], args := [d1, d2, d3, d4, d5] }
  | _ => none }
def PaneAddsWrongFalsely : Prop := paneAddsRow.holds Try.pinned (OpenSpec.ofChange paneAddsWrong)

/-- 'clepsydralaw07.PaneOrder': WHATEVER THE INPUT: true; the input reads as it did. -/
def paneOrderSpec : ChangeSpec := { name := "paneOrder", fn := fun _ => fun
  | [d1, d2, d3] => { results := [.lit (.bool true)], args := [d1, d2, d3] }
  | _ => none }
def paneOrderRow : OpenClaim := { program := "ytimlkhbedhjehaa", sum := "9067aa3628bd3fcab2002aa3dc4db5b2b8d14b625e85d51b2e86699e0c88ffbd", func := "clepsydra/clepsydralaw07.PaneOrder", spec := "paneOrder", inPlace := ["slices.overlaps[clepsydra/api.Pane]"], unfollowed := true, recurses := true, plainKeys := false, apart := false }
def PaneOrderSaid : Prop := paneOrderRow.holds Try.pinned (OpenSpec.ofChange paneOrderSpec)

/-- ITS FALSE NEIGHBOUR: 'it returns false'. Refute it at one input. -/
def paneOrderWrong : ChangeSpec := { name := "paneOrder", fn := fun _ => fun
  | [d1, d2, d3] => { results := [.lit (.bool false)], args := [d1, d2, d3] }
  | _ => none }
def PaneOrderWrongFalsely : Prop := paneOrderRow.holds Try.pinned (OpenSpec.ofChange paneOrderWrong)

/-- 'clepsydralaw07.PaneMerges': WHATEVER THE INPUT: true; the input reads as it did. -/
def paneMergesSpec : ChangeSpec := { name := "paneMerges", fn := fun _ => fun
  | [d1, d2, d3] => { results := [.lit (.bool true)], args := [d1, d2, d3] }
  | _ => none }
def paneMergesRow : OpenClaim := { program := "ytimlkhbedhjehaa", sum := "9067aa3628bd3fcab2002aa3dc4db5b2b8d14b625e85d51b2e86699e0c88ffbd", func := "clepsydra/clepsydralaw07.PaneMerges", spec := "paneMerges", inPlace := ["slices.overlaps[clepsydra/api.Pane]"], unfollowed := true, recurses := true, plainKeys := false, apart := false }
def PaneMergesSaid : Prop := paneMergesRow.holds Try.pinned (OpenSpec.ofChange paneMergesSpec)

/-- ITS FALSE NEIGHBOUR: 'it returns false'. Refute it at one input. -/
def paneMergesWrong : ChangeSpec := { name := "paneMerges", fn := fun _ => fun
  | [d1, d2, d3] => { results := [.lit (.bool false)], args := [d1, d2, d3] }
  | _ => none }
def PaneMergesWrongFalsely : Prop := paneMergesRow.holds Try.pinned (OpenSpec.ofChange paneMergesWrong)

/-- 'clepsydralaw07.PaneSplits': WHATEVER THE INPUT: true; the input reads as it did. -/
def paneSplitsSpec : ChangeSpec := { name := "paneSplits", fn := fun _ => fun
  | [d1, d2, d3] => { results := [.lit (.bool true)], args := [d1, d2, d3] }
  | _ => none }
def paneSplitsRow : OpenClaim := { program := "ytimlkhbedhjehaa", sum := "9067aa3628bd3fcab2002aa3dc4db5b2b8d14b625e85d51b2e86699e0c88ffbd", func := "clepsydra/clepsydralaw07.PaneSplits", spec := "paneSplits", inPlace := ["slices.overlaps[clepsydra/api.Pane]"], unfollowed := true, recurses := true, plainKeys := false, apart := false }
def PaneSplitsSaid : Prop := paneSplitsRow.holds Try.pinned (OpenSpec.ofChange paneSplitsSpec)

/-- ITS FALSE NEIGHBOUR: 'it returns false'. Refute it at one input. -/
def paneSplitsWrong : ChangeSpec := { name := "paneSplits", fn := fun _ => fun
  | [d1, d2, d3] => { results := [.lit (.bool false)], args := [d1, d2, d3] }
  | _ => none }
def PaneSplitsWrongFalsely : Prop := paneSplitsRow.holds Try.pinned (OpenSpec.ofChange paneSplitsWrong)

/-- 'clepsydralaw07.PaneDue': WHATEVER THE INPUT: true; the input reads as it did. -/
def paneDueSpec : ChangeSpec := { name := "paneDue", fn := fun _ => fun
  | [d1, d2, d3] => { results := [.lit (.bool true)], args := [d1, d2, d3] }
  | _ => none }
def paneDueRow : OpenClaim := { program := "ytimlkhbedhjehaa", sum := "9067aa3628bd3fcab2002aa3dc4db5b2b8d14b625e85d51b2e86699e0c88ffbd", func := "clepsydra/clepsydralaw07.PaneDue", spec := "paneDue", inPlace := ["slices.overlaps[clepsydra/api.Pane]"], unfollowed := true, recurses := true, plainKeys := false, apart := false }
def PaneDueSaid : Prop := paneDueRow.holds Try.pinned (OpenSpec.ofChange paneDueSpec)

/-- ITS FALSE NEIGHBOUR: 'it returns false'. Refute it at one input. -/
def paneDueWrong : ChangeSpec := { name := "paneDue", fn := fun _ => fun
  | [d1, d2, d3] => { results := [.lit (.bool false)], args := [d1, d2, d3] }
  | _ => none }
def PaneDueWrongFalsely : Prop := paneDueRow.holds Try.pinned (OpenSpec.ofChange paneDueWrong)

/-- 'clepsydralaw07.PaneCounts': WHATEVER THE INPUT: true; the input reads as it did. -/
def paneCountsSpec : ChangeSpec := { name := "paneCounts", fn := fun _ => fun
  | [d1, d2] => { results := [.lit (.bool true)], args := [d1, d2] }
  | _ => none }
def paneCountsRow : OpenClaim := { program := "ytimlkhbedhjehaa", sum := "9067aa3628bd3fcab2002aa3dc4db5b2b8d14b625e85d51b2e86699e0c88ffbd", func := "clepsydra/clepsydralaw07.PaneCounts", spec := "paneCounts", inPlace := ["slices.overlaps[clepsydra/api.Pane]"], unfollowed := true, recurses := true, plainKeys := false, apart := false }
def PaneCountsSaid : Prop := paneCountsRow.holds Try.pinned (OpenSpec.ofChange paneCountsSpec)

/-- ITS FALSE NEIGHBOUR: 'it returns false'. Refute it at one input. -/
def paneCountsWrong : ChangeSpec := { name := "paneCounts", fn := fun _ => fun
  | [d1, d2] => { results := [.lit (.bool false)], args := [d1, d2] }
  | _ => none }
def PaneCountsWrongFalsely : Prop := paneCountsRow.holds Try.pinned (OpenSpec.ofChange paneCountsWrong)

/-- 'clepsydralaw07.PaneParts': WHATEVER THE INPUT: true; the input reads as it did. -/
def panePartsSpec : ChangeSpec := { name := "paneParts", fn := fun _ => fun
  | [d1, d2, d3] => { results := [.lit (.bool true)], args := [d1, d2, d3] }
  | _ => none }
def panePartsRow : OpenClaim := { program := "ytimlkhbedhjehaa", sum := "9067aa3628bd3fcab2002aa3dc4db5b2b8d14b625e85d51b2e86699e0c88ffbd", func := "clepsydra/clepsydralaw07.PaneParts", spec := "paneParts", inPlace := ["slices.overlaps[clepsydra/api.Pane]"], unfollowed := true, recurses := true, plainKeys := false, apart := false }
def PanePartsSaid : Prop := panePartsRow.holds Try.pinned (OpenSpec.ofChange panePartsSpec)

/-- ITS FALSE NEIGHBOUR: 'it returns false'. Refute it at one input. -/
def panePartsWrong : ChangeSpec := { name := "paneParts", fn := fun _ => fun
  | [d1, d2, d3] => { results := [.lit (.bool false)], args := [d1, d2, d3] }
  | _ => none }
def PanePartsWrongFalsely : Prop := panePartsRow.holds Try.pinned (OpenSpec.ofChange panePartsWrong)

/-- 'clepsydralaw09.GroupTakes': WHATEVER THE INPUT: true; the input reads as it did. -/
def groupTakesSpec : ChangeSpec := { name := "groupTakes", fn := fun _ => fun
  | [d1, d2, d3] => { results := [.lit (.bool true)], args := [d1, d2, d3] }
  | _ => none }
def groupTakesRow : OpenClaim := { program := "ytimlkhbedhjehaa", sum := "9067aa3628bd3fcab2002aa3dc4db5b2b8d14b625e85d51b2e86699e0c88ffbd", func := "clepsydra/clepsydralaw09.GroupTakes", spec := "groupTakes", inPlace := ["slices.overlaps[clepsydra/api.Pane]"], unfollowed := true, recurses := true, plainKeys := false, apart := false }
def GroupTakesSaid : Prop := groupTakesRow.holds Try.pinned (OpenSpec.ofChange groupTakesSpec)

/-- ITS FALSE NEIGHBOUR: 'it returns false'. Refute it at one input. -/
def groupTakesWrong : ChangeSpec := { name := "groupTakes", fn := fun _ => fun
  | [d1, d2, d3] => { results := [.lit (.bool false)], args := [d1, d2, d3] }
  | _ => none }
def GroupTakesWrongFalsely : Prop := groupTakesRow.holds Try.pinned (OpenSpec.ofChange groupTakesWrong)

/-- 'clepsydralaw09.GroupWhole': WHATEVER THE INPUT: true; the input reads as it did. -/
def groupWholeSpec : ChangeSpec := { name := "groupWhole", fn := fun _ => fun
  | [d1, d2, d3] => { results := [.lit (.bool true)], args := [d1, d2, d3] }
  | _ => none }
def groupWholeRow : OpenClaim := { program := "ytimlkhbedhjehaa", sum := "9067aa3628bd3fcab2002aa3dc4db5b2b8d14b625e85d51b2e86699e0c88ffbd", func := "clepsydra/clepsydralaw09.GroupWhole", spec := "groupWhole", inPlace := ["slices.overlaps[clepsydra/api.Pane]"], unfollowed := true, recurses := true, plainKeys := false, apart := false }
def GroupWholeSaid : Prop := groupWholeRow.holds Try.pinned (OpenSpec.ofChange groupWholeSpec)

/-- ITS FALSE NEIGHBOUR: 'it returns false'. Refute it at one input. -/
def groupWholeWrong : ChangeSpec := { name := "groupWhole", fn := fun _ => fun
  | [d1, d2, d3] => { results := [.lit (.bool false)], args := [d1, d2, d3] }
  | _ => none }
def GroupWholeWrongFalsely : Prop := groupWholeRow.holds Try.pinned (OpenSpec.ofChange groupWholeWrong)

/-- 'clepsydralaw09.GroupOrder': WHATEVER THE INPUT: true; the input reads as it did. -/
def groupOrderSpec : ChangeSpec := { name := "groupOrder", fn := fun _ => fun
  | [d1, d2, d3, d4, d5] => { results := [.lit (.bool true)], args := [d1, d2, d3, d4, d5] }
  | _ => none }
def groupOrderRow : OpenClaim := { program := "ytimlkhbedhjehaa", sum := "9067aa3628bd3fcab2002aa3dc4db5b2b8d14b625e85d51b2e86699e0c88ffbd", func := "clepsydra/clepsydralaw09.GroupOrder", spec := "groupOrder", inPlace := ["slices.overlaps[clepsydra/api.Pane]"], unfollowed := true, recurses := true, plainKeys := false, apart := false }
def GroupOrderSaid : Prop := groupOrderRow.holds Try.pinned (OpenSpec.ofChange groupOrderSpec)

/-- ITS FALSE NEIGHBOUR: 'it returns false'. Refute it at one input. -/
def groupOrderWrong : ChangeSpec := { name := "groupOrder", fn := fun _ => fun
  | [d1, d2, d3, d4, d5] => { results := [.lit (.bool false)], args := [d1, d2, d3, d4, d5] }
  | _ => none }
def GroupOrderWrongFalsely : Prop := groupOrderRow.holds Try.pinned (OpenSpec.ofChange groupOrderWrong)

/-- 'clepsydralaw14.ModelRuns': WHATEVER THE INPUT: true; the input reads as it did. -/
def modelRunsSpec : ChangeSpec := { name := "modelRuns", fn := fun _ => fun
  | [d1, d2] => { results := [.lit (.bool true)], args := [d1, d2] }
  | _ => none }
def modelRunsRow : OpenClaim := { program := "ytimlkhbedhjehaa", sum := "9067aa3628bd3fcab2002aa3dc4db5b2b8d14b625e85d51b2e86699e0c88ffbd", func := "clepsydra/clepsydralaw14.ModelRuns", spec := "modelRuns", inPlace := ["slices.overlaps[clepsydra/api.Pane]"], unfollowed := true, recurses := true, plainKeys := false, apart := false }
def ModelRunsSaid : Prop := modelRunsRow.holds Try.pinned (OpenSpec.ofChange modelRunsSpec)

/-- ITS FALSE NEIGHBOUR: 'it returns false'. Refute it at one input. -/
def modelRunsWrong : ChangeSpec := { name := "modelRuns", fn := fun _ => fun
  | [d1, d2] => { results := [.lit (.bool false)], args := [d1, d2] }
  | _ => none }
def ModelRunsWrongFalsely : Prop := modelRunsRow.holds Try.pinned (OpenSpec.ofChange modelRunsWrong)

/-- 'clepsydralaw14.ModelTurns': WHATEVER THE INPUT: true; the input reads as it did. -/
def modelTurnsSpec : ChangeSpec := { name := "modelTurns", fn := fun _ => fun
  | [d1, d2, d3, d4, d5] => { results := [.lit (.bool true)], args := [d1, d2, d3, d4, d5] }
  | _ => none }
def modelTurnsRow : OpenClaim := { program := "ytimlkhbedhjehaa", sum := "9067aa3628bd3fcab2002aa3dc4db5b2b8d14b625e85d51b2e86699e0c88ffbd", func := "clepsydra/clepsydralaw14.ModelTurns", spec := "modelTurns", inPlace := ["slices.overlaps[clepsydra/api.Pane]"], unfollowed := true, recurses := true, plainKeys := false, apart := false }
def ModelTurnsSaid : Prop := modelTurnsRow.holds Try.pinned (OpenSpec.ofChange modelTurnsSpec)

/-- ITS FALSE NEIGHBOUR: 'it returns false'. Refute it at one input. -/
def modelTurnsWrong : ChangeSpec := { name := "modelTurns", fn := fun _ => fun
  | [d1, d2, d3, d4, d5] => { results := [.lit (.bool false)], args := [d1, d2, d3, d4, d5] }
  | _ => none }
def ModelTurnsWrongFalsely : Prop := modelTurnsRow.holds Try.pinned (OpenSpec.ofChange modelTurnsWrong)

/-- 'clepsydralaw14.ModelMore': WHATEVER THE INPUT: true; the input reads as it did. -/
def modelMoreSpec : ChangeSpec := { name := "modelMore", fn := fun _ => fun
  | [d1, d2, d3] => { results := [.lit (.bool true)], args := [d1, d2, d3] }
  | _ => none }
def modelMoreRow : OpenClaim := { program := "ytimlkhbedhjehaa", sum := "9067aa3628bd3fcab2002aa3dc4db5b2b8d14b625e85d51b2e86699e0c88ffbd", func := "clepsydra/clepsydralaw14.ModelMore", spec := "modelMore", inPlace := ["slices.overlaps[clepsydra/api.Pane]"], unfollowed := true, recurses := true, plainKeys := false, apart := false }
def ModelMoreSaid : Prop := modelMoreRow.holds Try.pinned (OpenSpec.ofChange modelMoreSpec)

/-- ITS FALSE NEIGHBOUR: 'it returns false'. Refute it at one input. -/
def modelMoreWrong : ChangeSpec := { name := "modelMore", fn := fun _ => fun
  | [d1, d2, d3] => { results := [.lit (.bool false)], args := [d1, d2, d3] }
  | _ => none }
def ModelMoreWrongFalsely : Prop := modelMoreRow.holds Try.pinned (OpenSpec.ofChange modelMoreWrong)

/-- 'clepsydralaw14.ModelOrder': WHATEVER THE INPUT: true; the input reads as it did. -/
def modelOrderSpec : ChangeSpec := { name := "modelOrder", fn := fun _ => fun
  | [d1, d2, d3] => { results := [.lit (.bool true)], args := [d1, d2, d3] }
  | _ => none }
def modelOrderRow : OpenClaim := { program := "ytimlkhbedhjehaa", sum := "9067aa3628bd3fcab2002aa3dc4db5b2b8d14b625e85d51b2e86699e0c88ffbd", func := "clepsydra/clepsydralaw14.ModelOrder", spec := "modelOrder", inPlace := ["slices.overlaps[clepsydra/api.Pane]"], unfollowed := true, recurses := true, plainKeys := false, apart := false }
def ModelOrderSaid : Prop := modelOrderRow.holds Try.pinned (OpenSpec.ofChange modelOrderSpec)

/-- ITS FALSE NEIGHBOUR: 'it returns false'. Refute it at one input. -/
def modelOrderWrong : ChangeSpec := { name := "modelOrder", fn := fun _ => fun
  | [d1, d2, d3] => { results := [.lit (.bool false)], args := [d1, d2, d3] }
  | _ => none }
def ModelOrderWrongFalsely : Prop := modelOrderRow.holds Try.pinned (OpenSpec.ofChange modelOrderWrong)

/-- 'clepsydralaw14.ModelCounts': WHATEVER THE INPUT: true; the input reads as it did. -/
def modelCountsSpec : ChangeSpec := { name := "modelCounts", fn := fun _ => fun
  | [d1, d2] => { results := [.lit (.bool true)], args := [d1, d2] }
  | _ => none }
def modelCountsRow : OpenClaim := { program := "ytimlkhbedhjehaa", sum := "9067aa3628bd3fcab2002aa3dc4db5b2b8d14b625e85d51b2e86699e0c88ffbd", func := "clepsydra/clepsydralaw14.ModelCounts", spec := "modelCounts", inPlace := ["slices.overlaps[clepsydra/api.Pane]"], unfollowed := true, recurses := true, plainKeys := false, apart := false }
def ModelCountsSaid : Prop := modelCountsRow.holds Try.pinned (OpenSpec.ofChange modelCountsSpec)

/-- ITS FALSE NEIGHBOUR: 'it returns false'. Refute it at one input. -/
def modelCountsWrong : ChangeSpec := { name := "modelCounts", fn := fun _ => fun
  | [d1, d2] => { results := [.lit (.bool false)], args := [d1, d2] }
  | _ => none }
def ModelCountsWrongFalsely : Prop := modelCountsRow.holds Try.pinned (OpenSpec.ofChange modelCountsWrong)

/-- 'clepsydralaw14.ModelKeeps': WHATEVER THE INPUT: true; the input reads as it did. -/
def modelKeepsSpec : ChangeSpec := { name := "modelKeeps", fn := fun _ => fun
  | [d1, d2] => { results := [.lit (.bool true)], args := [d1, d2] }
  | _ => none }
def modelKeepsRow : OpenClaim := { program := "ytimlkhbedhjehaa", sum := "9067aa3628bd3fcab2002aa3dc4db5b2b8d14b625e85d51b2e86699e0c88ffbd", func := "clepsydra/clepsydralaw14.ModelKeeps", spec := "modelKeeps", inPlace := ["slices.overlaps[clepsydra/api.Pane]"], unfollowed := true, recurses := true, plainKeys := false, apart := false }
def ModelKeepsSaid : Prop := modelKeepsRow.holds Try.pinned (OpenSpec.ofChange modelKeepsSpec)

/-- ITS FALSE NEIGHBOUR: 'it returns false'. Refute it at one input. -/
def modelKeepsWrong : ChangeSpec := { name := "modelKeeps", fn := fun _ => fun
  | [d1, d2] => { results := [.lit (.bool false)], args := [d1, d2] }
  | _ => none }
def ModelKeepsWrongFalsely : Prop := modelKeepsRow.holds Try.pinned (OpenSpec.ofChange modelKeepsWrong)

/-- 'clepsydralaw14.ModelGoesOn': WHATEVER THE INPUT: true; the input reads as it did. -/
def modelGoesOnSpec : ChangeSpec := { name := "modelGoesOn", fn := fun _ => fun
  | [d1, d2, d3] => { results := [.lit (.bool true)], args := [d1, d2, d3] }
  | _ => none }
def modelGoesOnRow : OpenClaim := { program := "ytimlkhbedhjehaa", sum := "9067aa3628bd3fcab2002aa3dc4db5b2b8d14b625e85d51b2e86699e0c88ffbd", func := "clepsydra/clepsydralaw14.ModelGoesOn", spec := "modelGoesOn", inPlace := ["slices.overlaps[clepsydra/api.Pane]"], unfollowed := true, recurses := true, plainKeys := false, apart := false }
def ModelGoesOnSaid : Prop := modelGoesOnRow.holds Try.pinned (OpenSpec.ofChange modelGoesOnSpec)

/-- ITS FALSE NEIGHBOUR: 'it returns false'. Refute it at one input. -/
def modelGoesOnWrong : ChangeSpec := { name := "modelGoesOn", fn := fun _ => fun
  | [d1, d2, d3] => { results := [.lit (.bool false)], args := [d1, d2, d3] }
  | _ => none }
def ModelGoesOnWrongFalsely : Prop := modelGoesOnRow.holds Try.pinned (OpenSpec.ofChange modelGoesOnWrong)

/- THE SECOND FORM. 'bulk': how many values and letters a reading holds, each counted each time it is reached (what is shared counts as often as it is met; a slice's spare places count too). A statement '..UptoSaid' is the law's where the arguments, and the package variables that the reading takes, are together of bulk at most 1048576: NARROWER than '..Said'. Prove '..Said' where nothing that the law and all that it calls make is longer than what came in: it says more and counts as full. Else prove '..UptoSaid'. A law counts once. -/
mutual
def uptoBulk {H : Type} : DataW H → Nat
  | .lit (.string bytes) => bytes.length + 1
  | .lit _ => 1
  | .nil => 1
  | .ptr d => uptoBulk d + 1
  | .slice elems spare => uptoBulkAll elems + uptoBulkAll spare + 1
  | .agg parts => uptoBulkAll parts + 1
  | .iface _ d => uptoBulk d + 1
  | .map entries => uptoBulkEntries entries + 1
  | .held _ => 1
def uptoBulkAll {H : Type} : List (DataW H) → Nat
  | [] => 0
  | d :: r => uptoBulk d + uptoBulkAll r
def uptoBulkEntries {H : Type} : List (Lit × DataW H) → Nat
  | [] => 0
  | x :: r => uptoBulkEntry x + uptoBulkEntries r
def uptoBulkEntry {H : Type} : Lit × DataW H → Nat
  | (.string bytes, d) => bytes.length + uptoBulk d + 1
  | (_, d) => uptoBulk d + 1
 end
def uptoSmall : (H : Type) → List (DataW H) → Bool := fun _ ds => decide (uptoBulkAll ds ≤ 1048576)
def OpenSpec.upto (s : _root_.Go.ChangeSpec) : _root_.Go.OpenSpec := { _root_.Go.OpenSpec.ofChange s with cond := some uptoSmall }

/-- 'clepsydralaw09.GroupAdvances', WHERE WHAT IT READS IS OF BULK AT MOST 1048576: true; the input reads as it did. -/
def groupAdvancesUptoRow : OpenClaim := { program := "ytimlkhbedhjehaa", sum := "9067aa3628bd3fcab2002aa3dc4db5b2b8d14b625e85d51b2e86699e0c88ffbd", func := "clepsydra/clepsydralaw09.GroupAdvances", spec := "groupAdvances", unfollowed := true, recurses := true, plainKeys := false, apart := false, narrowed := true }
def GroupAdvancesUptoSaid : Prop := groupAdvancesUptoRow.holds Try.pinned (OpenSpec.upto groupAdvancesSpec)

/-- 'clepsydralaw09.GroupSteps', WHERE WHAT IT READS IS OF BULK AT MOST 1048576: true; the input reads as it did. -/
def groupStepsUptoRow : OpenClaim := { program := "ytimlkhbedhjehaa", sum := "9067aa3628bd3fcab2002aa3dc4db5b2b8d14b625e85d51b2e86699e0c88ffbd", func := "clepsydra/clepsydralaw09.GroupSteps", spec := "groupSteps", unfollowed := true, recurses := true, plainKeys := false, apart := false, narrowed := true }
def GroupStepsUptoSaid : Prop := groupStepsUptoRow.holds Try.pinned (OpenSpec.upto groupStepsSpec)

/-- 'clepsydralaw09.GroupBytes', WHERE WHAT IT READS IS OF BULK AT MOST 1048576: true; the input reads as it did. -/
def groupBytesUptoRow : OpenClaim := { program := "ytimlkhbedhjehaa", sum := "9067aa3628bd3fcab2002aa3dc4db5b2b8d14b625e85d51b2e86699e0c88ffbd", func := "clepsydra/clepsydralaw09.GroupBytes", spec := "groupBytes", inPlace := ["internal/abi.NoEscape"], unfollowed := true, recurses := true, plainKeys := false, apart := false, narrowed := true }
def GroupBytesUptoSaid : Prop := groupBytesUptoRow.holds Try.pinned (OpenSpec.upto groupBytesSpec)

/-- 'clepsydralaw09.GroupBack', WHERE WHAT IT READS IS OF BULK AT MOST 1048576: true; the input reads as it did. -/
def groupBackUptoRow : OpenClaim := { program := "ytimlkhbedhjehaa", sum := "9067aa3628bd3fcab2002aa3dc4db5b2b8d14b625e85d51b2e86699e0c88ffbd", func := "clepsydra/clepsydralaw09.GroupBack", spec := "groupBack", inPlace := ["internal/abi.NoEscape"], unfollowed := true, recurses := true, plainKeys := false, apart := false, narrowed := true }
def GroupBackUptoSaid : Prop := groupBackUptoRow.holds Try.pinned (OpenSpec.upto groupBackSpec)

/-- 'clepsydralaw07.PaneAdds', WHERE WHAT IT READS IS OF BULK AT MOST 1048576: true; the input reads as it did. -/
def paneAddsUptoRow : OpenClaim := { program := "ytimlkhbedhjehaa", sum := "9067aa3628bd3fcab2002aa3dc4db5b2b8d14b625e85d51b2e86699e0c88ffbd", func := "clepsydra/clepsydralaw07.PaneAdds", spec := "paneAdds", inPlace := ["slices.overlaps[clepsydra/api.Pane]"], unfollowed := true, recurses := true, plainKeys := false, apart := false, narrowed := true }
def PaneAddsUptoSaid : Prop := paneAddsUptoRow.holds Try.pinned (OpenSpec.upto paneAddsSpec)

/-- 'clepsydralaw07.PaneOrder', WHERE WHAT IT READS IS OF BULK AT MOST 1048576: true; the input reads as it did. -/
def paneOrderUptoRow : OpenClaim := { program := "ytimlkhbedhjehaa", sum := "9067aa3628bd3fcab2002aa3dc4db5b2b8d14b625e85d51b2e86699e0c88ffbd", func := "clepsydra/clepsydralaw07.PaneOrder", spec := "paneOrder", inPlace := ["slices.overlaps[clepsydra/api.Pane]"], unfollowed := true, recurses := true, plainKeys := false, apart := false, narrowed := true }
def PaneOrderUptoSaid : Prop := paneOrderUptoRow.holds Try.pinned (OpenSpec.upto paneOrderSpec)

/-- 'clepsydralaw07.PaneMerges', WHERE WHAT IT READS IS OF BULK AT MOST 1048576: true; the input reads as it did. -/
def paneMergesUptoRow : OpenClaim := { program := "ytimlkhbedhjehaa", sum := "9067aa3628bd3fcab2002aa3dc4db5b2b8d14b625e85d51b2e86699e0c88ffbd", func := "clepsydra/clepsydralaw07.PaneMerges", spec := "paneMerges", inPlace := ["slices.overlaps[clepsydra/api.Pane]"], unfollowed := true, recurses := true, plainKeys := false, apart := false, narrowed := true }
def PaneMergesUptoSaid : Prop := paneMergesUptoRow.holds Try.pinned (OpenSpec.upto paneMergesSpec)

/-- 'clepsydralaw07.PaneSplits', WHERE WHAT IT READS IS OF BULK AT MOST 1048576: true; the input reads as it did. -/
def paneSplitsUptoRow : OpenClaim := { program := "ytimlkhbedhjehaa", sum := "9067aa3628bd3fcab2002aa3dc4db5b2b8d14b625e85d51b2e86699e0c88ffbd", func := "clepsydra/clepsydralaw07.PaneSplits", spec := "paneSplits", inPlace := ["slices.overlaps[clepsydra/api.Pane]"], unfollowed := true, recurses := true, plainKeys := false, apart := false, narrowed := true }
def PaneSplitsUptoSaid : Prop := paneSplitsUptoRow.holds Try.pinned (OpenSpec.upto paneSplitsSpec)

/-- 'clepsydralaw07.PaneDue', WHERE WHAT IT READS IS OF BULK AT MOST 1048576: true; the input reads as it did. -/
def paneDueUptoRow : OpenClaim := { program := "ytimlkhbedhjehaa", sum := "9067aa3628bd3fcab2002aa3dc4db5b2b8d14b625e85d51b2e86699e0c88ffbd", func := "clepsydra/clepsydralaw07.PaneDue", spec := "paneDue", inPlace := ["slices.overlaps[clepsydra/api.Pane]"], unfollowed := true, recurses := true, plainKeys := false, apart := false, narrowed := true }
def PaneDueUptoSaid : Prop := paneDueUptoRow.holds Try.pinned (OpenSpec.upto paneDueSpec)

/-- 'clepsydralaw07.PaneCounts', WHERE WHAT IT READS IS OF BULK AT MOST 1048576: true; the input reads as it did. -/
def paneCountsUptoRow : OpenClaim := { program := "ytimlkhbedhjehaa", sum := "9067aa3628bd3fcab2002aa3dc4db5b2b8d14b625e85d51b2e86699e0c88ffbd", func := "clepsydra/clepsydralaw07.PaneCounts", spec := "paneCounts", inPlace := ["slices.overlaps[clepsydra/api.Pane]"], unfollowed := true, recurses := true, plainKeys := false, apart := false, narrowed := true }
def PaneCountsUptoSaid : Prop := paneCountsUptoRow.holds Try.pinned (OpenSpec.upto paneCountsSpec)

/-- 'clepsydralaw07.PaneParts', WHERE WHAT IT READS IS OF BULK AT MOST 1048576: true; the input reads as it did. -/
def panePartsUptoRow : OpenClaim := { program := "ytimlkhbedhjehaa", sum := "9067aa3628bd3fcab2002aa3dc4db5b2b8d14b625e85d51b2e86699e0c88ffbd", func := "clepsydra/clepsydralaw07.PaneParts", spec := "paneParts", inPlace := ["slices.overlaps[clepsydra/api.Pane]"], unfollowed := true, recurses := true, plainKeys := false, apart := false, narrowed := true }
def PanePartsUptoSaid : Prop := panePartsUptoRow.holds Try.pinned (OpenSpec.upto panePartsSpec)

/-- 'clepsydralaw09.GroupTakes', WHERE WHAT IT READS IS OF BULK AT MOST 1048576: true; the input reads as it did. -/
def groupTakesUptoRow : OpenClaim := { program := "ytimlkhbedhjehaa", sum := "9067aa3628bd3fcab2002aa3dc4db5b2b8d14b625e85d51b2e86699e0c88ffbd", func := "clepsydra/clepsydralaw09.GroupTakes", spec := "groupTakes", inPlace := ["slices.overlaps[clepsydra/api.Pane]"], unfollowed := true, recurses := true, plainKeys := false, apart := false, narrowed := true }
def GroupTakesUptoSaid : Prop := groupTakesUptoRow.holds Try.pinned (OpenSpec.upto groupTakesSpec)

/-- 'clepsydralaw09.GroupWhole', WHERE WHAT IT READS IS OF BULK AT MOST 1048576: true; the input reads as it did. -/
def groupWholeUptoRow : OpenClaim := { program := "ytimlkhbedhjehaa", sum := "9067aa3628bd3fcab2002aa3dc4db5b2b8d14b625e85d51b2e86699e0c88ffbd", func := "clepsydra/clepsydralaw09.GroupWhole", spec := "groupWhole", inPlace := ["slices.overlaps[clepsydra/api.Pane]"], unfollowed := true, recurses := true, plainKeys := false, apart := false, narrowed := true }
def GroupWholeUptoSaid : Prop := groupWholeUptoRow.holds Try.pinned (OpenSpec.upto groupWholeSpec)

/-- 'clepsydralaw09.GroupOrder', WHERE WHAT IT READS IS OF BULK AT MOST 1048576: true; the input reads as it did. -/
def groupOrderUptoRow : OpenClaim := { program := "ytimlkhbedhjehaa", sum := "9067aa3628bd3fcab2002aa3dc4db5b2b8d14b625e85d51b2e86699e0c88ffbd", func := "clepsydra/clepsydralaw09.GroupOrder", spec := "groupOrder", inPlace := ["slices.overlaps[clepsydra/api.Pane]"], unfollowed := true, recurses := true, plainKeys := false, apart := false, narrowed := true }
def GroupOrderUptoSaid : Prop := groupOrderUptoRow.holds Try.pinned (OpenSpec.upto groupOrderSpec)

/-- 'clepsydralaw14.ModelRuns', WHERE WHAT IT READS IS OF BULK AT MOST 1048576: true; the input reads as it did. -/
def modelRunsUptoRow : OpenClaim := { program := "ytimlkhbedhjehaa", sum := "9067aa3628bd3fcab2002aa3dc4db5b2b8d14b625e85d51b2e86699e0c88ffbd", func := "clepsydra/clepsydralaw14.ModelRuns", spec := "modelRuns", inPlace := ["slices.overlaps[clepsydra/api.Pane]"], unfollowed := true, recurses := true, plainKeys := false, apart := false, narrowed := true }
def ModelRunsUptoSaid : Prop := modelRunsUptoRow.holds Try.pinned (OpenSpec.upto modelRunsSpec)

/-- 'clepsydralaw14.ModelTurns', WHERE WHAT IT READS IS OF BULK AT MOST 1048576: true; the input reads as it did. -/
def modelTurnsUptoRow : OpenClaim := { program := "ytimlkhbedhjehaa", sum := "9067aa3628bd3fcab2002aa3dc4db5b2b8d14b625e85d51b2e86699e0c88ffbd", func := "clepsydra/clepsydralaw14.ModelTurns", spec := "modelTurns", inPlace := ["slices.overlaps[clepsydra/api.Pane]"], unfollowed := true, recurses := true, plainKeys := false, apart := false, narrowed := true }
def ModelTurnsUptoSaid : Prop := modelTurnsUptoRow.holds Try.pinned (OpenSpec.upto modelTurnsSpec)

/-- 'clepsydralaw14.ModelMore', WHERE WHAT IT READS IS OF BULK AT MOST 1048576: true; the input reads as it did. -/
def modelMoreUptoRow : OpenClaim := { program := "ytimlkhbedhjehaa", sum := "9067aa3628bd3fcab2002aa3dc4db5b2b8d14b625e85d51b2e86699e0c88ffbd", func := "clepsydra/clepsydralaw14.ModelMore", spec := "modelMore", inPlace := ["slices.overlaps[clepsydra/api.Pane]"], unfollowed := true, recurses := true, plainKeys := false, apart := false, narrowed := true }
def ModelMoreUptoSaid : Prop := modelMoreUptoRow.holds Try.pinned (OpenSpec.upto modelMoreSpec)

/-- 'clepsydralaw14.ModelOrder', WHERE WHAT IT READS IS OF BULK AT MOST 1048576: true; the input reads as it did. -/
def modelOrderUptoRow : OpenClaim := { program := "ytimlkhbedhjehaa", sum := "9067aa3628bd3fcab2002aa3dc4db5b2b8d14b625e85d51b2e86699e0c88ffbd", func := "clepsydra/clepsydralaw14.ModelOrder", spec := "modelOrder", inPlace := ["slices.overlaps[clepsydra/api.Pane]"], unfollowed := true, recurses := true, plainKeys := false, apart := false, narrowed := true }
def ModelOrderUptoSaid : Prop := modelOrderUptoRow.holds Try.pinned (OpenSpec.upto modelOrderSpec)

/-- 'clepsydralaw14.ModelCounts', WHERE WHAT IT READS IS OF BULK AT MOST 1048576: true; the input reads as it did. -/
def modelCountsUptoRow : OpenClaim := { program := "ytimlkhbedhjehaa", sum := "9067aa3628bd3fcab2002aa3dc4db5b2b8d14b625e85d51b2e86699e0c88ffbd", func := "clepsydra/clepsydralaw14.ModelCounts", spec := "modelCounts", inPlace := ["slices.overlaps[clepsydra/api.Pane]"], unfollowed := true, recurses := true, plainKeys := false, apart := false, narrowed := true }
def ModelCountsUptoSaid : Prop := modelCountsUptoRow.holds Try.pinned (OpenSpec.upto modelCountsSpec)

/-- 'clepsydralaw14.ModelKeeps', WHERE WHAT IT READS IS OF BULK AT MOST 1048576: true; the input reads as it did. -/
def modelKeepsUptoRow : OpenClaim := { program := "ytimlkhbedhjehaa", sum := "9067aa3628bd3fcab2002aa3dc4db5b2b8d14b625e85d51b2e86699e0c88ffbd", func := "clepsydra/clepsydralaw14.ModelKeeps", spec := "modelKeeps", inPlace := ["slices.overlaps[clepsydra/api.Pane]"], unfollowed := true, recurses := true, plainKeys := false, apart := false, narrowed := true }
def ModelKeepsUptoSaid : Prop := modelKeepsUptoRow.holds Try.pinned (OpenSpec.upto modelKeepsSpec)

/-- 'clepsydralaw14.ModelGoesOn', WHERE WHAT IT READS IS OF BULK AT MOST 1048576: true; the input reads as it did. -/
def modelGoesOnUptoRow : OpenClaim := { program := "ytimlkhbedhjehaa", sum := "9067aa3628bd3fcab2002aa3dc4db5b2b8d14b625e85d51b2e86699e0c88ffbd", func := "clepsydra/clepsydralaw14.ModelGoesOn", spec := "modelGoesOn", inPlace := ["slices.overlaps[clepsydra/api.Pane]"], unfollowed := true, recurses := true, plainKeys := false, apart := false, narrowed := true }
def ModelGoesOnUptoSaid : Prop := modelGoesOnUptoRow.holds Try.pinned (OpenSpec.upto modelGoesOnSpec)

end Rows
end Go.Proofs.Ytimlkhbedhjehaa
