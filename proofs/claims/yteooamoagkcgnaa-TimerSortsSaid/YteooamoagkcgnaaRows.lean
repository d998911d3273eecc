/-
  No cell of these rows narrows 'for every input' (looked for: loops, veiled, ifaces, maps, wideKeys, modest, calm, conditions, laid).
  DERIVED. THE GIVEN ROWS OF THIS SEAT. 6 by the template 'for every input the law returns true; each argument reads behind the call as it read before'; 0 by the template 'total and deterministic' (their statements: YteooamoagkcgnaaTotals.lean).
  GIVEN WITH THE SEED: the statements are not yours to turn. If you find one false, say at which input.
  Laid BY PROGRAM, IN A SANDBOX (cutbox-rows.mjs): the forced cells as the released guide's own fill.sh prints them over the translation 7a3a80692237b741… (all of the seat's roots in one cut). By AI agents, Wed Nov 11 2026. No macro, syntax, notation, axiom, sorry.
-/
import Derived.Test.YteooamoagkcgnaaChecked
import GoSem.Claim
import GoSem.ClaimJoined
import GoSem.ClaimMapViews
import Derived.JoinedTies
import Derived.KernelRfl
namespace Go.Proofs.Yteooamoagkcgnaa
/- THE CELL 'sum', in the pinned program and in every row, IS THE sha256 OF THE DUMP (.gsa) THAT YteooamoagkcgnaaProg.lean LOADS. Nothing in Lean hashes anything: it is a label: what it is worth is what the hold of that sum in a sandbox is worth. -/
noncomputable def Try.pinned : Pinned := { name := "yteooamoagkcgnaa", sum := "7a3a80692237b741bb33e332b893803d9a90147e1047ed83d0675519b8b242e0", checked := Try.checked }
namespace Rows
def none {H : Type} : Left H := { results := [], args := [] }

/-- 'clepsydralaw08.TimerSorts': WHATEVER THE INPUT: true; the input reads as it did. -/
def timerSortsSpec : ChangeSpec := { name := "timerSorts", fn := fun _ => fun
  | [d] => { results := [.lit (.bool true)], args := [d] }
  | _ => none }
def timerSortsRow : OpenClaim := { program := "yteooamoagkcgnaa", sum := "7a3a80692237b741bb33e332b893803d9a90147e1047ed83d0675519b8b242e0", func := "clepsydra/clepsydralaw08.TimerSorts", spec := "timerSorts", unfollowed := true, recurses := true, plainKeys := false, apart := false }
def TimerSortsSaid : Prop := timerSortsRow.holds Try.pinned (OpenSpec.ofChange timerSortsSpec)

/-- ITS FALSE NEIGHBOUR: 'it returns false'. Refute it at one input. -/
def timerSortsWrong : ChangeSpec := { name := "timerSorts", fn := fun _ => fun
  | [d] => { results := [.lit (.bool false)], args := [d] }
  | _ => none }
def TimerSortsWrongFalsely : Prop := timerSortsRow.holds Try.pinned (OpenSpec.ofChange timerSortsWrong)

/-- 'clepsydralaw08.TimerLooks': WHATEVER THE INPUT: true; the input reads as it did. -/
def timerLooksSpec : ChangeSpec := { name := "timerLooks", fn := fun _ => fun
  | [d] => { results := [.lit (.bool true)], args := [d] }
  | _ => none }
def timerLooksRow : OpenClaim := { program := "yteooamoagkcgnaa", sum := "7a3a80692237b741bb33e332b893803d9a90147e1047ed83d0675519b8b242e0", func := "clepsydra/clepsydralaw08.TimerLooks", spec := "timerLooks", unfollowed := true, recurses := true, plainKeys := false, apart := false }
def TimerLooksSaid : Prop := timerLooksRow.holds Try.pinned (OpenSpec.ofChange timerLooksSpec)

/-- ITS FALSE NEIGHBOUR: 'it returns false'. Refute it at one input. -/
def timerLooksWrong : ChangeSpec := { name := "timerLooks", fn := fun _ => fun
  | [d] => { results := [.lit (.bool false)], args := [d] }
  | _ => none }
def TimerLooksWrongFalsely : Prop := timerLooksRow.holds Try.pinned (OpenSpec.ofChange timerLooksWrong)

/-- 'clepsydralaw08.TimerDue': WHATEVER THE INPUT: true; the input reads as it did. -/
def timerDueSpec : ChangeSpec := { name := "timerDue", fn := fun _ => fun
  | [d1, d2, d3] => { results := [.lit (.bool true)], args := [d1, d2, d3] }
  | _ => none }
def timerDueRow : OpenClaim := { program := "yteooamoagkcgnaa", sum := "7a3a80692237b741bb33e332b893803d9a90147e1047ed83d0675519b8b242e0", func := "clepsydra/clepsydralaw08.TimerDue", spec := "timerDue", unfollowed := true, recurses := true, plainKeys := false, apart := false }
def TimerDueSaid : Prop := timerDueRow.holds Try.pinned (OpenSpec.ofChange timerDueSpec)

/-- ITS FALSE NEIGHBOUR: 'it returns false'. Refute it at one input. -/
def timerDueWrong : ChangeSpec := { name := "timerDue", fn := fun _ => fun
  | [d1, d2, d3] => { results := [.lit (.bool false)], args := [d1, d2, d3] }
  | _ => none }
def TimerDueWrongFalsely : Prop := timerDueRow.holds Try.pinned (OpenSpec.ofChange timerDueWrong)

/-- 'clepsydralaw08.TimerDrops': WHATEVER THE INPUT: true; the input reads as it did. -/
def timerDropsSpec : ChangeSpec := { name := "timerDrops", fn := fun _ => fun
  | [d1, d2] => { results := [.lit (.bool true)], args := [d1, d2] }
  | _ => none }
def timerDropsRow : OpenClaim := { program := "yteooamoagkcgnaa", sum := "7a3a80692237b741bb33e332b893803d9a90147e1047ed83d0675519b8b242e0", func := "clepsydra/clepsydralaw08.TimerDrops", spec := "timerDrops", unfollowed := true, recurses := true, plainKeys := false, apart := false }
def TimerDropsSaid : Prop := timerDropsRow.holds Try.pinned (OpenSpec.ofChange timerDropsSpec)

/-- ITS FALSE NEIGHBOUR: 'it returns false'. Refute it at one input. -/
def timerDropsWrong : ChangeSpec := { name := "timerDrops", fn := fun _ => fun
  | [d1, d2] => { results := [.lit (.bool false)], args := [d1, d2] }
  | _ => none }
def TimerDropsWrongFalsely : Prop := timerDropsRow.holds Try.pinned (OpenSpec.ofChange timerDropsWrong)

/-- 'clepsydralaw08.TimerPlays': WHATEVER THE INPUT: true; the input reads as it did. -/
def timerPlaysSpec : ChangeSpec := { name := "timerPlays", fn := fun _ => fun
  | [d] => { results := [.lit (.bool true)], args := [d] }
  | _ => none }
def timerPlaysRow : OpenClaim := { program := "yteooamoagkcgnaa", sum := "7a3a80692237b741bb33e332b893803d9a90147e1047ed83d0675519b8b242e0", func := "clepsydra/clepsydralaw08.TimerPlays", spec := "timerPlays", unfollowed := true, recurses := true, plainKeys := false, apart := false }
def TimerPlaysSaid : Prop := timerPlaysRow.holds Try.pinned (OpenSpec.ofChange timerPlaysSpec)

/-- ITS FALSE NEIGHBOUR: 'it returns false'. Refute it at one input. -/
def timerPlaysWrong : ChangeSpec := { name := "timerPlays", fn := fun _ => fun
  | [d] => { results := [.lit (.bool false)], args := [d] }
  | _ => none }
def TimerPlaysWrongFalsely : Prop := timerPlaysRow.holds Try.pinned (OpenSpec.ofChange timerPlaysWrong)

/-- 'clepsydralaw08.TimerApart': WHATEVER THE INPUT: true; the input reads as it did. -/
def timerApartSpec : ChangeSpec := { name := "timerApart", fn := fun _ => fun
  | [d1, d2] => { results := [.lit (.bool true)], args := [d1, d2] }
  | _ => none }
def timerApartRow : OpenClaim := { program := "yteooamoagkcgnaa", sum := "7a3a80692237b741bb33e332b893803d9a90147e1047ed83d0675519b8b242e0", func := "clepsydra/clepsydralaw08.TimerApart", spec := "timerApart", unfollowed := true, recurses := true, plainKeys := false, apart := false }
def TimerApartSaid : Prop := timerApartRow.holds Try.pinned (OpenSpec.ofChange timerApartSpec)

/-- ITS FALSE NEIGHBOUR: 'it returns false'. Refute it at one input. -/
def timerApartWrong : ChangeSpec := { name := "timerApart", fn := fun _ => fun
  | [d1, d2] => { results := [.lit (.bool false)], args := [d1, d2] }
  | _ => none }
def TimerApartWrongFalsely : Prop := timerApartRow.holds Try.pinned (OpenSpec.ofChange timerApartWrong)

/- THE SECOND FORM. 'bulk': how many values and letters a reading holds, each counted each time it is reached (what is shared counts as often as it is met; a slice's spare places count too). A statement '..UptoSaid' is the law's where the arguments, and the package variables that the reading takes, are together of bulk at most 1048576: NARROWER than '..Said'. Prove '..Said' where nothing that the law and all that it calls make is longer than what came in: it says more and counts as full. Else prove '..UptoSaid'. A law counts once. -/
mutual
def uptoBulk {H : Type} : DataW H → Nat
  | .lit (.string bytes) => bytes.length + 1
  | .lit _ => 1
  | .nil => 1
  | .ptr d => uptoBulk d + 1
  | .slice elems spare => uptoBulkAll elems + uptoBulkAll spare + 1
  | .agg parts => uptoBulkAll parts + 1
  | .iface _ d => uptoBulk d + 1
  | .map entries => uptoBulkEntries entries + 1
  | .held _ => 1
def uptoBulkAll {H : Type} : List (DataW H) → Nat
  | [] => 0
  | d :: r => uptoBulk d + uptoBulkAll r
def uptoBulkEntries {H : Type} : List (Lit × DataW H) → Nat
  | [] => 0
  | x :: r => uptoBulkEntry x + uptoBulkEntries r
def uptoBulkEntry {H : Type} : Lit × DataW H → Nat
  | (.string bytes, d) => bytes.length + uptoBulk d + 1
  | (_, d) => uptoBulk d + 1
 end
def uptoSmall : (H : Type) → List (DataW H) → Bool := fun _ ds => decide (uptoBulkAll ds ≤ 1048576)
def OpenSpec.upto (s : _root_.Go.ChangeSpec) : _root_.Go.OpenSpec := { _root_.Go.OpenSpec.ofChange s with cond := some uptoSmall }

/-- 'clepsydralaw08.TimerSorts', WHERE WHAT IT READS IS OF BULK AT MOST 1048576: true; the input reads as it did. -/
def timerSortsUptoRow : OpenClaim := { program := "yteooamoagkcgnaa", sum := "7a3a80692237b741bb33e332b893803d9a90147e1047ed83d0675519b8b242e0", func := "clepsydra/clepsydralaw08.TimerSorts", spec := "timerSorts", unfollowed := true, recurses := true, plainKeys := false, apart := false, narrowed := true }
def TimerSortsUptoSaid : Prop := timerSortsUptoRow.holds Try.pinned (OpenSpec.upto timerSortsSpec)

/-- 'clepsydralaw08.TimerLooks', WHERE WHAT IT READS IS OF BULK AT MOST 1048576: true; the input reads as it did. -/
def timerLooksUptoRow : OpenClaim := { program := "yteooamoagkcgnaa", sum := "7a3a80692237b741bb33e332b893803d9a90147e1047ed83d0675519b8b242e0", func := "clepsydra/clepsydralaw08.TimerLooks", spec := "timerLooks", unfollowed := true, recurses := true, plainKeys := false, apart := false, narrowed := true }
def TimerLooksUptoSaid : Prop := timerLooksUptoRow.holds Try.pinned (OpenSpec.upto timerLooksSpec)

/-- 'clepsydralaw08.TimerDue', WHERE WHAT IT READS IS OF BULK AT MOST 1048576: true; the input reads as it did. -/
def timerDueUptoRow : OpenClaim := { program := "yteooamoagkcgnaa", sum := "7a3a80692237b741bb33e332b893803d9a90147e1047ed83d0675519b8b242e0", func := "clepsydra/clepsydralaw08.TimerDue", spec := "timerDue", unfollowed := true, recurses := true, plainKeys := false, apart := false, narrowed := true }
def TimerDueUptoSaid : Prop := timerDueUptoRow.holds Try.pinned (OpenSpec.upto timerDueSpec)

/-- 'clepsydralaw08.TimerDrops', WHERE WHAT IT READS IS OF BULK AT MOST 1048576: true; the input reads as it did. -/
def timerDropsUptoRow : OpenClaim := { program := "yteooamoagkcgnaa", sum := "7a3a80692237b741bb33e332b893803d9a90147e1047ed83d0675519b8b242e0", func := "clepsydra/clepsydralaw08.TimerDrops", spec := "timerDrops", unfollowed := true, recurses := true, plainKeys := false, apart := false, narrowed := true }
def TimerDropsUptoSaid : Prop := timerDropsUptoRow.holds Try.pinned (OpenSpec.upto timerDropsSpec)

/-- 'clepsydralaw08.TimerPlays', WHERE WHAT IT READS IS OF BULK AT MOST 1048576: true; the input reads as it did. -/
def timerPlaysUptoRow : OpenClaim := { program := "yteooamoagkcgnaa", sum := "7a3a80692237b741bb33e332b893803d9a90147e1047ed83d0675519b8b242e0", func := "clepsydra/clepsydralaw08.TimerPlays", spec := "timerPlays", unfollowed := true, recurses := true, plainKeys := false, apart := false, narrowed := true }
def TimerPlaysUptoSaid : Prop := timerPlaysUptoRow.holds Try.pinned (OpenSpec.upto timerPlaysSpec)

/-- 'clepsydralaw08.TimerApart', WHERE WHAT IT READS IS OF BULK AT MOST 1048576: true; the input reads as it did. -/
def timerApartUptoRow : OpenClaim := { program := "yteooamoagkcgnaa", sum := "7a3a80692237b741bb33e332b893803d9a90147e1047ed83d0675519b8b242e0", func := "clepsydra/clepsydralaw08.TimerApart", spec := "timerApart", unfollowed := true, recurses := true, plainKeys := false, apart := false, narrowed := true }
def TimerApartUptoSaid : Prop := timerApartUptoRow.holds Try.pinned (OpenSpec.upto timerApartSpec)

end Rows
end Go.Proofs.Yteooamoagkcgnaa
