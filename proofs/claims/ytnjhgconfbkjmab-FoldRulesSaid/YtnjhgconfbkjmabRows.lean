/-
  No cell of these rows narrows 'for every input' (looked for: loops, veiled, ifaces, maps, wideKeys, modest, calm, conditions, laid).
  DERIVED. THE GIVEN ROWS OF THIS SEAT. 6 by the template 'for every input the law returns true; each argument reads behind the call as it read before'; 0 by the template 'total and deterministic' (their statements: YtnjhgconfbkjmabTotals.lean).
  GIVEN WITH THE SEED: the statements are not yours to turn. If you find one false, say at which input.
  Laid BY PROGRAM, IN A SANDBOX (cutbox-rows.mjs): the forced cells as the released guide's own fill.sh prints them over the translation 6377c453f6b26c4b… (all of the seat's roots in one cut). By AI agents, Wed Nov 11 2026. No macro, syntax, notation, axiom, sorry.
-/
import Derived.Test.YtnjhgconfbkjmabChecked
import GoSem.Claim
import GoSem.ClaimJoined
import GoSem.ClaimMapViews
import Derived.JoinedTies
import Derived.KernelRfl
namespace Go.Proofs.Ytnjhgconfbkjmab
/- THE CELL 'sum', in the pinned program and in every row, IS THE sha256 OF THE DUMP (.gsa) THAT YtnjhgconfbkjmabProg.lean LOADS. Nothing in Lean hashes anything: it is a label: what it is worth is what the hold of that sum in a sandbox is worth. -/
noncomputable def Try.pinned : Pinned := { name := "ytnjhgconfbkjmab", sum := "6377c453f6b26c4be7d9c86fa8b312b8034b0284b99c599a9a54e18722b823a8", checked := Try.checked }
namespace Rows
def none {H : Type} : Left H := { results := [], args := [] }

/-- 'clepsydralaw06.FoldJoins': WHATEVER THE INPUT: true; the input reads as it did. -/
def foldJoinsSpec : ChangeSpec := { name := "foldJoins", fn := fun _ => fun
  | [d1, d2, d3] => { results := [.lit (.bool true)], args := [d1, d2, d3] }
  | _ => none }
def foldJoinsRow : OpenClaim := { program := "ytnjhgconfbkjmab", sum := "6377c453f6b26c4be7d9c86fa8b312b8034b0284b99c599a9a54e18722b823a8", func := "clepsydra/clepsydralaw06.FoldJoins", spec := "foldJoins", unfollowed := true, recurses := true, apart := false }
def FoldJoinsSaid : Prop := foldJoinsRow.holds Try.pinned (OpenSpec.ofChange foldJoinsSpec)

/-- ITS FALSE NEIGHBOUR: 'it returns false'. Refute it at one input. -/
def foldJoinsWrong : ChangeSpec := { name := "foldJoins", fn := fun _ => fun
  | [d1, d2, d3] => { results := [.lit (.bool false)], args := [d1, d2, d3] }
  | _ => none }
def FoldJoinsWrongFalsely : Prop := foldJoinsRow.holds Try.pinned (OpenSpec.ofChange foldJoinsWrong)

/-- 'clepsydralaw06.FoldParts': WHATEVER THE INPUT: true; the input reads as it did. -/
def foldPartsSpec : ChangeSpec := { name := "foldParts", fn := fun _ => fun
  | [d1, d2, d3] => { results := [.lit (.bool true)], args := [d1, d2, d3] }
  | _ => none }
def foldPartsRow : OpenClaim := { program := "ytnjhgconfbkjmab", sum := "6377c453f6b26c4be7d9c86fa8b312b8034b0284b99c599a9a54e18722b823a8", func := "clepsydra/clepsydralaw06.FoldParts", spec := "foldParts", unfollowed := true, recurses := true, apart := false }
def FoldPartsSaid : Prop := foldPartsRow.holds Try.pinned (OpenSpec.ofChange foldPartsSpec)

/-- ITS FALSE NEIGHBOUR: 'it returns false'. Refute it at one input. -/
def foldPartsWrong : ChangeSpec := { name := "foldParts", fn := fun _ => fun
  | [d1, d2, d3] => { results := [.lit (.bool false)], args := [d1, d2, d3] }
  | _ => none }
def FoldPartsWrongFalsely : Prop := foldPartsRow.holds Try.pinned (OpenSpec.ofChange foldPartsWrong)

/-- 'clepsydralaw06.FoldRules': WHATEVER THE INPUT: true; the input reads as it did. -/
def foldRulesSpec : ChangeSpec := { name := "foldRules", fn := fun _ => fun
  | [d1, d2, d3, d4] => { results := [.lit (.bool true)], args := [d1, d2, d3, d4] }
  | _ => none }
def foldRulesRow : OpenClaim := { program := "ytnjhgconfbkjmab", sum := "6377c453f6b26c4be7d9c86fa8b312b8034b0284b99c599a9a54e18722b823a8", func := "clepsydra/clepsydralaw06.FoldRules", spec := "foldRules", unfollowed := true, recurses := true, apart := false }
def FoldRulesSaid : Prop := foldRulesRow.holds Try.pinned (OpenSpec.ofChange foldRulesSpec)

/-- ITS FALSE NEIGHBOUR: 'it returns false'. Refute it at one input. -/
def foldRulesWrong : ChangeSpec := { name := "foldRules", fn := fun _ => fun
  | [d1, d2, d3, d4] => { results := [.lit (.bool false)], args := [d1, d2, d3, d4] }
  | _ => none }
def FoldRulesWrongFalsely : Prop := foldRulesRow.holds Try.pinned (OpenSpec.ofChange foldRulesWrong)

/-- 'clepsydralaw06.FoldTurns': WHATEVER THE INPUT: true; the input reads as it did. -/
def foldTurnsSpec : ChangeSpec := { name := "foldTurns", fn := fun _ => fun
  | [d1, d2, d3] => { results := [.lit (.bool true)], args := [d1, d2, d3] }
  | _ => none }
def foldTurnsRow : OpenClaim := { program := "ytnjhgconfbkjmab", sum := "6377c453f6b26c4be7d9c86fa8b312b8034b0284b99c599a9a54e18722b823a8", func := "clepsydra/clepsydralaw06.FoldTurns", spec := "foldTurns", unfollowed := true, recurses := true, apart := false }
def FoldTurnsSaid : Prop := foldTurnsRow.holds Try.pinned (OpenSpec.ofChange foldTurnsSpec)

/-- ITS FALSE NEIGHBOUR: 'it returns false'. Refute it at one input. -/
def foldTurnsWrong : ChangeSpec := { name := "foldTurns", fn := fun _ => fun
  | [d1, d2, d3] => { results := [.lit (.bool false)], args := [d1, d2, d3] }
  | _ => none }
def FoldTurnsWrongFalsely : Prop := foldTurnsRow.holds Try.pinned (OpenSpec.ofChange foldTurnsWrong)

/-- 'clepsydralaw06.FoldAll': WHATEVER THE INPUT: true; the input reads as it did. -/
def foldAllSpec : ChangeSpec := { name := "foldAll", fn := fun _ => fun
  | [d1, d2, d3] => { results := [.lit (.bool true)], args := [d1, d2, d3] }
  | _ => none }
def foldAllRow : OpenClaim := { program := "ytnjhgconfbkjmab", sum := "6377c453f6b26c4be7d9c86fa8b312b8034b0284b99c599a9a54e18722b823a8", func := "clepsydra/clepsydralaw06.FoldAll", spec := "foldAll", unfollowed := true, recurses := true, apart := false }
def FoldAllSaid : Prop := foldAllRow.holds Try.pinned (OpenSpec.ofChange foldAllSpec)

/-- ITS FALSE NEIGHBOUR: 'it returns false'. Refute it at one input. -/
def foldAllWrong : ChangeSpec := { name := "foldAll", fn := fun _ => fun
  | [d1, d2, d3] => { results := [.lit (.bool false)], args := [d1, d2, d3] }
  | _ => none }
def FoldAllWrongFalsely : Prop := foldAllRow.holds Try.pinned (OpenSpec.ofChange foldAllWrong)

/-- 'clepsydralaw06.FoldEnds': WHATEVER THE INPUT: true; the input reads as it did. -/
def foldEndsSpec : ChangeSpec := { name := "foldEnds", fn := fun _ => fun
  | [d] => { results := [.lit (.bool true)], args := [d] }
  | _ => none }
def foldEndsRow : OpenClaim := { program := "ytnjhgconfbkjmab", sum := "6377c453f6b26c4be7d9c86fa8b312b8034b0284b99c599a9a54e18722b823a8", func := "clepsydra/clepsydralaw06.FoldEnds", spec := "foldEnds", unfollowed := true, recurses := true, apart := false }
def FoldEndsSaid : Prop := foldEndsRow.holds Try.pinned (OpenSpec.ofChange foldEndsSpec)

/-- ITS FALSE NEIGHBOUR: 'it returns false'. Refute it at one input. -/
def foldEndsWrong : ChangeSpec := { name := "foldEnds", fn := fun _ => fun
  | [d] => { results := [.lit (.bool false)], args := [d] }
  | _ => none }
def FoldEndsWrongFalsely : Prop := foldEndsRow.holds Try.pinned (OpenSpec.ofChange foldEndsWrong)

/- THE SECOND FORM. 'bulk': how many values and letters a reading holds, each counted each time it is reached (what is shared counts as often as it is met; a slice's spare places count too). A statement '..UptoSaid' is the law's where the arguments, and the package variables that the reading takes, are together of bulk at most 1048576: NARROWER than '..Said'. Prove '..Said' where nothing that the law and all that it calls make is longer than what came in: it says more and counts as full. Else prove '..UptoSaid'. A law counts once. -/
mutual
def uptoBulk {H : Type} : DataW H → Nat
  | .lit (.string bytes) => bytes.length + 1
  | .lit _ => 1
  | .nil => 1
  | .ptr d => uptoBulk d + 1
  | .slice elems spare => uptoBulkAll elems + uptoBulkAll spare + 1
  | .agg parts => uptoBulkAll parts + 1
  | .iface _ d => uptoBulk d + 1
  | .map entries => uptoBulkEntries entries + 1
  | .held _ => 1
def uptoBulkAll {H : Type} : List (DataW H) → Nat
  | [] => 0
  | d :: r => uptoBulk d + uptoBulkAll r
def uptoBulkEntries {H : Type} : List (Lit × DataW H) → Nat
  | [] => 0
  | x :: r => uptoBulkEntry x + uptoBulkEntries r
def uptoBulkEntry {H : Type} : Lit × DataW H → Nat
  | (.string bytes, d) => bytes.length + uptoBulk d + 1
  | (_, d) => uptoBulk d + 1
 end
def uptoSmall : (H : Type) → List (DataW H) → Bool := fun _ ds => decide (uptoBulkAll ds ≤ 1048576)
def OpenSpec.upto (s : _root_.Go.ChangeSpec) : _root_.Go.OpenSpec := { _root_.Go.OpenSpec.ofChange s with cond := some uptoSmall }

/-- 'clepsydralaw06.FoldJoins', WHERE WHAT IT READS IS OF BULK AT MOST 1048576: true; the input reads as it did. -/
def foldJoinsUptoRow : OpenClaim := { program := "ytnjhgconfbkjmab", sum := "6377c453f6b26c4be7d9c86fa8b312b8034b0284b99c599a9a54e18722b823a8", func := "clepsydra/clepsydralaw06.FoldJoins", spec := "foldJoins", unfollowed := true, recurses := true, apart := false, narrowed := true }
def FoldJoinsUptoSaid : Prop := foldJoinsUptoRow.holds Try.pinned (OpenSpec.upto foldJoinsSpec)

/-- 'clepsydralaw06.FoldParts', WHERE WHAT IT READS IS OF BULK AT MOST 1048576: true; the input reads as it did. -/
def foldPartsUptoRow : OpenClaim := { program := "ytnjhgconfbkjmab", sum := "6377c453f6b26c4be7d9c86fa8b312b8034b0284b99c599a9a54e18722b823a8", func := "clepsydra/clepsydralaw06.FoldParts", spec := "foldParts", unfollowed := true, recurses := true, apart := false, narrowed := true }
def FoldPartsUptoSaid : Prop := foldPartsUptoRow.holds Try.pinned (OpenSpec.upto foldPartsSpec)

/-- 'clepsydralaw06.FoldRules', WHERE WHAT IT READS IS OF BULK AT MOST 1048576: true; the input reads as it did. -/
def foldRulesUptoRow : OpenClaim := { program := "ytnjhgconfbkjmab", sum := "6377c453f6b26c4be7d9c86fa8b312b8034b0284b99c599a9a54e18722b823a8", func := "clepsydra/clepsydralaw06.FoldRules", spec := "foldRules", unfollowed := true, recurses := true, apart := false, narrowed := true }
def FoldRulesUptoSaid : Prop := foldRulesUptoRow.holds Try.pinned (OpenSpec.upto foldRulesSpec)

/-- 'clepsydralaw06.FoldTurns', WHERE WHAT IT READS IS OF BULK AT MOST 1048576: true; the input reads as it did. -/
def foldTurnsUptoRow : OpenClaim := { program := "ytnjhgconfbkjmab", sum := "6377c453f6b26c4be7d9c86fa8b312b8034b0284b99c599a9a54e18722b823a8", func := "clepsydra/clepsydralaw06.FoldTurns", spec := "foldTurns", unfollowed := true, recurses := true, apart := false, narrowed := true }
def FoldTurnsUptoSaid : Prop := foldTurnsUptoRow.holds Try.pinned (OpenSpec.upto foldTurnsSpec)

/-- 'clepsydralaw06.FoldAll', WHERE WHAT IT READS IS OF BULK AT MOST 1048576: true; the input reads as it did. -/
def foldAllUptoRow : OpenClaim := { program := "ytnjhgconfbkjmab", sum := "6377c453f6b26c4be7d9c86fa8b312b8034b0284b99c599a9a54e18722b823a8", func := "clepsydra/clepsydralaw06.FoldAll", spec := "foldAll", unfollowed := true, recurses := true, apart := false, narrowed := true }
def FoldAllUptoSaid : Prop := foldAllUptoRow.holds Try.pinned (OpenSpec.upto foldAllSpec)

/-- 'clepsydralaw06.FoldEnds', WHERE WHAT IT READS IS OF BULK AT MOST 1048576: true; the input reads as it did. -/
def foldEndsUptoRow : OpenClaim := { program := "ytnjhgconfbkjmab", sum := "6377c453f6b26c4be7d9c86fa8b312b8034b0284b99c599a9a54e18722b823a8", func := "clepsydra/clepsydralaw06.FoldEnds", spec := "foldEnds", unfollowed := true, recurses := true, apart := false, narrowed := true }
def FoldEndsUptoSaid : Prop := foldEndsUptoRow.holds Try.pinned (OpenSpec.upto foldEndsSpec)

end Rows
end Go.Proofs.Ytnjhgconfbkjmab
