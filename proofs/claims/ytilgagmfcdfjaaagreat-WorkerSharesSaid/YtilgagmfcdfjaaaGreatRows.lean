/-
  No cell of these rows narrows 'for every input' (looked for: loops, veiled, ifaces, maps, wideKeys, modest, calm, conditions, laid).
  DERIVED. THE GIVEN ROWS OF THIS SEAT. 4 by the template 'for every input the law returns true; each argument reads behind the call as it read before'; 0 by the template 'total and deterministic' (their statements: YtilgagmfcdfjaaaGreatTotals.lean).
  GIVEN WITH THE SEED: the statements are not yours to turn. If you find one false, say at which input.
  Laid BY PROGRAM, IN A SANDBOX (cutbox-rows.mjs): the forced cells as the released guide's own fill.sh prints them over the translation 519d417ed179b5d4… (all of the seat's roots in one cut). By AI agents, Wed Nov 11 2026. No macro, syntax, notation, axiom, sorry.
-/
import Derived.Test.YtilgagmfcdfjaaaGreatChecked
import GoSem.Claim
import GoSem.ClaimJoined
import GoSem.ClaimMapViews
import Derived.JoinedTies
import Derived.KernelRfl
namespace Go.Proofs.YtilgagmfcdfjaaaGreat
/- THE CELL 'sum', in the pinned program and in every row, IS THE sha256 OF THE DUMP (.gsa) THAT YtilgagmfcdfjaaaGreatProg.lean LOADS. Nothing in Lean hashes anything: it is a label: what it is worth is what the hold of that sum in a sandbox is worth. -/
noncomputable def Tryz.pinned : Pinned := { name := "ytilgagmfcdfjaaagreat", sum := "519d417ed179b5d4fdfc458181d71dde3e28d2bd37120db863afafa4a0727af2", checked := Tryz.checked }
namespace Rows
def none {H : Type} : Left H := { results := [], args := [] }

/-- 'clepsydratop.TopMarks': WHATEVER THE INPUT: true; the input reads as it did. -/
def topMarksSpec : ChangeSpec := { name := "topMarks", fn := fun _ => fun
  | [d1, d2, d3] => { results := [.lit (.bool true)], args := [d1, d2, d3] }
  | _ => none }
def topMarksRow : OpenClaim := { program := "ytilgagmfcdfjaaagreat", sum := "519d417ed179b5d4fdfc458181d71dde3e28d2bd37120db863afafa4a0727af2", func := "clepsydra/clepsydratop.TopMarks", spec := "topMarks", inPlace := ["slices.overlaps[clepsydra/api.Pane]"], unfollowed := true, recurses := true, plainKeys := false, apart := false }
def TopMarksSaid : Prop := topMarksRow.holds Tryz.pinned (OpenSpec.ofChange topMarksSpec)

/-- ITS FALSE NEIGHBOUR: 'it returns false'. Refute it at one input. -/
def topMarksWrong : ChangeSpec := { name := "topMarks", fn := fun _ => fun
  | [d1, d2, d3] => { results := [.lit (.bool false)], args := [d1, d2, d3] }
  | _ => none }
def TopMarksWrongFalsely : Prop := topMarksRow.holds Tryz.pinned (OpenSpec.ofChange topMarksWrong)

/-- 'clepsydralaw22.WorkerOrder': WHATEVER THE INPUT: true; the input reads as it did. -/
def workerOrderSpec : ChangeSpec := { name := "workerOrder", fn := fun _ => fun
  | [d1, d2, d3] => { results := [.lit (.bool true)], args := [d1, d2, d3] }
  | _ => none }
def workerOrderRow : OpenClaim := { program := "ytilgagmfcdfjaaagreat", sum := "519d417ed179b5d4fdfc458181d71dde3e28d2bd37120db863afafa4a0727af2", func := "clepsydra/clepsydralaw22.WorkerOrder", spec := "workerOrder", inPlace := ["slices.overlaps[clepsydra/api.Pane]"], unfollowed := true, recurses := true, plainKeys := false, apart := false }
def WorkerOrderSaid : Prop := workerOrderRow.holds Tryz.pinned (OpenSpec.ofChange workerOrderSpec)

/-- ITS FALSE NEIGHBOUR: 'it returns false'. Refute it at one input. -/
def workerOrderWrong : ChangeSpec := { name := "workerOrder", fn := fun _ => fun
  | [d1, d2, d3] => { results := [.lit (.bool false)], args := [d1, d2, d3] }
  | _ => none }
def WorkerOrderWrongFalsely : Prop := workerOrderRow.holds Tryz.pinned (OpenSpec.ofChange workerOrderWrong)

/-- 'clepsydralaw22.WorkerShares': WHATEVER THE INPUT: true; the input reads as it did. -/
def workerSharesSpec : ChangeSpec := { name := "workerShares", fn := fun _ => fun
  | [d1, d2, d3, d4] => { results := [.lit (.bool true)], args := [d1, d2, d3, d4] }
  | _ => none }
def workerSharesRow : OpenClaim := { program := "ytilgagmfcdfjaaagreat", sum := "519d417ed179b5d4fdfc458181d71dde3e28d2bd37120db863afafa4a0727af2", func := "clepsydra/clepsydralaw22.WorkerShares", spec := "workerShares", inPlace := ["slices.overlaps[clepsydra/api.Pane]"], unfollowed := true, recurses := true, plainKeys := false, apart := false }
def WorkerSharesSaid : Prop := workerSharesRow.holds Tryz.pinned (OpenSpec.ofChange workerSharesSpec)

/-- ITS FALSE NEIGHBOUR: 'it returns false'. Refute it at one input. -/
def workerSharesWrong : ChangeSpec := { name := "workerShares", fn := fun _ => fun
  | [d1, d2, d3, d4] => { results := [.lit (.bool false)], args := [d1, d2, d3, d4] }
  | _ => none }
def WorkerSharesWrongFalsely : Prop := workerSharesRow.holds Tryz.pinned (OpenSpec.ofChange workerSharesWrong)

/-- 'clepsydralaw22.WorkerBars': WHATEVER THE INPUT: true; the input reads as it did. -/
def workerBarsSpec : ChangeSpec := { name := "workerBars", fn := fun _ => fun
  | [d1, d2, d3, d4] => { results := [.lit (.bool true)], args := [d1, d2, d3, d4] }
  | _ => none }
def workerBarsRow : OpenClaim := { program := "ytilgagmfcdfjaaagreat", sum := "519d417ed179b5d4fdfc458181d71dde3e28d2bd37120db863afafa4a0727af2", func := "clepsydra/clepsydralaw22.WorkerBars", spec := "workerBars", inPlace := ["slices.overlaps[clepsydra/api.Pane]"], unfollowed := true, recurses := true, plainKeys := false, apart := false }
def WorkerBarsSaid : Prop := workerBarsRow.holds Tryz.pinned (OpenSpec.ofChange workerBarsSpec)

/-- ITS FALSE NEIGHBOUR: 'it returns false'. Refute it at one input. -/
def workerBarsWrong : ChangeSpec := { name := "workerBars", fn := fun _ => fun
  | [d1, d2, d3, d4] => { results := [.lit (.bool false)], args := [d1, d2, d3, d4] }
  | _ => none }
def WorkerBarsWrongFalsely : Prop := workerBarsRow.holds Tryz.pinned (OpenSpec.ofChange workerBarsWrong)

/- THE SECOND FORM. 'bulk': how many values and letters a reading holds, each counted each time it is reached (what is shared counts as often as it is met; a slice's spare places count too). A statement '..UptoSaid' is the law's where the arguments, and the package variables that the reading takes, are together of bulk at most 1048576: NARROWER than '..Said'. Prove '..Said' where nothing that the law and all that it calls make is longer than what came in: it says more and counts as full. Else prove '..UptoSaid'. A law counts once. -/
mutual
def uptoBulk {H : Type} : DataW H → Nat
  | .lit (.string bytes) => bytes.length + 1
  | .lit _ => 1
  | .nil => 1
  | .ptr d => uptoBulk d + 1
  | .slice elems spare => uptoBulkAll elems + uptoBulkAll spare + 1
  | .agg parts => uptoBulkAll parts + 1
  | .iface _ d => uptoBulk d + 1
  | .map entries => uptoBulkEntries entries + 1
  | .held _ => 1
def uptoBulkAll {H : Type} : List (DataW H) → Nat
  | [] => 0
  | d :: r => uptoBulk d + uptoBulkAll r
def uptoBulkEntries {H : Type} : List (Lit × DataW H) → Nat
  | [] => 0
  | x :: r => uptoBulkEntry x + uptoBulkEntries r
def uptoBulkEntry {H : Type} : Lit × DataW H → Nat
  | (.string bytes, d) => bytes.length + uptoBulk d + 1
  | (_, d) => uptoBulk d + 1
 end
def uptoSmall : (H : Type) → List (DataW H) → Bool := fun _ ds => decide (uptoBulkAll ds ≤ 1048576)
def OpenSpec.upto (s : _root_.Go.ChangeSpec) : _root_.Go.OpenSpec := { _root_.Go.OpenSpec.ofChange s with cond := some uptoSmall }

/-- 'clepsydratop.TopMarks', WHERE WHAT IT READS IS OF BULK AT MOST 1048576: true; the input reads as it did. -/
def topMarksUptoRow : OpenClaim := { program := "ytilgagmfcdfjaaagreat", sum := "519d417ed179b5d4fdfc458181d71dde3e28d2bd37120db863afafa4a0727af2", func := "clepsydra/clepsydratop.TopMarks", spec := "topMarks", inPlace := ["slices.overlaps[clepsydra/api.Pane]"], unfollowed := true, recurses := true, plainKeys := false, apart := false, narrowed := true }
def TopMarksUptoSaid : Prop := topMarksUptoRow.holds Tryz.pinned (OpenSpec.upto topMarksSpec)

/-- 'clepsydralaw22.WorkerOrder', WHERE WHAT IT READS IS OF BULK AT MOST 1048576: true; the input reads as it did. -/
def workerOrderUptoRow : OpenClaim := { program := "ytilgagmfcdfjaaagreat", sum := "519d417ed179b5d4fdfc458181d71dde3e28d2bd37120db863afafa4a0727af2", func := "clepsydra/clepsydralaw22.WorkerOrder", spec := "workerOrder", inPlace := ["slices.overlaps[clepsydra/api.Pane]"], unfollowed := true, recurses := true, plainKeys := false, apart := false, narrowed := true }
def WorkerOrderUptoSaid : Prop := workerOrderUptoRow.holds Tryz.pinned (OpenSpec.upto workerOrderSpec)

/-- 'clepsydralaw22.WorkerShares', WHERE WHAT IT READS IS OF BULK AT MOST 1048576: true; the input reads as it did. -/
def workerSharesUptoRow : OpenClaim := { program := "ytilgagmfcdfjaaagreat", sum := "519d417ed179b5d4fdfc458181d71dde3e28d2bd37120db863afafa4a0727af2", func := "clepsydra/clepsydralaw22.WorkerShares", spec := "workerShares", inPlace := ["slices.overlaps[clepsydra/api.Pane]"], unfollowed := true, recurses := true, plainKeys := false, apart := false, narrowed := true }
def WorkerSharesUptoSaid : Prop := workerSharesUptoRow.holds Tryz.pinned (OpenSpec.upto workerSharesSpec)

/-- 'clepsydralaw22.WorkerBars', WHERE WHAT IT READS IS OF BULK AT MOST 1048576: true; the input reads as it did. -/
def workerBarsUptoRow : OpenClaim := { program := "ytilgagmfcdfjaaagreat", sum := "519d417ed179b5d4fdfc458181d71dde3e28d2bd37120db863afafa4a0727af2", func := "clepsydra/clepsydralaw22.WorkerBars", spec := "workerBars", inPlace := ["slices.overlaps[clepsydra/api.Pane]"], unfollowed := true, recurses := true, plainKeys := false, apart := false, narrowed := true }
def WorkerBarsUptoSaid : Prop := workerBarsUptoRow.holds Tryz.pinned (OpenSpec.upto workerBarsSpec)

end Rows
end Go.Proofs.YtilgagmfcdfjaaaGreat
