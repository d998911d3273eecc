/-
  No cell of these rows narrows 'for every input' (looked for: loops, veiled, ifaces, maps, wideKeys, modest, calm, conditions, laid).
  DERIVED. THE GIVEN ROWS OF THIS SEAT. 3 by the template 'for every input the law returns true; each argument reads behind the call as it read before'; 0 by the template 'total and deterministic' (their statements: YtnjhgconfbkjmaaTotals.lean).
  GIVEN WITH THE SEED: the statements are not yours to turn. If you find one false, say at which input.
  Laid BY PROGRAM, IN A SANDBOX (cutbox-rows.mjs): the forced cells as the released guide's own fill.sh prints them over the translation d4b0f5c6aa604319… (all of the seat's roots in one cut). By AI agents, Wed Nov 11 2026. No macro, syntax, notation, axiom, sorry.
-/
import Derived.Test.YtnjhgconfbkjmaaChecked
import GoSem.Claim
import GoSem.ClaimJoined
import GoSem.ClaimMapViews
import Derived.JoinedTies
import Derived.KernelRfl
namespace Go.Proofs.Ytnjhgconfbkjmaa
/- THE CELL 'sum', in the pinned program and in every row, IS THE sha256 OF THE DUMP (.gsa) THAT YtnjhgconfbkjmaaProg.lean LOADS. Nothing in Lean hashes anything: it is a label: what it is worth is what the hold of that sum in a sandbox is worth. -/
noncomputable def Try.pinned : Pinned := { name := "ytnjhgconfbkjmaa", sum := "d4b0f5c6aa6043197df72353d5571dc5d69cf5bcb5915c284c456ffc0889ab85", checked := Try.checked }
namespace Rows
def none {H : Type} : Left H := { results := [], args := [] }

/-- 'clepsydralaw11.RingMoves': WHATEVER THE INPUT: true; the input reads as it did. -/
def ringMovesSpec : ChangeSpec := { name := "ringMoves", fn := fun _ => fun
  | [d1, d2] => { results := [.lit (.bool true)], args := [d1, d2] }
  | _ => none }
def ringMovesRow : OpenClaim := { program := "ytnjhgconfbkjmaa", sum := "d4b0f5c6aa6043197df72353d5571dc5d69cf5bcb5915c284c456ffc0889ab85", func := "clepsydra/clepsydralaw11.RingMoves", spec := "ringMoves", apart := false }
def RingMovesSaid : Prop := ringMovesRow.holds Try.pinned (OpenSpec.ofChange ringMovesSpec)

/-- ITS FALSE NEIGHBOUR: 'it returns false'. Refute it at one input. -/
def ringMovesWrong : ChangeSpec := { name := "ringMoves", fn := fun _ => fun
  | [d1, d2] => { results := [.lit (.bool false)], args := [d1, d2] }
  | _ => none }
def RingMovesWrongFalsely : Prop := ringMovesRow.holds Try.pinned (OpenSpec.ofChange ringMovesWrong)

/-- 'clepsydralaw11.RingPlans': WHATEVER THE INPUT: true; the input reads as it did. -/
def ringPlansSpec : ChangeSpec := { name := "ringPlans", fn := fun _ => fun
  | [d1, d2] => { results := [.lit (.bool true)], args := [d1, d2] }
  | _ => none }
def ringPlansRow : OpenClaim := { program := "ytnjhgconfbkjmaa", sum := "d4b0f5c6aa6043197df72353d5571dc5d69cf5bcb5915c284c456ffc0889ab85", func := "clepsydra/clepsydralaw11.RingPlans", spec := "ringPlans", apart := false }
def RingPlansSaid : Prop := ringPlansRow.holds Try.pinned (OpenSpec.ofChange ringPlansSpec)

/-- ITS FALSE NEIGHBOUR: 'it returns false'. Refute it at one input. -/
def ringPlansWrong : ChangeSpec := { name := "ringPlans", fn := fun _ => fun
  | [d1, d2] => { results := [.lit (.bool false)], args := [d1, d2] }
  | _ => none }
def RingPlansWrongFalsely : Prop := ringPlansRow.holds Try.pinned (OpenSpec.ofChange ringPlansWrong)

/-- 'clepsydralaw11.RingHashes': WHATEVER THE INPUT: true; the input reads as it did. -/
def ringHashesSpec : ChangeSpec := { name := "ringHashes", fn := fun _ => fun
  | [d1, d2] => { results := [.lit (.bool true)], args := [d1, d2] }
  | _ => none }
def ringHashesRow : OpenClaim := { program := "ytnjhgconfbkjmaa", sum := "d4b0f5c6aa6043197df72353d5571dc5d69cf5bcb5915c284c456ffc0889ab85", func := "clepsydra/clepsydralaw11.RingHashes", spec := "ringHashes", apart := false }
def RingHashesSaid : Prop := ringHashesRow.holds Try.pinned (OpenSpec.ofChange ringHashesSpec)

/-- ITS FALSE NEIGHBOUR: 'it returns false'. Refute it at one input. -/
def ringHashesWrong : ChangeSpec := { name := "ringHashes", fn := fun _ => fun
  | [d1, d2] => { results := [.lit (.bool false)], args := [d1, d2] }
  | _ => none }
def RingHashesWrongFalsely : Prop := ringHashesRow.holds Try.pinned (OpenSpec.ofChange ringHashesWrong)

/- THE SECOND FORM. 'bulk': how many values and letters a reading holds, each counted each time it is reached (what is shared counts as often as it is met; a slice's spare places count too). A statement '..UptoSaid' is the law's where the arguments, and the package variables that the reading takes, are together of bulk at most 1048576: NARROWER than '..Said'. Prove '..Said' where nothing that the law and all that it calls make is longer than what came in: it says more and counts as full. Else prove '..UptoSaid'. A law counts once. -/
mutual
def uptoBulk {H : Type} : DataW H → Nat
  | .lit (.string bytes) => bytes.length + 1
  | .lit _ => 1
  | .nil => 1
  | .ptr d => uptoBulk d + 1
  | .slice elems spare => uptoBulkAll elems + uptoBulkAll spare + 1
  | .agg parts => uptoBulkAll parts + 1
  | .iface _ d => uptoBulk d + 1
  | .map entries => uptoBulkEntries entries + 1
  | .held _ => 1
def uptoBulkAll {H : Type} : List (DataW H) → Nat
  | [] => 0
  | d :: r => uptoBulk d + uptoBulkAll r
def uptoBulkEntries {H : Type} : List (Lit × DataW H) → Nat
  | [] => 0
  | x :: r => uptoBulkEntry x + uptoBulkEntries r
def uptoBulkEntry {H : Type} : Lit × DataW H → Nat
  | (.string bytes, d) => bytes.length + uptoBulk d + 1
  | (_, d) => uptoBulk d + 1
 end
def uptoSmall : (H : Type) → List (DataW H) → Bool := fun _ ds => decide (uptoBulkAll ds ≤ 1048576)
def OpenSpec.upto (s : _root_.Go.ChangeSpec) : _root_.Go.OpenSpec := { _root_.Go.OpenSpec.ofChange s with cond := some uptoSmall }

/-- 'clepsydralaw11.RingMoves', WHERE WHAT IT READS IS OF BULK AT MOST 1048576: true; the input reads as it did. -/
def ringMovesUptoRow : OpenClaim := { program := "ytnjhgconfbkjmaa", sum := "d4b0f5c6aa6043197df72353d5571dc5d69cf5bcb5915c284c456ffc0889ab85", func := "clepsydra/clepsydralaw11.RingMoves", spec := "ringMoves", apart := false, narrowed := true }
def RingMovesUptoSaid : Prop := ringMovesUptoRow.holds Try.pinned (OpenSpec.upto ringMovesSpec)

/-- 'clepsydralaw11.RingPlans', WHERE WHAT IT READS IS OF BULK AT MOST 1048576: true; the input reads as it did. -/
def ringPlansUptoRow : OpenClaim := { program := "ytnjhgconfbkjmaa", sum := "d4b0f5c6aa6043197df72353d5571dc5d69cf5bcb5915c284c456ffc0889ab85", func := "clepsydra/clepsydralaw11.RingPlans", spec := "ringPlans", apart := false, narrowed := true }
def RingPlansUptoSaid : Prop := ringPlansUptoRow.holds Try.pinned (OpenSpec.upto ringPlansSpec)

/-- 'clepsydralaw11.RingHashes', WHERE WHAT IT READS IS OF BULK AT MOST 1048576: true; the input reads as it did. -/
def ringHashesUptoRow : OpenClaim := { program := "ytnjhgconfbkjmaa", sum := "d4b0f5c6aa6043197df72353d5571dc5d69cf5bcb5915c284c456ffc0889ab85", func := "clepsydra/clepsydralaw11.RingHashes", spec := "ringHashes", apart := false, narrowed := true }
def RingHashesUptoSaid : Prop := ringHashesUptoRow.holds Try.pinned (OpenSpec.upto ringHashesSpec)

end Rows
end Go.Proofs.Ytnjhgconfbkjmaa
