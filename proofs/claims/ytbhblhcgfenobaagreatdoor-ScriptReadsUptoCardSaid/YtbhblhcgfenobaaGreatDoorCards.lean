/-
  DERIVED. GIVEN WITH THE SEED: THE CARDS: each row of YtbhblhcgfenobaaGreatDoorRows.lean that lists a variable, with what it lists TIED to the program's text (the seventh form; the later family's looks); each row that meets fmt, with fmt's text TOLD by the authors' own Lean function (tested against real Go, not proved from fmt's source: count such statements apart). THE CARD IS WHAT COUNTS. Prove the row's statement (the work); the ties are given (YtbhblhcgfenobaaGreatDoorTie.lean); close each card by the builder's one call (the guide's Derived/Test/ToyasCard.lean, 'card_holds'). Laid BY PROGRAM, IN A SANDBOX (cutbox-door.mjs). By AI agents, Wed Nov 11 2026. No macro, syntax, notation, axiom, sorry.
-/
import Derived.Test.YtbhblhcgfenobaaGreatDoorRows
import GoSem.ClaimSeven
namespace Go.Proofs.YtbhblhcgfenobaaGreatDoor
namespace Rows

/-- THE TIED CARD OF 'clepsydralaw24.ScriptReads'. -/
def scriptReadsCard : Claim7 := { stood := { row := scriptReadsRow, standIns := [], harness := (true, "d7c0bbd2bd537681533d6be2fb9a8baa2479423912e1772f834767f836fe0156"), looks := true }, kinds := [], alts := [], laidByText := true, laidKinds := [.data, .data, .data, .data, .sentinel, .sentinel, .pinned], laidTests := true, laidLooks := .later }
def ScriptReadsCardSaid : Prop := Claim7.holds Tryz.pinned (.plain (OpenSpec.ofChange scriptReadsSpec)) scriptReadsCard

/-- THE TIED CARD OF 'clepsydralaw24.ScriptBack'. -/
def scriptBackCard : Claim7 := { stood := { row := scriptBackRow, standIns := [], harness := (true, "d7c0bbd2bd537681533d6be2fb9a8baa2479423912e1772f834767f836fe0156"), looks := true }, kinds := [], alts := [], laidByText := true, laidKinds := [.data, .data, .data, .data, .sentinel, .sentinel, .pinned], laidTests := true, laidLooks := .later }
def ScriptBackCardSaid : Prop := Claim7.holds Tryz.pinned (.plain (OpenSpec.ofChange scriptBackSpec)) scriptBackCard

/-- THE TIED CARD OF 'clepsydralaw24.ScriptOnce'. -/
def scriptOnceCard : Claim7 := { stood := { row := scriptOnceRow, standIns := [], harness := (true, "d7c0bbd2bd537681533d6be2fb9a8baa2479423912e1772f834767f836fe0156"), looks := true }, kinds := [], alts := [], laidByText := true, laidKinds := [.data, .data, .data, .data, .sentinel, .sentinel, .pinned], laidTests := true, laidLooks := .later }
def ScriptOnceCardSaid : Prop := Claim7.holds Tryz.pinned (.plain (OpenSpec.ofChange scriptOnceSpec)) scriptOnceCard

/-- THE SECOND FORM's CARD OF 'clepsydralaw24.ScriptReads'. -/
def scriptReadsUptoCard : Claim7 := { stood := { row := scriptReadsUptoRow, standIns := [], harness := (true, "d7c0bbd2bd537681533d6be2fb9a8baa2479423912e1772f834767f836fe0156"), looks := true }, kinds := [], alts := [], laidByText := true, laidKinds := [.data, .data, .data, .data, .sentinel, .sentinel, .pinned], laidTests := true, laidLooks := .later }
def ScriptReadsUptoCardSaid : Prop := Claim7.holds Tryz.pinned (.plain (OpenSpec.upto scriptReadsSpec)) scriptReadsUptoCard

/-- THE SECOND FORM's CARD OF 'clepsydralaw24.ScriptBack'. -/
def scriptBackUptoCard : Claim7 := { stood := { row := scriptBackUptoRow, standIns := [], harness := (true, "d7c0bbd2bd537681533d6be2fb9a8baa2479423912e1772f834767f836fe0156"), looks := true }, kinds := [], alts := [], laidByText := true, laidKinds := [.data, .data, .data, .data, .sentinel, .sentinel, .pinned], laidTests := true, laidLooks := .later }
def ScriptBackUptoCardSaid : Prop := Claim7.holds Tryz.pinned (.plain (OpenSpec.upto scriptBackSpec)) scriptBackUptoCard

/-- THE SECOND FORM's CARD OF 'clepsydralaw24.ScriptOnce'. -/
def scriptOnceUptoCard : Claim7 := { stood := { row := scriptOnceUptoRow, standIns := [], harness := (true, "d7c0bbd2bd537681533d6be2fb9a8baa2479423912e1772f834767f836fe0156"), looks := true }, kinds := [], alts := [], laidByText := true, laidKinds := [.data, .data, .data, .data, .sentinel, .sentinel, .pinned], laidTests := true, laidLooks := .later }
def ScriptOnceUptoCardSaid : Prop := Claim7.holds Tryz.pinned (.plain (OpenSpec.upto scriptOnceSpec)) scriptOnceUptoCard
end Rows
end Go.Proofs.YtbhblhcgfenobaaGreatDoor
