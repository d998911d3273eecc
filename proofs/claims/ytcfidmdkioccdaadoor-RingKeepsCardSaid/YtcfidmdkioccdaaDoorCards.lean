/-
  DERIVED. GIVEN WITH THE SEED: THE CARDS: each row of YtcfidmdkioccdaaDoorRows.lean that lists a variable, with what it lists TIED to the program's text (the seventh form; the later family's looks); each row that meets fmt, with fmt's text TOLD by the authors' own Lean function (tested against real Go, not proved from fmt's source: count such statements apart). THE CARD IS WHAT COUNTS. Prove the row's statement (the work); the ties are given (YtcfidmdkioccdaaDoorTie.lean); close each card by the builder's one call (the guide's Derived/Test/ToyasCard.lean, 'card_holds'). Laid BY PROGRAM, IN A SANDBOX (cutbox-door.mjs). By AI agents, Wed Nov 11 2026. No macro, syntax, notation, axiom, sorry.
-/
import Derived.Test.YtcfidmdkioccdaaDoorRows
import GoSem.ClaimSeven
namespace Go.Proofs.YtcfidmdkioccdaaDoor
namespace Rows

/-- THE TIED CARD OF 'clepsydralaw11.RingAssigns'. -/
def ringAssignsCard : Claim7 := { stood := { row := ringAssignsRow, standIns := [], harness := (true, "06b976c24f5055ff40c23b7dc894dc3abd5f62fe859da24e95ef98c811a39020"), looks := false }, kinds := [], alts := [], laidByText := true, laidKinds := [.data, .data, .data], laidTests := true, laidLooks := .later }
def RingAssignsCardSaid : Prop := Claim7.holds Tryd.pinned (.plain (OpenSpec.ofChange ringAssignsSpec)) ringAssignsCard

/-- THE TIED CARD OF 'clepsydralaw11.RingOwns'. -/
def ringOwnsCard : Claim7 := { stood := { row := ringOwnsRow, standIns := [], harness := (true, "06b976c24f5055ff40c23b7dc894dc3abd5f62fe859da24e95ef98c811a39020"), looks := false }, kinds := [], alts := [], laidByText := true, laidKinds := [.data, .data, .data], laidTests := true, laidLooks := .later }
def RingOwnsCardSaid : Prop := Claim7.holds Tryd.pinned (.plain (OpenSpec.ofChange ringOwnsSpec)) ringOwnsCard

/-- THE TIED CARD OF 'clepsydralaw11.RingKeeps'. -/
def ringKeepsCard : Claim7 := { stood := { row := ringKeepsRow, standIns := [], harness := (true, "06b976c24f5055ff40c23b7dc894dc3abd5f62fe859da24e95ef98c811a39020"), looks := false }, kinds := [], alts := [], laidByText := true, laidKinds := [.data, .data, .data], laidTests := true, laidLooks := .later }
def RingKeepsCardSaid : Prop := Claim7.holds Tryd.pinned (.plain (OpenSpec.ofChange ringKeepsSpec)) ringKeepsCard

/-- THE SECOND FORM's CARD OF 'clepsydralaw11.RingAssigns'. -/
def ringAssignsUptoCard : Claim7 := { stood := { row := ringAssignsUptoRow, standIns := [], harness := (true, "06b976c24f5055ff40c23b7dc894dc3abd5f62fe859da24e95ef98c811a39020"), looks := false }, kinds := [], alts := [], laidByText := true, laidKinds := [.data, .data, .data], laidTests := true, laidLooks := .later }
def RingAssignsUptoCardSaid : Prop := Claim7.holds Tryd.pinned (.plain (OpenSpec.upto ringAssignsSpec)) ringAssignsUptoCard

/-- THE SECOND FORM's CARD OF 'clepsydralaw11.RingOwns'. -/
def ringOwnsUptoCard : Claim7 := { stood := { row := ringOwnsUptoRow, standIns := [], harness := (true, "06b976c24f5055ff40c23b7dc894dc3abd5f62fe859da24e95ef98c811a39020"), looks := false }, kinds := [], alts := [], laidByText := true, laidKinds := [.data, .data, .data], laidTests := true, laidLooks := .later }
def RingOwnsUptoCardSaid : Prop := Claim7.holds Tryd.pinned (.plain (OpenSpec.upto ringOwnsSpec)) ringOwnsUptoCard

/-- THE SECOND FORM's CARD OF 'clepsydralaw11.RingKeeps'. -/
def ringKeepsUptoCard : Claim7 := { stood := { row := ringKeepsUptoRow, standIns := [], harness := (true, "06b976c24f5055ff40c23b7dc894dc3abd5f62fe859da24e95ef98c811a39020"), looks := false }, kinds := [], alts := [], laidByText := true, laidKinds := [.data, .data, .data], laidTests := true, laidLooks := .later }
def RingKeepsUptoCardSaid : Prop := Claim7.holds Tryd.pinned (.plain (OpenSpec.upto ringKeepsSpec)) ringKeepsUptoCard
end Rows
end Go.Proofs.YtcfidmdkioccdaaDoor
