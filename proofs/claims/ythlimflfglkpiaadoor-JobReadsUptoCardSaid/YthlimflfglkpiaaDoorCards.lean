/-
  DERIVED. GIVEN WITH THE SEED: THE CARDS: each row of YthlimflfglkpiaaDoorRows.lean that lists a variable, with what it lists TIED to the program's text (the seventh form; the later family's looks); each row that meets fmt, with fmt's text TOLD by the authors' own Lean function (tested against real Go, not proved from fmt's source: count such statements apart). THE CARD IS WHAT COUNTS. Prove the row's statement (the work); the ties are given (YthlimflfglkpiaaDoorTie.lean); close each card by the builder's one call (the guide's Derived/Test/ToyasCard.lean, 'card_holds'). Laid BY PROGRAM, IN A SANDBOX (cutbox-door.mjs). By AI agents, Wed Nov 11 2026. No macro, syntax, notation, axiom, sorry.
-/
import Derived.Test.YthlimflfglkpiaaDoorRows
import GoSem.ClaimSeven
namespace Go.Proofs.YthlimflfglkpiaaDoor
namespace Rows

/-- THE TIED CARD OF 'clepsydralaw13.JobPrints'. -/
def jobPrintsCard : Claim7 := { stood := { row := jobPrintsRow, standIns := [], harness := (true, "b992fbbe860b3c2ecce506dabaf0f68afdf4837eca3e415abfe0f1b09b21b63d"), looks := true }, kinds := [], alts := [], laidByText := true, laidKinds := [.data, .data, .data], laidTests := true, laidLooks := .later }
def JobPrintsCardSaid : Prop := Claim7.holds Tryd.pinned (.plain (OpenSpec.ofChange jobPrintsSpec)) jobPrintsCard

/-- THE TIED CARD OF 'clepsydralaw11.RingAssigns'. -/
def ringAssignsCard : Claim7 := { stood := { row := ringAssignsRow, standIns := [], harness := (true, "b992fbbe860b3c2ecce506dabaf0f68afdf4837eca3e415abfe0f1b09b21b63d"), looks := true }, kinds := [], alts := [], laidByText := true, laidKinds := [.data, .data, .data], laidTests := true, laidLooks := .later }
def RingAssignsCardSaid : Prop := Claim7.holds Tryd.pinned (.plain (OpenSpec.ofChange ringAssignsSpec)) ringAssignsCard

/-- THE TIED CARD OF 'clepsydralaw11.RingOwns'. -/
def ringOwnsCard : Claim7 := { stood := { row := ringOwnsRow, standIns := [], harness := (true, "b992fbbe860b3c2ecce506dabaf0f68afdf4837eca3e415abfe0f1b09b21b63d"), looks := true }, kinds := [], alts := [], laidByText := true, laidKinds := [.data, .data, .data], laidTests := true, laidLooks := .later }
def RingOwnsCardSaid : Prop := Claim7.holds Tryd.pinned (.plain (OpenSpec.ofChange ringOwnsSpec)) ringOwnsCard

/-- THE TIED CARD OF 'clepsydralaw11.RingKeeps'. -/
def ringKeepsCard : Claim7 := { stood := { row := ringKeepsRow, standIns := [], harness := (true, "b992fbbe860b3c2ecce506dabaf0f68afdf4837eca3e415abfe0f1b09b21b63d"), looks := true }, kinds := [], alts := [], laidByText := true, laidKinds := [.data, .data, .data], laidTests := true, laidLooks := .later }
def RingKeepsCardSaid : Prop := Claim7.holds Tryd.pinned (.plain (OpenSpec.ofChange ringKeepsSpec)) ringKeepsCard

/-- THE TIED CARD OF 'clepsydralaw13.JobReads'. -/
def jobReadsCard : Claim7 := { stood := { row := jobReadsRow, standIns := [], harness := (true, "b992fbbe860b3c2ecce506dabaf0f68afdf4837eca3e415abfe0f1b09b21b63d"), looks := true }, kinds := [], alts := [], laidByText := true, laidKinds := [.data, .data, .data, .data, .sentinel, .sentinel, .pinned], laidTests := true, laidLooks := .later }
def JobReadsCardSaid : Prop := Claim7.holds Tryd.pinned (.plain (OpenSpec.ofChange jobReadsSpec)) jobReadsCard

/-- THE TIED CARD OF 'clepsydralaw13.JobBack'. -/
def jobBackCard : Claim7 := { stood := { row := jobBackRow, standIns := [], harness := (true, "b992fbbe860b3c2ecce506dabaf0f68afdf4837eca3e415abfe0f1b09b21b63d"), looks := true }, kinds := [], alts := [], laidByText := true, laidKinds := [.data, .data, .data, .data, .sentinel, .sentinel, .pinned], laidTests := true, laidLooks := .later }
def JobBackCardSaid : Prop := Claim7.holds Tryd.pinned (.plain (OpenSpec.ofChange jobBackSpec)) jobBackCard

/-- THE TIED CARD OF 'clepsydralaw13.JobOnce'. -/
def jobOnceCard : Claim7 := { stood := { row := jobOnceRow, standIns := [], harness := (true, "b992fbbe860b3c2ecce506dabaf0f68afdf4837eca3e415abfe0f1b09b21b63d"), looks := true }, kinds := [], alts := [], laidByText := true, laidKinds := [.data, .data, .data, .data, .sentinel, .sentinel, .pinned], laidTests := true, laidLooks := .later }
def JobOnceCardSaid : Prop := Claim7.holds Tryd.pinned (.plain (OpenSpec.ofChange jobOnceSpec)) jobOnceCard

/-- THE TIED CARD OF 'clepsydralaw13.JobLines'. -/
def jobLinesCard : Claim7 := { stood := { row := jobLinesRow, standIns := [], harness := (true, "b992fbbe860b3c2ecce506dabaf0f68afdf4837eca3e415abfe0f1b09b21b63d"), looks := true }, kinds := [], alts := [], laidByText := true, laidKinds := [.data, .data, .data, .data, .sentinel, .sentinel, .pinned], laidTests := true, laidLooks := .later }
def JobLinesCardSaid : Prop := Claim7.holds Tryd.pinned (.plain (OpenSpec.ofChange jobLinesSpec)) jobLinesCard

/-- THE SECOND FORM's CARD OF 'clepsydralaw13.JobPrints'. -/
def jobPrintsUptoCard : Claim7 := { stood := { row := jobPrintsUptoRow, standIns := [], harness := (true, "b992fbbe860b3c2ecce506dabaf0f68afdf4837eca3e415abfe0f1b09b21b63d"), looks := true }, kinds := [], alts := [], laidByText := true, laidKinds := [.data, .data, .data], laidTests := true, laidLooks := .later }
def JobPrintsUptoCardSaid : Prop := Claim7.holds Tryd.pinned (.plain (OpenSpec.upto jobPrintsSpec)) jobPrintsUptoCard

/-- THE SECOND FORM's CARD OF 'clepsydralaw11.RingAssigns'. -/
def ringAssignsUptoCard : Claim7 := { stood := { row := ringAssignsUptoRow, standIns := [], harness := (true, "b992fbbe860b3c2ecce506dabaf0f68afdf4837eca3e415abfe0f1b09b21b63d"), looks := true }, kinds := [], alts := [], laidByText := true, laidKinds := [.data, .data, .data], laidTests := true, laidLooks := .later }
def RingAssignsUptoCardSaid : Prop := Claim7.holds Tryd.pinned (.plain (OpenSpec.upto ringAssignsSpec)) ringAssignsUptoCard

/-- THE SECOND FORM's CARD OF 'clepsydralaw11.RingOwns'. -/
def ringOwnsUptoCard : Claim7 := { stood := { row := ringOwnsUptoRow, standIns := [], harness := (true, "b992fbbe860b3c2ecce506dabaf0f68afdf4837eca3e415abfe0f1b09b21b63d"), looks := true }, kinds := [], alts := [], laidByText := true, laidKinds := [.data, .data, .data], laidTests := true, laidLooks := .later }
def RingOwnsUptoCardSaid : Prop := Claim7.holds Tryd.pinned (.plain (OpenSpec.upto ringOwnsSpec)) ringOwnsUptoCard

/-- THE SECOND FORM's CARD OF 'clepsydralaw11.RingKeeps'. -/
def ringKeepsUptoCard : Claim7 := { stood := { row := ringKeepsUptoRow, standIns := [], harness := (true, "b992fbbe860b3c2ecce506dabaf0f68afdf4837eca3e415abfe0f1b09b21b63d"), looks := true }, kinds := [], alts := [], laidByText := true, laidKinds := [.data, .data, .data], laidTests := true, laidLooks := .later }
def RingKeepsUptoCardSaid : Prop := Claim7.holds Tryd.pinned (.plain (OpenSpec.upto ringKeepsSpec)) ringKeepsUptoCard

/-- THE SECOND FORM's CARD OF 'clepsydralaw13.JobReads'. -/
def jobReadsUptoCard : Claim7 := { stood := { row := jobReadsUptoRow, standIns := [], harness := (true, "b992fbbe860b3c2ecce506dabaf0f68afdf4837eca3e415abfe0f1b09b21b63d"), looks := true }, kinds := [], alts := [], laidByText := true, laidKinds := [.data, .data, .data, .data, .sentinel, .sentinel, .pinned], laidTests := true, laidLooks := .later }
def JobReadsUptoCardSaid : Prop := Claim7.holds Tryd.pinned (.plain (OpenSpec.upto jobReadsSpec)) jobReadsUptoCard

/-- THE SECOND FORM's CARD OF 'clepsydralaw13.JobBack'. -/
def jobBackUptoCard : Claim7 := { stood := { row := jobBackUptoRow, standIns := [], harness := (true, "b992fbbe860b3c2ecce506dabaf0f68afdf4837eca3e415abfe0f1b09b21b63d"), looks := true }, kinds := [], alts := [], laidByText := true, laidKinds := [.data, .data, .data, .data, .sentinel, .sentinel, .pinned], laidTests := true, laidLooks := .later }
def JobBackUptoCardSaid : Prop := Claim7.holds Tryd.pinned (.plain (OpenSpec.upto jobBackSpec)) jobBackUptoCard

/-- THE SECOND FORM's CARD OF 'clepsydralaw13.JobOnce'. -/
def jobOnceUptoCard : Claim7 := { stood := { row := jobOnceUptoRow, standIns := [], harness := (true, "b992fbbe860b3c2ecce506dabaf0f68afdf4837eca3e415abfe0f1b09b21b63d"), looks := true }, kinds := [], alts := [], laidByText := true, laidKinds := [.data, .data, .data, .data, .sentinel, .sentinel, .pinned], laidTests := true, laidLooks := .later }
def JobOnceUptoCardSaid : Prop := Claim7.holds Tryd.pinned (.plain (OpenSpec.upto jobOnceSpec)) jobOnceUptoCard

/-- THE SECOND FORM's CARD OF 'clepsydralaw13.JobLines'. -/
def jobLinesUptoCard : Claim7 := { stood := { row := jobLinesUptoRow, standIns := [], harness := (true, "b992fbbe860b3c2ecce506dabaf0f68afdf4837eca3e415abfe0f1b09b21b63d"), looks := true }, kinds := [], alts := [], laidByText := true, laidKinds := [.data, .data, .data, .data, .sentinel, .sentinel, .pinned], laidTests := true, laidLooks := .later }
def JobLinesUptoCardSaid : Prop := Claim7.holds Tryd.pinned (.plain (OpenSpec.upto jobLinesSpec)) jobLinesUptoCard
end Rows
end Go.Proofs.YthlimflfglkpiaaDoor
