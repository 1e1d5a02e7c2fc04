/-
  DERIVED. GIVEN WITH THE SEED: THE CARDS: each row of YtpcppjbjmdolnaaGreatDoorRows.lean that lists a variable, with what it lists TIED to the program's text (the seventh form; the later family's looks); each row that meets fmt, with fmt's text TOLD by the authors' own Lean function (tested against real Go, not proved from fmt's source: count such statements apart). THE CARD IS WHAT COUNTS. Prove the row's statement (the work); the ties are given (YtpcppjbjmdolnaaGreatDoorTie.lean); close each card by the builder's one call (the guide's Derived/Test/ToyasCard.lean, 'card_holds'). Laid BY PROGRAM, IN A SANDBOX (cutbox-door.mjs). By AI agents, Wed Nov 11 2026. No macro, syntax, notation, axiom, sorry.
-/
import Derived.Test.YtpcppjbjmdolnaaGreatDoorRows
import GoSem.ClaimSeven
namespace Go.Proofs.YtpcppjbjmdolnaaGreatDoor
namespace Rows

/-- THE TIED CARD OF 'crosstreelaw11.MachValues'. -/
def machValuesCard : Claim7 := { stood := { row := machValuesRow, standIns := [], harness := (true, "f0e6236e0f0908b5475b270838cfd3ad2a9557b4b6fc60c3e50f086f66d74dab"), looks := true }, kinds := [], alts := [], laidByText := true, laidKinds := [.listed, .data], laidTests := true, laidLooks := .later }
def MachValuesCardSaid : Prop := Claim7.holds Tryz.pinned (.plain (OpenSpec.ofChange machValuesSpec)) machValuesCard

/-- THE TIED CARD OF 'crosstreelaw11.MachNumbers'. -/
def machNumbersCard : Claim7 := { stood := { row := machNumbersRow, standIns := [], harness := (true, "f0e6236e0f0908b5475b270838cfd3ad2a9557b4b6fc60c3e50f086f66d74dab"), looks := true }, kinds := [], alts := [], laidByText := true, laidKinds := [.listed, .data], laidTests := true, laidLooks := .later }
def MachNumbersCardSaid : Prop := Claim7.holds Tryz.pinned (.plain (OpenSpec.ofChange machNumbersSpec)) machNumbersCard

/-- THE TIED CARD OF 'crosstreelaw11.MachFits'. -/
def machFitsCard : Claim7 := { stood := { row := machFitsRow, standIns := [], harness := (true, "f0e6236e0f0908b5475b270838cfd3ad2a9557b4b6fc60c3e50f086f66d74dab"), looks := true }, kinds := [], alts := [], laidByText := true, laidKinds := [.listed, .data], laidTests := true, laidLooks := .later }
def MachFitsCardSaid : Prop := Claim7.holds Tryz.pinned (.plain (OpenSpec.ofChange machFitsSpec)) machFitsCard

/-- THE TIED CARD OF 'crosstreelaw11.MachLoops'. -/
def machLoopsCard : Claim7 := { stood := { row := machLoopsRow, standIns := [], harness := (true, "f0e6236e0f0908b5475b270838cfd3ad2a9557b4b6fc60c3e50f086f66d74dab"), looks := true }, kinds := [], alts := [], laidByText := true, laidKinds := [.listed, .data], laidTests := true, laidLooks := .later }
def MachLoopsCardSaid : Prop := Claim7.holds Tryz.pinned (.plain (OpenSpec.ofChange machLoopsSpec)) machLoopsCard

/-- THE TIED CARD OF 'crosstreelaw11.MachCalls'. -/
def machCallsCard : Claim7 := { stood := { row := machCallsRow, standIns := [], harness := (true, "f0e6236e0f0908b5475b270838cfd3ad2a9557b4b6fc60c3e50f086f66d74dab"), looks := true }, kinds := [], alts := [], laidByText := true, laidKinds := [.listed, .data], laidTests := true, laidLooks := .later }
def MachCallsCardSaid : Prop := Claim7.holds Tryz.pinned (.plain (OpenSpec.ofChange machCallsSpec)) machCallsCard

/-- THE TIED CARD OF 'crosstreelaw11.MachNobody'. -/
def machNobodyCard : Claim7 := { stood := { row := machNobodyRow, standIns := [], harness := (true, "f0e6236e0f0908b5475b270838cfd3ad2a9557b4b6fc60c3e50f086f66d74dab"), looks := true }, kinds := [], alts := [], laidByText := true, laidKinds := [.listed, .data], laidTests := true, laidLooks := .later }
def MachNobodyCardSaid : Prop := Claim7.holds Tryz.pinned (.plain (OpenSpec.ofChange machNobodySpec)) machNobodyCard

/-- THE TIED CARD OF 'crosstreelaw12.RunOrder'. -/
def runOrderCard : Claim7 := { stood := { row := runOrderRow, standIns := [], harness := (true, "f0e6236e0f0908b5475b270838cfd3ad2a9557b4b6fc60c3e50f086f66d74dab"), looks := true }, kinds := [], alts := [], laidByText := true, laidKinds := [.listed, .data], laidTests := true, laidLooks := .later }
def RunOrderCardSaid : Prop := Claim7.holds Tryz.pinned (.plain (OpenSpec.ofChange runOrderSpec)) runOrderCard

/-- THE TIED CARD OF 'crosstreelaw12.RunCounts'. -/
def runCountsCard : Claim7 := { stood := { row := runCountsRow, standIns := [], harness := (true, "f0e6236e0f0908b5475b270838cfd3ad2a9557b4b6fc60c3e50f086f66d74dab"), looks := true }, kinds := [], alts := [], laidByText := true, laidKinds := [.listed, .data], laidTests := true, laidLooks := .later }
def RunCountsCardSaid : Prop := Claim7.holds Tryz.pinned (.plain (OpenSpec.ofChange runCountsSpec)) runCountsCard

/-- THE TIED CARD OF 'crosstreelaw12.RunFails'. -/
def runFailsCard : Claim7 := { stood := { row := runFailsRow, standIns := [], harness := (true, "f0e6236e0f0908b5475b270838cfd3ad2a9557b4b6fc60c3e50f086f66d74dab"), looks := true }, kinds := [], alts := [], laidByText := true, laidKinds := [.listed, .data], laidTests := true, laidLooks := .later }
def RunFailsCardSaid : Prop := Claim7.holds Tryz.pinned (.plain (OpenSpec.ofChange runFailsSpec)) runFailsCard

/-- THE TIED CARD OF 'crosstreelaw12.RunInputs'. -/
def runInputsCard : Claim7 := { stood := { row := runInputsRow, standIns := [], harness := (true, "f0e6236e0f0908b5475b270838cfd3ad2a9557b4b6fc60c3e50f086f66d74dab"), looks := true }, kinds := [], alts := [], laidByText := true, laidKinds := [.listed, .data], laidTests := true, laidLooks := .later }
def RunInputsCardSaid : Prop := Claim7.holds Tryz.pinned (.plain (OpenSpec.ofChange runInputsSpec)) runInputsCard

/-- THE SECOND FORM's CARD OF 'crosstreelaw11.MachValues'. -/
def machValuesUptoCard : Claim7 := { stood := { row := machValuesUptoRow, standIns := [], harness := (true, "f0e6236e0f0908b5475b270838cfd3ad2a9557b4b6fc60c3e50f086f66d74dab"), looks := true }, kinds := [], alts := [], laidByText := true, laidKinds := [.listed, .data], laidTests := true, laidLooks := .later }
def MachValuesUptoCardSaid : Prop := Claim7.holds Tryz.pinned (.plain (OpenSpec.upto machValuesSpec)) machValuesUptoCard

/-- THE SECOND FORM's CARD OF 'crosstreelaw11.MachNumbers'. -/
def machNumbersUptoCard : Claim7 := { stood := { row := machNumbersUptoRow, standIns := [], harness := (true, "f0e6236e0f0908b5475b270838cfd3ad2a9557b4b6fc60c3e50f086f66d74dab"), looks := true }, kinds := [], alts := [], laidByText := true, laidKinds := [.listed, .data], laidTests := true, laidLooks := .later }
def MachNumbersUptoCardSaid : Prop := Claim7.holds Tryz.pinned (.plain (OpenSpec.upto machNumbersSpec)) machNumbersUptoCard

/-- THE SECOND FORM's CARD OF 'crosstreelaw11.MachFits'. -/
def machFitsUptoCard : Claim7 := { stood := { row := machFitsUptoRow, standIns := [], harness := (true, "f0e6236e0f0908b5475b270838cfd3ad2a9557b4b6fc60c3e50f086f66d74dab"), looks := true }, kinds := [], alts := [], laidByText := true, laidKinds := [.listed, .data], laidTests := true, laidLooks := .later }
def MachFitsUptoCardSaid : Prop := Claim7.holds Tryz.pinned (.plain (OpenSpec.upto machFitsSpec)) machFitsUptoCard

/-- THE SECOND FORM's CARD OF 'crosstreelaw11.MachLoops'. -/
def machLoopsUptoCard : Claim7 := { stood := { row := machLoopsUptoRow, standIns := [], harness := (true, "f0e6236e0f0908b5475b270838cfd3ad2a9557b4b6fc60c3e50f086f66d74dab"), looks := true }, kinds := [], alts := [], laidByText := true, laidKinds := [.listed, .data], laidTests := true, laidLooks := .later }
def MachLoopsUptoCardSaid : Prop := Claim7.holds Tryz.pinned (.plain (OpenSpec.upto machLoopsSpec)) machLoopsUptoCard

/-- THE SECOND FORM's CARD OF 'crosstreelaw11.MachCalls'. -/
def machCallsUptoCard : Claim7 := { stood := { row := machCallsUptoRow, standIns := [], harness := (true, "f0e6236e0f0908b5475b270838cfd3ad2a9557b4b6fc60c3e50f086f66d74dab"), looks := true }, kinds := [], alts := [], laidByText := true, laidKinds := [.listed, .data], laidTests := true, laidLooks := .later }
def MachCallsUptoCardSaid : Prop := Claim7.holds Tryz.pinned (.plain (OpenSpec.upto machCallsSpec)) machCallsUptoCard

/-- THE SECOND FORM's CARD OF 'crosstreelaw11.MachNobody'. -/
def machNobodyUptoCard : Claim7 := { stood := { row := machNobodyUptoRow, standIns := [], harness := (true, "f0e6236e0f0908b5475b270838cfd3ad2a9557b4b6fc60c3e50f086f66d74dab"), looks := true }, kinds := [], alts := [], laidByText := true, laidKinds := [.listed, .data], laidTests := true, laidLooks := .later }
def MachNobodyUptoCardSaid : Prop := Claim7.holds Tryz.pinned (.plain (OpenSpec.upto machNobodySpec)) machNobodyUptoCard

/-- THE SECOND FORM's CARD OF 'crosstreelaw12.RunOrder'. -/
def runOrderUptoCard : Claim7 := { stood := { row := runOrderUptoRow, standIns := [], harness := (true, "f0e6236e0f0908b5475b270838cfd3ad2a9557b4b6fc60c3e50f086f66d74dab"), looks := true }, kinds := [], alts := [], laidByText := true, laidKinds := [.listed, .data], laidTests := true, laidLooks := .later }
def RunOrderUptoCardSaid : Prop := Claim7.holds Tryz.pinned (.plain (OpenSpec.upto runOrderSpec)) runOrderUptoCard

/-- THE SECOND FORM's CARD OF 'crosstreelaw12.RunCounts'. -/
def runCountsUptoCard : Claim7 := { stood := { row := runCountsUptoRow, standIns := [], harness := (true, "f0e6236e0f0908b5475b270838cfd3ad2a9557b4b6fc60c3e50f086f66d74dab"), looks := true }, kinds := [], alts := [], laidByText := true, laidKinds := [.listed, .data], laidTests := true, laidLooks := .later }
def RunCountsUptoCardSaid : Prop := Claim7.holds Tryz.pinned (.plain (OpenSpec.upto runCountsSpec)) runCountsUptoCard

/-- THE SECOND FORM's CARD OF 'crosstreelaw12.RunFails'. -/
def runFailsUptoCard : Claim7 := { stood := { row := runFailsUptoRow, standIns := [], harness := (true, "f0e6236e0f0908b5475b270838cfd3ad2a9557b4b6fc60c3e50f086f66d74dab"), looks := true }, kinds := [], alts := [], laidByText := true, laidKinds := [.listed, .data], laidTests := true, laidLooks := .later }
def RunFailsUptoCardSaid : Prop := Claim7.holds Tryz.pinned (.plain (OpenSpec.upto runFailsSpec)) runFailsUptoCard

/-- THE SECOND FORM's CARD OF 'crosstreelaw12.RunInputs'. -/
def runInputsUptoCard : Claim7 := { stood := { row := runInputsUptoRow, standIns := [], harness := (true, "f0e6236e0f0908b5475b270838cfd3ad2a9557b4b6fc60c3e50f086f66d74dab"), looks := true }, kinds := [], alts := [], laidByText := true, laidKinds := [.listed, .data], laidTests := true, laidLooks := .later }
def RunInputsUptoCardSaid : Prop := Claim7.holds Tryz.pinned (.plain (OpenSpec.upto runInputsSpec)) runInputsUptoCard
end Rows
end Go.Proofs.YtpcppjbjmdolnaaGreatDoor
