/-
  DERIVED. GIVEN WITH THE SEED: THE CARDS: each row of YtaeoiobjddknbaaDoorRows.lean that lists a variable, with what it lists TIED to the program's text (the seventh form; the later family's looks); each row that meets fmt, with fmt's text TOLD by the authors' own Lean function (tested against real Go, not proved from fmt's source: count such statements apart). THE CARD IS WHAT COUNTS. Prove the row's statement (the work); the ties are given (YtaeoiobjddknbaaDoorTie.lean); close each card by the builder's one call (the guide's Derived/Test/ToyasCard.lean, 'card_holds'). Laid BY PROGRAM, IN A SANDBOX (cutbox-door.mjs). By AI agents, Wed Nov 11 2026. No macro, syntax, notation, axiom, sorry.
-/
import Derived.Test.YtaeoiobjddknbaaDoorRows
import GoSem.ClaimSeven
namespace Go.Proofs.YtaeoiobjddknbaaDoor
namespace Rows

/-- THE TIED CARD OF 'reevelaw17.CodeParses'. -/
def codeParsesCard : Claim7 := { stood := { row := codeParsesRow, standIns := [], harness := (true, "4814d49e08bec9d213004d1ff83b45b6c6f2f601c9686dbb0009fdf85d4a7422"), looks := true }, kinds := [], alts := [], laidByText := true, laidKinds := [.data, .data, .data, .sentinel, .sentinel], laidTests := true, laidLooks := .later }
def CodeParsesCardSaid : Prop := Claim7.holds Tryd.pinned (.plain (OpenSpec.ofChange codeParsesSpec)) codeParsesCard

/-- THE TIED CARD OF 'reevelaw17.CodeLines'. -/
def codeLinesCard : Claim7 := { stood := { row := codeLinesRow, standIns := [], harness := (true, "4814d49e08bec9d213004d1ff83b45b6c6f2f601c9686dbb0009fdf85d4a7422"), looks := true }, kinds := [], alts := [], laidByText := true, laidKinds := [.data, .data, .data, .sentinel, .sentinel], laidTests := true, laidLooks := .later }
def CodeLinesCardSaid : Prop := Claim7.holds Tryd.pinned (.plain (OpenSpec.ofChange codeLinesSpec)) codeLinesCard

/-- THE TIED CARD OF 'reevelaw17.CodePrints'. -/
def codePrintsCard : Claim7 := { stood := { row := codePrintsRow, standIns := [], harness := (true, "4814d49e08bec9d213004d1ff83b45b6c6f2f601c9686dbb0009fdf85d4a7422"), looks := true }, kinds := [], alts := [], laidByText := true, laidKinds := [.data, .data, .data, .sentinel, .sentinel], laidTests := true, laidLooks := .later }
def CodePrintsCardSaid : Prop := Claim7.holds Tryd.pinned (.plain (OpenSpec.ofChange codePrintsSpec)) codePrintsCard

/-- THE TIED CARD OF 'reevelaw17.CodeEncodes'. -/
def codeEncodesCard : Claim7 := { stood := { row := codeEncodesRow, standIns := [], harness := (true, "4814d49e08bec9d213004d1ff83b45b6c6f2f601c9686dbb0009fdf85d4a7422"), looks := true }, kinds := [], alts := [], laidByText := true, laidKinds := [.data, .data, .data, .sentinel, .sentinel], laidTests := true, laidLooks := .later }
def CodeEncodesCardSaid : Prop := Claim7.holds Tryd.pinned (.plain (OpenSpec.ofChange codeEncodesSpec)) codeEncodesCard

/-- THE TIED CARD OF 'reevelaw17.CodeBack'. -/
def codeBackCard : Claim7 := { stood := { row := codeBackRow, standIns := [], harness := (true, "4814d49e08bec9d213004d1ff83b45b6c6f2f601c9686dbb0009fdf85d4a7422"), looks := true }, kinds := [], alts := [], laidByText := true, laidKinds := [.data, .data, .data, .sentinel, .sentinel], laidTests := true, laidLooks := .later }
def CodeBackCardSaid : Prop := Claim7.holds Tryd.pinned (.plain (OpenSpec.ofChange codeBackSpec)) codeBackCard

/-- THE SECOND FORM's CARD OF 'reevelaw17.CodeParses'. -/
def codeParsesUptoCard : Claim7 := { stood := { row := codeParsesUptoRow, standIns := [], harness := (true, "4814d49e08bec9d213004d1ff83b45b6c6f2f601c9686dbb0009fdf85d4a7422"), looks := true }, kinds := [], alts := [], laidByText := true, laidKinds := [.data, .data, .data, .sentinel, .sentinel], laidTests := true, laidLooks := .later }
def CodeParsesUptoCardSaid : Prop := Claim7.holds Tryd.pinned (.plain (OpenSpec.upto codeParsesSpec)) codeParsesUptoCard

/-- THE SECOND FORM's CARD OF 'reevelaw17.CodeLines'. -/
def codeLinesUptoCard : Claim7 := { stood := { row := codeLinesUptoRow, standIns := [], harness := (true, "4814d49e08bec9d213004d1ff83b45b6c6f2f601c9686dbb0009fdf85d4a7422"), looks := true }, kinds := [], alts := [], laidByText := true, laidKinds := [.data, .data, .data, .sentinel, .sentinel], laidTests := true, laidLooks := .later }
def CodeLinesUptoCardSaid : Prop := Claim7.holds Tryd.pinned (.plain (OpenSpec.upto codeLinesSpec)) codeLinesUptoCard

/-- THE SECOND FORM's CARD OF 'reevelaw17.CodePrints'. -/
def codePrintsUptoCard : Claim7 := { stood := { row := codePrintsUptoRow, standIns := [], harness := (true, "4814d49e08bec9d213004d1ff83b45b6c6f2f601c9686dbb0009fdf85d4a7422"), looks := true }, kinds := [], alts := [], laidByText := true, laidKinds := [.data, .data, .data, .sentinel, .sentinel], laidTests := true, laidLooks := .later }
def CodePrintsUptoCardSaid : Prop := Claim7.holds Tryd.pinned (.plain (OpenSpec.upto codePrintsSpec)) codePrintsUptoCard

/-- THE SECOND FORM's CARD OF 'reevelaw17.CodeEncodes'. -/
def codeEncodesUptoCard : Claim7 := { stood := { row := codeEncodesUptoRow, standIns := [], harness := (true, "4814d49e08bec9d213004d1ff83b45b6c6f2f601c9686dbb0009fdf85d4a7422"), looks := true }, kinds := [], alts := [], laidByText := true, laidKinds := [.data, .data, .data, .sentinel, .sentinel], laidTests := true, laidLooks := .later }
def CodeEncodesUptoCardSaid : Prop := Claim7.holds Tryd.pinned (.plain (OpenSpec.upto codeEncodesSpec)) codeEncodesUptoCard

/-- THE SECOND FORM's CARD OF 'reevelaw17.CodeBack'. -/
def codeBackUptoCard : Claim7 := { stood := { row := codeBackUptoRow, standIns := [], harness := (true, "4814d49e08bec9d213004d1ff83b45b6c6f2f601c9686dbb0009fdf85d4a7422"), looks := true }, kinds := [], alts := [], laidByText := true, laidKinds := [.data, .data, .data, .sentinel, .sentinel], laidTests := true, laidLooks := .later }
def CodeBackUptoCardSaid : Prop := Claim7.holds Tryd.pinned (.plain (OpenSpec.upto codeBackSpec)) codeBackUptoCard
end Rows
end Go.Proofs.YtaeoiobjddknbaaDoor
