/-
  DERIVED. GIVEN WITH THE SEED: THE CARDS: each row of YthfkoeoaehkoaaaGreatDoorRows.lean that lists a variable, with what it lists TIED to the program's text (the seventh form; the later family's looks); each row that meets fmt, with fmt's text TOLD by the authors' own Lean function (tested against real Go, not proved from fmt's source: count such statements apart). THE CARD IS WHAT COUNTS. Prove the row's statement (the work); the ties are given (YthfkoeoaehkoaaaGreatDoorTie.lean); close each card by the builder's one call (the guide's Derived/Test/ToyasCard.lean, 'card_holds'). Laid BY PROGRAM, IN A SANDBOX (cutbox-door.mjs). By AI agents, Wed Nov 11 2026. No macro, syntax, notation, axiom, sorry.
-/
import Derived.Test.YthfkoeoaehkoaaaGreatDoorRows
import GoSem.ClaimSeven
namespace Go.Proofs.YthfkoeoaehkoaaaGreatDoor
namespace Rows

/-- THE TIED CARD OF 'reevelaw23.ShellParses'. -/
def shellParsesCard : Claim7 := { stood := { row := shellParsesRow, standIns := [], harness := (true, "fdbd7503069215aca646033b41418db05f8deeca0ca59d00e4d452c5404236a1"), looks := true }, kinds := [], alts := [], laidByText := true, laidKinds := [.data, .data, .data, .data, .sentinel, .sentinel, .pinned], laidTests := true, laidLooks := .later }
def ShellParsesCardSaid : Prop := Claim7.holds Tryz.pinned (.plain (OpenSpec.ofChange shellParsesSpec)) shellParsesCard

/-- THE TIED CARD OF 'reevelaw23.ShellNil'. -/
def shellNilCard : Claim7 := { stood := { row := shellNilRow, standIns := [], harness := (true, "fdbd7503069215aca646033b41418db05f8deeca0ca59d00e4d452c5404236a1"), looks := true }, kinds := [], alts := [], laidByText := true, laidKinds := [.data, .data, .data, .data, .sentinel, .sentinel, .pinned], laidTests := true, laidLooks := .later }
def ShellNilCardSaid : Prop := Claim7.holds Tryz.pinned (.plain (OpenSpec.ofChange shellNilSpec)) shellNilCard

/-- THE TIED CARD OF 'reevelaw23.ShellPrints'. -/
def shellPrintsCard : Claim7 := { stood := { row := shellPrintsRow, standIns := [], harness := (true, "fdbd7503069215aca646033b41418db05f8deeca0ca59d00e4d452c5404236a1"), looks := true }, kinds := [], alts := [], laidByText := true, laidKinds := [.data, .data, .data, .data, .sentinel, .sentinel, .pinned], laidTests := true, laidLooks := .later }
def ShellPrintsCardSaid : Prop := Claim7.holds Tryz.pinned (.plain (OpenSpec.ofChange shellPrintsSpec)) shellPrintsCard

/-- THE TIED CARD OF 'reevelaw23.ShellBack'. -/
def shellBackCard : Claim7 := { stood := { row := shellBackRow, standIns := [], harness := (true, "fdbd7503069215aca646033b41418db05f8deeca0ca59d00e4d452c5404236a1"), looks := true }, kinds := [], alts := [], laidByText := true, laidKinds := [.data, .data, .data, .data, .sentinel, .sentinel, .pinned], laidTests := true, laidLooks := .later }
def ShellBackCardSaid : Prop := Claim7.holds Tryz.pinned (.plain (OpenSpec.ofChange shellBackSpec)) shellBackCard

/-- THE TIED CARD OF 'reevelaw23.ShellWords'. -/
def shellWordsCard : Claim7 := { stood := { row := shellWordsRow, standIns := [], harness := (true, "fdbd7503069215aca646033b41418db05f8deeca0ca59d00e4d452c5404236a1"), looks := true }, kinds := [], alts := [], laidByText := true, laidKinds := [.data, .data, .data, .data, .sentinel, .sentinel, .pinned], laidTests := true, laidLooks := .later }
def ShellWordsCardSaid : Prop := Claim7.holds Tryz.pinned (.plain (OpenSpec.ofChange shellWordsSpec)) shellWordsCard

/-- THE TIED CARD OF 'reevelaw24.WorldNames'. -/
def worldNamesCard : Claim7 := { stood := { row := worldNamesRow, standIns := [], harness := (true, "fdbd7503069215aca646033b41418db05f8deeca0ca59d00e4d452c5404236a1"), looks := true }, kinds := [], alts := [], laidByText := true, laidKinds := [.data, .data, .data, .data, .sentinel, .sentinel, .pinned], laidTests := true, laidLooks := .later }
def WorldNamesCardSaid : Prop := Claim7.holds Tryz.pinned (.plain (OpenSpec.ofChange worldNamesSpec)) worldNamesCard

/-- THE SECOND FORM's CARD OF 'reevelaw23.ShellParses'. -/
def shellParsesUptoCard : Claim7 := { stood := { row := shellParsesUptoRow, standIns := [], harness := (true, "fdbd7503069215aca646033b41418db05f8deeca0ca59d00e4d452c5404236a1"), looks := true }, kinds := [], alts := [], laidByText := true, laidKinds := [.data, .data, .data, .data, .sentinel, .sentinel, .pinned], laidTests := true, laidLooks := .later }
def ShellParsesUptoCardSaid : Prop := Claim7.holds Tryz.pinned (.plain (OpenSpec.upto shellParsesSpec)) shellParsesUptoCard

/-- THE SECOND FORM's CARD OF 'reevelaw23.ShellNil'. -/
def shellNilUptoCard : Claim7 := { stood := { row := shellNilUptoRow, standIns := [], harness := (true, "fdbd7503069215aca646033b41418db05f8deeca0ca59d00e4d452c5404236a1"), looks := true }, kinds := [], alts := [], laidByText := true, laidKinds := [.data, .data, .data, .data, .sentinel, .sentinel, .pinned], laidTests := true, laidLooks := .later }
def ShellNilUptoCardSaid : Prop := Claim7.holds Tryz.pinned (.plain (OpenSpec.upto shellNilSpec)) shellNilUptoCard

/-- THE SECOND FORM's CARD OF 'reevelaw23.ShellPrints'. -/
def shellPrintsUptoCard : Claim7 := { stood := { row := shellPrintsUptoRow, standIns := [], harness := (true, "fdbd7503069215aca646033b41418db05f8deeca0ca59d00e4d452c5404236a1"), looks := true }, kinds := [], alts := [], laidByText := true, laidKinds := [.data, .data, .data, .data, .sentinel, .sentinel, .pinned], laidTests := true, laidLooks := .later }
def ShellPrintsUptoCardSaid : Prop := Claim7.holds Tryz.pinned (.plain (OpenSpec.upto shellPrintsSpec)) shellPrintsUptoCard

/-- THE SECOND FORM's CARD OF 'reevelaw23.ShellBack'. -/
def shellBackUptoCard : Claim7 := { stood := { row := shellBackUptoRow, standIns := [], harness := (true, "fdbd7503069215aca646033b41418db05f8deeca0ca59d00e4d452c5404236a1"), looks := true }, kinds := [], alts := [], laidByText := true, laidKinds := [.data, .data, .data, .data, .sentinel, .sentinel, .pinned], laidTests := true, laidLooks := .later }
def ShellBackUptoCardSaid : Prop := Claim7.holds Tryz.pinned (.plain (OpenSpec.upto shellBackSpec)) shellBackUptoCard

/-- THE SECOND FORM's CARD OF 'reevelaw23.ShellWords'. -/
def shellWordsUptoCard : Claim7 := { stood := { row := shellWordsUptoRow, standIns := [], harness := (true, "fdbd7503069215aca646033b41418db05f8deeca0ca59d00e4d452c5404236a1"), looks := true }, kinds := [], alts := [], laidByText := true, laidKinds := [.data, .data, .data, .data, .sentinel, .sentinel, .pinned], laidTests := true, laidLooks := .later }
def ShellWordsUptoCardSaid : Prop := Claim7.holds Tryz.pinned (.plain (OpenSpec.upto shellWordsSpec)) shellWordsUptoCard

/-- THE SECOND FORM's CARD OF 'reevelaw24.WorldNames'. -/
def worldNamesUptoCard : Claim7 := { stood := { row := worldNamesUptoRow, standIns := [], harness := (true, "fdbd7503069215aca646033b41418db05f8deeca0ca59d00e4d452c5404236a1"), looks := true }, kinds := [], alts := [], laidByText := true, laidKinds := [.data, .data, .data, .data, .sentinel, .sentinel, .pinned], laidTests := true, laidLooks := .later }
def WorldNamesUptoCardSaid : Prop := Claim7.holds Tryz.pinned (.plain (OpenSpec.upto worldNamesSpec)) worldNamesUptoCard
end Rows
end Go.Proofs.YthfkoeoaehkoaaaGreatDoor
