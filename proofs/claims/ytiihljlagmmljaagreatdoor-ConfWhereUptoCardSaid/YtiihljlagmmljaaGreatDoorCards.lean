/-
  DERIVED. GIVEN WITH THE SEED: THE CARDS: each row of YtiihljlagmmljaaGreatDoorRows.lean that lists a variable, with what it lists TIED to the program's text (the seventh form; the later family's looks); each row that meets fmt, with fmt's text TOLD by the authors' own Lean function (tested against real Go, not proved from fmt's source: count such statements apart). THE CARD IS WHAT COUNTS. Prove the row's statement (the work); the ties are given (YtiihljlagmmljaaGreatDoorTie.lean); close each card by the builder's one call (the guide's Derived/Test/ToyasCard.lean, 'card_holds'). Laid BY PROGRAM, IN A SANDBOX (cutbox-door.mjs). By AI agents, Wed Nov 11 2026. No macro, syntax, notation, axiom, sorry.
-/
import Derived.Test.YtiihljlagmmljaaGreatDoorRows
import GoSem.ClaimSeven
namespace Go.Proofs.YtiihljlagmmljaaGreatDoor
namespace Rows

/-- THE TIED CARD OF 'jalousielaw05.ConfParses'. -/
def confParsesCard : Claim7 := { stood := { row := confParsesRow, standIns := [], harness := (true, "4837145a19ac9c7a346b40aa9699929aa7b121d6ea68ccb0a620b2b0ca7bf881"), looks := true }, kinds := [], alts := [], laidByText := true, laidKinds := [.data, .data, .data, .data, .sentinel, .sentinel, .pinned], laidTests := true, laidLooks := .later }
def ConfParsesCardSaid : Prop := Claim7.holds Tryz.pinned (.plain (OpenSpec.ofChange confParsesSpec)) confParsesCard

/-- THE TIED CARD OF 'jalousielaw05.ConfShows'. -/
def confShowsCard : Claim7 := { stood := { row := confShowsRow, standIns := [], harness := (true, "4837145a19ac9c7a346b40aa9699929aa7b121d6ea68ccb0a620b2b0ca7bf881"), looks := true }, kinds := [], alts := [], laidByText := true, laidKinds := [.data, .data, .data, .data, .sentinel, .sentinel, .pinned], laidTests := true, laidLooks := .later }
def ConfShowsCardSaid : Prop := Claim7.holds Tryz.pinned (.plain (OpenSpec.ofChange confShowsSpec)) confShowsCard

/-- THE TIED CARD OF 'jalousielaw05.ConfBack'. -/
def confBackCard : Claim7 := { stood := { row := confBackRow, standIns := [], harness := (true, "4837145a19ac9c7a346b40aa9699929aa7b121d6ea68ccb0a620b2b0ca7bf881"), looks := true }, kinds := [], alts := [], laidByText := true, laidKinds := [.data, .data, .data, .data, .sentinel, .sentinel, .pinned], laidTests := true, laidLooks := .later }
def ConfBackCardSaid : Prop := Claim7.holds Tryz.pinned (.plain (OpenSpec.ofChange confBackSpec)) confBackCard

/-- THE TIED CARD OF 'jalousielaw05.ConfWhere'. -/
def confWhereCard : Claim7 := { stood := { row := confWhereRow, standIns := [], harness := (true, "4837145a19ac9c7a346b40aa9699929aa7b121d6ea68ccb0a620b2b0ca7bf881"), looks := true }, kinds := [], alts := [], laidByText := true, laidKinds := [.data, .data, .data, .data, .sentinel, .sentinel, .pinned], laidTests := true, laidLooks := .later }
def ConfWhereCardSaid : Prop := Claim7.holds Tryz.pinned (.plain (OpenSpec.ofChange confWhereSpec)) confWhereCard

/-- THE TIED CARD OF 'jalousielaw05.ConfNames'. -/
def confNamesCard : Claim7 := { stood := { row := confNamesRow, standIns := [], harness := (true, "4837145a19ac9c7a346b40aa9699929aa7b121d6ea68ccb0a620b2b0ca7bf881"), looks := true }, kinds := [], alts := [], laidByText := true, laidKinds := [.data, .data, .data, .data, .sentinel, .sentinel, .pinned], laidTests := true, laidLooks := .later }
def ConfNamesCardSaid : Prop := Claim7.holds Tryz.pinned (.plain (OpenSpec.ofChange confNamesSpec)) confNamesCard

/-- THE TIED CARD OF 'jalousielaw05.ConfOnce'. -/
def confOnceCard : Claim7 := { stood := { row := confOnceRow, standIns := [], harness := (true, "4837145a19ac9c7a346b40aa9699929aa7b121d6ea68ccb0a620b2b0ca7bf881"), looks := true }, kinds := [], alts := [], laidByText := true, laidKinds := [.data, .data, .data, .data, .sentinel, .sentinel, .pinned], laidTests := true, laidLooks := .later }
def ConfOnceCardSaid : Prop := Claim7.holds Tryz.pinned (.plain (OpenSpec.ofChange confOnceSpec)) confOnceCard

/-- THE SECOND FORM's CARD OF 'jalousielaw05.ConfParses'. -/
def confParsesUptoCard : Claim7 := { stood := { row := confParsesUptoRow, standIns := [], harness := (true, "4837145a19ac9c7a346b40aa9699929aa7b121d6ea68ccb0a620b2b0ca7bf881"), looks := true }, kinds := [], alts := [], laidByText := true, laidKinds := [.data, .data, .data, .data, .sentinel, .sentinel, .pinned], laidTests := true, laidLooks := .later }
def ConfParsesUptoCardSaid : Prop := Claim7.holds Tryz.pinned (.plain (OpenSpec.upto confParsesSpec)) confParsesUptoCard

/-- THE SECOND FORM's CARD OF 'jalousielaw05.ConfShows'. -/
def confShowsUptoCard : Claim7 := { stood := { row := confShowsUptoRow, standIns := [], harness := (true, "4837145a19ac9c7a346b40aa9699929aa7b121d6ea68ccb0a620b2b0ca7bf881"), looks := true }, kinds := [], alts := [], laidByText := true, laidKinds := [.data, .data, .data, .data, .sentinel, .sentinel, .pinned], laidTests := true, laidLooks := .later }
def ConfShowsUptoCardSaid : Prop := Claim7.holds Tryz.pinned (.plain (OpenSpec.upto confShowsSpec)) confShowsUptoCard

/-- THE SECOND FORM's CARD OF 'jalousielaw05.ConfBack'. -/
def confBackUptoCard : Claim7 := { stood := { row := confBackUptoRow, standIns := [], harness := (true, "4837145a19ac9c7a346b40aa9699929aa7b121d6ea68ccb0a620b2b0ca7bf881"), looks := true }, kinds := [], alts := [], laidByText := true, laidKinds := [.data, .data, .data, .data, .sentinel, .sentinel, .pinned], laidTests := true, laidLooks := .later }
def ConfBackUptoCardSaid : Prop := Claim7.holds Tryz.pinned (.plain (OpenSpec.upto confBackSpec)) confBackUptoCard

/-- THE SECOND FORM's CARD OF 'jalousielaw05.ConfWhere'. -/
def confWhereUptoCard : Claim7 := { stood := { row := confWhereUptoRow, standIns := [], harness := (true, "4837145a19ac9c7a346b40aa9699929aa7b121d6ea68ccb0a620b2b0ca7bf881"), looks := true }, kinds := [], alts := [], laidByText := true, laidKinds := [.data, .data, .data, .data, .sentinel, .sentinel, .pinned], laidTests := true, laidLooks := .later }
def ConfWhereUptoCardSaid : Prop := Claim7.holds Tryz.pinned (.plain (OpenSpec.upto confWhereSpec)) confWhereUptoCard

/-- THE SECOND FORM's CARD OF 'jalousielaw05.ConfNames'. -/
def confNamesUptoCard : Claim7 := { stood := { row := confNamesUptoRow, standIns := [], harness := (true, "4837145a19ac9c7a346b40aa9699929aa7b121d6ea68ccb0a620b2b0ca7bf881"), looks := true }, kinds := [], alts := [], laidByText := true, laidKinds := [.data, .data, .data, .data, .sentinel, .sentinel, .pinned], laidTests := true, laidLooks := .later }
def ConfNamesUptoCardSaid : Prop := Claim7.holds Tryz.pinned (.plain (OpenSpec.upto confNamesSpec)) confNamesUptoCard

/-- THE SECOND FORM's CARD OF 'jalousielaw05.ConfOnce'. -/
def confOnceUptoCard : Claim7 := { stood := { row := confOnceUptoRow, standIns := [], harness := (true, "4837145a19ac9c7a346b40aa9699929aa7b121d6ea68ccb0a620b2b0ca7bf881"), looks := true }, kinds := [], alts := [], laidByText := true, laidKinds := [.data, .data, .data, .data, .sentinel, .sentinel, .pinned], laidTests := true, laidLooks := .later }
def ConfOnceUptoCardSaid : Prop := Claim7.holds Tryz.pinned (.plain (OpenSpec.upto confOnceSpec)) confOnceUptoCard
end Rows
end Go.Proofs.YtiihljlagmmljaaGreatDoor
