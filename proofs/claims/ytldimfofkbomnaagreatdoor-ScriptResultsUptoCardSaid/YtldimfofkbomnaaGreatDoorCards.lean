/-
  DERIVED. GIVEN WITH THE SEED: THE CARDS: each row of YtldimfofkbomnaaGreatDoorRows.lean that lists a variable, with what it lists TIED to the program's text (the seventh form; the later family's looks); each row that meets fmt, with fmt's text TOLD by the authors' own Lean function (tested against real Go, not proved from fmt's source: count such statements apart). THE CARD IS WHAT COUNTS. Prove the row's statement (the work); the ties are given (YtldimfofkbomnaaGreatDoorTie.lean); close each card by the builder's one call (the guide's Derived/Test/ToyasCard.lean, 'card_holds'). Laid BY PROGRAM, IN A SANDBOX (cutbox-door.mjs). By AI agents, Wed Nov 11 2026. No macro, syntax, notation, axiom, sorry.
-/
import Derived.Test.YtldimfofkbomnaaGreatDoorRows
import GoSem.ClaimSeven
namespace Go.Proofs.YtldimfofkbomnaaGreatDoor
namespace Rows

/-- THE TIED CARD OF 'jalousielaw31.ScriptShows'. -/
def scriptShowsCard : Claim7 := { stood := { row := scriptShowsRow, standIns := [], harness := (true, "44afd4c1780bb7aa4325315f6ae1eb4e253b91b0a46de0ded9e7ad9c46cd33fe"), looks := true }, kinds := [], alts := [], laidByText := true, laidKinds := [.data, .data, .data, .data, .sentinel, .sentinel, .data, .pinned], laidTests := true, laidLooks := .later }
def ScriptShowsCardSaid : Prop := Claim7.holds Tryz.pinned (.plain (OpenSpec.ofChange scriptShowsSpec)) scriptShowsCard

/-- THE TIED CARD OF 'jalousielaw31.ScriptParses'. -/
def scriptParsesCard : Claim7 := { stood := { row := scriptParsesRow, standIns := [], harness := (true, "44afd4c1780bb7aa4325315f6ae1eb4e253b91b0a46de0ded9e7ad9c46cd33fe"), looks := true }, kinds := [], alts := [], laidByText := true, laidKinds := [.data, .data, .data, .data, .sentinel, .sentinel, .data, .pinned], laidTests := true, laidLooks := .later }
def ScriptParsesCardSaid : Prop := Claim7.holds Tryz.pinned (.plain (OpenSpec.ofChange scriptParsesSpec)) scriptParsesCard

/-- THE TIED CARD OF 'jalousielaw31.ScriptResults'. -/
def scriptResultsCard : Claim7 := { stood := { row := scriptResultsRow, standIns := [], harness := (true, "44afd4c1780bb7aa4325315f6ae1eb4e253b91b0a46de0ded9e7ad9c46cd33fe"), looks := true }, kinds := [], alts := [], laidByText := true, laidKinds := [.data, .data, .data, .data, .sentinel, .sentinel, .data, .pinned], laidTests := true, laidLooks := .later }
def ScriptResultsCardSaid : Prop := Claim7.holds Tryz.pinned (.plain (OpenSpec.ofChange scriptResultsSpec)) scriptResultsCard

/-- THE TIED CARD OF 'jalousielaw31.ScriptLines'. -/
def scriptLinesCard : Claim7 := { stood := { row := scriptLinesRow, standIns := [], harness := (true, "44afd4c1780bb7aa4325315f6ae1eb4e253b91b0a46de0ded9e7ad9c46cd33fe"), looks := true }, kinds := [], alts := [], laidByText := true, laidKinds := [.data, .data, .data, .data, .sentinel, .sentinel, .data, .pinned], laidTests := true, laidLooks := .later }
def ScriptLinesCardSaid : Prop := Claim7.holds Tryz.pinned (.plain (OpenSpec.ofChange scriptLinesSpec)) scriptLinesCard

/-- THE SECOND FORM's CARD OF 'jalousielaw31.ScriptShows'. -/
def scriptShowsUptoCard : Claim7 := { stood := { row := scriptShowsUptoRow, standIns := [], harness := (true, "44afd4c1780bb7aa4325315f6ae1eb4e253b91b0a46de0ded9e7ad9c46cd33fe"), looks := true }, kinds := [], alts := [], laidByText := true, laidKinds := [.data, .data, .data, .data, .sentinel, .sentinel, .data, .pinned], laidTests := true, laidLooks := .later }
def ScriptShowsUptoCardSaid : Prop := Claim7.holds Tryz.pinned (.plain (OpenSpec.upto scriptShowsSpec)) scriptShowsUptoCard

/-- THE SECOND FORM's CARD OF 'jalousielaw31.ScriptParses'. -/
def scriptParsesUptoCard : Claim7 := { stood := { row := scriptParsesUptoRow, standIns := [], harness := (true, "44afd4c1780bb7aa4325315f6ae1eb4e253b91b0a46de0ded9e7ad9c46cd33fe"), looks := true }, kinds := [], alts := [], laidByText := true, laidKinds := [.data, .data, .data, .data, .sentinel, .sentinel, .data, .pinned], laidTests := true, laidLooks := .later }
def ScriptParsesUptoCardSaid : Prop := Claim7.holds Tryz.pinned (.plain (OpenSpec.upto scriptParsesSpec)) scriptParsesUptoCard

/-- THE SECOND FORM's CARD OF 'jalousielaw31.ScriptResults'. -/
def scriptResultsUptoCard : Claim7 := { stood := { row := scriptResultsUptoRow, standIns := [], harness := (true, "44afd4c1780bb7aa4325315f6ae1eb4e253b91b0a46de0ded9e7ad9c46cd33fe"), looks := true }, kinds := [], alts := [], laidByText := true, laidKinds := [.data, .data, .data, .data, .sentinel, .sentinel, .data, .pinned], laidTests := true, laidLooks := .later }
def ScriptResultsUptoCardSaid : Prop := Claim7.holds Tryz.pinned (.plain (OpenSpec.upto scriptResultsSpec)) scriptResultsUptoCard

/-- THE SECOND FORM's CARD OF 'jalousielaw31.ScriptLines'. -/
def scriptLinesUptoCard : Claim7 := { stood := { row := scriptLinesUptoRow, standIns := [], harness := (true, "44afd4c1780bb7aa4325315f6ae1eb4e253b91b0a46de0ded9e7ad9c46cd33fe"), looks := true }, kinds := [], alts := [], laidByText := true, laidKinds := [.data, .data, .data, .data, .sentinel, .sentinel, .data, .pinned], laidTests := true, laidLooks := .later }
def ScriptLinesUptoCardSaid : Prop := Claim7.holds Tryz.pinned (.plain (OpenSpec.upto scriptLinesSpec)) scriptLinesUptoCard
end Rows
end Go.Proofs.YtldimfofkbomnaaGreatDoor
