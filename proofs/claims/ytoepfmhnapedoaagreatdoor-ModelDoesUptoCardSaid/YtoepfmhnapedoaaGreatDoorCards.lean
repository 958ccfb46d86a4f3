/-
  DERIVED. GIVEN WITH THE SEED: THE CARDS: each row of YtoepfmhnapedoaaGreatDoorRows.lean that lists a variable, with what it lists TIED to the program's text (the seventh form; the later family's looks); each row that meets fmt, with fmt's text TOLD by the authors' own Lean function (tested against real Go, not proved from fmt's source: count such statements apart). THE CARD IS WHAT COUNTS. Prove the row's statement (the work); the ties are given (YtoepfmhnapedoaaGreatDoorTie.lean); close each card by the builder's one call (the guide's Derived/Test/ToyasCard.lean, 'card_holds'). Laid BY PROGRAM, IN A SANDBOX (cutbox-door.mjs). By AI agents, Wed Nov 11 2026. No macro, syntax, notation, axiom, sorry.
-/
import Derived.Test.YtoepfmhnapedoaaGreatDoorRows
import GoSem.ClaimSeven
namespace Go.Proofs.YtoepfmhnapedoaaGreatDoor
namespace Rows

/-- THE TIED CARD OF 'jalousielaw29.ModelDoes'. -/
def modelDoesCard : Claim7 := { stood := { row := modelDoesRow, standIns := [], harness := (true, "a6486e56d829e62c16092d4141f0d92dceb8051dc9d605657262568f9fed49d8"), looks := true }, kinds := [], alts := [], laidByText := true, laidKinds := [.data, .data, .data, .data, .pinned], laidTests := true, laidLooks := .later }
def ModelDoesCardSaid : Prop := Claim7.holds Tryz.pinned (.plain (OpenSpec.ofChange modelDoesSpec)) modelDoesCard

/-- THE TIED CARD OF 'jalousielaw29.ModelHides'. -/
def modelHidesCard : Claim7 := { stood := { row := modelHidesRow, standIns := [], harness := (true, "a6486e56d829e62c16092d4141f0d92dceb8051dc9d605657262568f9fed49d8"), looks := true }, kinds := [], alts := [], laidByText := true, laidKinds := [.data, .data, .data, .data, .pinned], laidTests := true, laidLooks := .later }
def ModelHidesCardSaid : Prop := Claim7.holds Tryz.pinned (.plain (OpenSpec.ofChange modelHidesSpec)) modelHidesCard

/-- THE TIED CARD OF 'jalousielaw29.ModelSnaps'. -/
def modelSnapsCard : Claim7 := { stood := { row := modelSnapsRow, standIns := [], harness := (true, "a6486e56d829e62c16092d4141f0d92dceb8051dc9d605657262568f9fed49d8"), looks := true }, kinds := [], alts := [], laidByText := true, laidKinds := [.data, .data, .data, .data, .pinned], laidTests := true, laidLooks := .later }
def ModelSnapsCardSaid : Prop := Claim7.holds Tryz.pinned (.plain (OpenSpec.ofChange modelSnapsSpec)) modelSnapsCard

/-- THE TIED CARD OF 'jalousielaw29.ModelRolls'. -/
def modelRollsCard : Claim7 := { stood := { row := modelRollsRow, standIns := [], harness := (true, "a6486e56d829e62c16092d4141f0d92dceb8051dc9d605657262568f9fed49d8"), looks := true }, kinds := [], alts := [], laidByText := true, laidKinds := [.data, .data, .data, .data, .pinned], laidTests := true, laidLooks := .later }
def ModelRollsCardSaid : Prop := Claim7.holds Tryz.pinned (.plain (OpenSpec.ofChange modelRollsSpec)) modelRollsCard

/-- THE TIED CARD OF 'jalousielaw29.ModelForgets'. -/
def modelForgetsCard : Claim7 := { stood := { row := modelForgetsRow, standIns := [], harness := (true, "a6486e56d829e62c16092d4141f0d92dceb8051dc9d605657262568f9fed49d8"), looks := true }, kinds := [], alts := [], laidByText := true, laidKinds := [.data, .data, .data, .data, .pinned], laidTests := true, laidLooks := .later }
def ModelForgetsCardSaid : Prop := Claim7.holds Tryz.pinned (.plain (OpenSpec.ofChange modelForgetsSpec)) modelForgetsCard

/-- THE SECOND FORM's CARD OF 'jalousielaw29.ModelDoes'. -/
def modelDoesUptoCard : Claim7 := { stood := { row := modelDoesUptoRow, standIns := [], harness := (true, "a6486e56d829e62c16092d4141f0d92dceb8051dc9d605657262568f9fed49d8"), looks := true }, kinds := [], alts := [], laidByText := true, laidKinds := [.data, .data, .data, .data, .pinned], laidTests := true, laidLooks := .later }
def ModelDoesUptoCardSaid : Prop := Claim7.holds Tryz.pinned (.plain (OpenSpec.upto modelDoesSpec)) modelDoesUptoCard

/-- THE SECOND FORM's CARD OF 'jalousielaw29.ModelHides'. -/
def modelHidesUptoCard : Claim7 := { stood := { row := modelHidesUptoRow, standIns := [], harness := (true, "a6486e56d829e62c16092d4141f0d92dceb8051dc9d605657262568f9fed49d8"), looks := true }, kinds := [], alts := [], laidByText := true, laidKinds := [.data, .data, .data, .data, .pinned], laidTests := true, laidLooks := .later }
def ModelHidesUptoCardSaid : Prop := Claim7.holds Tryz.pinned (.plain (OpenSpec.upto modelHidesSpec)) modelHidesUptoCard

/-- THE SECOND FORM's CARD OF 'jalousielaw29.ModelSnaps'. -/
def modelSnapsUptoCard : Claim7 := { stood := { row := modelSnapsUptoRow, standIns := [], harness := (true, "a6486e56d829e62c16092d4141f0d92dceb8051dc9d605657262568f9fed49d8"), looks := true }, kinds := [], alts := [], laidByText := true, laidKinds := [.data, .data, .data, .data, .pinned], laidTests := true, laidLooks := .later }
def ModelSnapsUptoCardSaid : Prop := Claim7.holds Tryz.pinned (.plain (OpenSpec.upto modelSnapsSpec)) modelSnapsUptoCard

/-- THE SECOND FORM's CARD OF 'jalousielaw29.ModelRolls'. -/
def modelRollsUptoCard : Claim7 := { stood := { row := modelRollsUptoRow, standIns := [], harness := (true, "a6486e56d829e62c16092d4141f0d92dceb8051dc9d605657262568f9fed49d8"), looks := true }, kinds := [], alts := [], laidByText := true, laidKinds := [.data, .data, .data, .data, .pinned], laidTests := true, laidLooks := .later }
def ModelRollsUptoCardSaid : Prop := Claim7.holds Tryz.pinned (.plain (OpenSpec.upto modelRollsSpec)) modelRollsUptoCard

/-- THE SECOND FORM's CARD OF 'jalousielaw29.ModelForgets'. -/
def modelForgetsUptoCard : Claim7 := { stood := { row := modelForgetsUptoRow, standIns := [], harness := (true, "a6486e56d829e62c16092d4141f0d92dceb8051dc9d605657262568f9fed49d8"), looks := true }, kinds := [], alts := [], laidByText := true, laidKinds := [.data, .data, .data, .data, .pinned], laidTests := true, laidLooks := .later }
def ModelForgetsUptoCardSaid : Prop := Claim7.holds Tryz.pinned (.plain (OpenSpec.upto modelForgetsSpec)) modelForgetsUptoCard
end Rows
end Go.Proofs.YtoepfmhnapedoaaGreatDoor
