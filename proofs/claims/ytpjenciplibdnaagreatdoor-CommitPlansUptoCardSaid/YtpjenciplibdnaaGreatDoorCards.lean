/-
  DERIVED. GIVEN WITH THE SEED: THE CARDS: each row of YtpjenciplibdnaaGreatDoorRows.lean that lists a variable, with what it lists TIED to the program's text (the seventh form; the later family's looks); each row that meets fmt, with fmt's text TOLD by the authors' own Lean function (tested against real Go, not proved from fmt's source: count such statements apart). THE CARD IS WHAT COUNTS. Prove the row's statement (the work); the ties are given (YtpjenciplibdnaaGreatDoorTie.lean); close each card by the builder's one call (the guide's Derived/Test/ToyasCard.lean, 'card_holds'). Laid BY PROGRAM, IN A SANDBOX (cutbox-door.mjs). By AI agents, Wed Nov 11 2026. No macro, syntax, notation, axiom, sorry.
-/
import Derived.Test.YtpjenciplibdnaaGreatDoorRows
import GoSem.ClaimSeven
namespace Go.Proofs.YtpjenciplibdnaaGreatDoor
namespace Rows

/-- THE TIED CARD OF 'jalousielaw23.CommitPlans'. -/
def commitPlansCard : Claim7 := { stood := { row := commitPlansRow, standIns := [], harness := (true, "99ba97a871f42862a6283dcde08af1ebdb390e7478fd584e1b9e5fa5fb8b96da"), looks := false }, kinds := [], alts := [], laidByText := true, laidKinds := [.data], laidTests := true, laidLooks := .later }
def CommitPlansCardSaid : Prop := Claim7.holds Tryz.pinned (.plain (OpenSpec.ofChange commitPlansSpec)) commitPlansCard

/-- THE TIED CARD OF 'jalousielaw23.CommitKeeps'. -/
def commitKeepsCard : Claim7 := { stood := { row := commitKeepsRow, standIns := [], harness := (true, "99ba97a871f42862a6283dcde08af1ebdb390e7478fd584e1b9e5fa5fb8b96da"), looks := false }, kinds := [], alts := [], laidByText := true, laidKinds := [.data], laidTests := true, laidLooks := .later }
def CommitKeepsCardSaid : Prop := Claim7.holds Tryz.pinned (.plain (OpenSpec.ofChange commitKeepsSpec)) commitKeepsCard

/-- THE TIED CARD OF 'jalousielaw23.CommitAgain'. -/
def commitAgainCard : Claim7 := { stood := { row := commitAgainRow, standIns := [], harness := (true, "99ba97a871f42862a6283dcde08af1ebdb390e7478fd584e1b9e5fa5fb8b96da"), looks := false }, kinds := [], alts := [], laidByText := true, laidKinds := [.data], laidTests := true, laidLooks := .later }
def CommitAgainCardSaid : Prop := Claim7.holds Tryz.pinned (.plain (OpenSpec.ofChange commitAgainSpec)) commitAgainCard

/-- THE TIED CARD OF 'jalousielaw23.CommitMetas'. -/
def commitMetasCard : Claim7 := { stood := { row := commitMetasRow, standIns := [], harness := (true, "99ba97a871f42862a6283dcde08af1ebdb390e7478fd584e1b9e5fa5fb8b96da"), looks := false }, kinds := [], alts := [], laidByText := true, laidKinds := [.data], laidTests := true, laidLooks := .later }
def CommitMetasCardSaid : Prop := Claim7.holds Tryz.pinned (.plain (OpenSpec.ofChange commitMetasSpec)) commitMetasCard

/-- THE SECOND FORM's CARD OF 'jalousielaw23.CommitPlans'. -/
def commitPlansUptoCard : Claim7 := { stood := { row := commitPlansUptoRow, standIns := [], harness := (true, "99ba97a871f42862a6283dcde08af1ebdb390e7478fd584e1b9e5fa5fb8b96da"), looks := false }, kinds := [], alts := [], laidByText := true, laidKinds := [.data], laidTests := true, laidLooks := .later }
def CommitPlansUptoCardSaid : Prop := Claim7.holds Tryz.pinned (.plain (OpenSpec.upto commitPlansSpec)) commitPlansUptoCard

/-- THE SECOND FORM's CARD OF 'jalousielaw23.CommitKeeps'. -/
def commitKeepsUptoCard : Claim7 := { stood := { row := commitKeepsUptoRow, standIns := [], harness := (true, "99ba97a871f42862a6283dcde08af1ebdb390e7478fd584e1b9e5fa5fb8b96da"), looks := false }, kinds := [], alts := [], laidByText := true, laidKinds := [.data], laidTests := true, laidLooks := .later }
def CommitKeepsUptoCardSaid : Prop := Claim7.holds Tryz.pinned (.plain (OpenSpec.upto commitKeepsSpec)) commitKeepsUptoCard

/-- THE SECOND FORM's CARD OF 'jalousielaw23.CommitAgain'. -/
def commitAgainUptoCard : Claim7 := { stood := { row := commitAgainUptoRow, standIns := [], harness := (true, "99ba97a871f42862a6283dcde08af1ebdb390e7478fd584e1b9e5fa5fb8b96da"), looks := false }, kinds := [], alts := [], laidByText := true, laidKinds := [.data], laidTests := true, laidLooks := .later }
def CommitAgainUptoCardSaid : Prop := Claim7.holds Tryz.pinned (.plain (OpenSpec.upto commitAgainSpec)) commitAgainUptoCard

/-- THE SECOND FORM's CARD OF 'jalousielaw23.CommitMetas'. -/
def commitMetasUptoCard : Claim7 := { stood := { row := commitMetasUptoRow, standIns := [], harness := (true, "99ba97a871f42862a6283dcde08af1ebdb390e7478fd584e1b9e5fa5fb8b96da"), looks := false }, kinds := [], alts := [], laidByText := true, laidKinds := [.data], laidTests := true, laidLooks := .later }
def CommitMetasUptoCardSaid : Prop := Claim7.holds Tryz.pinned (.plain (OpenSpec.upto commitMetasSpec)) commitMetasUptoCard
end Rows
end Go.Proofs.YtpjenciplibdnaaGreatDoor
