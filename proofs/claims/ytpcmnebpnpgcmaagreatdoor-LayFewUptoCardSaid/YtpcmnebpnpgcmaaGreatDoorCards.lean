/-
  DERIVED. GIVEN WITH THE SEED: THE CARDS: each row of YtpcmnebpnpgcmaaGreatDoorRows.lean that lists a variable, with what it lists TIED to the program's text (the seventh form; the later family's looks); each row that meets fmt, with fmt's text TOLD by the authors' own Lean function (tested against real Go, not proved from fmt's source: count such statements apart). THE CARD IS WHAT COUNTS. Prove the row's statement (the work); the ties are given (YtpcmnebpnpgcmaaGreatDoorTie.lean); close each card by the builder's one call (the guide's Derived/Test/ToyasCard.lean, 'card_holds'). Laid BY PROGRAM, IN A SANDBOX (cutbox-door.mjs). By AI agents, Wed Nov 11 2026. No macro, syntax, notation, axiom, sorry.
-/
import Derived.Test.YtpcmnebpnpgcmaaGreatDoorRows
import GoSem.ClaimSeven
namespace Go.Proofs.YtpcmnebpnpgcmaaGreatDoor
namespace Rows

/-- THE TIED CARD OF 'jalousielaw19.LayLays'. -/
def layLaysCard : Claim7 := { stood := { row := layLaysRow, standIns := [], harness := (true, "a71d28fe7cabb078e14298eda19fae28a9669123ff1d58451a3ae7114feda4c9"), looks := false }, kinds := [], alts := [], laidByText := true, laidKinds := [.data], laidTests := true, laidLooks := .later }
def LayLaysCardSaid : Prop := Claim7.holds Tryz.pinned (.plain (OpenSpec.ofChange layLaysSpec)) layLaysCard

/-- THE TIED CARD OF 'jalousielaw19.LayKeeps'. -/
def layKeepsCard : Claim7 := { stood := { row := layKeepsRow, standIns := [], harness := (true, "a71d28fe7cabb078e14298eda19fae28a9669123ff1d58451a3ae7114feda4c9"), looks := false }, kinds := [], alts := [], laidByText := true, laidKinds := [.data], laidTests := true, laidLooks := .later }
def LayKeepsCardSaid : Prop := Claim7.holds Tryz.pinned (.plain (OpenSpec.ofChange layKeepsSpec)) layKeepsCard

/-- THE TIED CARD OF 'jalousielaw19.LayPages'. -/
def layPagesCard : Claim7 := { stood := { row := layPagesRow, standIns := [], harness := (true, "a71d28fe7cabb078e14298eda19fae28a9669123ff1d58451a3ae7114feda4c9"), looks := false }, kinds := [], alts := [], laidByText := true, laidKinds := [.data], laidTests := true, laidLooks := .later }
def LayPagesCardSaid : Prop := Claim7.holds Tryz.pinned (.plain (OpenSpec.ofChange layPagesSpec)) layPagesCard

/-- THE TIED CARD OF 'jalousielaw19.LayFew'. -/
def layFewCard : Claim7 := { stood := { row := layFewRow, standIns := [], harness := (true, "a71d28fe7cabb078e14298eda19fae28a9669123ff1d58451a3ae7114feda4c9"), looks := false }, kinds := [], alts := [], laidByText := true, laidKinds := [.data], laidTests := true, laidLooks := .later }
def LayFewCardSaid : Prop := Claim7.holds Tryz.pinned (.plain (OpenSpec.ofChange layFewSpec)) layFewCard

/-- THE SECOND FORM's CARD OF 'jalousielaw19.LayLays'. -/
def layLaysUptoCard : Claim7 := { stood := { row := layLaysUptoRow, standIns := [], harness := (true, "a71d28fe7cabb078e14298eda19fae28a9669123ff1d58451a3ae7114feda4c9"), looks := false }, kinds := [], alts := [], laidByText := true, laidKinds := [.data], laidTests := true, laidLooks := .later }
def LayLaysUptoCardSaid : Prop := Claim7.holds Tryz.pinned (.plain (OpenSpec.upto layLaysSpec)) layLaysUptoCard

/-- THE SECOND FORM's CARD OF 'jalousielaw19.LayKeeps'. -/
def layKeepsUptoCard : Claim7 := { stood := { row := layKeepsUptoRow, standIns := [], harness := (true, "a71d28fe7cabb078e14298eda19fae28a9669123ff1d58451a3ae7114feda4c9"), looks := false }, kinds := [], alts := [], laidByText := true, laidKinds := [.data], laidTests := true, laidLooks := .later }
def LayKeepsUptoCardSaid : Prop := Claim7.holds Tryz.pinned (.plain (OpenSpec.upto layKeepsSpec)) layKeepsUptoCard

/-- THE SECOND FORM's CARD OF 'jalousielaw19.LayPages'. -/
def layPagesUptoCard : Claim7 := { stood := { row := layPagesUptoRow, standIns := [], harness := (true, "a71d28fe7cabb078e14298eda19fae28a9669123ff1d58451a3ae7114feda4c9"), looks := false }, kinds := [], alts := [], laidByText := true, laidKinds := [.data], laidTests := true, laidLooks := .later }
def LayPagesUptoCardSaid : Prop := Claim7.holds Tryz.pinned (.plain (OpenSpec.upto layPagesSpec)) layPagesUptoCard

/-- THE SECOND FORM's CARD OF 'jalousielaw19.LayFew'. -/
def layFewUptoCard : Claim7 := { stood := { row := layFewUptoRow, standIns := [], harness := (true, "a71d28fe7cabb078e14298eda19fae28a9669123ff1d58451a3ae7114feda4c9"), looks := false }, kinds := [], alts := [], laidByText := true, laidKinds := [.data], laidTests := true, laidLooks := .later }
def LayFewUptoCardSaid : Prop := Claim7.holds Tryz.pinned (.plain (OpenSpec.upto layFewSpec)) layFewUptoCard
end Rows
end Go.Proofs.YtpcmnebpnpgcmaaGreatDoor
