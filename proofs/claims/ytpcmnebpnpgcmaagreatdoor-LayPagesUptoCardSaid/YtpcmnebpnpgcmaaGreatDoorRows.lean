/-
  NARROWER THAN 'FOR EVERY INPUT', by the rows' own cells (each row's printed sentence says how): LayLays: laid · LayKeeps: laid · LayPages: laid · LayFew: laid.
  DERIVED. THE GIVEN ROWS OF THIS SEAT. 4 by the template 'for every input the law returns true; each argument reads behind the call as it read before'; 0 by the template 'total and deterministic' (their statements: YtpcmnebpnpgcmaaGreatDoorTotals.lean).
  GIVEN WITH THE SEED: the statements are not yours to turn. If you find one false, say at which input.
  Laid BY PROGRAM, IN A SANDBOX (cutbox-rows.mjs): the forced cells as the released guide's own fill.sh prints them over the translation 29b4ef9a9a0edff1… (all of the seat's roots in one cut). By AI agents, Wed Nov 11 2026. No macro, syntax, notation, axiom, sorry.
-/
import Derived.Test.YtpcmnebpnpgcmaaGreatDoorChecked
import GoSem.Claim
import GoSem.ClaimJoined
import GoSem.ClaimMapViews
import Derived.JoinedTies
import Derived.KernelRfl
namespace Go.Proofs.YtpcmnebpnpgcmaaGreatDoor
/- THE CELL 'sum', in the pinned program and in every row, IS THE sha256 OF THE DUMP (.gsa) THAT YtpcmnebpnpgcmaaGreatDoorProg.lean LOADS. Nothing in Lean hashes anything: it is a label: what it is worth is what the hold of that sum in a sandbox is worth. -/
noncomputable def Tryz.pinned : Pinned := { name := "ytpcmnebpnpgcmaagreatdoor", sum := "29b4ef9a9a0edff167ef05e501b97e782a8ce27c9c20c44a68216d9f42851c40", checked := Tryz.checked }
namespace Rows
def none {H : Type} : Left H := { results := [], args := [] }

/- WHAT THE LISTED PACKAGE-LEVEL VARIABLES READ AS WHEN THE CALL BEGINS. Each datum BY PROGRAM (the guide's laid-datum.mjs) off the statement by which the dump's own 'gosem.cut.vars' lays the variable. In a bare row this is a premise. The card (YtpcmnebpnpgcmaaGreatDoorCards.lean) ties it to the program's text. -/
def laid_jalousie_crc_half {H : Type} : DataW H := .agg [.lit (.int .u32 0), .lit (.int .u32 498536548), .lit (.int .u32 997073096), .lit (.int .u32 651767980), .lit (.int .u32 1994146192), .lit (.int .u32 1802195444), .lit (.int .u32 1303535960), .lit (.int .u32 1342533948), .lit (.int .u32 3988292384), .lit (.int .u32 4027552580), .lit (.int .u32 3604390888), .lit (.int .u32 3412177804), .lit (.int .u32 2607071920), .lit (.int .u32 2262029012), .lit (.int .u32 2685067896), .lit (.int .u32 3183342108)]

/-- 'jalousielaw19.LayLays': WHATEVER THE INPUT: true; the input reads as it did. -/
def layLaysSpec : ChangeSpec := { name := "layLays", fn := fun _ => fun
  | [d1, d2] => { results := [.lit (.bool true)], args := [d1, d2] }
  | _ => none }
def layLaysRow : OpenClaim := { program := "ytpcmnebpnpgcmaagreatdoor", sum := "29b4ef9a9a0edff167ef05e501b97e782a8ce27c9c20c44a68216d9f42851c40", func := "jalousie/jalousielaw19.LayLays", spec := "layLays", unfollowed := true, recurses := true, named := ["jalousie/crc.half"], apart := false, laid := [("jalousie/crc.half", laid_jalousie_crc_half)] }
def LayLaysSaid : Prop := layLaysRow.holds Tryz.pinned (OpenSpec.ofChange layLaysSpec)

/-- ITS FALSE NEIGHBOUR: 'it returns false'. Refute it at one input. -/
def layLaysWrong : ChangeSpec := { name := "layLays", fn := fun _ => fun
  | [d1, d2] => { results := [.lit (.bool false)], args := [d1, d2] }
  | _ => none }
def LayLaysWrongFalsely : Prop := layLaysRow.holds Tryz.pinned (OpenSpec.ofChange layLaysWrong)

/-- 'jalousielaw19.LayKeeps': WHATEVER THE INPUT: true; the input reads as it did. -/
def layKeepsSpec : ChangeSpec := { name := "layKeeps", fn := fun _ => fun
  | [d] => { results := [.lit (.bool true)], args := [d] }
  | _ => none }
def layKeepsRow : OpenClaim := { program := "ytpcmnebpnpgcmaagreatdoor", sum := "29b4ef9a9a0edff167ef05e501b97e782a8ce27c9c20c44a68216d9f42851c40", func := "jalousie/jalousielaw19.LayKeeps", spec := "layKeeps", unfollowed := true, recurses := true, named := ["jalousie/crc.half"], apart := false, laid := [("jalousie/crc.half", laid_jalousie_crc_half)] }
def LayKeepsSaid : Prop := layKeepsRow.holds Tryz.pinned (OpenSpec.ofChange layKeepsSpec)

/-- ITS FALSE NEIGHBOUR: 'it returns false'. Refute it at one input. -/
def layKeepsWrong : ChangeSpec := { name := "layKeeps", fn := fun _ => fun
  | [d] => { results := [.lit (.bool false)], args := [d] }
  | _ => none }
def LayKeepsWrongFalsely : Prop := layKeepsRow.holds Tryz.pinned (OpenSpec.ofChange layKeepsWrong)

/-- 'jalousielaw19.LayPages': WHATEVER THE INPUT: true; the input reads as it did. -/
def layPagesSpec : ChangeSpec := { name := "layPages", fn := fun _ => fun
  | [d] => { results := [.lit (.bool true)], args := [d] }
  | _ => none }
def layPagesRow : OpenClaim := { program := "ytpcmnebpnpgcmaagreatdoor", sum := "29b4ef9a9a0edff167ef05e501b97e782a8ce27c9c20c44a68216d9f42851c40", func := "jalousie/jalousielaw19.LayPages", spec := "layPages", unfollowed := true, recurses := true, named := ["jalousie/crc.half"], apart := false, laid := [("jalousie/crc.half", laid_jalousie_crc_half)] }
def LayPagesSaid : Prop := layPagesRow.holds Tryz.pinned (OpenSpec.ofChange layPagesSpec)

/-- ITS FALSE NEIGHBOUR: 'it returns false'. Refute it at one input. -/
def layPagesWrong : ChangeSpec := { name := "layPages", fn := fun _ => fun
  | [d] => { results := [.lit (.bool false)], args := [d] }
  | _ => none }
def LayPagesWrongFalsely : Prop := layPagesRow.holds Tryz.pinned (OpenSpec.ofChange layPagesWrong)

/-- 'jalousielaw19.LayFew': WHATEVER THE INPUT: true; the input reads as it did. -/
def layFewSpec : ChangeSpec := { name := "layFew", fn := fun _ => fun
  | [d] => { results := [.lit (.bool true)], args := [d] }
  | _ => none }
def layFewRow : OpenClaim := { program := "ytpcmnebpnpgcmaagreatdoor", sum := "29b4ef9a9a0edff167ef05e501b97e782a8ce27c9c20c44a68216d9f42851c40", func := "jalousie/jalousielaw19.LayFew", spec := "layFew", unfollowed := true, recurses := true, named := ["jalousie/crc.half"], apart := false, laid := [("jalousie/crc.half", laid_jalousie_crc_half)] }
def LayFewSaid : Prop := layFewRow.holds Tryz.pinned (OpenSpec.ofChange layFewSpec)

/-- ITS FALSE NEIGHBOUR: 'it returns false'. Refute it at one input. -/
def layFewWrong : ChangeSpec := { name := "layFew", fn := fun _ => fun
  | [d] => { results := [.lit (.bool false)], args := [d] }
  | _ => none }
def LayFewWrongFalsely : Prop := layFewRow.holds Tryz.pinned (OpenSpec.ofChange layFewWrong)

/- THE SECOND FORM. 'bulk': how many values and letters a reading holds, each counted each time it is reached (what is shared counts as often as it is met; a slice's spare places count too). A statement '..UptoSaid' is the law's where the arguments, and the package variables that the reading takes, are together of bulk at most 1048576: NARROWER than '..Said'. Prove '..Said' where nothing that the law and all that it calls make is longer than what came in: it says more and counts as full. Else prove '..UptoSaid'. A law counts once. -/
mutual
def uptoBulk {H : Type} : DataW H → Nat
  | .lit (.string bytes) => bytes.length + 1
  | .lit _ => 1
  | .nil => 1
  | .ptr d => uptoBulk d + 1
  | .slice elems spare => uptoBulkAll elems + uptoBulkAll spare + 1
  | .agg parts => uptoBulkAll parts + 1
  | .iface _ d => uptoBulk d + 1
  | .map entries => uptoBulkEntries entries + 1
  | .held _ => 1
def uptoBulkAll {H : Type} : List (DataW H) → Nat
  | [] => 0
  | d :: r => uptoBulk d + uptoBulkAll r
def uptoBulkEntries {H : Type} : List (Lit × DataW H) → Nat
  | [] => 0
  | x :: r => uptoBulkEntry x + uptoBulkEntries r
def uptoBulkEntry {H : Type} : Lit × DataW H → Nat
  | (.string bytes, d) => bytes.length + uptoBulk d + 1
  | (_, d) => uptoBulk d + 1
 end
def uptoSmall : (H : Type) → List (DataW H) → Bool := fun _ ds => decide (uptoBulkAll ds ≤ 1048576)
def OpenSpec.upto (s : _root_.Go.ChangeSpec) : _root_.Go.OpenSpec := { _root_.Go.OpenSpec.ofChange s with cond := some uptoSmall }

/-- 'jalousielaw19.LayLays', WHERE WHAT IT READS IS OF BULK AT MOST 1048576: true; the input reads as it did. -/
def layLaysUptoRow : OpenClaim := { program := "ytpcmnebpnpgcmaagreatdoor", sum := "29b4ef9a9a0edff167ef05e501b97e782a8ce27c9c20c44a68216d9f42851c40", func := "jalousie/jalousielaw19.LayLays", spec := "layLays", unfollowed := true, recurses := true, named := ["jalousie/crc.half"], apart := false, laid := [("jalousie/crc.half", laid_jalousie_crc_half)], narrowed := true }
def LayLaysUptoSaid : Prop := layLaysUptoRow.holds Tryz.pinned (OpenSpec.upto layLaysSpec)

/-- 'jalousielaw19.LayKeeps', WHERE WHAT IT READS IS OF BULK AT MOST 1048576: true; the input reads as it did. -/
def layKeepsUptoRow : OpenClaim := { program := "ytpcmnebpnpgcmaagreatdoor", sum := "29b4ef9a9a0edff167ef05e501b97e782a8ce27c9c20c44a68216d9f42851c40", func := "jalousie/jalousielaw19.LayKeeps", spec := "layKeeps", unfollowed := true, recurses := true, named := ["jalousie/crc.half"], apart := false, laid := [("jalousie/crc.half", laid_jalousie_crc_half)], narrowed := true }
def LayKeepsUptoSaid : Prop := layKeepsUptoRow.holds Tryz.pinned (OpenSpec.upto layKeepsSpec)

/-- 'jalousielaw19.LayPages', WHERE WHAT IT READS IS OF BULK AT MOST 1048576: true; the input reads as it did. -/
def layPagesUptoRow : OpenClaim := { program := "ytpcmnebpnpgcmaagreatdoor", sum := "29b4ef9a9a0edff167ef05e501b97e782a8ce27c9c20c44a68216d9f42851c40", func := "jalousie/jalousielaw19.LayPages", spec := "layPages", unfollowed := true, recurses := true, named := ["jalousie/crc.half"], apart := false, laid := [("jalousie/crc.half", laid_jalousie_crc_half)], narrowed := true }
def LayPagesUptoSaid : Prop := layPagesUptoRow.holds Tryz.pinned (OpenSpec.upto layPagesSpec)

/-- 'jalousielaw19.LayFew', WHERE WHAT IT READS IS OF BULK AT MOST 1048576: true; the input reads as it did. -/
def layFewUptoRow : OpenClaim := { program := "ytpcmnebpnpgcmaagreatdoor", sum := "29b4ef9a9a0edff167ef05e501b97e782a8ce27c9c20c44a68216d9f42851c40", func := "jalousie/jalousielaw19.LayFew", spec := "layFew", unfollowed := true, recurses := true, named := ["jalousie/crc.half"], apart := false, laid := [("jalousie/crc.half", laid_jalousie_crc_half)], narrowed := true }
def LayFewUptoSaid : Prop := layFewUptoRow.holds Tryz.pinned (OpenSpec.upto layFewSpec)

end Rows
end Go.Proofs.YtpcmnebpnpgcmaaGreatDoor
