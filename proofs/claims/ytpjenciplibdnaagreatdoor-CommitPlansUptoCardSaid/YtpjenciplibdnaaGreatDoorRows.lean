/-
  NARROWER THAN 'FOR EVERY INPUT', by the rows' own cells (each row's printed sentence says how): CommitPlans: laid · CommitKeeps: laid · CommitAgain: laid · CommitMetas: laid.
  DERIVED. THE GIVEN ROWS OF THIS SEAT. 4 by the template 'for every input the law returns true; each argument reads behind the call as it read before'; 0 by the template 'total and deterministic' (their statements: YtpjenciplibdnaaGreatDoorTotals.lean).
  GIVEN WITH THE SEED: the statements are not yours to turn. If you find one false, say at which input.
  Laid BY PROGRAM, IN A SANDBOX (cutbox-rows.mjs): the forced cells as the released guide's own fill.sh prints them over the translation 6de8b0b0803efcb6… (all of the seat's roots in one cut). By AI agents, Wed Nov 11 2026. No macro, syntax, notation, axiom, sorry.
-/
import Derived.Test.YtpjenciplibdnaaGreatDoorChecked
import GoSem.Claim
import GoSem.ClaimJoined
import GoSem.ClaimMapViews
import Derived.JoinedTies
import Derived.KernelRfl
namespace Go.Proofs.YtpjenciplibdnaaGreatDoor
/- THE CELL 'sum', in the pinned program and in every row, IS THE sha256 OF THE DUMP (.gsa) THAT YtpjenciplibdnaaGreatDoorProg.lean LOADS. Nothing in Lean hashes anything: it is a label: what it is worth is what the hold of that sum in a sandbox is worth. -/
noncomputable def Tryz.pinned : Pinned := { name := "ytpjenciplibdnaagreatdoor", sum := "6de8b0b0803efcb6acabab9a1b11fb3bbc7ac7eabc9b74ba48c443638eed602c", checked := Tryz.checked }
namespace Rows
def none {H : Type} : Left H := { results := [], args := [] }

/- WHAT THE LISTED PACKAGE-LEVEL VARIABLES READ AS WHEN THE CALL BEGINS. Each datum BY PROGRAM (the guide's laid-datum.mjs) off the statement by which the dump's own 'gosem.cut.vars' lays the variable. In a bare row this is a premise. The card (YtpjenciplibdnaaGreatDoorCards.lean) ties it to the program's text. -/
def laid_jalousie_crc_half {H : Type} : DataW H := .agg [.lit (.int .u32 0), .lit (.int .u32 498536548), .lit (.int .u32 997073096), .lit (.int .u32 651767980), .lit (.int .u32 1994146192), .lit (.int .u32 1802195444), .lit (.int .u32 1303535960), .lit (.int .u32 1342533948), .lit (.int .u32 3988292384), .lit (.int .u32 4027552580), .lit (.int .u32 3604390888), .lit (.int .u32 3412177804), .lit (.int .u32 2607071920), .lit (.int .u32 2262029012), .lit (.int .u32 2685067896), .lit (.int .u32 3183342108)]

/-- 'jalousielaw23.CommitPlans': WHATEVER THE INPUT: true; the input reads as it did. -/
def commitPlansSpec : ChangeSpec := { name := "commitPlans", fn := fun _ => fun
  | [d1, d2] => { results := [.lit (.bool true)], args := [d1, d2] }
  | _ => none }
def commitPlansRow : OpenClaim := { program := "ytpjenciplibdnaagreatdoor", sum := "6de8b0b0803efcb6acabab9a1b11fb3bbc7ac7eabc9b74ba48c443638eed602c", func := "jalousie/jalousielaw23.CommitPlans", spec := "commitPlans", inPlace := ["internal/bytealg.abigen_runtime_cmpstring", "slices.overlaps[jalousie/view.Bucket]"], unfollowed := true, recurses := true, named := ["jalousie/crc.half"], apart := false, laid := [("jalousie/crc.half", laid_jalousie_crc_half)] }
def CommitPlansSaid : Prop := commitPlansRow.holds Tryz.pinned (OpenSpec.ofChange commitPlansSpec)

/-- ITS FALSE NEIGHBOUR: 'it returns false'. Refute it at one input. -/
def commitPlansWrong : ChangeSpec := { name := "commitPlans", fn := fun _ => fun
  | [d1, d2] => { results := [.lit (.bool false)], args := [d1, d2] }
  | _ => none }
def CommitPlansWrongFalsely : Prop := commitPlansRow.holds Tryz.pinned (OpenSpec.ofChange commitPlansWrong)

/-- 'jalousielaw23.CommitKeeps': WHATEVER THE INPUT: true; the input reads as it did. -/
def commitKeepsSpec : ChangeSpec := { name := "commitKeeps", fn := fun _ => fun
  | [d1, d2] => { results := [.lit (.bool true)], args := [d1, d2] }
  | _ => none }
def commitKeepsRow : OpenClaim := { program := "ytpjenciplibdnaagreatdoor", sum := "6de8b0b0803efcb6acabab9a1b11fb3bbc7ac7eabc9b74ba48c443638eed602c", func := "jalousie/jalousielaw23.CommitKeeps", spec := "commitKeeps", inPlace := ["internal/bytealg.abigen_runtime_cmpstring", "slices.overlaps[jalousie/view.Bucket]"], unfollowed := true, recurses := true, named := ["jalousie/crc.half"], apart := false, laid := [("jalousie/crc.half", laid_jalousie_crc_half)] }
def CommitKeepsSaid : Prop := commitKeepsRow.holds Tryz.pinned (OpenSpec.ofChange commitKeepsSpec)

/-- ITS FALSE NEIGHBOUR: 'it returns false'. Refute it at one input. -/
def commitKeepsWrong : ChangeSpec := { name := "commitKeeps", fn := fun _ => fun
  | [d1, d2] => { results := [.lit (.bool false)], args := [d1, d2] }
  | _ => none }
def CommitKeepsWrongFalsely : Prop := commitKeepsRow.holds Tryz.pinned (OpenSpec.ofChange commitKeepsWrong)

/-- 'jalousielaw23.CommitAgain': WHATEVER THE INPUT: true; the input reads as it did. -/
def commitAgainSpec : ChangeSpec := { name := "commitAgain", fn := fun _ => fun
  | [d] => { results := [.lit (.bool true)], args := [d] }
  | _ => none }
def commitAgainRow : OpenClaim := { program := "ytpjenciplibdnaagreatdoor", sum := "6de8b0b0803efcb6acabab9a1b11fb3bbc7ac7eabc9b74ba48c443638eed602c", func := "jalousie/jalousielaw23.CommitAgain", spec := "commitAgain", inPlace := ["internal/bytealg.abigen_runtime_cmpstring", "slices.overlaps[jalousie/view.Bucket]"], unfollowed := true, recurses := true, named := ["jalousie/crc.half"], apart := false, laid := [("jalousie/crc.half", laid_jalousie_crc_half)] }
def CommitAgainSaid : Prop := commitAgainRow.holds Tryz.pinned (OpenSpec.ofChange commitAgainSpec)

/-- ITS FALSE NEIGHBOUR: 'it returns false'. Refute it at one input. -/
def commitAgainWrong : ChangeSpec := { name := "commitAgain", fn := fun _ => fun
  | [d] => { results := [.lit (.bool false)], args := [d] }
  | _ => none }
def CommitAgainWrongFalsely : Prop := commitAgainRow.holds Tryz.pinned (OpenSpec.ofChange commitAgainWrong)

/-- 'jalousielaw23.CommitMetas': WHATEVER THE INPUT: true; the input reads as it did. -/
def commitMetasSpec : ChangeSpec := { name := "commitMetas", fn := fun _ => fun
  | [d1, d2] => { results := [.lit (.bool true)], args := [d1, d2] }
  | _ => none }
def commitMetasRow : OpenClaim := { program := "ytpjenciplibdnaagreatdoor", sum := "6de8b0b0803efcb6acabab9a1b11fb3bbc7ac7eabc9b74ba48c443638eed602c", func := "jalousie/jalousielaw23.CommitMetas", spec := "commitMetas", inPlace := ["internal/bytealg.abigen_runtime_cmpstring", "slices.overlaps[jalousie/view.Bucket]"], unfollowed := true, recurses := true, named := ["jalousie/crc.half"], apart := false, laid := [("jalousie/crc.half", laid_jalousie_crc_half)] }
def CommitMetasSaid : Prop := commitMetasRow.holds Tryz.pinned (OpenSpec.ofChange commitMetasSpec)

/-- ITS FALSE NEIGHBOUR: 'it returns false'. Refute it at one input. -/
def commitMetasWrong : ChangeSpec := { name := "commitMetas", fn := fun _ => fun
  | [d1, d2] => { results := [.lit (.bool false)], args := [d1, d2] }
  | _ => none }
def CommitMetasWrongFalsely : Prop := commitMetasRow.holds Tryz.pinned (OpenSpec.ofChange commitMetasWrong)

/- THE SECOND FORM. 'bulk': how many values and letters a reading holds, each counted each time it is reached (what is shared counts as often as it is met; a slice's spare places count too). A statement '..UptoSaid' is the law's where the arguments, and the package variables that the reading takes, are together of bulk at most 1048576: NARROWER than '..Said'. Prove '..Said' where nothing that the law and all that it calls make is longer than what came in: it says more and counts as full. Else prove '..UptoSaid'. A law counts once. -/
mutual
def uptoBulk {H : Type} : DataW H → Nat
  | .lit (.string bytes) => bytes.length + 1
  | .lit _ => 1
  | .nil => 1
  | .ptr d => uptoBulk d + 1
  | .slice elems spare => uptoBulkAll elems + uptoBulkAll spare + 1
  | .agg parts => uptoBulkAll parts + 1
  | .iface _ d => uptoBulk d + 1
  | .map entries => uptoBulkEntries entries + 1
  | .held _ => 1
def uptoBulkAll {H : Type} : List (DataW H) → Nat
  | [] => 0
  | d :: r => uptoBulk d + uptoBulkAll r
def uptoBulkEntries {H : Type} : List (Lit × DataW H) → Nat
  | [] => 0
  | x :: r => uptoBulkEntry x + uptoBulkEntries r
def uptoBulkEntry {H : Type} : Lit × DataW H → Nat
  | (.string bytes, d) => bytes.length + uptoBulk d + 1
  | (_, d) => uptoBulk d + 1
 end
def uptoSmall : (H : Type) → List (DataW H) → Bool := fun _ ds => decide (uptoBulkAll ds ≤ 1048576)
def OpenSpec.upto (s : _root_.Go.ChangeSpec) : _root_.Go.OpenSpec := { _root_.Go.OpenSpec.ofChange s with cond := some uptoSmall }

/-- 'jalousielaw23.CommitPlans', WHERE WHAT IT READS IS OF BULK AT MOST 1048576: true; the input reads as it did. -/
def commitPlansUptoRow : OpenClaim := { program := "ytpjenciplibdnaagreatdoor", sum := "6de8b0b0803efcb6acabab9a1b11fb3bbc7ac7eabc9b74ba48c443638eed602c", func := "jalousie/jalousielaw23.CommitPlans", spec := "commitPlans", inPlace := ["internal/bytealg.abigen_runtime_cmpstring", "slices.overlaps[jalousie/view.Bucket]"], unfollowed := true, recurses := true, named := ["jalousie/crc.half"], apart := false, laid := [("jalousie/crc.half", laid_jalousie_crc_half)], narrowed := true }
def CommitPlansUptoSaid : Prop := commitPlansUptoRow.holds Tryz.pinned (OpenSpec.upto commitPlansSpec)

/-- 'jalousielaw23.CommitKeeps', WHERE WHAT IT READS IS OF BULK AT MOST 1048576: true; the input reads as it did. -/
def commitKeepsUptoRow : OpenClaim := { program := "ytpjenciplibdnaagreatdoor", sum := "6de8b0b0803efcb6acabab9a1b11fb3bbc7ac7eabc9b74ba48c443638eed602c", func := "jalousie/jalousielaw23.CommitKeeps", spec := "commitKeeps", inPlace := ["internal/bytealg.abigen_runtime_cmpstring", "slices.overlaps[jalousie/view.Bucket]"], unfollowed := true, recurses := true, named := ["jalousie/crc.half"], apart := false, laid := [("jalousie/crc.half", laid_jalousie_crc_half)], narrowed := true }
def CommitKeepsUptoSaid : Prop := commitKeepsUptoRow.holds Tryz.pinned (OpenSpec.upto commitKeepsSpec)

/-- 'jalousielaw23.CommitAgain', WHERE WHAT IT READS IS OF BULK AT MOST 1048576: true; the input reads as it did. -/
def commitAgainUptoRow : OpenClaim := { program := "ytpjenciplibdnaagreatdoor", sum := "6de8b0b0803efcb6acabab9a1b11fb3bbc7ac7eabc9b74ba48c443638eed602c", func := "jalousie/jalousielaw23.CommitAgain", spec := "commitAgain", inPlace := ["internal/bytealg.abigen_runtime_cmpstring", "slices.overlaps[jalousie/view.Bucket]"], unfollowed := true, recurses := true, named := ["jalousie/crc.half"], apart := false, laid := [("jalousie/crc.half", laid_jalousie_crc_half)], narrowed := true }
def CommitAgainUptoSaid : Prop := commitAgainUptoRow.holds Tryz.pinned (OpenSpec.upto commitAgainSpec)

/-- 'jalousielaw23.CommitMetas', WHERE WHAT IT READS IS OF BULK AT MOST 1048576: true; the input reads as it did. -/
def commitMetasUptoRow : OpenClaim := { program := "ytpjenciplibdnaagreatdoor", sum := "6de8b0b0803efcb6acabab9a1b11fb3bbc7ac7eabc9b74ba48c443638eed602c", func := "jalousie/jalousielaw23.CommitMetas", spec := "commitMetas", inPlace := ["internal/bytealg.abigen_runtime_cmpstring", "slices.overlaps[jalousie/view.Bucket]"], unfollowed := true, recurses := true, named := ["jalousie/crc.half"], apart := false, laid := [("jalousie/crc.half", laid_jalousie_crc_half)], narrowed := true }
def CommitMetasUptoSaid : Prop := commitMetasUptoRow.holds Tryz.pinned (OpenSpec.upto commitMetasSpec)

end Rows
end Go.Proofs.YtpjenciplibdnaaGreatDoor
