/-
  No cell of these rows narrows 'for every input' (looked for: loops, veiled, ifaces, maps, wideKeys, modest, calm, conditions, laid).
  DERIVED. THE GIVEN ROWS OF THIS SEAT. 4 by the template 'for every input the law returns true; each argument reads behind the call as it read before'; 0 by the template 'total and deterministic' (their statements: YtfieabidajilmaaGreatTotals.lean).
  GIVEN WITH THE SEED: the statements are not yours to turn. If you find one false, say at which input.
  Laid BY PROGRAM, IN A SANDBOX (cutbox-rows.mjs): the forced cells as the released guide's own fill.sh prints them over the translation 7447077fb12d36b4… (all of the seat's roots in one cut). By AI agents, Wed Nov 11 2026. No macro, syntax, notation, axiom, sorry.
-/
import Derived.Test.YtfieabidajilmaaGreatChecked
import GoSem.Claim
import GoSem.ClaimJoined
import GoSem.ClaimMapViews
import Derived.JoinedTies
import Derived.KernelRfl
namespace Go.Proofs.YtfieabidajilmaaGreat
/- THE CELL 'sum', in the pinned program and in every row, IS THE sha256 OF THE DUMP (.gsa) THAT YtfieabidajilmaaGreatProg.lean LOADS. Nothing in Lean hashes anything: it is a label: what it is worth is what the hold of that sum in a sandbox is worth. -/
noncomputable def Tryz.pinned : Pinned := { name := "ytfieabidajilmaagreat", sum := "7447077fb12d36b42a188b2f240d8c13a53050a5c7594444f1f63e43ced7d350", checked := Tryz.checked }
namespace Rows
def none {H : Type} : Left H := { results := [], args := [] }

/-- 'jalousielaw21.ViewRuns': WHATEVER THE INPUT: true; the input reads as it did. -/
def viewRunsSpec : ChangeSpec := { name := "viewRuns", fn := fun _ => fun
  | [d] => { results := [.lit (.bool true)], args := [d] }
  | _ => none }
def viewRunsRow : OpenClaim := { program := "ytfieabidajilmaagreat", sum := "7447077fb12d36b42a188b2f240d8c13a53050a5c7594444f1f63e43ced7d350", func := "jalousie/jalousielaw21.ViewRuns", spec := "viewRuns", inPlace := ["internal/bytealg.abigen_runtime_cmpstring", "slices.overlaps[jalousie/view.Bucket]"], unfollowed := true, recurses := true, apart := false }
def ViewRunsSaid : Prop := viewRunsRow.holds Tryz.pinned (OpenSpec.ofChange viewRunsSpec)

/-- ITS FALSE NEIGHBOUR: 'it returns false'. Refute it at one input. -/
def viewRunsWrong : ChangeSpec := { name := "viewRuns", fn := fun _ => fun
  | [d] => { results := [.lit (.bool false)], args := [d] }
  | _ => none }
def ViewRunsWrongFalsely : Prop := viewRunsRow.holds Tryz.pinned (OpenSpec.ofChange viewRunsWrong)

/-- 'jalousielaw22.NeedLaid': WHATEVER THE INPUT: true; the input reads as it did. -/
def needLaidSpec : ChangeSpec := { name := "needLaid", fn := fun _ => fun
  | [d1, d2] => { results := [.lit (.bool true)], args := [d1, d2] }
  | _ => none }
def needLaidRow : OpenClaim := { program := "ytfieabidajilmaagreat", sum := "7447077fb12d36b42a188b2f240d8c13a53050a5c7594444f1f63e43ced7d350", func := "jalousie/jalousielaw22.NeedLaid", spec := "needLaid", inPlace := ["internal/bytealg.abigen_runtime_cmpstring", "slices.overlaps[jalousie/view.Bucket]"], unfollowed := true, recurses := true, apart := false }
def NeedLaidSaid : Prop := needLaidRow.holds Tryz.pinned (OpenSpec.ofChange needLaidSpec)

/-- ITS FALSE NEIGHBOUR: 'it returns false'. Refute it at one input. -/
def needLaidWrong : ChangeSpec := { name := "needLaid", fn := fun _ => fun
  | [d1, d2] => { results := [.lit (.bool false)], args := [d1, d2] }
  | _ => none }
def NeedLaidWrongFalsely : Prop := needLaidRow.holds Tryz.pinned (OpenSpec.ofChange needLaidWrong)

/-- 'jalousielaw22.NeedSums': WHATEVER THE INPUT: true; the input reads as it did. -/
def needSumsSpec : ChangeSpec := { name := "needSums", fn := fun _ => fun
  | [d] => { results := [.lit (.bool true)], args := [d] }
  | _ => none }
def needSumsRow : OpenClaim := { program := "ytfieabidajilmaagreat", sum := "7447077fb12d36b42a188b2f240d8c13a53050a5c7594444f1f63e43ced7d350", func := "jalousie/jalousielaw22.NeedSums", spec := "needSums", inPlace := ["internal/bytealg.abigen_runtime_cmpstring", "slices.overlaps[jalousie/view.Bucket]"], unfollowed := true, recurses := true, apart := false }
def NeedSumsSaid : Prop := needSumsRow.holds Tryz.pinned (OpenSpec.ofChange needSumsSpec)

/-- ITS FALSE NEIGHBOUR: 'it returns false'. Refute it at one input. -/
def needSumsWrong : ChangeSpec := { name := "needSums", fn := fun _ => fun
  | [d] => { results := [.lit (.bool false)], args := [d] }
  | _ => none }
def NeedSumsWrongFalsely : Prop := needSumsRow.holds Tryz.pinned (OpenSpec.ofChange needSumsWrong)

/-- 'jalousielaw22.NeedRooms': WHATEVER THE INPUT: true; the input reads as it did. -/
def needRoomsSpec : ChangeSpec := { name := "needRooms", fn := fun _ => fun
  | [d1, d2, d3] => { results := [.lit (.bool true)], args := [d1, d2, d3] }
  | _ => none }
def needRoomsRow : OpenClaim := { program := "ytfieabidajilmaagreat", sum := "7447077fb12d36b42a188b2f240d8c13a53050a5c7594444f1f63e43ced7d350", func := "jalousie/jalousielaw22.NeedRooms", spec := "needRooms", inPlace := ["internal/bytealg.abigen_runtime_cmpstring", "slices.overlaps[jalousie/view.Bucket]"], unfollowed := true, recurses := true, apart := false }
def NeedRoomsSaid : Prop := needRoomsRow.holds Tryz.pinned (OpenSpec.ofChange needRoomsSpec)

/-- ITS FALSE NEIGHBOUR: 'it returns false'. Refute it at one input. -/
def needRoomsWrong : ChangeSpec := { name := "needRooms", fn := fun _ => fun
  | [d1, d2, d3] => { results := [.lit (.bool false)], args := [d1, d2, d3] }
  | _ => none }
def NeedRoomsWrongFalsely : Prop := needRoomsRow.holds Tryz.pinned (OpenSpec.ofChange needRoomsWrong)

/- THE SECOND FORM. 'bulk': how many values and letters a reading holds, each counted each time it is reached (what is shared counts as often as it is met; a slice's spare places count too). A statement '..UptoSaid' is the law's where the arguments, and the package variables that the reading takes, are together of bulk at most 1048576: NARROWER than '..Said'. Prove '..Said' where nothing that the law and all that it calls make is longer than what came in: it says more and counts as full. Else prove '..UptoSaid'. A law counts once. -/
mutual
def uptoBulk {H : Type} : DataW H → Nat
  | .lit (.string bytes) => bytes.length + 1
  | .lit _ => 1
  | .nil => 1
  | .ptr d => uptoBulk d + 1
  | .slice elems spare => uptoBulkAll elems + uptoBulkAll spare + 1
  | .agg parts => uptoBulkAll parts + 1
  | .iface _ d => uptoBulk d + 1
  | .map entries => uptoBulkEntries entries + 1
  | .held _ => 1
def uptoBulkAll {H : Type} : List (DataW H) → Nat
  | [] => 0
  | d :: r => uptoBulk d + uptoBulkAll r
def uptoBulkEntries {H : Type} : List (Lit × DataW H) → Nat
  | [] => 0
  | x :: r => uptoBulkEntry x + uptoBulkEntries r
def uptoBulkEntry {H : Type} : Lit × DataW H → Nat
  | (.string bytes, d) => bytes.length + uptoBulk d + 1
  | (_, d) => uptoBulk d + 1
 end
def uptoSmall : (H : Type) → List (DataW H) → Bool := fun _ ds => decide (uptoBulkAll ds ≤ 1048576)
def OpenSpec.upto (s : _root_.Go.ChangeSpec) : _root_.Go.OpenSpec := { _root_.Go.OpenSpec.ofChange s with cond := some uptoSmall }

/-- 'jalousielaw21.ViewRuns', WHERE WHAT IT READS IS OF BULK AT MOST 1048576: true; the input reads as it did. -/
def viewRunsUptoRow : OpenClaim := { program := "ytfieabidajilmaagreat", sum := "7447077fb12d36b42a188b2f240d8c13a53050a5c7594444f1f63e43ced7d350", func := "jalousie/jalousielaw21.ViewRuns", spec := "viewRuns", inPlace := ["internal/bytealg.abigen_runtime_cmpstring", "slices.overlaps[jalousie/view.Bucket]"], unfollowed := true, recurses := true, apart := false, narrowed := true }
def ViewRunsUptoSaid : Prop := viewRunsUptoRow.holds Tryz.pinned (OpenSpec.upto viewRunsSpec)

/-- 'jalousielaw22.NeedLaid', WHERE WHAT IT READS IS OF BULK AT MOST 1048576: true; the input reads as it did. -/
def needLaidUptoRow : OpenClaim := { program := "ytfieabidajilmaagreat", sum := "7447077fb12d36b42a188b2f240d8c13a53050a5c7594444f1f63e43ced7d350", func := "jalousie/jalousielaw22.NeedLaid", spec := "needLaid", inPlace := ["internal/bytealg.abigen_runtime_cmpstring", "slices.overlaps[jalousie/view.Bucket]"], unfollowed := true, recurses := true, apart := false, narrowed := true }
def NeedLaidUptoSaid : Prop := needLaidUptoRow.holds Tryz.pinned (OpenSpec.upto needLaidSpec)

/-- 'jalousielaw22.NeedSums', WHERE WHAT IT READS IS OF BULK AT MOST 1048576: true; the input reads as it did. -/
def needSumsUptoRow : OpenClaim := { program := "ytfieabidajilmaagreat", sum := "7447077fb12d36b42a188b2f240d8c13a53050a5c7594444f1f63e43ced7d350", func := "jalousie/jalousielaw22.NeedSums", spec := "needSums", inPlace := ["internal/bytealg.abigen_runtime_cmpstring", "slices.overlaps[jalousie/view.Bucket]"], unfollowed := true, recurses := true, apart := false, narrowed := true }
def NeedSumsUptoSaid : Prop := needSumsUptoRow.holds Tryz.pinned (OpenSpec.upto needSumsSpec)

/-- 'jalousielaw22.NeedRooms', WHERE WHAT IT READS IS OF BULK AT MOST 1048576: true; the input reads as it did. -/
def needRoomsUptoRow : OpenClaim := { program := "ytfieabidajilmaagreat", sum := "7447077fb12d36b42a188b2f240d8c13a53050a5c7594444f1f63e43ced7d350", func := "jalousie/jalousielaw22.NeedRooms", spec := "needRooms", inPlace := ["internal/bytealg.abigen_runtime_cmpstring", "slices.overlaps[jalousie/view.Bucket]"], unfollowed := true, recurses := true, apart := false, narrowed := true }
def NeedRoomsUptoSaid : Prop := needRoomsUptoRow.holds Tryz.pinned (OpenSpec.upto needRoomsSpec)

end Rows
end Go.Proofs.YtfieabidajilmaaGreat
