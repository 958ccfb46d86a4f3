/-
  NARROWER THAN 'FOR EVERY INPUT', by the rows' own cells (each row's printed sentence says how): ModelDoes: laid · ModelHides: laid · ModelSnaps: laid · ModelRolls: laid · ModelForgets: laid.
  DERIVED. THE GIVEN ROWS OF THIS SEAT. 5 by the template 'for every input the law returns true; each argument reads behind the call as it read before'; 0 by the template 'total and deterministic' (their statements: YtoepfmhnapedoaaGreatDoorTotals.lean).
  GIVEN WITH THE SEED: the statements are not yours to turn. If you find one false, say at which input.
  Laid BY PROGRAM, IN A SANDBOX (cutbox-rows.mjs): the forced cells as the released guide's own fill.sh prints them over the translation a106f64d555609cf… (all of the seat's roots in one cut). By AI agents, Wed Nov 11 2026. No macro, syntax, notation, axiom, sorry.
-/
import Derived.Test.YtoepfmhnapedoaaGreatDoorChecked
import GoSem.PinnedTables
import GoSem.Claim
import GoSem.ClaimJoined
import GoSem.ClaimMapViews
import Derived.JoinedTies
import Derived.KernelRfl
namespace Go.Proofs.YtoepfmhnapedoaaGreatDoor
/- THE CELL 'sum', in the pinned program and in every row, IS THE sha256 OF THE DUMP (.gsa) THAT YtoepfmhnapedoaaGreatDoorProg.lean LOADS. Nothing in Lean hashes anything: it is a label: what it is worth is what the hold of that sum in a sandbox is worth. -/
noncomputable def Tryz.pinned : Pinned := { name := "ytoepfmhnapedoaagreatdoor", sum := "a106f64d555609cf4b557c5af2f0d0e332c70360dfdf9c7e2813aafecff0b0ad", checked := Tryz.checked }
namespace Rows
def none {H : Type} : Left H := { results := [], args := [] }

/- WHAT THE LISTED PACKAGE-LEVEL VARIABLES READ AS WHEN THE CALL BEGINS. Each datum BY PROGRAM (the guide's laid-datum.mjs) off the statement by which the dump's own 'gosem.cut.vars' lays the variable. In a bare row this is a premise. The card (YtoepfmhnapedoaaGreatDoorCards.lean) ties it to the program's text. -/
def laid_math_bits_deBruijn64tab {H : Type} : DataW H := .agg [.lit (.int .u8 0), .lit (.int .u8 1), .lit (.int .u8 56), .lit (.int .u8 2), .lit (.int .u8 57), .lit (.int .u8 49), .lit (.int .u8 28), .lit (.int .u8 3), .lit (.int .u8 61), .lit (.int .u8 58), .lit (.int .u8 42), .lit (.int .u8 50), .lit (.int .u8 38), .lit (.int .u8 29), .lit (.int .u8 17), .lit (.int .u8 4), .lit (.int .u8 62), .lit (.int .u8 47), .lit (.int .u8 59), .lit (.int .u8 36), .lit (.int .u8 45), .lit (.int .u8 43), .lit (.int .u8 51), .lit (.int .u8 22), .lit (.int .u8 53), .lit (.int .u8 39), .lit (.int .u8 33), .lit (.int .u8 30), .lit (.int .u8 24), .lit (.int .u8 18), .lit (.int .u8 12), .lit (.int .u8 5), .lit (.int .u8 63), .lit (.int .u8 55), .lit (.int .u8 48), .lit (.int .u8 27), .lit (.int .u8 60), .lit (.int .u8 41), .lit (.int .u8 37), .lit (.int .u8 16), .lit (.int .u8 46), .lit (.int .u8 35), .lit (.int .u8 44), .lit (.int .u8 21), .lit (.int .u8 52), .lit (.int .u8 32), .lit (.int .u8 23), .lit (.int .u8 11), .lit (.int .u8 54), .lit (.int .u8 26), .lit (.int .u8 40), .lit (.int .u8 15), .lit (.int .u8 34), .lit (.int .u8 20), .lit (.int .u8 31), .lit (.int .u8 10), .lit (.int .u8 25), .lit (.int .u8 14), .lit (.int .u8 19), .lit (.int .u8 9), .lit (.int .u8 13), .lit (.int .u8 8), .lit (.int .u8 7), .lit (.int .u8 6)]
def laid_unicode_utf8_acceptRanges {H : Type} : DataW H := .agg [.agg [.lit (.int .u8 128), .lit (.int .u8 191)], .agg [.lit (.int .u8 160), .lit (.int .u8 191)], .agg [.lit (.int .u8 128), .lit (.int .u8 159)], .agg [.lit (.int .u8 144), .lit (.int .u8 191)], .agg [.lit (.int .u8 128), .lit (.int .u8 143)], .agg [.lit (.int .u8 0), .lit (.int .u8 0)], .agg [.lit (.int .u8 0), .lit (.int .u8 0)], .agg [.lit (.int .u8 0), .lit (.int .u8 0)], .agg [.lit (.int .u8 0), .lit (.int .u8 0)], .agg [.lit (.int .u8 0), .lit (.int .u8 0)], .agg [.lit (.int .u8 0), .lit (.int .u8 0)], .agg [.lit (.int .u8 0), .lit (.int .u8 0)], .agg [.lit (.int .u8 0), .lit (.int .u8 0)], .agg [.lit (.int .u8 0), .lit (.int .u8 0)], .agg [.lit (.int .u8 0), .lit (.int .u8 0)], .agg [.lit (.int .u8 0), .lit (.int .u8 0)]]
def laid_jalousie_crc_half {H : Type} : DataW H := .agg [.lit (.int .u32 0), .lit (.int .u32 498536548), .lit (.int .u32 997073096), .lit (.int .u32 651767980), .lit (.int .u32 1994146192), .lit (.int .u32 1802195444), .lit (.int .u32 1303535960), .lit (.int .u32 1342533948), .lit (.int .u32 3988292384), .lit (.int .u32 4027552580), .lit (.int .u32 3604390888), .lit (.int .u32 3412177804), .lit (.int .u32 2607071920), .lit (.int .u32 2262029012), .lit (.int .u32 2685067896), .lit (.int .u32 3183342108)]
def laid_jalousie_op_names {H : Type} : DataW H := .agg [.lit (.string [111, 112, 101, 110]), .lit (.string [99, 108, 111, 115, 101]), .lit (.string [98, 101, 103, 105, 110]), .lit (.string [99, 111, 109, 109, 105, 116]), .lit (.string [114, 111, 108, 108, 98, 97, 99, 107]), .lit (.string [109, 97, 107, 101]), .lit (.string [100, 114, 111, 112]), .lit (.string [112, 117, 116]), .lit (.string [100, 101, 108, 101, 116, 101]), .lit (.string [103, 101, 116]), .lit (.string [115, 99, 97, 110]), .lit (.string [115, 110, 97, 112]), .lit (.string [117, 110, 115, 110, 97, 112]), .lit (.string [99, 111, 117, 110, 116]), .lit (.string [97, 117, 100, 105, 116]), .lit (.string [100, 101, 99, 108, 97, 115, 115, 105, 102, 121]), .lit (.string [99, 114, 97, 115, 104])]
/-- One of Go's own tables, pinned by name: the form's constant. -/
def laid_unicode_utf8_first : DataW Unit := Go.Pinned.utf8First

/-- 'jalousielaw29.ModelDoes': WHATEVER THE INPUT: true; the input reads as it did. -/
def modelDoesSpec : ChangeSpec := { name := "modelDoes", fn := fun _ => fun
  | [d1, d2, d3] => { results := [.lit (.bool true)], args := [d1, d2, d3] }
  | _ => none }
def modelDoesRow : OpenClaim := { program := "ytoepfmhnapedoaagreatdoor", sum := "a106f64d555609cf4b557c5af2f0d0e332c70360dfdf9c7e2813aafecff0b0ad", func := "jalousie/jalousielaw29.ModelDoes", spec := "modelDoes", inPlace := ["maps.clone"], unfollowed := true, recurses := true, named := ["math/bits.deBruijn64tab", "unicode/utf8.first", "unicode/utf8.acceptRanges", "jalousie/op.names", "jalousie/crc.half"], plainKeys := false, apart := false, laid := [("math/bits.deBruijn64tab", laid_math_bits_deBruijn64tab), ("unicode/utf8.acceptRanges", laid_unicode_utf8_acceptRanges), ("jalousie/crc.half", laid_jalousie_crc_half), ("jalousie/op.names", laid_jalousie_op_names), ("unicode/utf8.first", laid_unicode_utf8_first)] }
def ModelDoesSaid : Prop := modelDoesRow.holds Tryz.pinned (OpenSpec.ofChange modelDoesSpec)

/-- ITS FALSE NEIGHBOUR: 'it returns false'. Refute it at one input. -/
def modelDoesWrong : ChangeSpec := { name := "modelDoes", fn := fun _ => fun
  | [d1, d2, d3] => { results := [.lit (.bool false)], args := [d1, d2, d3] }
  | _ => none }
def ModelDoesWrongFalsely : Prop := modelDoesRow.holds Tryz.pinned (OpenSpec.ofChange modelDoesWrong)

/-- 'jalousielaw29.ModelHides': WHATEVER THE INPUT: true; the input reads as it did. -/
def modelHidesSpec : ChangeSpec := { name := "modelHides", fn := fun _ => fun
  | [d1, d2, d3] => { results := [.lit (.bool true)], args := [d1, d2, d3] }
  | _ => none }
def modelHidesRow : OpenClaim := { program := "ytoepfmhnapedoaagreatdoor", sum := "a106f64d555609cf4b557c5af2f0d0e332c70360dfdf9c7e2813aafecff0b0ad", func := "jalousie/jalousielaw29.ModelHides", spec := "modelHides", inPlace := ["maps.clone"], unfollowed := true, recurses := true, named := ["math/bits.deBruijn64tab", "unicode/utf8.first", "unicode/utf8.acceptRanges", "jalousie/op.names", "jalousie/crc.half"], plainKeys := false, apart := false, laid := [("math/bits.deBruijn64tab", laid_math_bits_deBruijn64tab), ("unicode/utf8.acceptRanges", laid_unicode_utf8_acceptRanges), ("jalousie/crc.half", laid_jalousie_crc_half), ("jalousie/op.names", laid_jalousie_op_names), ("unicode/utf8.first", laid_unicode_utf8_first)] }
def ModelHidesSaid : Prop := modelHidesRow.holds Tryz.pinned (OpenSpec.ofChange modelHidesSpec)

/-- ITS FALSE NEIGHBOUR: 'it returns false'. Refute it at one input. -/
def modelHidesWrong : ChangeSpec := { name := "modelHides", fn := fun _ => fun
  | [d1, d2, d3] => { results := [.lit (.bool false)], args := [d1, d2, d3] }
  | _ => none }
def ModelHidesWrongFalsely : Prop := modelHidesRow.holds Tryz.pinned (OpenSpec.ofChange modelHidesWrong)

/-- 'jalousielaw29.ModelSnaps': WHATEVER THE INPUT: true; the input reads as it did. -/
def modelSnapsSpec : ChangeSpec := { name := "modelSnaps", fn := fun _ => fun
  | [d1, d2, d3] => { results := [.lit (.bool true)], args := [d1, d2, d3] }
  | _ => none }
def modelSnapsRow : OpenClaim := { program := "ytoepfmhnapedoaagreatdoor", sum := "a106f64d555609cf4b557c5af2f0d0e332c70360dfdf9c7e2813aafecff0b0ad", func := "jalousie/jalousielaw29.ModelSnaps", spec := "modelSnaps", inPlace := ["maps.clone"], unfollowed := true, recurses := true, named := ["math/bits.deBruijn64tab", "unicode/utf8.first", "unicode/utf8.acceptRanges", "jalousie/op.names", "jalousie/crc.half"], plainKeys := false, apart := false, laid := [("math/bits.deBruijn64tab", laid_math_bits_deBruijn64tab), ("unicode/utf8.acceptRanges", laid_unicode_utf8_acceptRanges), ("jalousie/crc.half", laid_jalousie_crc_half), ("jalousie/op.names", laid_jalousie_op_names), ("unicode/utf8.first", laid_unicode_utf8_first)] }
def ModelSnapsSaid : Prop := modelSnapsRow.holds Tryz.pinned (OpenSpec.ofChange modelSnapsSpec)

/-- ITS FALSE NEIGHBOUR: 'it returns false'. Refute it at one input. -/
def modelSnapsWrong : ChangeSpec := { name := "modelSnaps", fn := fun _ => fun
  | [d1, d2, d3] => { results := [.lit (.bool false)], args := [d1, d2, d3] }
  | _ => none }
def ModelSnapsWrongFalsely : Prop := modelSnapsRow.holds Tryz.pinned (OpenSpec.ofChange modelSnapsWrong)

/-- 'jalousielaw29.ModelRolls': WHATEVER THE INPUT: true; the input reads as it did. -/
def modelRollsSpec : ChangeSpec := { name := "modelRolls", fn := fun _ => fun
  | [d1, d2, d3] => { results := [.lit (.bool true)], args := [d1, d2, d3] }
  | _ => none }
def modelRollsRow : OpenClaim := { program := "ytoepfmhnapedoaagreatdoor", sum := "a106f64d555609cf4b557c5af2f0d0e332c70360dfdf9c7e2813aafecff0b0ad", func := "jalousie/jalousielaw29.ModelRolls", spec := "modelRolls", inPlace := ["maps.clone"], unfollowed := true, recurses := true, named := ["math/bits.deBruijn64tab", "unicode/utf8.first", "unicode/utf8.acceptRanges", "jalousie/op.names", "jalousie/crc.half"], plainKeys := false, apart := false, laid := [("math/bits.deBruijn64tab", laid_math_bits_deBruijn64tab), ("unicode/utf8.acceptRanges", laid_unicode_utf8_acceptRanges), ("jalousie/crc.half", laid_jalousie_crc_half), ("jalousie/op.names", laid_jalousie_op_names), ("unicode/utf8.first", laid_unicode_utf8_first)] }
def ModelRollsSaid : Prop := modelRollsRow.holds Tryz.pinned (OpenSpec.ofChange modelRollsSpec)

/-- ITS FALSE NEIGHBOUR: 'it returns false'. Refute it at one input. -/
def modelRollsWrong : ChangeSpec := { name := "modelRolls", fn := fun _ => fun
  | [d1, d2, d3] => { results := [.lit (.bool false)], args := [d1, d2, d3] }
  | _ => none }
def ModelRollsWrongFalsely : Prop := modelRollsRow.holds Tryz.pinned (OpenSpec.ofChange modelRollsWrong)

/-- 'jalousielaw29.ModelForgets': WHATEVER THE INPUT: true; the input reads as it did. -/
def modelForgetsSpec : ChangeSpec := { name := "modelForgets", fn := fun _ => fun
  | [d1, d2] => { results := [.lit (.bool true)], args := [d1, d2] }
  | _ => none }
def modelForgetsRow : OpenClaim := { program := "ytoepfmhnapedoaagreatdoor", sum := "a106f64d555609cf4b557c5af2f0d0e332c70360dfdf9c7e2813aafecff0b0ad", func := "jalousie/jalousielaw29.ModelForgets", spec := "modelForgets", inPlace := ["maps.clone"], unfollowed := true, recurses := true, named := ["math/bits.deBruijn64tab", "unicode/utf8.first", "unicode/utf8.acceptRanges", "jalousie/op.names", "jalousie/crc.half"], plainKeys := false, apart := false, laid := [("math/bits.deBruijn64tab", laid_math_bits_deBruijn64tab), ("unicode/utf8.acceptRanges", laid_unicode_utf8_acceptRanges), ("jalousie/crc.half", laid_jalousie_crc_half), ("jalousie/op.names", laid_jalousie_op_names), ("unicode/utf8.first", laid_unicode_utf8_first)] }
def ModelForgetsSaid : Prop := modelForgetsRow.holds Tryz.pinned (OpenSpec.ofChange modelForgetsSpec)

/-- ITS FALSE NEIGHBOUR: 'it returns false'. Refute it at one input. -/
def modelForgetsWrong : ChangeSpec := { name := "modelForgets", fn := fun _ => fun
  | [d1, d2] => { results := [.lit (.bool false)], args := [d1, d2] }
  | _ => none }
def ModelForgetsWrongFalsely : Prop := modelForgetsRow.holds Tryz.pinned (OpenSpec.ofChange modelForgetsWrong)

/- THE SECOND FORM. 'bulk': how many values and letters a reading holds, each counted each time it is reached (what is shared counts as often as it is met; a slice's spare places count too). A statement '..UptoSaid' is the law's where the arguments, and the package variables that the reading takes, are together of bulk at most 1048576: NARROWER than '..Said'. Prove '..Said' where nothing that the law and all that it calls make is longer than what came in: it says more and counts as full. Else prove '..UptoSaid'. A law counts once. -/
mutual
def uptoBulk {H : Type} : DataW H → Nat
  | .lit (.string bytes) => bytes.length + 1
  | .lit _ => 1
  | .nil => 1
  | .ptr d => uptoBulk d + 1
  | .slice elems spare => uptoBulkAll elems + uptoBulkAll spare + 1
  | .agg parts => uptoBulkAll parts + 1
  | .iface _ d => uptoBulk d + 1
  | .map entries => uptoBulkEntries entries + 1
  | .held _ => 1
def uptoBulkAll {H : Type} : List (DataW H) → Nat
  | [] => 0
  | d :: r => uptoBulk d + uptoBulkAll r
def uptoBulkEntries {H : Type} : List (Lit × DataW H) → Nat
  | [] => 0
  | x :: r => uptoBulkEntry x + uptoBulkEntries r
def uptoBulkEntry {H : Type} : Lit × DataW H → Nat
  | (.string bytes, d) => bytes.length + uptoBulk d + 1
  | (_, d) => uptoBulk d + 1
 end
def uptoSmall : (H : Type) → List (DataW H) → Bool := fun _ ds => decide (uptoBulkAll ds ≤ 1048576)
def OpenSpec.upto (s : _root_.Go.ChangeSpec) : _root_.Go.OpenSpec := { _root_.Go.OpenSpec.ofChange s with cond := some uptoSmall }

/-- 'jalousielaw29.ModelDoes', WHERE WHAT IT READS IS OF BULK AT MOST 1048576: true; the input reads as it did. -/
def modelDoesUptoRow : OpenClaim := { program := "ytoepfmhnapedoaagreatdoor", sum := "a106f64d555609cf4b557c5af2f0d0e332c70360dfdf9c7e2813aafecff0b0ad", func := "jalousie/jalousielaw29.ModelDoes", spec := "modelDoes", inPlace := ["maps.clone"], unfollowed := true, recurses := true, named := ["math/bits.deBruijn64tab", "unicode/utf8.first", "unicode/utf8.acceptRanges", "jalousie/op.names", "jalousie/crc.half"], plainKeys := false, apart := false, laid := [("math/bits.deBruijn64tab", laid_math_bits_deBruijn64tab), ("unicode/utf8.acceptRanges", laid_unicode_utf8_acceptRanges), ("jalousie/crc.half", laid_jalousie_crc_half), ("jalousie/op.names", laid_jalousie_op_names), ("unicode/utf8.first", laid_unicode_utf8_first)], narrowed := true }
def ModelDoesUptoSaid : Prop := modelDoesUptoRow.holds Tryz.pinned (OpenSpec.upto modelDoesSpec)

/-- 'jalousielaw29.ModelHides', WHERE WHAT IT READS IS OF BULK AT MOST 1048576: true; the input reads as it did. -/
def modelHidesUptoRow : OpenClaim := { program := "ytoepfmhnapedoaagreatdoor", sum := "a106f64d555609cf4b557c5af2f0d0e332c70360dfdf9c7e2813aafecff0b0ad", func := "jalousie/jalousielaw29.ModelHides", spec := "modelHides", inPlace := ["maps.clone"], unfollowed := true, recurses := true, named := ["math/bits.deBruijn64tab", "unicode/utf8.first", "unicode/utf8.acceptRanges", "jalousie/op.names", "jalousie/crc.half"], plainKeys := false, apart := false, laid := [("math/bits.deBruijn64tab", laid_math_bits_deBruijn64tab), ("unicode/utf8.acceptRanges", laid_unicode_utf8_acceptRanges), ("jalousie/crc.half", laid_jalousie_crc_half), ("jalousie/op.names", laid_jalousie_op_names), ("unicode/utf8.first", laid_unicode_utf8_first)], narrowed := true }
def ModelHidesUptoSaid : Prop := modelHidesUptoRow.holds Tryz.pinned (OpenSpec.upto modelHidesSpec)

/-- 'jalousielaw29.ModelSnaps', WHERE WHAT IT READS IS OF BULK AT MOST 1048576: true; the input reads as it did. -/
def modelSnapsUptoRow : OpenClaim := { program := "ytoepfmhnapedoaagreatdoor", sum := "a106f64d555609cf4b557c5af2f0d0e332c70360dfdf9c7e2813aafecff0b0ad", func := "jalousie/jalousielaw29.ModelSnaps", spec := "modelSnaps", inPlace := ["maps.clone"], unfollowed := true, recurses := true, named := ["math/bits.deBruijn64tab", "unicode/utf8.first", "unicode/utf8.acceptRanges", "jalousie/op.names", "jalousie/crc.half"], plainKeys := false, apart := false, laid := [("math/bits.deBruijn64tab", laid_math_bits_deBruijn64tab), ("unicode/utf8.acceptRanges", laid_unicode_utf8_acceptRanges), ("jalousie/crc.half", laid_jalousie_crc_half), ("jalousie/op.names", laid_jalousie_op_names), ("unicode/utf8.first", laid_unicode_utf8_first)], narrowed := true }
def ModelSnapsUptoSaid : Prop := modelSnapsUptoRow.holds Tryz.pinned (OpenSpec.upto modelSnapsSpec)

/-- 'jalousielaw29.ModelRolls', WHERE WHAT IT READS IS OF BULK AT MOST 1048576: true; the input reads as it did. -/
def modelRollsUptoRow : OpenClaim := { program := "ytoepfmhnapedoaagreatdoor", sum := "a106f64d555609cf4b557c5af2f0d0e332c70360dfdf9c7e2813aafecff0b0ad", func := "jalousie/jalousielaw29.ModelRolls", spec := "modelRolls", inPlace := ["maps.clone"], unfollowed := true, recurses := true, named := ["math/bits.deBruijn64tab", "unicode/utf8.first", "unicode/utf8.acceptRanges", "jalousie/op.names", "jalousie/crc.half"], plainKeys := false, apart := false, laid := [("math/bits.deBruijn64tab", laid_math_bits_deBruijn64tab), ("unicode/utf8.acceptRanges", laid_unicode_utf8_acceptRanges), ("jalousie/crc.half", laid_jalousie_crc_half), ("jalousie/op.names", laid_jalousie_op_names), ("unicode/utf8.first", laid_unicode_utf8_first)], narrowed := true }
def ModelRollsUptoSaid : Prop := modelRollsUptoRow.holds Tryz.pinned (OpenSpec.upto modelRollsSpec)

/-- 'jalousielaw29.ModelForgets', WHERE WHAT IT READS IS OF BULK AT MOST 1048576: true; the input reads as it did. -/
def modelForgetsUptoRow : OpenClaim := { program := "ytoepfmhnapedoaagreatdoor", sum := "a106f64d555609cf4b557c5af2f0d0e332c70360dfdf9c7e2813aafecff0b0ad", func := "jalousie/jalousielaw29.ModelForgets", spec := "modelForgets", inPlace := ["maps.clone"], unfollowed := true, recurses := true, named := ["math/bits.deBruijn64tab", "unicode/utf8.first", "unicode/utf8.acceptRanges", "jalousie/op.names", "jalousie/crc.half"], plainKeys := false, apart := false, laid := [("math/bits.deBruijn64tab", laid_math_bits_deBruijn64tab), ("unicode/utf8.acceptRanges", laid_unicode_utf8_acceptRanges), ("jalousie/crc.half", laid_jalousie_crc_half), ("jalousie/op.names", laid_jalousie_op_names), ("unicode/utf8.first", laid_unicode_utf8_first)], narrowed := true }
def ModelForgetsUptoSaid : Prop := modelForgetsUptoRow.holds Tryz.pinned (OpenSpec.upto modelForgetsSpec)

end Rows
end Go.Proofs.YtoepfmhnapedoaaGreatDoor
