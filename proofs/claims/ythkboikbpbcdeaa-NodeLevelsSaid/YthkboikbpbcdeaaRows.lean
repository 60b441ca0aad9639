/-
  No cell of these rows narrows 'for every input' (looked for: loops, veiled, ifaces, maps, wideKeys, modest, calm, conditions, laid).
  DERIVED. THE GIVEN ROWS OF THIS SEAT. 8 by the template 'for every input the law returns true; each argument reads behind the call as it read before'; 0 by the template 'total and deterministic' (their statements: YthkboikbpbcdeaaTotals.lean).
  GIVEN WITH THE SEED: the statements are not yours to turn. If you find one false, say at which input.
  Laid BY PROGRAM, IN A SANDBOX (cutbox-rows.mjs): the forced cells as the released guide's own fill.sh prints them over the translation 102fe6e91fe27a8c… (all of the seat's roots in one cut). By AI agents, Wed Nov 11 2026. No macro, syntax, notation, axiom, sorry.
-/
import Derived.Test.YthkboikbpbcdeaaChecked
import GoSem.Claim
import GoSem.ClaimJoined
import GoSem.ClaimMapViews
import Derived.JoinedTies
import Derived.KernelRfl
namespace Go.Proofs.Ythkboikbpbcdeaa
/- THE CELL 'sum', in the pinned program and in every row, IS THE sha256 OF THE DUMP (.gsa) THAT YthkboikbpbcdeaaProg.lean LOADS. Nothing in Lean hashes anything: it is a label: what it is worth is what the hold of that sum in a sandbox is worth. -/
noncomputable def Try.pinned : Pinned := { name := "ythkboikbpbcdeaa", sum := "102fe6e91fe27a8cf4f80da89e666107e38b7211533b41fe7de5c2869f2ec706", checked := Try.checked }
namespace Rows
def none {H : Type} : Left H := { results := [], args := [] }

/-- 'triremelaw06.ShapeMarks': WHATEVER THE INPUT: true; the input reads as it did. -/
def shapeMarksSpec : ChangeSpec := { name := "shapeMarks", fn := fun _ => fun
  | [d1, d2] => { results := [.lit (.bool true)], args := [d1, d2] }
  | _ => none }
def shapeMarksRow : OpenClaim := { program := "ythkboikbpbcdeaa", sum := "102fe6e91fe27a8cf4f80da89e666107e38b7211533b41fe7de5c2869f2ec706", func := "trireme/triremelaw06.ShapeMarks", spec := "shapeMarks", unfollowed := true, recurses := true, apart := false }
def ShapeMarksSaid : Prop := shapeMarksRow.holds Try.pinned (OpenSpec.ofChange shapeMarksSpec)

/-- ITS FALSE NEIGHBOUR: 'it returns false'. Refute it at one input. -/
def shapeMarksWrong : ChangeSpec := { name := "shapeMarks", fn := fun _ => fun
  | [d1, d2] => { results := [.lit (.bool false)], args := [d1, d2] }
  | _ => none }
def ShapeMarksWrongFalsely : Prop := shapeMarksRow.holds Try.pinned (OpenSpec.ofChange shapeMarksWrong)

/-- 'triremelaw06.ShapeInner': WHATEVER THE INPUT: true; the input reads as it did. -/
def shapeInnerSpec : ChangeSpec := { name := "shapeInner", fn := fun _ => fun
  | [d1, d2] => { results := [.lit (.bool true)], args := [d1, d2] }
  | _ => none }
def shapeInnerRow : OpenClaim := { program := "ythkboikbpbcdeaa", sum := "102fe6e91fe27a8cf4f80da89e666107e38b7211533b41fe7de5c2869f2ec706", func := "trireme/triremelaw06.ShapeInner", spec := "shapeInner", unfollowed := true, recurses := true, apart := false }
def ShapeInnerSaid : Prop := shapeInnerRow.holds Try.pinned (OpenSpec.ofChange shapeInnerSpec)

/-- ITS FALSE NEIGHBOUR: 'it returns false'. Refute it at one input. -/
def shapeInnerWrong : ChangeSpec := { name := "shapeInner", fn := fun _ => fun
  | [d1, d2] => { results := [.lit (.bool false)], args := [d1, d2] }
  | _ => none }
def ShapeInnerWrongFalsely : Prop := shapeInnerRow.holds Try.pinned (OpenSpec.ofChange shapeInnerWrong)

/-- 'triremelaw06.ShapeLocal': WHATEVER THE INPUT: true; the input reads as it did. -/
def shapeLocalSpec : ChangeSpec := { name := "shapeLocal", fn := fun _ => fun
  | [d1, d2] => { results := [.lit (.bool true)], args := [d1, d2] }
  | _ => none }
def shapeLocalRow : OpenClaim := { program := "ythkboikbpbcdeaa", sum := "102fe6e91fe27a8cf4f80da89e666107e38b7211533b41fe7de5c2869f2ec706", func := "trireme/triremelaw06.ShapeLocal", spec := "shapeLocal", unfollowed := true, recurses := true, apart := false }
def ShapeLocalSaid : Prop := shapeLocalRow.holds Try.pinned (OpenSpec.ofChange shapeLocalSpec)

/-- ITS FALSE NEIGHBOUR: 'it returns false'. Refute it at one input. -/
def shapeLocalWrong : ChangeSpec := { name := "shapeLocal", fn := fun _ => fun
  | [d1, d2] => { results := [.lit (.bool false)], args := [d1, d2] }
  | _ => none }
def ShapeLocalWrongFalsely : Prop := shapeLocalRow.holds Try.pinned (OpenSpec.ofChange shapeLocalWrong)

/-- 'triremelaw06.ShapeSums': WHATEVER THE INPUT: true; the input reads as it did. -/
def shapeSumsSpec : ChangeSpec := { name := "shapeSums", fn := fun _ => fun
  | [d1, d2] => { results := [.lit (.bool true)], args := [d1, d2] }
  | _ => none }
def shapeSumsRow : OpenClaim := { program := "ythkboikbpbcdeaa", sum := "102fe6e91fe27a8cf4f80da89e666107e38b7211533b41fe7de5c2869f2ec706", func := "trireme/triremelaw06.ShapeSums", spec := "shapeSums", unfollowed := true, recurses := true, apart := false }
def ShapeSumsSaid : Prop := shapeSumsRow.holds Try.pinned (OpenSpec.ofChange shapeSumsSpec)

/-- ITS FALSE NEIGHBOUR: 'it returns false'. Refute it at one input. -/
def shapeSumsWrong : ChangeSpec := { name := "shapeSums", fn := fun _ => fun
  | [d1, d2] => { results := [.lit (.bool false)], args := [d1, d2] }
  | _ => none }
def ShapeSumsWrongFalsely : Prop := shapeSumsRow.holds Try.pinned (OpenSpec.ofChange shapeSumsWrong)

/-- 'triremelaw07.NodeWrites': WHATEVER THE INPUT: true; the input reads as it did. -/
def nodeWritesSpec : ChangeSpec := { name := "nodeWrites", fn := fun _ => fun
  | [d] => { results := [.lit (.bool true)], args := [d] }
  | _ => none }
def nodeWritesRow : OpenClaim := { program := "ythkboikbpbcdeaa", sum := "102fe6e91fe27a8cf4f80da89e666107e38b7211533b41fe7de5c2869f2ec706", func := "trireme/triremelaw07.NodeWrites", spec := "nodeWrites", inPlace := ["internal/bytealg.Compare"], unfollowed := true, recurses := true, apart := false }
def NodeWritesSaid : Prop := nodeWritesRow.holds Try.pinned (OpenSpec.ofChange nodeWritesSpec)

/-- ITS FALSE NEIGHBOUR: 'it returns false'. Refute it at one input. -/
def nodeWritesWrong : ChangeSpec := { name := "nodeWrites", fn := fun _ => fun
  | [d] => { results := [.lit (.bool false)], args := [d] }
  | _ => none }
def NodeWritesWrongFalsely : Prop := nodeWritesRow.holds Try.pinned (OpenSpec.ofChange nodeWritesWrong)

/-- 'triremelaw07.NodeReads': WHATEVER THE INPUT: true; the input reads as it did. -/
def nodeReadsSpec : ChangeSpec := { name := "nodeReads", fn := fun _ => fun
  | [d] => { results := [.lit (.bool true)], args := [d] }
  | _ => none }
def nodeReadsRow : OpenClaim := { program := "ythkboikbpbcdeaa", sum := "102fe6e91fe27a8cf4f80da89e666107e38b7211533b41fe7de5c2869f2ec706", func := "trireme/triremelaw07.NodeReads", spec := "nodeReads", inPlace := ["internal/bytealg.Compare"], unfollowed := true, recurses := true, apart := false }
def NodeReadsSaid : Prop := nodeReadsRow.holds Try.pinned (OpenSpec.ofChange nodeReadsSpec)

/-- ITS FALSE NEIGHBOUR: 'it returns false'. Refute it at one input. -/
def nodeReadsWrong : ChangeSpec := { name := "nodeReads", fn := fun _ => fun
  | [d] => { results := [.lit (.bool false)], args := [d] }
  | _ => none }
def NodeReadsWrongFalsely : Prop := nodeReadsRow.holds Try.pinned (OpenSpec.ofChange nodeReadsWrong)

/-- 'triremelaw07.NodeBack': WHATEVER THE INPUT: true; the input reads as it did. -/
def nodeBackSpec : ChangeSpec := { name := "nodeBack", fn := fun _ => fun
  | [d1, d2] => { results := [.lit (.bool true)], args := [d1, d2] }
  | _ => none }
def nodeBackRow : OpenClaim := { program := "ythkboikbpbcdeaa", sum := "102fe6e91fe27a8cf4f80da89e666107e38b7211533b41fe7de5c2869f2ec706", func := "trireme/triremelaw07.NodeBack", spec := "nodeBack", inPlace := ["internal/bytealg.Compare"], unfollowed := true, recurses := true, apart := false }
def NodeBackSaid : Prop := nodeBackRow.holds Try.pinned (OpenSpec.ofChange nodeBackSpec)

/-- ITS FALSE NEIGHBOUR: 'it returns false'. Refute it at one input. -/
def nodeBackWrong : ChangeSpec := { name := "nodeBack", fn := fun _ => fun
  | [d1, d2] => { results := [.lit (.bool false)], args := [d1, d2] }
  | _ => none }
def NodeBackWrongFalsely : Prop := nodeBackRow.holds Try.pinned (OpenSpec.ofChange nodeBackWrong)

/-- 'triremelaw07.NodeLevels': WHATEVER THE INPUT: true; the input reads as it did. -/
def nodeLevelsSpec : ChangeSpec := { name := "nodeLevels", fn := fun _ => fun
  | [d1, d2] => { results := [.lit (.bool true)], args := [d1, d2] }
  | _ => none }
def nodeLevelsRow : OpenClaim := { program := "ythkboikbpbcdeaa", sum := "102fe6e91fe27a8cf4f80da89e666107e38b7211533b41fe7de5c2869f2ec706", func := "trireme/triremelaw07.NodeLevels", spec := "nodeLevels", inPlace := ["internal/bytealg.Compare"], unfollowed := true, recurses := true, apart := false }
def NodeLevelsSaid : Prop := nodeLevelsRow.holds Try.pinned (OpenSpec.ofChange nodeLevelsSpec)

/-- ITS FALSE NEIGHBOUR: 'it returns false'. Refute it at one input. -/
def nodeLevelsWrong : ChangeSpec := { name := "nodeLevels", fn := fun _ => fun
  | [d1, d2] => { results := [.lit (.bool false)], args := [d1, d2] }
  | _ => none }
def NodeLevelsWrongFalsely : Prop := nodeLevelsRow.holds Try.pinned (OpenSpec.ofChange nodeLevelsWrong)

/- THE SECOND FORM. 'bulk': how many values and letters a reading holds, each counted each time it is reached (what is shared counts as often as it is met; a slice's spare places count too). A statement '..UptoSaid' is the law's where the arguments, and the package variables that the reading takes, are together of bulk at most 1048576: NARROWER than '..Said'. Prove '..Said' where nothing that the law and all that it calls make is longer than what came in: it says more and counts as full. Else prove '..UptoSaid'. A law counts once. -/
mutual
def uptoBulk {H : Type} : DataW H → Nat
  | .lit (.string bytes) => bytes.length + 1
  | .lit _ => 1
  | .nil => 1
  | .ptr d => uptoBulk d + 1
  | .slice elems spare => uptoBulkAll elems + uptoBulkAll spare + 1
  | .agg parts => uptoBulkAll parts + 1
  | .iface _ d => uptoBulk d + 1
  | .map entries => uptoBulkEntries entries + 1
  | .held _ => 1
def uptoBulkAll {H : Type} : List (DataW H) → Nat
  | [] => 0
  | d :: r => uptoBulk d + uptoBulkAll r
def uptoBulkEntries {H : Type} : List (Lit × DataW H) → Nat
  | [] => 0
  | x :: r => uptoBulkEntry x + uptoBulkEntries r
def uptoBulkEntry {H : Type} : Lit × DataW H → Nat
  | (.string bytes, d) => bytes.length + uptoBulk d + 1
  | (_, d) => uptoBulk d + 1
 end
def uptoSmall : (H : Type) → List (DataW H) → Bool := fun _ ds => decide (uptoBulkAll ds ≤ 1048576)
def OpenSpec.upto (s : _root_.Go.ChangeSpec) : _root_.Go.OpenSpec := { _root_.Go.OpenSpec.ofChange s with cond := some uptoSmall }

/-- 'triremelaw06.ShapeMarks', WHERE WHAT IT READS IS OF BULK AT MOST 1048576: true; the input reads as it did. -/
def shapeMarksUptoRow : OpenClaim := { program := "ythkboikbpbcdeaa", sum := "102fe6e91fe27a8cf4f80da89e666107e38b7211533b41fe7de5c2869f2ec706", func := "trireme/triremelaw06.ShapeMarks", spec := "shapeMarks", unfollowed := true, recurses := true, apart := false, narrowed := true }
def ShapeMarksUptoSaid : Prop := shapeMarksUptoRow.holds Try.pinned (OpenSpec.upto shapeMarksSpec)

/-- 'triremelaw06.ShapeInner', WHERE WHAT IT READS IS OF BULK AT MOST 1048576: true; the input reads as it did. -/
def shapeInnerUptoRow : OpenClaim := { program := "ythkboikbpbcdeaa", sum := "102fe6e91fe27a8cf4f80da89e666107e38b7211533b41fe7de5c2869f2ec706", func := "trireme/triremelaw06.ShapeInner", spec := "shapeInner", unfollowed := true, recurses := true, apart := false, narrowed := true }
def ShapeInnerUptoSaid : Prop := shapeInnerUptoRow.holds Try.pinned (OpenSpec.upto shapeInnerSpec)

/-- 'triremelaw06.ShapeLocal', WHERE WHAT IT READS IS OF BULK AT MOST 1048576: true; the input reads as it did. -/
def shapeLocalUptoRow : OpenClaim := { program := "ythkboikbpbcdeaa", sum := "102fe6e91fe27a8cf4f80da89e666107e38b7211533b41fe7de5c2869f2ec706", func := "trireme/triremelaw06.ShapeLocal", spec := "shapeLocal", unfollowed := true, recurses := true, apart := false, narrowed := true }
def ShapeLocalUptoSaid : Prop := shapeLocalUptoRow.holds Try.pinned (OpenSpec.upto shapeLocalSpec)

/-- 'triremelaw06.ShapeSums', WHERE WHAT IT READS IS OF BULK AT MOST 1048576: true; the input reads as it did. -/
def shapeSumsUptoRow : OpenClaim := { program := "ythkboikbpbcdeaa", sum := "102fe6e91fe27a8cf4f80da89e666107e38b7211533b41fe7de5c2869f2ec706", func := "trireme/triremelaw06.ShapeSums", spec := "shapeSums", unfollowed := true, recurses := true, apart := false, narrowed := true }
def ShapeSumsUptoSaid : Prop := shapeSumsUptoRow.holds Try.pinned (OpenSpec.upto shapeSumsSpec)

/-- 'triremelaw07.NodeWrites', WHERE WHAT IT READS IS OF BULK AT MOST 1048576: true; the input reads as it did. -/
def nodeWritesUptoRow : OpenClaim := { program := "ythkboikbpbcdeaa", sum := "102fe6e91fe27a8cf4f80da89e666107e38b7211533b41fe7de5c2869f2ec706", func := "trireme/triremelaw07.NodeWrites", spec := "nodeWrites", inPlace := ["internal/bytealg.Compare"], unfollowed := true, recurses := true, apart := false, narrowed := true }
def NodeWritesUptoSaid : Prop := nodeWritesUptoRow.holds Try.pinned (OpenSpec.upto nodeWritesSpec)

/-- 'triremelaw07.NodeReads', WHERE WHAT IT READS IS OF BULK AT MOST 1048576: true; the input reads as it did. -/
def nodeReadsUptoRow : OpenClaim := { program := "ythkboikbpbcdeaa", sum := "102fe6e91fe27a8cf4f80da89e666107e38b7211533b41fe7de5c2869f2ec706", func := "trireme/triremelaw07.NodeReads", spec := "nodeReads", inPlace := ["internal/bytealg.Compare"], unfollowed := true, recurses := true, apart := false, narrowed := true }
def NodeReadsUptoSaid : Prop := nodeReadsUptoRow.holds Try.pinned (OpenSpec.upto nodeReadsSpec)

/-- 'triremelaw07.NodeBack', WHERE WHAT IT READS IS OF BULK AT MOST 1048576: true; the input reads as it did. -/
def nodeBackUptoRow : OpenClaim := { program := "ythkboikbpbcdeaa", sum := "102fe6e91fe27a8cf4f80da89e666107e38b7211533b41fe7de5c2869f2ec706", func := "trireme/triremelaw07.NodeBack", spec := "nodeBack", inPlace := ["internal/bytealg.Compare"], unfollowed := true, recurses := true, apart := false, narrowed := true }
def NodeBackUptoSaid : Prop := nodeBackUptoRow.holds Try.pinned (OpenSpec.upto nodeBackSpec)

/-- 'triremelaw07.NodeLevels', WHERE WHAT IT READS IS OF BULK AT MOST 1048576: true; the input reads as it did. -/
def nodeLevelsUptoRow : OpenClaim := { program := "ythkboikbpbcdeaa", sum := "102fe6e91fe27a8cf4f80da89e666107e38b7211533b41fe7de5c2869f2ec706", func := "trireme/triremelaw07.NodeLevels", spec := "nodeLevels", inPlace := ["internal/bytealg.Compare"], unfollowed := true, recurses := true, apart := false, narrowed := true }
def NodeLevelsUptoSaid : Prop := nodeLevelsUptoRow.holds Try.pinned (OpenSpec.upto nodeLevelsSpec)

end Rows
end Go.Proofs.Ythkboikbpbcdeaa
