/-
  No cell of these rows narrows 'for every input' (looked for: loops, veiled, ifaces, maps, wideKeys, modest, calm, conditions, laid).
  DERIVED. THE GIVEN ROWS OF THIS SEAT. 9 by the template 'for every input the law returns true; each argument reads behind the call as it read before'; 0 by the template 'total and deterministic' (their statements: YtpmpfahedbfppaaTotals.lean).
  GIVEN WITH THE SEED: the statements are not yours to turn. If you find one false, say at which input.
  Laid BY PROGRAM, IN A SANDBOX (cutbox-rows.mjs): the forced cells as the released guide's own fill.sh prints them over the translation 172205aff7b2632b… (all of the seat's roots in one cut). By AI agents, Wed Nov 11 2026. No macro, syntax, notation, axiom, sorry.
-/
import Derived.Test.YtpmpfahedbfppaaChecked
import GoSem.Claim
import GoSem.ClaimJoined
import GoSem.ClaimMapViews
import Derived.JoinedTies
import Derived.KernelRfl
namespace Go.Proofs.Ytpmpfahedbfppaa
/- THE CELL 'sum', in the pinned program and in every row, IS THE sha256 OF THE DUMP (.gsa) THAT YtpmpfahedbfppaaProg.lean LOADS. Nothing in Lean hashes anything: it is a label: what it is worth is what the hold of that sum in a sandbox is worth. -/
noncomputable def Try.pinned : Pinned := { name := "ytpmpfahedbfppaa", sum := "172205aff7b2632b40cae397b1cb7972d776be465ddd8bde8405ab21e8324fde", checked := Try.checked }
namespace Rows
def none {H : Type} : Left H := { results := [], args := [] }

/-- 'triremelaw02.PackWrites': WHATEVER THE INPUT: true; the input reads as it did. -/
def packWritesSpec : ChangeSpec := { name := "packWrites", fn := fun _ => fun
  | [d] => { results := [.lit (.bool true)], args := [d] }
  | _ => none }
def packWritesRow : OpenClaim := { program := "ytpmpfahedbfppaa", sum := "172205aff7b2632b40cae397b1cb7972d776be465ddd8bde8405ab21e8324fde", func := "trireme/triremelaw02.PackWrites", spec := "packWrites", apart := false }
def PackWritesSaid : Prop := packWritesRow.holds Try.pinned (OpenSpec.ofChange packWritesSpec)

/-- ITS FALSE NEIGHBOUR: 'it returns false'. Refute it at one input. -/
def packWritesWrong : ChangeSpec := { name := "packWrites", fn := fun _ => fun
  | [d] => { results := [.lit (.bool false)], args := [d] }
  | _ => none }
def PackWritesWrongFalsely : Prop := packWritesRow.holds Try.pinned (OpenSpec.ofChange packWritesWrong)

/-- 'triremelaw02.PackOrder': WHATEVER THE INPUT: true; the input reads as it did. -/
def packOrderSpec : ChangeSpec := { name := "packOrder", fn := fun _ => fun
  | [d1, d2, d3] => { results := [.lit (.bool true)], args := [d1, d2, d3] }
  | _ => none }
def packOrderRow : OpenClaim := { program := "ytpmpfahedbfppaa", sum := "172205aff7b2632b40cae397b1cb7972d776be465ddd8bde8405ab21e8324fde", func := "trireme/triremelaw02.PackOrder", spec := "packOrder", apart := false }
def PackOrderSaid : Prop := packOrderRow.holds Try.pinned (OpenSpec.ofChange packOrderSpec)

/-- ITS FALSE NEIGHBOUR: 'it returns false'. Refute it at one input. -/
def packOrderWrong : ChangeSpec := { name := "packOrder", fn := fun _ => fun
  | [d1, d2, d3] => { results := [.lit (.bool false)], args := [d1, d2, d3] }
  | _ => none }
def PackOrderWrongFalsely : Prop := packOrderRow.holds Try.pinned (OpenSpec.ofChange packOrderWrong)

/-- 'triremelaw02.PackReads': WHATEVER THE INPUT: true; the input reads as it did. -/
def packReadsSpec : ChangeSpec := { name := "packReads", fn := fun _ => fun
  | [d1, d2] => { results := [.lit (.bool true)], args := [d1, d2] }
  | _ => none }
def packReadsRow : OpenClaim := { program := "ytpmpfahedbfppaa", sum := "172205aff7b2632b40cae397b1cb7972d776be465ddd8bde8405ab21e8324fde", func := "trireme/triremelaw02.PackReads", spec := "packReads", apart := false }
def PackReadsSaid : Prop := packReadsRow.holds Try.pinned (OpenSpec.ofChange packReadsSpec)

/-- ITS FALSE NEIGHBOUR: 'it returns false'. Refute it at one input. -/
def packReadsWrong : ChangeSpec := { name := "packReads", fn := fun _ => fun
  | [d1, d2] => { results := [.lit (.bool false)], args := [d1, d2] }
  | _ => none }
def PackReadsWrongFalsely : Prop := packReadsRow.holds Try.pinned (OpenSpec.ofChange packReadsWrong)

/-- 'triremelaw02.PackBack': WHATEVER THE INPUT: true; the input reads as it did. -/
def packBackSpec : ChangeSpec := { name := "packBack", fn := fun _ => fun
  | [d] => { results := [.lit (.bool true)], args := [d] }
  | _ => none }
def packBackRow : OpenClaim := { program := "ytpmpfahedbfppaa", sum := "172205aff7b2632b40cae397b1cb7972d776be465ddd8bde8405ab21e8324fde", func := "trireme/triremelaw02.PackBack", spec := "packBack", apart := false }
def PackBackSaid : Prop := packBackRow.holds Try.pinned (OpenSpec.ofChange packBackSpec)

/-- ITS FALSE NEIGHBOUR: 'it returns false'. Refute it at one input. -/
def packBackWrong : ChangeSpec := { name := "packBack", fn := fun _ => fun
  | [d] => { results := [.lit (.bool false)], args := [d] }
  | _ => none }
def PackBackWrongFalsely : Prop := packBackRow.holds Try.pinned (OpenSpec.ofChange packBackWrong)

/-- 'triremelaw02.PackCuts': WHATEVER THE INPUT: true; the input reads as it did. -/
def packCutsSpec : ChangeSpec := { name := "packCuts", fn := fun _ => fun
  | [d1, d2] => { results := [.lit (.bool true)], args := [d1, d2] }
  | _ => none }
def packCutsRow : OpenClaim := { program := "ytpmpfahedbfppaa", sum := "172205aff7b2632b40cae397b1cb7972d776be465ddd8bde8405ab21e8324fde", func := "trireme/triremelaw02.PackCuts", spec := "packCuts", apart := false }
def PackCutsSaid : Prop := packCutsRow.holds Try.pinned (OpenSpec.ofChange packCutsSpec)

/-- ITS FALSE NEIGHBOUR: 'it returns false'. Refute it at one input. -/
def packCutsWrong : ChangeSpec := { name := "packCuts", fn := fun _ => fun
  | [d1, d2] => { results := [.lit (.bool false)], args := [d1, d2] }
  | _ => none }
def PackCutsWrongFalsely : Prop := packCutsRow.holds Try.pinned (OpenSpec.ofChange packCutsWrong)

/-- 'triremelaw10.OperNames': WHATEVER THE INPUT: true; the input reads as it did. -/
def operNamesSpec : ChangeSpec := { name := "operNames", fn := fun _ => fun
  | [] => { results := [.lit (.bool true)], args := [] }
  | _ => none }
def operNamesRow : OpenClaim := { program := "ytpmpfahedbfppaa", sum := "172205aff7b2632b40cae397b1cb7972d776be465ddd8bde8405ab21e8324fde", func := "trireme/triremelaw10.OperNames", spec := "operNames", unfollowed := true, recurses := true, apart := false }
def OperNamesSaid : Prop := operNamesRow.holds Try.pinned (OpenSpec.ofChange operNamesSpec)

/-- ITS FALSE NEIGHBOUR: 'it returns false'. Refute it at one input. -/
def operNamesWrong : ChangeSpec := { name := "operNames", fn := fun _ => fun
  | [] => { results := [.lit (.bool false)], args := [] }
  | _ => none }
def OperNamesWrongFalsely : Prop := operNamesRow.holds Try.pinned (OpenSpec.ofChange operNamesWrong)

/-- 'triremelaw10.OperApart': WHATEVER THE INPUT: true; the input reads as it did. -/
def operApartSpec : ChangeSpec := { name := "operApart", fn := fun _ => fun
  | [d1, d2] => { results := [.lit (.bool true)], args := [d1, d2] }
  | _ => none }
def operApartRow : OpenClaim := { program := "ytpmpfahedbfppaa", sum := "172205aff7b2632b40cae397b1cb7972d776be465ddd8bde8405ab21e8324fde", func := "trireme/triremelaw10.OperApart", spec := "operApart", unfollowed := true, recurses := true, apart := false }
def OperApartSaid : Prop := operApartRow.holds Try.pinned (OpenSpec.ofChange operApartSpec)

/-- ITS FALSE NEIGHBOUR: 'it returns false'. Refute it at one input. -/
def operApartWrong : ChangeSpec := { name := "operApart", fn := fun _ => fun
  | [d1, d2] => { results := [.lit (.bool false)], args := [d1, d2] }
  | _ => none }
def OperApartWrongFalsely : Prop := operApartRow.holds Try.pinned (OpenSpec.ofChange operApartWrong)

/-- 'triremelaw10.OperAnswers': WHATEVER THE INPUT: true; the input reads as it did. -/
def operAnswersSpec : ChangeSpec := { name := "operAnswers", fn := fun _ => fun
  | [d1, d2] => { results := [.lit (.bool true)], args := [d1, d2] }
  | _ => none }
def operAnswersRow : OpenClaim := { program := "ytpmpfahedbfppaa", sum := "172205aff7b2632b40cae397b1cb7972d776be465ddd8bde8405ab21e8324fde", func := "trireme/triremelaw10.OperAnswers", spec := "operAnswers", unfollowed := true, recurses := true, apart := false }
def OperAnswersSaid : Prop := operAnswersRow.holds Try.pinned (OpenSpec.ofChange operAnswersSpec)

/-- ITS FALSE NEIGHBOUR: 'it returns false'. Refute it at one input. -/
def operAnswersWrong : ChangeSpec := { name := "operAnswers", fn := fun _ => fun
  | [d1, d2] => { results := [.lit (.bool false)], args := [d1, d2] }
  | _ => none }
def OperAnswersWrongFalsely : Prop := operAnswersRow.holds Try.pinned (OpenSpec.ofChange operAnswersWrong)

/-- 'triremelaw10.OperWrites': WHATEVER THE INPUT: true; the input reads as it did. -/
def operWritesSpec : ChangeSpec := { name := "operWrites", fn := fun _ => fun
  | [d1, d2] => { results := [.lit (.bool true)], args := [d1, d2] }
  | _ => none }
def operWritesRow : OpenClaim := { program := "ytpmpfahedbfppaa", sum := "172205aff7b2632b40cae397b1cb7972d776be465ddd8bde8405ab21e8324fde", func := "trireme/triremelaw10.OperWrites", spec := "operWrites", unfollowed := true, recurses := true, apart := false }
def OperWritesSaid : Prop := operWritesRow.holds Try.pinned (OpenSpec.ofChange operWritesSpec)

/-- ITS FALSE NEIGHBOUR: 'it returns false'. Refute it at one input. -/
def operWritesWrong : ChangeSpec := { name := "operWrites", fn := fun _ => fun
  | [d1, d2] => { results := [.lit (.bool false)], args := [d1, d2] }
  | _ => none }
def OperWritesWrongFalsely : Prop := operWritesRow.holds Try.pinned (OpenSpec.ofChange operWritesWrong)

/- THE SECOND FORM. 'bulk': how many values and letters a reading holds, each counted each time it is reached (what is shared counts as often as it is met; a slice's spare places count too). A statement '..UptoSaid' is the law's where the arguments, and the package variables that the reading takes, are together of bulk at most 1048576: NARROWER than '..Said'. Prove '..Said' where nothing that the law and all that it calls make is longer than what came in: it says more and counts as full. Else prove '..UptoSaid'. A law counts once. -/
mutual
def uptoBulk {H : Type} : DataW H → Nat
  | .lit (.string bytes) => bytes.length + 1
  | .lit _ => 1
  | .nil => 1
  | .ptr d => uptoBulk d + 1
  | .slice elems spare => uptoBulkAll elems + uptoBulkAll spare + 1
  | .agg parts => uptoBulkAll parts + 1
  | .iface _ d => uptoBulk d + 1
  | .map entries => uptoBulkEntries entries + 1
  | .held _ => 1
def uptoBulkAll {H : Type} : List (DataW H) → Nat
  | [] => 0
  | d :: r => uptoBulk d + uptoBulkAll r
def uptoBulkEntries {H : Type} : List (Lit × DataW H) → Nat
  | [] => 0
  | x :: r => uptoBulkEntry x + uptoBulkEntries r
def uptoBulkEntry {H : Type} : Lit × DataW H → Nat
  | (.string bytes, d) => bytes.length + uptoBulk d + 1
  | (_, d) => uptoBulk d + 1
 end
def uptoSmall : (H : Type) → List (DataW H) → Bool := fun _ ds => decide (uptoBulkAll ds ≤ 1048576)
def OpenSpec.upto (s : _root_.Go.ChangeSpec) : _root_.Go.OpenSpec := { _root_.Go.OpenSpec.ofChange s with cond := some uptoSmall }

/-- 'triremelaw02.PackWrites', WHERE WHAT IT READS IS OF BULK AT MOST 1048576: true; the input reads as it did. -/
def packWritesUptoRow : OpenClaim := { program := "ytpmpfahedbfppaa", sum := "172205aff7b2632b40cae397b1cb7972d776be465ddd8bde8405ab21e8324fde", func := "trireme/triremelaw02.PackWrites", spec := "packWrites", apart := false, narrowed := true }
def PackWritesUptoSaid : Prop := packWritesUptoRow.holds Try.pinned (OpenSpec.upto packWritesSpec)

/-- 'triremelaw02.PackOrder', WHERE WHAT IT READS IS OF BULK AT MOST 1048576: true; the input reads as it did. -/
def packOrderUptoRow : OpenClaim := { program := "ytpmpfahedbfppaa", sum := "172205aff7b2632b40cae397b1cb7972d776be465ddd8bde8405ab21e8324fde", func := "trireme/triremelaw02.PackOrder", spec := "packOrder", apart := false, narrowed := true }
def PackOrderUptoSaid : Prop := packOrderUptoRow.holds Try.pinned (OpenSpec.upto packOrderSpec)

/-- 'triremelaw02.PackReads', WHERE WHAT IT READS IS OF BULK AT MOST 1048576: true; the input reads as it did. -/
def packReadsUptoRow : OpenClaim := { program := "ytpmpfahedbfppaa", sum := "172205aff7b2632b40cae397b1cb7972d776be465ddd8bde8405ab21e8324fde", func := "trireme/triremelaw02.PackReads", spec := "packReads", apart := false, narrowed := true }
def PackReadsUptoSaid : Prop := packReadsUptoRow.holds Try.pinned (OpenSpec.upto packReadsSpec)

/-- 'triremelaw02.PackBack', WHERE WHAT IT READS IS OF BULK AT MOST 1048576: true; the input reads as it did. -/
def packBackUptoRow : OpenClaim := { program := "ytpmpfahedbfppaa", sum := "172205aff7b2632b40cae397b1cb7972d776be465ddd8bde8405ab21e8324fde", func := "trireme/triremelaw02.PackBack", spec := "packBack", apart := false, narrowed := true }
def PackBackUptoSaid : Prop := packBackUptoRow.holds Try.pinned (OpenSpec.upto packBackSpec)

/-- 'triremelaw02.PackCuts', WHERE WHAT IT READS IS OF BULK AT MOST 1048576: true; the input reads as it did. -/
def packCutsUptoRow : OpenClaim := { program := "ytpmpfahedbfppaa", sum := "172205aff7b2632b40cae397b1cb7972d776be465ddd8bde8405ab21e8324fde", func := "trireme/triremelaw02.PackCuts", spec := "packCuts", apart := false, narrowed := true }
def PackCutsUptoSaid : Prop := packCutsUptoRow.holds Try.pinned (OpenSpec.upto packCutsSpec)

/-- 'triremelaw10.OperNames', WHERE WHAT IT READS IS OF BULK AT MOST 1048576: true; the input reads as it did. -/
def operNamesUptoRow : OpenClaim := { program := "ytpmpfahedbfppaa", sum := "172205aff7b2632b40cae397b1cb7972d776be465ddd8bde8405ab21e8324fde", func := "trireme/triremelaw10.OperNames", spec := "operNames", unfollowed := true, recurses := true, apart := false, narrowed := true }
def OperNamesUptoSaid : Prop := operNamesUptoRow.holds Try.pinned (OpenSpec.upto operNamesSpec)

/-- 'triremelaw10.OperApart', WHERE WHAT IT READS IS OF BULK AT MOST 1048576: true; the input reads as it did. -/
def operApartUptoRow : OpenClaim := { program := "ytpmpfahedbfppaa", sum := "172205aff7b2632b40cae397b1cb7972d776be465ddd8bde8405ab21e8324fde", func := "trireme/triremelaw10.OperApart", spec := "operApart", unfollowed := true, recurses := true, apart := false, narrowed := true }
def OperApartUptoSaid : Prop := operApartUptoRow.holds Try.pinned (OpenSpec.upto operApartSpec)

/-- 'triremelaw10.OperAnswers', WHERE WHAT IT READS IS OF BULK AT MOST 1048576: true; the input reads as it did. -/
def operAnswersUptoRow : OpenClaim := { program := "ytpmpfahedbfppaa", sum := "172205aff7b2632b40cae397b1cb7972d776be465ddd8bde8405ab21e8324fde", func := "trireme/triremelaw10.OperAnswers", spec := "operAnswers", unfollowed := true, recurses := true, apart := false, narrowed := true }
def OperAnswersUptoSaid : Prop := operAnswersUptoRow.holds Try.pinned (OpenSpec.upto operAnswersSpec)

/-- 'triremelaw10.OperWrites', WHERE WHAT IT READS IS OF BULK AT MOST 1048576: true; the input reads as it did. -/
def operWritesUptoRow : OpenClaim := { program := "ytpmpfahedbfppaa", sum := "172205aff7b2632b40cae397b1cb7972d776be465ddd8bde8405ab21e8324fde", func := "trireme/triremelaw10.OperWrites", spec := "operWrites", unfollowed := true, recurses := true, apart := false, narrowed := true }
def OperWritesUptoSaid : Prop := operWritesUptoRow.holds Try.pinned (OpenSpec.upto operWritesSpec)

end Rows
end Go.Proofs.Ytpmpfahedbfppaa
