/-
  No cell of these rows narrows 'for every input' (looked for: loops, veiled, ifaces, maps, wideKeys, modest, calm, conditions, laid).
  DERIVED. THE GIVEN ROWS OF THIS SEAT. 3 by the template 'for every input the law returns true; each argument reads behind the call as it read before'; 0 by the template 'total and deterministic' (their statements: YtfploingelmpkaaTotals.lean).
  GIVEN WITH THE SEED: the statements are not yours to turn. If you find one false, say at which input.
  Laid BY PROGRAM, IN A SANDBOX (cutbox-rows.mjs): the forced cells as the released guide's own fill.sh prints them over the translation b5c6df4a5277dec4… (all of the seat's roots in one cut). By AI agents, Wed Nov 11 2026. No macro, syntax, notation, axiom, sorry.
-/
import Derived.Test.YtfploingelmpkaaChecked
import GoSem.Claim
import GoSem.ClaimJoined
import GoSem.ClaimMapViews
import Derived.JoinedTies
import Derived.KernelRfl
namespace Go.Proofs.Ytfploingelmpkaa
/- THE CELL 'sum', in the pinned program and in every row, IS THE sha256 OF THE DUMP (.gsa) THAT YtfploingelmpkaaProg.lean LOADS. Nothing in Lean hashes anything: it is a label: what it is worth is what the hold of that sum in a sandbox is worth. -/
noncomputable def Try.pinned : Pinned := { name := "ytfploingelmpkaa", sum := "b5c6df4a5277dec475f8f82e28f71c4126eb0c5d9da48416f9d500abd12943f0", checked := Try.checked }
namespace Rows
def none {H : Type} : Left H := { results := [], args := [] }

/-- 'triremelaw22.BoxKeeps': WHATEVER THE INPUT: true; the input reads as it did. -/
def boxKeepsSpec : ChangeSpec := { name := "boxKeeps", fn := fun _ => fun
  | [d1, d2] => { results := [.lit (.bool true)], args := [d1, d2] }
  | _ => none }
def boxKeepsRow : OpenClaim := { program := "ytfploingelmpkaa", sum := "b5c6df4a5277dec475f8f82e28f71c4126eb0c5d9da48416f9d500abd12943f0", func := "trireme/triremelaw22.BoxKeeps", spec := "boxKeeps", apart := false }
def BoxKeepsSaid : Prop := boxKeepsRow.holds Try.pinned (OpenSpec.ofChange boxKeepsSpec)

/-- ITS FALSE NEIGHBOUR: 'it returns false'. Refute it at one input. -/
def boxKeepsWrong : ChangeSpec := { name := "boxKeeps", fn := fun _ => fun
  | [d1, d2] => { results := [.lit (.bool false)], args := [d1, d2] }
  | _ => none }
def BoxKeepsWrongFalsely : Prop := boxKeepsRow.holds Try.pinned (OpenSpec.ofChange boxKeepsWrong)

/-- 'triremelaw22.BoxPlays': WHATEVER THE INPUT: true; the input reads as it did. -/
def boxPlaysSpec : ChangeSpec := { name := "boxPlays", fn := fun _ => fun
  | [d1, d2] => { results := [.lit (.bool true)], args := [d1, d2] }
  | _ => none }
def boxPlaysRow : OpenClaim := { program := "ytfploingelmpkaa", sum := "b5c6df4a5277dec475f8f82e28f71c4126eb0c5d9da48416f9d500abd12943f0", func := "trireme/triremelaw22.BoxPlays", spec := "boxPlays", apart := false }
def BoxPlaysSaid : Prop := boxPlaysRow.holds Try.pinned (OpenSpec.ofChange boxPlaysSpec)

/-- ITS FALSE NEIGHBOUR: 'it returns false'. Refute it at one input. -/
def boxPlaysWrong : ChangeSpec := { name := "boxPlays", fn := fun _ => fun
  | [d1, d2] => { results := [.lit (.bool false)], args := [d1, d2] }
  | _ => none }
def BoxPlaysWrongFalsely : Prop := boxPlaysRow.holds Try.pinned (OpenSpec.ofChange boxPlaysWrong)

/-- 'triremelaw22.BoxOrder': WHATEVER THE INPUT: true; the input reads as it did. -/
def boxOrderSpec : ChangeSpec := { name := "boxOrder", fn := fun _ => fun
  | [d1, d2] => { results := [.lit (.bool true)], args := [d1, d2] }
  | _ => none }
def boxOrderRow : OpenClaim := { program := "ytfploingelmpkaa", sum := "b5c6df4a5277dec475f8f82e28f71c4126eb0c5d9da48416f9d500abd12943f0", func := "trireme/triremelaw22.BoxOrder", spec := "boxOrder", apart := false }
def BoxOrderSaid : Prop := boxOrderRow.holds Try.pinned (OpenSpec.ofChange boxOrderSpec)

/-- ITS FALSE NEIGHBOUR: 'it returns false'. Refute it at one input. -/
def boxOrderWrong : ChangeSpec := { name := "boxOrder", fn := fun _ => fun
  | [d1, d2] => { results := [.lit (.bool false)], args := [d1, d2] }
  | _ => none }
def BoxOrderWrongFalsely : Prop := boxOrderRow.holds Try.pinned (OpenSpec.ofChange boxOrderWrong)

/- THE SECOND FORM. 'bulk': how many values and letters a reading holds, each counted each time it is reached (what is shared counts as often as it is met; a slice's spare places count too). A statement '..UptoSaid' is the law's where the arguments, and the package variables that the reading takes, are together of bulk at most 1048576: NARROWER than '..Said'. Prove '..Said' where nothing that the law and all that it calls make is longer than what came in: it says more and counts as full. Else prove '..UptoSaid'. A law counts once. -/
mutual
def uptoBulk {H : Type} : DataW H → Nat
  | .lit (.string bytes) => bytes.length + 1
  | .lit _ => 1
  | .nil => 1
  | .ptr d => uptoBulk d + 1
  | .slice elems spare => uptoBulkAll elems + uptoBulkAll spare + 1
  | .agg parts => uptoBulkAll parts + 1
  | .iface _ d => uptoBulk d + 1
  | .map entries => uptoBulkEntries entries + 1
  | .held _ => 1
def uptoBulkAll {H : Type} : List (DataW H) → Nat
  | [] => 0
  | d :: r => uptoBulk d + uptoBulkAll r
def uptoBulkEntries {H : Type} : List (Lit × DataW H) → Nat
  | [] => 0
  | x :: r => uptoBulkEntry x + uptoBulkEntries r
def uptoBulkEntry {H : Type} : Lit × DataW H → Nat
  | (.string bytes, d) => bytes.length + uptoBulk d + 1
  | (_, d) => uptoBulk d + 1
 end
def uptoSmall : (H : Type) → List (DataW H) → Bool := fun _ ds => decide (uptoBulkAll ds ≤ 1048576)
def OpenSpec.upto (s : _root_.Go.ChangeSpec) : _root_.Go.OpenSpec := { _root_.Go.OpenSpec.ofChange s with cond := some uptoSmall }

/-- 'triremelaw22.BoxKeeps', WHERE WHAT IT READS IS OF BULK AT MOST 1048576: true; the input reads as it did. -/
def boxKeepsUptoRow : OpenClaim := { program := "ytfploingelmpkaa", sum := "b5c6df4a5277dec475f8f82e28f71c4126eb0c5d9da48416f9d500abd12943f0", func := "trireme/triremelaw22.BoxKeeps", spec := "boxKeeps", apart := false, narrowed := true }
def BoxKeepsUptoSaid : Prop := boxKeepsUptoRow.holds Try.pinned (OpenSpec.upto boxKeepsSpec)

/-- 'triremelaw22.BoxPlays', WHERE WHAT IT READS IS OF BULK AT MOST 1048576: true; the input reads as it did. -/
def boxPlaysUptoRow : OpenClaim := { program := "ytfploingelmpkaa", sum := "b5c6df4a5277dec475f8f82e28f71c4126eb0c5d9da48416f9d500abd12943f0", func := "trireme/triremelaw22.BoxPlays", spec := "boxPlays", apart := false, narrowed := true }
def BoxPlaysUptoSaid : Prop := boxPlaysUptoRow.holds Try.pinned (OpenSpec.upto boxPlaysSpec)

/-- 'triremelaw22.BoxOrder', WHERE WHAT IT READS IS OF BULK AT MOST 1048576: true; the input reads as it did. -/
def boxOrderUptoRow : OpenClaim := { program := "ytfploingelmpkaa", sum := "b5c6df4a5277dec475f8f82e28f71c4126eb0c5d9da48416f9d500abd12943f0", func := "trireme/triremelaw22.BoxOrder", spec := "boxOrder", apart := false, narrowed := true }
def BoxOrderUptoSaid : Prop := boxOrderUptoRow.holds Try.pinned (OpenSpec.upto boxOrderSpec)

end Rows
end Go.Proofs.Ytfploingelmpkaa
