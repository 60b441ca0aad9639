/-
  NodeReads: for every input the law returns true and changes nothing.
-/
import Derived.Test.YthkboikbpbcdeaaWalkNode
import Derived.Test.YthkboikbpbcdeaaApiN
import Derived.Test.YthkboikbpbcdeaaRows
set_option linter.unusedVariables false
namespace Go.Proofs.Ythkboikbpbcdeaa.nodeReads
open Go.Vc Go.ChangeShapes Go.WideShapes Go.ChangeAt Go.RowKit
attribute [local irreducible] TInt TBool TStr TPtr TSl TAgg TMap TChan T2 T3 T4 BS Req TSome TCell TByte LoadC LoadA StoreC AllocC RunV RunU CallV ExtV EqA StableC StableA StableV TCells ReadV

set_option maxRecDepth 100000 in
theorem lifted (os : Os) (started : os.Started) (H : Type) (enc : TypeId × Value → H) :
    ReturnsInHanded {} Try.checked os 8 .any (Rows.nodeReadsSpec.pre6 enc Try.prog Try.f8 Rows.nodeReadsRow.domain false) (Rows.nodeReadsSpec.post enc Try.prog Try.f8 false true false false) := by
  refine returnsInHanded_of_change (C := Try.checked) (by kernel_rfl) started (by kernel_rfl) Try.func8
    (ChangeSpec.witness6 (enc := enc) (C := Try.checked) false ⟨#[], #[.slice none 0 0], []⟩ 8 (by kernel_rfl) (by kernel_rfl) (by kernel_rfl) (by kernel_rfl)) ?_
  intro W base args ds gs before hval hW _ _
  refine law_post (f := 8) (by kernel_rfl) (by kernel_rfl) (by kernel_rfl) Try.underlying4 rfl (fun ds h => by match ds, h with | [_], _ => rfl) hW ?_
  obtain ⟨p, q, hA, _⟩ := hW
  rw [Try.params8] at hA hval
  obtain ⟨v0, _, _, _, _, _, hargs, rfl, rfl, h0, hA⟩ := trodAll_cons hA
  obtain ⟨rfl, rfl, rfl⟩ := trodAll_nil hA
  obtain rfl : args = #[v0] := by cases args; simp_all
  obtain ⟨x0, l0, e0, _, r0⟩ := TP.trod (tp_bytes Try.underlying22 Try.underlying5 (by kernel_rfl)) h0
  obtain rfl := arg_slice Try.underlying22 (hval 0 _ v0 rfl rfl) e0
  exact walkNode.reads x0 l0 W r0

theorem proved : Rows.NodeReadsSaid :=
  OpenClaim.holds_of_wide 8 Try.f8 rfl rfl rfl rfl rfl rfl rfl ⟨rfl, rfl, rfl, rfl, rfl⟩ rfl rfl rfl rfl rfl (by kernel_rfl) Try.func8 (by kernel_rfl)
    (of_decide_eq_true (by kernel_rfl)) (by unfold Func.isWrapper; first | (rw [if_pos (by decide +kernel)]; kernel_rfl) | (rw [if_neg (by decide +kernel)]; exact ⟨rfl, rfl⟩))
    (fun os started H enc _ => lifted os started H enc)
end Go.Proofs.Ythkboikbpbcdeaa.nodeReads
