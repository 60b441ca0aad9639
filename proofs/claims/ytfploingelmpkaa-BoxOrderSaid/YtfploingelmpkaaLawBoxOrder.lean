/-
  BoxOrder: for every input the law returns true and changes nothing.
-/
import Derived.Test.YtfploingelmpkaaArgB
import Derived.Test.YtfploingelmpkaaRows
set_option linter.unusedVariables false
namespace Go.Proofs.Ytfploingelmpkaa.boxOrder
open Go.Vc Go.ChangeShapes Go.WideShapes Go.ChangeAt Go.RowKit
attribute [local irreducible] TInt TBool TStr TPtr TSl TAgg TMap TChan T2 T3 T4 BS Req TSome TCell TByte LoadC LoadA StoreC AllocC RunV RunU CallV ExtV EqA StableC StableA StableV TCells ReadV

set_option maxRecDepth 100000 in
theorem lifted (os : Os) (started : os.Started) (H : Type) (enc : TypeId × Value → H) :
    ReturnsInHanded {} Try.checked os 5 .any (Rows.boxOrderSpec.pre6 enc Try.prog Try.f5 Rows.boxOrderRow.domain false) (Rows.boxOrderSpec.post enc Try.prog Try.f5 false true false false) := by
  refine returnsInHanded_of_change (C := Try.checked) (by kernel_rfl) started (by kernel_rfl) Try.func5
    (ChangeSpec.witness6 (enc := enc) (C := Try.checked) false ⟨#[], #[.int .i64 1, .slice none 0 0], []⟩ 8 (by kernel_rfl) (by kernel_rfl) (by kernel_rfl) (by kernel_rfl)) ?_
  intro W base args ds gs before hval hW _ _
  refine law_post (f := 5) (by kernel_rfl) (by kernel_rfl) (by kernel_rfl) Try.underlying4 rfl (fun ds h => by match ds, h with | [_, _], _ => rfl) hW ?_
  obtain ⟨p, q, hA, _⟩ := hW
  rw [Try.params5] at hA hval
  obtain ⟨v0, _, _, _, _, _, hargs, rfl, rfl, h0, hA⟩ := trodAll_cons hA
  obtain ⟨v1, _, _, _, _, _, rfl, rfl, rfl, h1, hA⟩ := trodAll_cons hA
  obtain ⟨rfl, rfl, rfl⟩ := trodAll_nil hA
  obtain rfl : args = #[v0, v1] := by cases args; simp_all
  obtain ⟨n0, rfl, _, _, _⟩ := open_int Try.underlying3 (hval 0 _ v0 rfl rfl) h0
  obtain ⟨x1, l1, e1, hr1, _⟩ := TP.trod tp_u64s h1
  obtain rfl := arg_slice Try.underlying58 (hval 1 _ v1 rfl rfl) e1
  obtain ⟨o1, p1, rfl⟩ := hr1.form
  exact walkBx.order n0 l1 o1 p1 W hr1

theorem proved : Rows.BoxOrderSaid :=
  OpenClaim.holds_of_wide 5 Try.f5 rfl rfl rfl rfl rfl rfl rfl ⟨rfl, rfl, rfl, rfl, rfl⟩ rfl rfl rfl rfl rfl (by kernel_rfl) Try.func5 (by kernel_rfl)
    (of_decide_eq_true (by kernel_rfl)) (by unfold Func.isWrapper; first | (rw [if_pos (by decide +kernel)]; kernel_rfl) | (rw [if_neg (by decide +kernel)]; exact ⟨rfl, rfl⟩))
    (fun os started H enc _ => lifted os started H enc)
end Go.Proofs.Ytfploingelmpkaa.boxOrder
