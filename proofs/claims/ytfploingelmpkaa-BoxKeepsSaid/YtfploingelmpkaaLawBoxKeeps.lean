/-
  BoxKeeps: for every input the law returns true and changes nothing.
-/
import Derived.Test.YtfploingelmpkaaWalkBx3
import Derived.Test.YtfploingelmpkaaRows
set_option linter.unusedVariables false
namespace Go.Proofs.Ytfploingelmpkaa.boxKeeps
open Go.Vc Go.ChangeShapes Go.WideShapes Go.ChangeAt Go.RowKit
attribute [local irreducible] TInt TBool TStr TPtr TSl TAgg TMap TChan T2 T3 T4 BS Req TSome TCell TByte LoadC LoadA StoreC AllocC RunV RunU CallV ExtV EqA StableC StableA StableV TCells ReadV

set_option maxRecDepth 100000 in
theorem lifted (os : Os) (started : os.Started) (H : Type) (enc : TypeId × Value → H) :
    ReturnsInHanded {} Try.checked os 3 .any (Rows.boxKeepsSpec.pre6 enc Try.prog Try.f3 Rows.boxKeepsRow.domain false) (Rows.boxKeepsSpec.post enc Try.prog Try.f3 false true false false) := by
  refine returnsInHanded_of_change (C := Try.checked) (by kernel_rfl) started (by kernel_rfl) Try.func3
    (ChangeSpec.witness6 (enc := enc) (C := Try.checked) false ⟨#[], #[.agg (MsgR.zero.cells (.slice none 0 0) (.slice none 0 0) (.slice none 0 0) (.slice none 0 0) (.slice none 0 0)).toArray, .int .u8 0], []⟩ 8 (by kernel_rfl) (by kernel_rfl) (by kernel_rfl) (by kernel_rfl)) ?_
  intro W base args ds gs before hval hW _ _
  refine law_post (f := 3) (by kernel_rfl) (by kernel_rfl) (by kernel_rfl) Try.underlying4 rfl (fun ds h => by match ds, h with | [_, _], _ => rfl) hW ?_
  obtain ⟨p, q, hA, _⟩ := hW
  rw [Try.params3] at hA hval
  obtain ⟨v0, _, _, _, _, _, hargs, rfl, rfl, h0, hA⟩ := trodAll_cons hA
  obtain ⟨v1, _, _, _, _, _, rfl, rfl, rfl, h1, hA⟩ := trodAll_cons hA
  obtain ⟨rfl, rfl, rfl⟩ := trodAll_nil hA
  obtain rfl : args = #[v0, v1] := by cases args; simp_all
  obtain ⟨m, mv, va, ua, vh, vb, e0, M, ok⟩ := TP.trod tp_msg h0
  obtain rfl := arg_struct Try.underlying37 (hval 0 _ v0 rfl rfl) e0
  obtain ⟨x, rfl, _, _, _⟩ := open_int Try.underlying5 (hval 1 _ v1 rfl rfl) h1
  exact walkBx.keeps m mv va ua vh vb x W M ok

theorem proved : Rows.BoxKeepsSaid :=
  OpenClaim.holds_of_wide 3 Try.f3 rfl rfl rfl rfl rfl rfl rfl ⟨rfl, rfl, rfl, rfl, rfl⟩ rfl rfl rfl rfl rfl (by kernel_rfl) Try.func3 (by kernel_rfl)
    (of_decide_eq_true (by kernel_rfl)) (by unfold Func.isWrapper; first | (rw [if_pos (by decide +kernel)]; kernel_rfl) | (rw [if_neg (by decide +kernel)]; exact ⟨rfl, rfl⟩))
    (fun os started H enc _ => lifted os started H enc)
end Go.Proofs.Ytfploingelmpkaa.boxKeeps
