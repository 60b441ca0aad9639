/-
  DiskLasts: for every input the law returns true and changes nothing.
-/
import Derived.Test.YteliekblhcbmgaaWalkDisk4
import Derived.Test.YteliekblhcbmgaaArgD
import Derived.Test.YteliekblhcbmgaaRows
set_option linter.unusedVariables false
namespace Go.Proofs.Yteliekblhcbmgaa.diskLasts
open Go.Vc Go.ChangeShapes Go.WideShapes Go.ChangeAt Go.RowKit
attribute [local irreducible] TInt TBool TStr TPtr TSl TAgg TMap TChan T2 T3 T4 BS Req TSome TCell TByte LoadC LoadA StoreC AllocC RunV RunU CallV ExtV EqA StableC StableA StableV TCells ReadV

set_option maxRecDepth 100000 in
theorem lifted (os : Os) (started : os.Started) (H : Type) (enc : TypeId × Value → H) :
    ReturnsInHanded {} Try.checked os 4 .any (Rows.diskLastsSpec.pre6 enc Try.prog Try.f4 Rows.diskLastsRow.domain false) (Rows.diskLastsSpec.post enc Try.prog Try.f4 false true false false) := by
  refine returnsInHanded_of_change (C := Try.checked) (by kernel_rfl) started (by kernel_rfl) Try.func4
    (ChangeSpec.witness6 (enc := enc) (C := Try.checked) false ⟨#[], #[.slice none 0 0, .slice none 0 0, .slice none 0 0], []⟩ 8 (by kernel_rfl) (by kernel_rfl) (by kernel_rfl) (by kernel_rfl)) ?_
  intro W base args ds gs before hval hW _ _
  refine law_post (f := 4) (by kernel_rfl) (by kernel_rfl) (by kernel_rfl) Try.underlying4 rfl (fun ds h => by match ds, h with | [_, _, _], _ => rfl) hW ?_
  obtain ⟨p, q, hA, _⟩ := hW
  rw [Try.params4] at hA hval
  obtain ⟨v0, _, _, _, _, _, hargs, rfl, rfl, h0, hA⟩ := trodAll_cons hA
  obtain ⟨v1, _, _, _, _, _, rfl, rfl, rfl, h1, hA⟩ := trodAll_cons hA
  obtain ⟨v2, _, _, _, _, _, rfl, rfl, rfl, h2, hA⟩ := trodAll_cons hA
  obtain ⟨rfl, rfl, rfl⟩ := trodAll_nil hA
  obtain rfl : args = #[v0, v1, v2] := by cases args; simp_all
  obtain ⟨x0, l0, e0, hr0, _⟩ := TP.trod tp_scrk h0
  obtain rfl := arg_slice Try.underlying23 (hval 0 _ v0 rfl rfl) e0
  obtain ⟨x1, l1, e1, hr1, _⟩ := TP.trod tp_scrk h1
  obtain rfl := arg_slice Try.underlying23 (hval 1 _ v1 rfl rfl) e1
  obtain ⟨x2, l2, e2, hr2, hi2⟩ := TP.trod (tp_ints Try.underlying24 Try.underlying3 (by kernel_rfl)) h2
  obtain rfl := arg_slice Try.underlying24 (hval 2 _ v2 rfl rfl) e2
  exact walkDisk.lasts x0 x1 x2 l0 l1 l2 W hr0 hr1 hr2 hi2

theorem proved : Rows.DiskLastsSaid :=
  OpenClaim.holds_of_wide 4 Try.f4 rfl rfl rfl rfl rfl rfl rfl ⟨rfl, rfl, rfl, rfl, rfl⟩ rfl rfl rfl rfl rfl (by kernel_rfl) Try.func4 (by kernel_rfl)
    (of_decide_eq_true (by kernel_rfl)) (by unfold Func.isWrapper; first | (rw [if_pos (by decide +kernel)]; kernel_rfl) | (rw [if_neg (by decide +kernel)]; exact ⟨rfl, rfl⟩))
    (fun os started H enc _ => lifted os started H enc)
end Go.Proofs.Yteliekblhcbmgaa.diskLasts
