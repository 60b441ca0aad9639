/-
  NetWhole: for every input the law returns true and changes nothing, the listed package-level variables lying as the program's text lays them; tied to that text.
-/
import Derived.Test.YtdjgdcafmfheoaaDoorArgN2
set_option linter.unusedVariables false
namespace Go.Proofs.YtdjgdcafmfheoaaDoor.netWhole
open Go.Vc Go.ChangeShapes Go.WideShapes Go.ChangeAt Go.RowKit
attribute [local irreducible] TInt TBool TStr TPtr TSl TAgg TMap TChan T2 T3 T4 BS Req TSome TCell TByte LoadC LoadA StoreC AllocC RunV RunU CallV ExtV EqA StableC StableA StableV TCells ReadV

set_option maxRecDepth 100000 in
theorem lifted (os : Os) (started : os.Started) (H : Type) (enc : TypeId × Value → H) :
    ReturnsInHanded {} Tryd.checked os 9 .any (fun w args => (Rows.netWholeSpec.pre enc Tryd.prog Tryd.f9 [] false w args ∧ laidMetH Tryd.prog laidS w) ∧ sizedMet enc Tryd.prog Tryd.f9 (OpenSpec.ofChange Rows.netWholeSpec) false w args) (Rows.netWholeSpec.post enc Tryd.prog Tryd.f9 false true false false) := by
  refine returnsInHanded_of_change_and (C := Tryd.checked) (X := fun w _ => laidMetH Tryd.prog laidS w) (fun _ _ _ hh h => h.of_heap hh) (by kernel_rfl) started (by kernel_rfl) Tryd.func9
    (ChangeSpec.witness_at (enc := enc) (C := Tryd.checked) (os := os) (X := fun w _ => laidMetH Tryd.prog laidS w) false (laidWorld os) #[.slice none 0 0, .slice none 0 0, .slice none 0 0] 8 rfl (by kernel_rfl) (by kernel_rfl) (by kernel_rfl) (by kernel_rfl) (by kernel_rfl) (laidWorld_met os _)) ?_
  intro W base args ds gs before hval hW _ hZ hL _
  have hG : GlobS (wv W) := glob_of_laid hL
  refine law_post (f := 9) (by kernel_rfl) (by kernel_rfl) (by kernel_rfl) Tryd.underlying4 rfl (fun ds h => by match ds, h with | [_, _, _], _ => rfl) hW ?_
  obtain ⟨p, q, hA, _⟩ := hW
  rw [Tryd.params9] at hA hval
  obtain ⟨v0, _, _, _, _, _, hargs, rfl, rfl, h0, hA⟩ := trodAll_cons hA
  obtain ⟨v1, _, _, _, _, _, rfl, rfl, rfl, h1, hA⟩ := trodAll_cons hA
  obtain ⟨v2, _, _, _, _, _, rfl, rfl, rfl, h2, hA⟩ := trodAll_cons hA
  obtain ⟨rfl, rfl, rfl⟩ := trodAll_nil hA
  obtain rfl : args = #[v0, v1, v2] := by cases args; simp_all
  obtain ⟨x0, l0, e0, hr0, _⟩ := TP.trod tp_msgs h0
  obtain rfl := arg_slice Tryd.underlying56 (hval 0 _ v0 rfl rfl) e0
  obtain ⟨o0, p0, rfl⟩ := hr0.form
  obtain ⟨x1, l1, e1, hr1⟩ := TP.trod (tp_ints Tryd.underlying67 Tryd.underlying3 (by kernel_rfl)) h1
  obtain rfl := arg_slice Tryd.underlying67 (hval 1 _ v1 rfl rfl) e1
  obtain ⟨o1, p1, rfl⟩ := hr1.form
  obtain ⟨x2, l2, e2, hr2⟩ := TP.trod (tp_ints Tryd.underlying67 Tryd.underlying3 (by kernel_rfl)) h2
  obtain rfl := arg_slice Tryd.underlying67 (hval 2 _ v2 rfl rfl) e2
  obtain ⟨o2, p2, rfl⟩ := hr2.form
  exact walkNet.whole l0 l1 l2 o0 o1 o2 p0 p1 p2 W hr0 hr1 hr2 hG

theorem said : Rows.NetWholeSaid :=
  OpenClaim.holds_of_wide 9 Tryd.f9 rfl rfl rfl rfl rfl rfl rfl ⟨rfl, rfl, rfl, rfl, rfl⟩ rfl rfl rfl rfl rfl (by kernel_rfl) Tryd.func9 (by kernel_rfl)
    (of_decide_eq_true (by kernel_rfl)) (by unfold Func.isWrapper; first | (rw [if_pos (by decide +kernel)]; kernel_rfl) | (rw [if_neg (by decide +kernel)]; exact ⟨rfl, rfl⟩))
    (fun os started H enc _ => lifted os started H enc)
theorem proved : Rows.NetWholeCardSaid :=
  Claim7.holds_tied_plain_at .later [] [.data, .data] true Rows.netWholeCard.stood.harness false
    said (fun _ h => by cases h) (by kernel_rfl) (fun _ h => by cases h) netWhole_row_tie rfl ⟨rfl, rfl⟩ (by kernel_rfl) rfl
    (fun f fn hf hfn => by
      obtain rfl : f = 9 := (Option.some.inj ((show Tryd.prog.funcNamed "trireme/triremelaw24.NetWhole" = some 9 by kernel_rfl).symm.trans hf)).symm
      obtain rfl : fn = Tryd.f9 := (Option.some.inj (Tryd.func9.symm.trans hfn)).symm
      exact ⟨by kernel_rfl, no_standins (by rw [Tryd.params9]; kernel_rfl)⟩)
    (by kernel_rfl)
end Go.Proofs.YtdjgdcafmfheoaaDoor.netWhole
